/- Contracts of frame.Right, of puts, of a transaction, of a table's names and keys. No conditions. -/
import Derived.Test.YtelhccfmfnaegaaGreatFlB
import Derived.Test.YtelhccfmfnaegaaGreatRdB
section
/- A transaction of floats: its form; the keys' map. -/
set_option linter.unusedSectionVars false
set_option linter.unusedVariables false
set_option maxRecDepth 10000
namespace Go.Proofs.YtelhccfmfnaegaaGreat
open Go Go.Sh
attribute [local irreducible] pto rob old ownS roS hstar hex hpure hemp opnA blks blk starM

abbrev TXL : List Leaf := [.int .i64, .int .i64, .slice]
def encCh (c : cellsDen CHL) : List Value := cellsVal CHL c
theorem encCh_len (c : cellsDen CHL) : (encCh c).length = 8 := rfl
/-- the table's change -/
def tabC (a : Nat) : cellsDen CHL := (3, fS, nilS, 0, 0, fS, slI a, 1, ())
/-- the changes: the table, and a row for each float; rows by place and bits -/
def chL (a : Nat) (xs : List (Nat × Nat)) : List (cellsDen CHL) := tabC a :: xs.map fun p => putC (slI p.1)
def rowB (p : Nat × Nat) : HProp := cl p.1 27 (fcells p.2)
def FOk (b : Nat) : Prop := b < 18446744073709551616 ∧ canW b = b

theorem ch_na (c : cellsDen CHL) : ∀ v ∈ encCh c, notAgg v = true := by
  obtain ⟨a1, a2, a3, a4, a5, a6, a7, a8, _⟩ := c
  intro v hv
  have hv : v ∈ [Value.int .i64 a1, .string a2, .slice a3.a a3.len a3.cap, .int .i64 a4, .int .i64 a5, .string a6, .slice a7.a a7.len a7.cap, .int .i64 a8] := hv
  simp only [List.mem_cons, List.not_mem_nil, or_false] at hv
  rcases hv with rfl | rfl | rfl | rfl | rfl | rfl | rfl | rfl <;> rfl
theorem chL_len (a : Nat) (xs : List (Nat × Nat)) : (chL a xs).length = xs.length + 1 := by simp [chL]
theorem chL_succ {a : Nat} {xs : List (Nat × Nat)} {i : Nat} (hi : i < xs.length) : (chL a xs)[i + 1]'(by rw [chL_len]; omega) = putC (slI xs[i].1) := by simp [chL]

section
variable {E w : World} {L : List HProp}

set_option maxHeartbeats 1000000 in
theorem right70_spec {a : Nat} {xs : List (Nat × Nat)} {s : Sl} {k : Bool → Pr} (hx : ∀ p ∈ xs, FOk p.2) (hn : xs.length ≤ 20) (h : Holds E w (ownS 65 8 s ((chL a xs).flatMap encCh) :: cl a 60 colC :: starM rowB xs :: L))
    (hk : ∀ w', Holds E w' (ownS 65 8 s ((chL a xs).flatMap encCh) :: cl a 60 colC :: starM rowB xs :: L) → k true w') : CallP Tryz.prog 70 #[ag TXL (1, 1, s, ())] tBool k w := by
  refine rd70 _ _ _ ?_
  unfold sh70
  have hl := h.reads_own.len_eq encCh_len (by omega)
  rw [chL_len] at hl
  refine do_box h fun b1 w h => ?_
  refine get_ld h rfl (by repeat (first | exact .head | apply Pick.tail)) (by kernel_rfl) (x := s) rfl ?_
  refine LoopP.inv (fun t w => ∃ i : Nat, t = i ∧ i ≤ xs.length + 1 ∧ Holds E w (pto b1 (.cells (ag TXL (1, 1, s, ())).cells 68 (0, 0)) :: ownS 65 8 s ((chL a xs).flatMap encCh) :: cl a 60 colC :: starM rowB xs :: L)) (fun t _ => xs.length + 1 - t.toNat) ⟨0, rfl, by omega, h⟩ ?_
  rintro next t w ⟨i, rfl, hi, h⟩ hnext
  refine AnyP.go fun _ => ?_
  have hw : IntKind.i64.wrap ((i : Int) + 1) = ((i + 1 : Nat) : Int) := by rw [IntWalk.i64_in _ (by omega)]; omega
  refine CondP.mk' (fun hc => ?_) (fun hc => ?_)
  · have hc : i < xs.length + 1 := by have := cT hc; omega
    have hic : i < (chL a xs).length := by rw [chL_len]; exact hc
    have hO := (h.pick (.tail .head)).reads_own
    refine val_idx (i := i) hO encCh_len (by omega) hic (T := 66) (Te := 65) (by kernel_rfl) (by kernel_rfl) fun a0 ha0 hs0 => ?_
    refine get_elt (i := i) (chL a xs)[i] hO encCh_len ha0 hic (by kernel_rfl) (by kernel_rfl) rfl ?_
    rw [hw]
    cases i with
    | zero =>
      refine do_alloc (z := .agg #[.int .i64 0, .string ⟨#[]⟩, .slice none 0 0, .int .i64 0, .int .i64 0, .string ⟨#[]⟩, .slice none 0 0, .int .i64 0]) h (by kernel_rfl) fun b4 w h => ?_
      refine do_st_all h rfl (by repeat (first | exact .head | apply Pick.tail)) (by kernel_rfl) (by rfl) (by rfl) (ch_na _) ?_; intro w h
      refine get_ld_agg (ls := CHL) (tabC a) h rfl (by repeat (first | exact .head | apply Pick.tail)) (by kernel_rfl) (by kernel_rfl) ?_
      refine changeT_spec (a := a) (h.pick (by repeat (first | exact .head | apply Pick.tail))) fun w h => ?_
      refine CondP.no rfl ?_
      exact hnext _ _ ⟨1, rfl, by omega, h.sub (by repeat (first | exact Sub.done | refine Sub.take (by repeat (first | exact .head | apply Pick.tail)) ?_ | refine Sub.skip ?_))⟩ (show xs.length + 1 - (1 : Int).toNat < xs.length + 1 - ((0 : Nat) : Int).toNat by simp)
    | succ j =>
      have hj : j < xs.length := by omega
      have hok := hx xs[j] (List.getElem_mem hj)
      rw [chL_succ hj]
      refine do_alloc (z := .agg #[.int .i64 0, .string ⟨#[]⟩, .slice none 0 0, .int .i64 0, .int .i64 0, .string ⟨#[]⟩, .slice none 0 0, .int .i64 0]) h (by kernel_rfl) fun b4 w h => ?_
      refine do_st_all h rfl (by repeat (first | exact .head | apply Pick.tail)) (by kernel_rfl) (by rfl) (by rfl) (ch_na _) ?_; intro w h
      refine get_ld_agg (ls := CHL) (putC (slI xs[j].1)) h rfl (by repeat (first | exact .head | apply Pick.tail)) (by kernel_rfl) (by kernel_rfl) ?_
      have h := (h.pick (by repeat (first | exact .head | apply Pick.tail)) : Holds E w (starM rowB xs :: _)).starM_take hj
      refine changeP_spec (a := xs[j].1) (b := xs[j].2) hok.1 hok.2 h fun w h => ?_
      refine CondP.no rfl ?_
      have h := Holds.starM_put (f := rowB) hj h
      exact hnext _ _ ⟨j + 1 + 1, rfl, by omega, h.sub (by repeat (first | exact Sub.done | refine Sub.take (by repeat (first | exact .head | apply Pick.tail)) ?_ | refine Sub.skip ?_))⟩ (by omega)
  · refine get_ld h rfl (by repeat (first | exact .head | apply Pick.tail)) (by kernel_rfl) rfl ?_
    refine JoinP.go ?_
    refine CondP.yes rfl ?_
    refine get_ld h rfl (by repeat (first | exact .head | apply Pick.tail)) (by kernel_rfl) rfl ?_
    refine AnyP.go fun _ => ?_
    refine JoinP.go ?_
    refine CondP.yes rfl ?_
    refine get_ld h rfl (by repeat (first | exact .head | apply Pick.tail)) (by kernel_rfl) rfl ?_
    refine AnyP.go fun _ => ?_
    refine JoinP.go ?_
    refine CondP.yes rfl ?_
    refine get_ld h rfl (by repeat (first | exact .head | apply Pick.tail)) (by kernel_rfl) rfl ?_
    refine AnyP.go fun _ => ?_
    refine JoinP.go ?_
    refine CondP.yes rfl ?_
    refine get_ld h rfl (by repeat (first | exact .head | apply Pick.tail)) (by kernel_rfl) (x := s) rfl ?_
    refine AnyP.go fun _ => ?_
    rw [show decide ((s.len : Int) ≤ 100) = true from by rw [hl]; simp; omega]
    exact hk _ h.drop

theorem wrong_spec {a b t : Nat} {xs : List (Nat × Nat)} {s : Sl} {k : Int → Pr} (hx : ∀ p ∈ xs, FOk p.2) (hn : xs.length ≤ 20) (h : Holds E w (cl b 101 (baseC 0 (-1) t) :: ownS 65 8 s ((chL a xs).flatMap encCh) :: cl a 60 colC :: starM rowB xs :: L))
    (hk : ∀ w', Holds E w' (cl b 101 (baseC 0 (-1) t) :: ownS 65 8 s ((chL a xs).flatMap encCh) :: cl a 60 colC :: starM rowB xs :: L) → k 0 w') : CallP Tryz.prog 36 #[.pointer (some ⟨b, 0, none⟩), ag TXL (1, 1, s, ())] tInt k w := by
  refine rd36 _ _ _ _ ?_
  unfold sh36
  refine do_box h fun b3 w h => ?_
  refine get_ld_agg (ls := TXL) (1, 1, s, ()) h rfl (by repeat (first | exact .head | apply Pick.tail)) (by kernel_rfl) (by kernel_rfl) ?_
  refine right70_spec (a := a) hx hn (h.pick3 (by repeat (first | exact .head | apply Pick.tail)) (by repeat (first | exact .head | apply Pick.tail)) (by repeat (first | exact .head | apply Pick.tail))) fun w h => ?_
  refine CondP.no rfl ?_
  repeat (first | refine val_nil ?_ | refine get_ld h rfl (by repeat (first | exact .head | apply Pick.tail)) (by kernel_rfl) rfl ?_ | (refine do_st h rfl (by repeat (first | exact .head | apply Pick.tail)) (by kernel_rfl) rfl rfl ?_; intro w h) | (refine DrewP.go h ?_; intro w h) | (refine AnyP.go ?_; intro _) | refine chk_ld h rfl (by repeat (first | exact .head | apply Pick.tail)) (by kernel_rfl) rfl ?_)
  refine CondP.no rfl ?_
  repeat (first | refine val_nil ?_ | refine get_ld h rfl (by repeat (first | exact .head | apply Pick.tail)) (by kernel_rfl) rfl ?_ | (refine do_st h rfl (by repeat (first | exact .head | apply Pick.tail)) (by kernel_rfl) rfl rfl ?_; intro w h) | (refine DrewP.go h ?_; intro w h) | (refine AnyP.go ?_; intro _) | refine chk_ld h rfl (by repeat (first | exact .head | apply Pick.tail)) (by kernel_rfl) rfl ?_)
  refine CondP.no rfl ?_
  repeat (first | refine val_nil ?_ | refine get_ld h rfl (by repeat (first | exact .head | apply Pick.tail)) (by kernel_rfl) rfl ?_ | (refine do_st h rfl (by repeat (first | exact .head | apply Pick.tail)) (by kernel_rfl) rfl rfl ?_; intro w h) | (refine DrewP.go h ?_; intro w h) | (refine AnyP.go ?_; intro _) | refine chk_ld h rfl (by repeat (first | exact .head | apply Pick.tail)) (by kernel_rfl) rfl ?_)
  refine CondP.no rfl ?_
  exact hk _ (h.sub (by repeat (first | exact Sub.done | refine Sub.take (by repeat (first | exact .head | apply Pick.tail)) ?_ | refine Sub.skip ?_)))
end
end Go.Proofs.YtelhccfmfnaegaaGreat
end

section
/- A change that puts a float's row. -/
set_option linter.unusedSectionVars false
set_option linter.unusedVariables false
set_option maxRecDepth 10000
namespace Go.Proofs.YtelhccfmfnaegaaGreat
open Go Go.Sh
attribute [local irreducible] pto rob old ownS roS hstar hex hpure hemp opnA blks blk starM mapC pieceA verA

section
variable {K V : Type} {eqk : K → K → Bool}
theorem mset_some (hiff : ∀ a b, eqk a b = true ↔ a = b) {x : K} {v : V} : ∀ {es : List (MEnt K V)}, mlook eqk x es = some v → ∃ (i : Nat) (hi : i < es.length), es[i].key = x ∧ es[i].val = v ∧ ∀ u ck, mset eqk x u es ck = es.set i ⟨es[i].key, u, es[i].born⟩
  | [], h => by simp [mlook] at h
  | e :: es, h => by
    simp only [mlook] at h
    split at h
    · rename_i hx
      have hx' := (hiff _ _).1 hx
      refine ⟨0, by simp, hx'.symm, Option.some.inj h, fun u ck => ?_⟩
      simp [mset, hx]
    · rename_i hx
      obtain ⟨i, hi, h1, h2, h3⟩ := mset_some hiff h
      refine ⟨i + 1, by simpa using hi, h1, h2, fun u ck => ?_⟩
      simp only [mset]
      rw [if_neg hx, h3]; rfl
theorem mset_none {x : K} {u : V} {ck : Nat} : ∀ {es : List (MEnt K V)}, mlook eqk x es = none → mset eqk x u es ck = es ++ [⟨x, u, ck⟩]
  | [], h => rfl
  | e :: es, h => by
    simp only [mlook] at h
    split at h
    · cases h
    · rename_i hx
      simp only [mset]
      rw [if_neg hx, mset_none h]; rfl
end

abbrev NE := MEnt TWO.den (Comp.leaf .slice).den
def key2 (b : Nat) : TWO.den := (fS, keyW b, ())
theorem key2_inj {a b : Nat} (ha : FOk a) (hb : FOk b) (h : key2 a = key2 b) : a = b := by
  have h2 : keyW a = keyW b := congrArg (fun x => x.2.1) h
  exact keyW_inj ha.1 hb.1 h2
/-- an entry: a float's key, its piece -/
def entA (e : NE) : HProp := hex fun b : Nat => hstar (hpure (e.key = key2 b ∧ FOk b)) (pieceA e.val b)
/-- a transaction that is done, the table laid: what it works on -/
abbrev wkL (wk b t tb d ks nw : Nat) (pc : Pl) : List HProp := [cl wk 106 [.pointer (some ⟨b, 0, none⟩), iv 1, .map (some nw)], cl b 101 (baseC 0 (-1) t), pto ks (.map ⟨[]⟩ 0), pto t (.map ⟨tablesM tb⟩ 1), cl tb 115 [sv (slI d), .map (some ks)], cl d 191 [iv 1, .string fS, sv (slO pc), iv 1], opnA Tryz.prog pc 60 colC]

section
variable {E w : World} {L L' : List HProp}
theorem entA.opened {e : NE} (h : Holds E w (entA e :: L)) : ∃ b, e.key = key2 b ∧ FOk b ∧ Holds E w (pieceA e.val b :: L) := by
  obtain ⟨b, h⟩ := h.ex_out
  obtain ⟨⟨h1, h2⟩, h⟩ := h.star_out.pure_out
  exact ⟨b, h1, h2, h⟩
theorem entA.closed {e : NE} {b : Nat} (h1 : e.key = key2 b) (h2 : FOk b) (h : Holds E w (pieceA e.val b :: L)) : Holds E w (entA e :: L) :=
  Holds.ex_in b (Holds.star_in (Holds.pure_in ⟨h1, h2⟩ h))

attribute [local instance] env0
/-- a lookup in a map that is known whole -/
theorem get_hit {t K e : TypeId} {kd : TypeDesc} {kv x : Value} {b i : Nat} {l : List MapEntry} {clock : Nat} {ty : Ty} {y : ty.den} {k : ty.den → Pr} (hu : Tryz.prog.underlying t = some (.map K e)) (hK : KeyKind Tryz.prog K kd)
    (h : Holds E w L) (p : Pick L (pto b (.map ⟨l⟩ clock)) L') (hchk : ∀ b, pureRun Tryz.prog (Instr.checkKey b 10000 K kv) = some ()) (hr : Instr.findNow kd kv l 0 = some (some (i, x))) (hy : ty.val y = x) (hk : k y w) :
    GetP Tryz.prog (vN (Instr.lookup t (.map (some b)) kv false)) ty k w := by
  subst hy
  exact ⟨y, run_vN (look_hit hu hK (h.pick p).own hchk hr), hk⟩
theorem get_miss {t K e : TypeId} {kd : TypeDesc} {kv z : Value} {b : Nat} {l : List MapEntry} {clock : Nat} {ty : Ty} {y : ty.den} {k : ty.den → Pr} (hu : Tryz.prog.underlying t = some (.map K e)) (hz : cZero Tryz.prog e = some z) (hK : KeyKind Tryz.prog K kd)
    (h : Holds E w L) (p : Pick L (pto b (.map ⟨l⟩ clock)) L') (hchk : ∀ b, pureRun Tryz.prog (Instr.checkKey b 10000 K kv) = some ()) (hr : Instr.findNow kd kv l 0 = some none) (hy : ty.val y = z) (hk : k y w) :
    GetP Tryz.prog (vN (Instr.lookup t (.map (some b)) kv false)) ty k w := by
  subst hy
  exact ⟨y, run_vN (look_miss hu hz hK (h.pick p).own hchk hr), hk⟩
theorem kStr : KeyKind Tryz.prog 9 .string := .str (by kernel_rfl)
theorem chkStr (s : ByteArray) (b : Bool) : pureRun Tryz.prog (Instr.checkKey b 10000 9 (.string s)) = some () := pr_checkKey (k := .g (.string s)) kStr rfl
theorem tables_hit (tb : Nat) : Instr.findNow .string (.string fS) (tablesM tb) 0 = some (some (0, .pointer (some ⟨tb, 0, none⟩))) := by
  simp only [tablesM, Instr.findNow, Instr.sameNow]
  rw [(ba_eq fS fS).2 rfl]

set_option maxHeartbeats 4000000 in
theorem changePut_spec {wk b t tb d ks nw a f ck : Nat} {pc : Pl} {es : List NE} {k : Int → Pr} (hf : FOk f) (hp : 1 ≤ pc.cap)
    (h : Holds E w (mapC TWO (.leaf .slice) nw es ck :: starM entA es :: cl a 27 (fcells f) :: (wkL wk b t tb d ks nw pc ++ L)))
    (hk : ∀ s w', Holds E w' (mapC TWO (.leaf .slice) nw (mset eqTwo (key2 f) s es ck) (mclock eqTwo (key2 f) es ck) :: starM entA (mset eqTwo (key2 f) s es ck) :: cl a 27 (fcells f) :: (wkL wk b t tb d ks nw pc ++ L)) → k 0 w') :
    CallP Tryz.prog 38 #[.pointer (some ⟨wk, 0, none⟩), ag CHL (putC (slI a))] tInt k w := by
  refine rd38 _ _ _ _ ?_
  unfold sh38
  refine do_box h fun b3 w h => ?_
  refine get_ld h rfl (by repeat (first | exact .head | apply Pick.tail)) (by kernel_rfl) rfl ?_
  refine CondP.no rfl ?_
  refine DrewP.go h fun w h => ?_
  refine val_nil ?_
  refine get_ld h rfl (by repeat (first | exact .head | apply Pick.tail)) (by kernel_rfl) (x := some ⟨b, 0, none⟩) rfl ?_
  refine val_nil ?_
  refine get_ld h rfl (by repeat (first | exact .head | apply Pick.tail)) (by kernel_rfl) (x := some t) rfl ?_
  refine get_ld h rfl (by repeat (first | exact .head | apply Pick.tail)) (by kernel_rfl) (x := fS) rfl ?_
  refine get_hit (K := 9) (e := 116) (kd := .string) (y := some ⟨tb, 0, none⟩) (by kernel_rfl) kStr h (by repeat (first | exact .head | apply Pick.tail)) (chkStr _) (tables_hit tb) rfl ?_
  refine get_pure (x := false) (by kernel_rfl) ?_
  refine CondP.no rfl ?_
  refine DrewP.go h fun w h => ?_
  refine get_ld_agg (ls := CHL) (putC (slI a)) h rfl (by repeat (first | exact .head | apply Pick.tail)) (by kernel_rfl) (by kernel_rfl) ?_
  refine last_spec (tb := tb) (d := d) (ks := ks) (pc := pc) (ms := []) (ck := 0) hp (h.pick4 (by repeat (first | exact .head | apply Pick.tail)) (by repeat (first | exact .head | apply Pick.tail)) (by repeat (first | exact .head | apply Pick.tail)) (by repeat (first | exact .head | apply Pick.tail))) fun w h => ?_
  refine chk_ld_agg h rfl (by repeat (first | exact .head | apply Pick.tail)) (by kernel_rfl) (by kernel_rfl) ?_
  refine keyOf_spec hf.1 hf.2 hp (h.pick2 (by repeat (first | exact .head | apply Pick.tail)) (by repeat (first | exact .head | apply Pick.tail))) fun w h => ?_
  refine CondP.no rfl ?_
  refine get_ld h rfl (by repeat (first | exact .head | apply Pick.tail)) (by kernel_rfl) (x := fS) rfl ?_
  refine do_alloc (z := .agg #[.string ⟨#[]⟩, .string ⟨#[]⟩]) h (by kernel_rfl) fun b8 w h => ?_
  refine do_st_all h rfl (by repeat (first | exact .head | apply Pick.tail)) (by kernel_rfl) (by rfl) (by rfl) (by simp [notAgg]) ?_; intro w h
  refine DrewP.go h fun w h => ?_
  refine val_nil ?_
  refine get_ld h rfl (by repeat (first | exact .head | apply Pick.tail)) (by kernel_rfl) (x := some nw) rfl ?_
  refine get_ld_agg (ls := [.str, .str]) (fS, keyW f, ()) h rfl (by repeat (first | exact .head | apply Pick.tail)) (by kernel_rfl) (by kernel_rfl) ?_
  refine get_lookup_okC (K := 108) (V := 45) (x := key2 f) (z := nilS) (by kernel_rfl) keyTwo (by kernel_rfl) h (by repeat (first | exact .head | apply Pick.tail)) ?_
  cases hm : mlook eqTwo (key2 f) es with
  | none =>
    refine JoinP.go ?_
    refine CondP.yes rfl ?_
    refine val_nil ?_
    refine get_ld h rfl (by repeat (first | exact .head | apply Pick.tail)) (by kernel_rfl) (x := some ks) rfl ?_
    refine get_miss (K := 9) (e := 109) (kd := .string) (y := nilS) (by kernel_rfl) (by kernel_rfl) kStr h (by repeat (first | exact .head | apply Pick.tail)) (chkStr _) rfl rfl ?_
    refine atNil_spec h fun w h => ?_
    refine AnyP.go fun _ => ?_
    refine JoinP.go ?_
    refine get_ld h rfl (by repeat (first | exact .head | apply Pick.tail)) (by kernel_rfl) rfl ?_
    refine CondP.yes rfl ?_
    refine DrewP.go h fun w h => ?_
    refine val_nil ?_
    refine get_ld h rfl (by repeat (first | exact .head | apply Pick.tail)) (by kernel_rfl) (x := some nw) rfl ?_
    refine get_ld_agg (ls := [.str, .str]) (fS, keyW f, ()) h rfl (by repeat (first | exact .head | apply Pick.tail)) (by kernel_rfl) (by kernel_rfl) ?_
    refine get_agg (ls := [.int .i64, .int .i64]) (off := 3) (0, 1, ()) (h.pick (A := pto b3 (.cells (ag CHL (putC (slI a))).cells 65 (0, 0))) (by repeat (first | exact .head | apply Pick.tail))).own (by kernel_rfl) (by kernel_rfl) rfl (fun j hj => ?_) ?_
    · have hj : j < 2 := hj
      rcases j with _ | _ | j
      · rfl
      · rfl
      · omega
    refine get_ld h rfl (by repeat (first | exact .head | apply Pick.tail)) (by kernel_rfl) (x := slI a) rfl ?_
    refine put1_spec (b := f) hf.1 hf.2 (h.pick (by repeat (first | exact .head | apply Pick.tail))) fun s w h => ?_
    refine chk_ld h rfl (by repeat (first | exact .head | apply Pick.tail)) (by kernel_rfl) rfl ?_
    refine chk_ld_agg h rfl (by repeat (first | exact .head | apply Pick.tail)) (by kernel_rfl) (by kernel_rfl) ?_
    refine do_mapUpdateC (K := 108) (V := 45) (vl := .leaf .slice) (x := key2 f) (v := s) (by kernel_rfl) keyTwo h (by repeat (first | exact .head | apply Pick.tail)) fun w h => ?_
    refine AnyP.go fun _ => ?_
    refine hk s w ?_
    rw [mset_none hm]
    have h := (h.pick2 (A1 := pieceA s f) (A2 := starM entA es) (by repeat (first | exact .head | apply Pick.tail)) (by repeat (first | exact .head | apply Pick.tail)))
    have h := (entA.closed (e := ⟨key2 f, s, ck⟩) rfl hf h).starM_snoc
    rw [mset_none hm] at h
    exact h.sub (by repeat (first | exact Sub.done | refine Sub.take (by repeat (first | exact .head | apply Pick.tail)) ?_ | refine Sub.skip ?_))
  | some v =>
    obtain ⟨i, hi, hi1, hi2, hset⟩ := mset_some keyTwo.iff hm
    refine JoinP.go ?_
    refine CondP.no rfl ?_
    refine AnyP.go fun _ => ?_
    refine JoinP.go ?_
    refine get_ld h rfl (by repeat (first | exact .head | apply Pick.tail)) (by kernel_rfl) rfl ?_
    refine CondP.yes rfl ?_
    refine DrewP.go h fun w h => ?_
    refine val_nil ?_
    refine get_ld h rfl (by repeat (first | exact .head | apply Pick.tail)) (by kernel_rfl) (x := some nw) rfl ?_
    refine get_ld_agg (ls := [.str, .str]) (fS, keyW f, ()) h rfl (by repeat (first | exact .head | apply Pick.tail)) (by kernel_rfl) (by kernel_rfl) ?_
    refine get_agg (ls := [.int .i64, .int .i64]) (off := 3) (0, 1, ()) (h.pick (A := pto b3 (.cells (ag CHL (putC (slI a))).cells 65 (0, 0))) (by repeat (first | exact .head | apply Pick.tail))).own (by kernel_rfl) (by kernel_rfl) rfl (fun j hj => ?_) ?_
    · have hj : j < 2 := hj
      rcases j with _ | _ | j
      · rfl
      · rfl
      · omega
    refine get_ld h rfl (by repeat (first | exact .head | apply Pick.tail)) (by kernel_rfl) (x := slI a) rfl ?_
    have h := (h.pick (A := starM entA es) (by repeat (first | exact .head | apply Pick.tail))).starM_take hi
    obtain ⟨f', hk1, hf', h⟩ := entA.opened h
    have e : f' = f := key2_inj hf' hf (hk1.symm.trans hi1)
    subst e
    rw [hi2] at h
    refine put2_spec (b := f') hf.1 hf.2 (h.pick2 (A1 := cl a 27 (fcells f')) (A2 := pieceA v f') (by repeat (first | exact .head | apply Pick.tail)) (by repeat (first | exact .head | apply Pick.tail))) fun s w h => ?_
    refine chk_ld h rfl (by repeat (first | exact .head | apply Pick.tail)) (by kernel_rfl) rfl ?_
    refine chk_ld_agg h rfl (by repeat (first | exact .head | apply Pick.tail)) (by kernel_rfl) (by kernel_rfl) ?_
    refine do_mapUpdateC (K := 108) (V := 45) (vl := .leaf .slice) (x := key2 f') (v := s) (by kernel_rfl) keyTwo h (by repeat (first | exact .head | apply Pick.tail)) fun w h => ?_
    refine AnyP.go fun _ => ?_
    refine hk s w ?_
    rw [hset s ck] at h ⊢
    have h := h.pick2 (A1 := pieceA s f') (A2 := starM entA (es.eraseIdx i)) (by repeat (first | exact .head | apply Pick.tail)) (by repeat (first | exact .head | apply Pick.tail))
    have h := (entA.closed (e := ⟨es[i].key, s, es[i].born⟩) hi1 hf h).starM_set hi
    exact h.sub (by repeat (first | exact Sub.done | refine Sub.take (by repeat (first | exact .head | apply Pick.tail)) ?_ | refine Sub.skip ?_))
end
end Go.Proofs.YtelhccfmfnaegaaGreat
end

section
/- Apply, its tail: the changes done one after another; what the keys have now is laid. -/
set_option linter.unusedSectionVars false
set_option linter.unusedVariables false
set_option maxRecDepth 10000
namespace Go.Proofs.YtelhccfmfnaegaaGreat
open Go Go.Sh
/-- what is left to do when all changes are done -/
def apLoop2 (p0 : Option Addr) (t3 t28 : Addr) (k : Int → Pr) : Pr :=
  JoinP (S := Unit) (fun s_2 => AnyP fun _ =>
  DrewP <|
  NA t28 fun t94 =>
  LD 57 (Addr.add t94 0) tPtr fun t96 =>
  NC t96 fun t97 =>
  LD 99 (Addr.add t97 3) tMap fun t99 =>
  LD 3 (Addr.add t3 0) tInt fun t101 =>
  LD 3 (Addr.add t3 1) tInt fun t103 =>
  NC p0 fun t104 =>
  ST 99 (Addr.add t104 3) (.map t99) <|
  LK 3 (Addr.add t3 0) (iv t101) <|
  LK 3 (Addr.add t3 1) (iv t103) <|
  NC p0 fun t106 =>
  ST 3 (Addr.add t106 0) (iv t101) <|
  LK 3 (Addr.add t3 1) (iv t103) <|
  NC p0 fun t108 =>
  ST 3 (Addr.add t108 1) (iv t103) <|
  k 0) fun J =>
  NA t28 fun t44 =>
  LD 104 (Addr.add t44 2) tMap fun t46 =>
  DP (vN (Instr.range 104 (.map t46))) tAddr fun t47 =>
  LoopP (S := Unit) (fun next_2 s_3 => AnyP fun _ =>
  NX (vN (Instr.next (pa t47) false 0)) [.agg [.str, .str], .leaf .slice] (
  CondP false (
  GT (vN (Instr.entry (pa t47))) (.tup [.agg [.str, .str], .leaf .slice]) fun t50 =>
  AL 108 fun t10 =>
  ST 108 t10 (ag [.str, .str] t50.1) <|
  DrewP <|
  NA t28 fun t55 =>
  LD 57 (Addr.add t55 0) tPtr fun t57 =>
  NC t57 fun t58 =>
  LD 99 (Addr.add t58 3) tMap fun t60 =>
  VL (vN (Instr.indexAt 108 (pa t10) (iv 0))) tAddr fun t61 =>
  LD 9 t61 tStr fun t62 =>
  GT (vN (Instr.lookup 99 (.map t60) (.string t62) false)) tPtr fun t63 =>
  NC t63 fun t64 =>
  LD 113 (Addr.add t64 1) tMap fun t66 =>
  VL (vN (Instr.indexAt 108 (pa t10) (iv 1))) tAddr fun t67 =>
  LD 9 t67 tStr fun t68 =>
  GT (vN (Instr.lookup 113 (.map t66) (.string t68) false)) tSl fun t69 =>
  LD 3 (Addr.add t3 1) tInt fun t71 =>
  CL 39 #[sv t69, iv t71, sv t50.2.1] (.tup [.leaf .slice, .leaf (.int .i64)]) fun t73 =>
  LK 57 (Addr.add t55 0) (.pointer t57) <|
  LK 99 (Addr.add t58 3) (.map t60) <|
  LK 9 t61 (.string t62) <|
  CK (vN (Instr.lookup 99 (.map t60) (.string t62) false)) (.pointer t63) <|
  LK 113 (Addr.add t64 1) (.map t66) <|
  LK 9 t67 (.string t68) <|
  DrewP <|
  NA t28 fun t77 =>
  LD 57 (Addr.add t77 0) tPtr fun t79 =>
  NC t79 fun t80 =>
  LD 99 (Addr.add t80 3) tMap fun t82 =>
  VL (vN (Instr.indexAt 108 (pa t10) (iv 0))) tAddr fun t83 =>
  LD 9 t83 tStr fun t84 =>
  GT (vN (Instr.lookup 99 (.map t82) (.string t84) false)) tPtr fun t85 =>
  VL (vN (Instr.indexAt 108 (pa t10) (iv 1))) tAddr fun t86 =>
  LD 9 t86 tStr fun t87 =>
  CL 40 #[.pointer t85, .string t87, sv t73.1] (.tup []) fun t89 =>
  LK 57 (Addr.add t77 0) (.pointer t79) <|
  LK 99 (Addr.add t80 3) (.map t82) <|
  LK 9 t83 (.string t84) <|
  next_2 ()) (
  J ())) fun t48 =>
  CondP true (
  GT (vN (Instr.entry (pa t47))) (.tup [.agg [.str, .str], .leaf .slice]) fun t50_2 =>
  AL 108 fun t10_2 =>
  ST 108 t10_2 (ag [.str, .str] t50_2.1) <|
  DrewP <|
  NA t28 fun t55_2 =>
  LD 57 (Addr.add t55_2 0) tPtr fun t57_2 =>
  NC t57_2 fun t58_2 =>
  LD 99 (Addr.add t58_2 3) tMap fun t60_2 =>
  VL (vN (Instr.indexAt 108 (pa t10_2) (iv 0))) tAddr fun t61_2 =>
  LD 9 t61_2 tStr fun t62_2 =>
  GT (vN (Instr.lookup 99 (.map t60_2) (.string t62_2) false)) tPtr fun t63_2 =>
  NC t63_2 fun t64_2 =>
  LD 113 (Addr.add t64_2 1) tMap fun t66_2 =>
  VL (vN (Instr.indexAt 108 (pa t10_2) (iv 1))) tAddr fun t67_2 =>
  LD 9 t67_2 tStr fun t68_2 =>
  GT (vN (Instr.lookup 113 (.map t66_2) (.string t68_2) false)) tSl fun t69_2 =>
  LD 3 (Addr.add t3 1) tInt fun t71_2 =>
  CL 39 #[sv t69_2, iv t71_2, sv t50_2.2.1] (.tup [.leaf .slice, .leaf (.int .i64)]) fun t73_2 =>
  LK 57 (Addr.add t55_2 0) (.pointer t57_2) <|
  LK 99 (Addr.add t58_2 3) (.map t60_2) <|
  LK 9 t61_2 (.string t62_2) <|
  CK (vN (Instr.lookup 99 (.map t60_2) (.string t62_2) false)) (.pointer t63_2) <|
  LK 113 (Addr.add t64_2 1) (.map t66_2) <|
  LK 9 t67_2 (.string t68_2) <|
  DrewP <|
  NA t28 fun t77_2 =>
  LD 57 (Addr.add t77_2 0) tPtr fun t79_2 =>
  NC t79_2 fun t80_2 =>
  LD 99 (Addr.add t80_2 3) tMap fun t82_2 =>
  VL (vN (Instr.indexAt 108 (pa t10_2) (iv 0))) tAddr fun t83_2 =>
  LD 9 t83_2 tStr fun t84_2 =>
  GT (vN (Instr.lookup 99 (.map t82_2) (.string t84_2) false)) tPtr fun t85_2 =>
  VL (vN (Instr.indexAt 108 (pa t10_2) (iv 1))) tAddr fun t86_2 =>
  LD 9 t86_2 tStr fun t87_2 =>
  CL 40 #[.pointer t85_2, .string t87_2, sv t73_2.1] (.tup []) fun t89_2 =>
  LK 57 (Addr.add t77_2 0) (.pointer t79_2) <|
  LK 99 (Addr.add t80_2 3) (.map t82_2) <|
  LK 9 t83_2 (.string t84_2) <|
  next_2 ()) (
  J ())) ()
/-- what is left to do when the base is copied -/
def apTail (p0 : Option Addr) (t3 : Addr) (t25 : Int) (t23 : Option Addr) (t26 : Option Nat) (k : Int → Pr) : Pr :=
  BX 106 (.agg #[.pointer t23, iv t25, .map t26]) fun t28 =>
  LK 3 (Addr.add t3 1) (iv t25) <|
  LD 66 (Addr.add t3 2) tSl fun t30 =>
  LoopP (S := Int) (fun next s => AnyP fun _ =>
  CondP (decide ((s : Int) < t30.len)) (
  IX 66 t30 s fun t34 =>
  LD 65 t34 (.one (.agg [.int .i64, .str, .slice, .int .i64, .int .i64, .str, .slice, .int .i64])) fun t35 =>
  AL 65 fun t8 =>
  ST 65 t8 (ag [.int .i64, .str, .slice, .int .i64, .int .i64, .str, .slice, .int .i64] t35) <|
  LD 65 t8 (.one (.agg [.int .i64, .str, .slice, .int .i64, .int .i64, .str, .slice, .int .i64])) fun t37 =>
  CL 38 #[pa t28, ag [.int .i64, .str, .slice, .int .i64, .int .i64, .str, .slice, .int .i64] t37] tInt fun t38 =>
  CondP ((t38 : Int) != 0) (
  k t38) (
  next (IntKind.i64.wrap (s + 1)))) (
  apLoop2 p0 t3 t28 k)) 0
end Go.Proofs.YtelhccfmfnaegaaGreat
end

section
/- Apply, its second loop: what each key has now is laid as versions. -/
set_option linter.unusedSectionVars false
set_option linter.unusedVariables false
set_option maxRecDepth 10000
namespace Go.Proofs.YtelhccfmfnaegaaGreat
open Go Go.Sh
attribute [local irreducible] pto rob old ownS roS hstar hex hpure hemp opnA blks blk starM mapC pieceA verA
attribute [local instance] env0

def eqS : ByteArray → ByteArray → Bool := fun a b => a == b
theorem keyStr : KeyOK Tryz.prog 9 .str eqS where
  iff := fun x y => ba_eq x y
  find := fun x => ⟨.string, (by kernel_rfl), fun y => rfl⟩
  chk := fun x e => chkStr x e
  bits := fun x => by
    show (x == x) = true
    exact (ba_eq x x).2 rfl
abbrev KE := MEnt ByteArray Sl
abbrev SLV : Comp := .leaf .slice
/-- an entry of the keys' map: a float's key, its version -/
def verE (q : KE) : HProp := hex fun b : Nat => hstar (hpure (q.key = keyW b ∧ FOk b)) (verA q.val b)
/-- the entries of the keys' map, as they lie -/
def keysM (kes : List KE) : List MapEntry := kes.map (toEnt .str SLV)

section
variable {E w : World} {L L' : List HProp}
theorem verE.opened {q : KE} (h : Holds E w (verE q :: L)) : ∃ b, q.key = keyW b ∧ FOk b ∧ Holds E w (verA q.val b :: L) := by
  obtain ⟨b, h⟩ := h.ex_out
  obtain ⟨⟨h1, h2⟩, h⟩ := h.star_out.pure_out
  exact ⟨b, h1, h2, h⟩
theorem verE.closed {q : KE} {b : Nat} (h1 : q.key = keyW b) (h2 : FOk b) (h : Holds E w (verA q.val b :: L)) : Holds E w (verE q :: L) :=
  Holds.ex_in b (Holds.star_in (Holds.pure_in ⟨h1, h2⟩ h))

theorem verA.len {s : Sl} {b : Nat} (h : Holds E w (verA s b :: L)) : s.len = 1 := by
  obtain ⟨p, q, rfl, _⟩ := verA.opened h
  rfl
theorem keys_find (x : ByteArray) (kes : List KE) : Instr.findNow .string (.string x) (keysM kes) 0 = some ((mfindAt eqS x kes 0).map fun p => (p.1, .slice p.2.a p.2.len p.2.cap)) :=
  findNow_eq (kl := .str) (vl := SLV) (d := .string) (x := x) (eqk := eqS) (fun y => rfl) kes 0
theorem keys_none {x : ByteArray} {kes : List KE} (h : ∀ q ∈ kes, q.key ≠ x) : Instr.findNow .string (.string x) (keysM kes) 0 = some none := by
  rw [keys_find]
  have h1 := mfindAt_look eqS x kes 0
  have h2 : mlook eqS x kes = none := mlook_none (eqk := eqS) (fun a b => ba_eq a b) x kes (fun hc => by
    obtain ⟨q, hq, he⟩ := List.mem_map.1 hc
    exact h q hq he)
  rw [h2] at h1
  cases hm : mfindAt eqS x kes 0 with
  | none => rfl
  | some p => rw [hm] at h1; cases h1

theorem put_spec {tb d ks kck : Nat} {kes : List KE} {x : ByteArray} {s : Sl} {k : Unit → Pr} (hl : s.len = 1) (hx : ∀ q ∈ kes, q.key ≠ x) (h : Holds E w (pto ks (.map ⟨keysM kes⟩ kck) :: cl tb 115 [sv (slI d), .map (some ks)] :: L))
    (hk : ∀ w', Holds E w' (pto ks (.map ⟨keysM (kes ++ [⟨x, s, kck⟩])⟩ (kck + 1)) :: cl tb 115 [sv (slI d), .map (some ks)] :: L) → k () w') : CallP Tryz.prog 40 #[.pointer (some ⟨tb, 0, none⟩), .string x, sv s] (.tup []) k w := by
  refine rd40 _ _ _ _ _ ?_
  unfold sh40
  refine CondP.no (by rw [hl]; rfl) ?_
  refine val_nil ?_
  refine get_ld h rfl (by repeat (first | exact .head | apply Pick.tail)) (by kernel_rfl) (x := some ks) rfl ?_
  have hm : mlook eqS x kes = none := mlook_none (eqk := eqS) (fun a b => ba_eq a b) x kes (fun hc => by
    obtain ⟨q, hq, he⟩ := List.mem_map.1 hc
    exact hx q hq he)
  have h' : Holds E w (mapB .str SLV ks kes kck :: cl tb 115 [sv (slI d), .map (some ks)] :: L) := h
  refine do_mapUpdate (K := 9) (V := 109) (kl := .str) (vl := SLV) (x := x) (v := s) (by kernel_rfl) keyStr h' .head fun w h => ?_
  rw [mset_none hm, mclock, hm] at h
  exact hk w h
theorem chk_hit {t K e : TypeId} {kd : TypeDesc} {kv x : Value} {b i : Nat} {l : List MapEntry} {clock : Nat} {k : Pr} (hu : Tryz.prog.underlying t = some (.map K e)) (hK : KeyKind Tryz.prog K kd)
    (h : Holds E w L) (p : Pick L (pto b (.map ⟨l⟩ clock)) L') (hchk : ∀ b, pureRun Tryz.prog (Instr.checkKey b 10000 K kv) = some ()) (hr : Instr.findNow kd kv l 0 = some (some (i, x))) (hk : k w) :
    ChkP Tryz.prog (vN (Instr.lookup t (.map (some b)) kv false)) x k w :=
  ⟨run_vN (look_hit hu hK (h.pick p).own hchk hr), hk⟩
end

/-- what the transaction's keys are: those of the floats -/
structure NowOk (es : List NE) (bs : List Nat) : Prop where
  of : ∀ e ∈ es, ∃ b ∈ bs, FOk b ∧ e.key = key2 b
  all : ∀ b ∈ bs, ∃ e ∈ es, e.key = key2 b
  nodup : (es.map (·.key)).Nodup
/-- what the table's keys are: those of the floats -/
structure KeysOk (kes : List KE) (bs : List Nat) : Prop where
  of : ∀ q ∈ kes, ∃ b ∈ bs, FOk b ∧ q.key = keyW b
  all : ∀ b ∈ bs, ∃ q ∈ kes, q.key = keyW b
  nodup : (kes.map (·.key)).Nodup

theorem stamped_snoc {K V : Type} {es : List (MEnt K V)} {ck : Nat} (h : Stamped es ck) (x : K) (v : V) : Stamped (es ++ [⟨x, v, ck⟩]) (ck + 1) := by
  refine ⟨fun e he => ?_, ?_⟩
  · rcases List.mem_append.1 he with he | he
    · have := h.lt e he; omega
    · simp only [List.mem_singleton] at he
      subst he
      exact Nat.lt_succ_self _
  · rw [List.map_append, List.nodup_append]
    refine ⟨h.nodup, by simp, fun a ha b hb => ?_⟩
    obtain ⟨e, he, rfl⟩ := List.mem_map.1 ha
    simp only [List.map_cons, List.map_nil, List.mem_singleton] at hb
    have := h.lt e he
    omega
/-- how far the second loop is -/
structure Upto (es : List NE) (seen : Array Nat) (rest : List NE) (kes : List KE) : Prop where
  nd : rest.Nodup
  rest : ∀ e, e ∈ rest ↔ (e ∈ es ∧ e.born ∉ seen)
  of : ∀ q ∈ kes, ∃ e ∈ es, e.born ∈ seen ∧ e.key.2.1 = q.key
  all : ∀ e ∈ es, e.born ∈ seen → ∃ q ∈ kes, q.key = e.key.2.1
  nodup : (kes.map (·.key)).Nodup

theorem born_inj {es : List NE} {ck : Nat} (hS : Stamped es ck) {e e' : NE} (he : e ∈ es) (he' : e' ∈ es) (h : e.born = e'.born) : e = e' := nodup_map_inj hS.nodup he he' h
theorem Upto.start {es : List NE} {ck : Nat} (hS : Stamped es ck) : Upto es #[] es [] where
  nd := by
    have := hS.nodup
    unfold List.Nodup at this ⊢
    rw [List.pairwise_map] at this
    exact this.imp fun h hc => h (by rw [hc])
  rest := fun e => by simp
  of := fun q hq => by cases hq
  all := fun e _ h => by simp at h
  nodup := List.nodup_nil
theorem Upto.fresh {es : List NE} {bs : List Nat} {seen : Array Nat} {rest : List NE} {kes : List KE} (hN : NowOk es bs) (h : Upto es seen rest kes) {e : NE} (he : e ∈ es) (hs : e.born ∉ seen) : ∀ q ∈ kes, q.key ≠ e.key.2.1 := by
  intro q hq hc
  obtain ⟨e', he', hs', hk⟩ := h.of q hq
  obtain ⟨b, _, _, hb⟩ := hN.of e he
  obtain ⟨b', _, _, hb'⟩ := hN.of e' he'
  have e1 : e'.key = e.key := by
    rw [hb, hb']
    have : keyW b' = keyW b := by
      have h1 : e'.key.2.1 = e.key.2.1 := hk.trans hc
      rw [hb, hb'] at h1; exact h1
    unfold key2; rw [this]
  have := nodup_map_inj hN.nodup he' he e1
  subst this
  exact hs hs'
theorem Upto.step {es : List NE} {ck kck : Nat} {bs : List Nat} {seen : Array Nat} {rest : List NE} {kes : List KE} {s : Sl} (hS : Stamped es ck) (hN : NowOk es bs) (h : Upto es seen rest kes) {i : Nat} (hi : i < rest.length) :
    Upto es (seen.push rest[i].born) (rest.eraseIdx i) (kes ++ [⟨rest[i].key.2.1, s, kck⟩]) := by
  have hm := (h.rest rest[i]).1 (List.getElem_mem hi)
  have fr := h.fresh hN hm.1 hm.2
  refine ⟨h.nd.sublist (List.eraseIdx_sublist ..), fun e => ?_, fun q hq => ?_, fun e he hs => ?_, ?_⟩
  · have : e ∈ rest.eraseIdx i ↔ e ∈ rest ∧ e ≠ rest[i] := by
      rw [List.mem_eraseIdx_iff_getElem]
      constructor
      · rintro ⟨j, hj, hne, rfl⟩
        exact ⟨List.getElem_mem hj, fun hc => hne ((List.getElem_inj h.nd).1 hc)⟩
      · rintro ⟨h1, h2⟩
        obtain ⟨j, hj, rfl⟩ := List.mem_iff_getElem.1 h1
        exact ⟨j, hj, fun hc => h2 (by subst hc; rfl), rfl⟩
    rw [this, h.rest]
    simp only [Array.mem_push, not_or]
    constructor
    · rintro ⟨⟨h1, h2⟩, h3⟩
      exact ⟨h1, h2, fun hc => h3 (born_inj hS h1 hm.1 hc)⟩
    · rintro ⟨h1, h2, h3⟩
      exact ⟨⟨h1, h2⟩, fun hc => h3 (by rw [hc])⟩
  · rcases List.mem_append.1 hq with hq | hq
    · obtain ⟨e, h1, h2, h3⟩ := h.of q hq
      exact ⟨e, h1, by simp [h2], h3⟩
    · simp only [List.mem_singleton] at hq
      subst hq
      exact ⟨rest[i], hm.1, by simp, rfl⟩
  · simp only [Array.mem_push] at hs
    rcases hs with hs | hs
    · obtain ⟨q, hq, h1⟩ := h.all e he hs
      exact ⟨q, List.mem_append_left _ hq, h1⟩
    · have := born_inj hS he hm.1 hs
      subst this
      exact ⟨_, List.mem_append_right _ (List.mem_singleton_self _), rfl⟩
  · rw [List.map_append, List.nodup_append]
    refine ⟨h.nodup, by simp, fun a ha b hb => ?_⟩
    obtain ⟨q, hq, rfl⟩ := List.mem_map.1 ha
    simp only [List.map_cons, List.map_nil, List.mem_singleton] at hb
    subst hb
    exact fr q hq
theorem Upto.done {es : List NE} {bs : List Nat} {seen : Array Nat} {rest : List NE} {kes : List KE} (hN : NowOk es bs) (h : Upto es seen rest kes) (hd : ∀ e ∈ es, e.born ∈ seen) : KeysOk kes bs where
  of := fun q hq => by
    obtain ⟨e, he, _, hk⟩ := h.of q hq
    obtain ⟨b, hb, hf, hkey⟩ := hN.of e he
    exact ⟨b, hb, hf, by rw [← hk, hkey]; rfl⟩
  all := fun b hb => by
    obtain ⟨e, he, hk⟩ := hN.all b hb
    obtain ⟨q, hq, h1⟩ := h.all e he (hd e he)
    exact ⟨q, hq, by rw [h1, hk]; rfl⟩
  nodup := h.nodup

section
variable {E w : World} {L L' : List HProp}
set_option maxHeartbeats 4000000 in
theorem apLoop2_spec {b3 wk b0 b t0 t tb d ks nw ck : Nat} {s : Sl} {pc : Pl} {es : List NE} {bs : List Nat} {k : Int → Pr} (hS : Stamped es ck) (hN : NowOk es bs) (hp : 1 ≤ pc.cap)
    (h : Holds E w (mapC TWO SLV nw es ck :: starM entA es :: pto b3 (.cells (ag TXL (1, 1, s, ())).cells 68 (0, 0)) :: cl b0 101 (baseC 0 (-1) t0) :: (wkL wk b t tb d ks nw pc ++ L)))
    (hk : ∀ kes kck w', KeysOk kes bs → Stamped kes kck → Holds E w' (starM verE kes :: (stL b0 t tb d ks pc (keysM kes) kck ++ L)) → k 0 w') :
    apLoop2 (some ⟨b0, 0, none⟩) ⟨b3, 0, none⟩ ⟨wk, 0, none⟩ k w := by
  unfold apLoop2
  refine JoinP.go ?_
  refine val_nil ?_
  refine get_ld h rfl (by repeat (first | exact .head | apply Pick.tail)) (by kernel_rfl) (x := some nw) rfl ?_
  refine do_rangeC (K := 108) (V := 45) h (.head) (by kernel_rfl) fun r w h => ?_
  refine LoopP.num (fun n _ w => ∃ (seen : Array Nat) (rest : List NE) (kes : List KE) (kck : Nat), Upto es seen rest kes ∧ Stamped kes kck ∧ n = rest.length ∧
    Holds E w (pto r (.mapIter (some nw) ck seen ck) :: mapC TWO SLV nw es ck :: starM entA rest :: starM verE kes :: pto ks (.map ⟨keysM kes⟩ kck) :: cl tb 115 [sv (slI d), .map (some ks)] :: pto b3 (.cells (ag TXL (1, 1, s, ())).cells 68 (0, 0)) :: cl b0 101 (baseC 0 (-1) t0) ::
      cl wk 106 [.pointer (some ⟨b, 0, none⟩), iv 1, .map (some nw)] :: cl b 101 (baseC 0 (-1) t) :: pto t (.map ⟨tablesM tb⟩ 1) :: cl d 191 [iv 1, .string fS, sv (slO pc), iv 1] :: opnA Tryz.prog pc 60 colC :: L)) es.length
    ⟨#[], es, [], 0, Upto.start hS, .nil, rfl, ?_⟩ ?_
  · have h := Holds.starM_nil (f := verE) h
    exact h.sub (by repeat (first | exact Sub.done | refine Sub.take (by repeat (first | exact .head | apply Pick.tail)) ?_ | refine Sub.skip ?_))
  rintro n next _ w ⟨seen, rest, kes, kck, hU, hKS, rfl, h⟩ hnext
  refine AnyP.go fun _ => ?_
  refine next_mapC h hS (fun hd => ?_) (fun e he hs w h => ?_)
  · refine CondP.no rfl ?_
    refine AnyP.go fun _ => ?_
    refine DrewP.go h fun w h => ?_
    refine val_nil ?_
    refine get_ld h rfl (by repeat (first | exact .head | apply Pick.tail)) (by kernel_rfl) (x := some ⟨b, 0, none⟩) rfl ?_
    refine val_nil ?_
    refine get_ld h rfl (by repeat (first | exact .head | apply Pick.tail)) (by kernel_rfl) (x := some t) rfl ?_
    refine get_ld h rfl (by repeat (first | exact .head | apply Pick.tail)) (by kernel_rfl) rfl ?_
    refine get_ld h rfl (by repeat (first | exact .head | apply Pick.tail)) (by kernel_rfl) rfl ?_
    refine val_nil ?_
    refine do_st h rfl (by repeat (first | exact .head | apply Pick.tail)) (by kernel_rfl) rfl rfl ?_; intro w h
    refine chk_ld h rfl (by repeat (first | exact .head | apply Pick.tail)) (by kernel_rfl) rfl ?_
    refine chk_ld h rfl (by repeat (first | exact .head | apply Pick.tail)) (by kernel_rfl) rfl ?_
    refine val_nil ?_
    refine do_st h rfl .head (by kernel_rfl) rfl rfl ?_; intro w h
    refine chk_ld h rfl (by repeat (first | exact .head | apply Pick.tail)) (by kernel_rfl) rfl ?_
    refine val_nil ?_
    refine do_st h rfl .head (by kernel_rfl) rfl rfl ?_; intro w h
    have h : Holds E w (cl b0 101 (baseC 1 1 t) :: _) := h
    exact hk kes kck w (hU.done hN hd) hKS (h.sub (by repeat (first | exact Sub.done | refine Sub.take (by repeat (first | exact .head | apply Pick.tail)) ?_ | refine Sub.skip ?_)))
  · refine CondP.yes rfl ?_
    refine get_entryC h hS he ?_
    obtain ⟨i, hi, heq⟩ := List.mem_iff_getElem.1 ((hU.rest e).2 ⟨he, hs⟩)
    obtain ⟨f, hfb, hf, hkey⟩ := hN.of e he
    have hstep := fun s : Sl => hU.step (kck := kck) (s := s) hS hN hi
    have hfresh := hU.fresh hN he hs
    rw [heq] at hstep
    obtain ⟨key, val, born⟩ := e
    simp only at hkey
    subst hkey
    refine do_alloc (z := .agg #[.string ⟨#[]⟩, .string ⟨#[]⟩]) h (by kernel_rfl) fun b10 w h => ?_
    refine do_st_all h rfl .head (by kernel_rfl) (by rfl) (by rfl) (by simp [key2, cellsVal, Leaf.val, notAgg]) ?_; intro w h
    replace h : Holds E w (pto b10 (.cells #[.string fS, .string (keyW f)] 108 (0, 0)) :: _) := h
    refine DrewP.go h fun w h => ?_
    refine val_nil ?_
    refine get_ld h rfl (by repeat (first | exact .head | apply Pick.tail)) (by kernel_rfl) (x := some ⟨b, 0, none⟩) rfl ?_
    refine val_nil ?_
    refine get_ld h rfl (by repeat (first | exact .head | apply Pick.tail)) (by kernel_rfl) (x := some t) rfl ?_
    refine val_pure (x := ⟨b10, 0, none⟩) (by kernel_rfl) ?_
    refine get_ld h rfl (by repeat (first | exact .head | apply Pick.tail)) (by kernel_rfl) (x := fS) rfl ?_
    refine get_hit (K := 9) (e := 116) (kd := .string) (y := some ⟨tb, 0, none⟩) (by kernel_rfl) kStr h (by repeat (first | exact .head | apply Pick.tail)) (chkStr _) (tables_hit tb) rfl ?_
    refine val_nil ?_
    refine get_ld h rfl (by repeat (first | exact .head | apply Pick.tail)) (by kernel_rfl) (x := some ks) rfl ?_
    refine val_pure (x := ⟨b10, 1, none⟩) (by kernel_rfl) ?_
    refine get_ld h rfl (by repeat (first | exact .head | apply Pick.tail)) (by kernel_rfl) (x := keyW f) rfl ?_
    refine get_miss (K := 9) (e := 109) (kd := .string) (y := nilS) (by kernel_rfl) (by kernel_rfl) kStr h (by repeat (first | exact .head | apply Pick.tail)) (chkStr _) (keys_none hfresh) rfl ?_
    refine get_ld h rfl (by repeat (first | exact .head | apply Pick.tail)) (by kernel_rfl) rfl ?_
    have h := (h.pick (A := starM entA rest) (by repeat (first | exact .head | apply Pick.tail))).starM_take hi
    rw [heq] at h
    obtain ⟨f', hk1, hf', h⟩ := entA.opened h
    have e := key2_inj hf' hf hk1.symm
    subst e
    refine set1_spec hf.1 hf.2 h fun s1 w h => ?_
    have hl1 := verA.len h
    refine chk_ld h rfl (by repeat (first | exact .head | apply Pick.tail)) (by kernel_rfl) rfl ?_
    refine chk_ld h rfl (by repeat (first | exact .head | apply Pick.tail)) (by kernel_rfl) rfl ?_
    refine chk_ld h rfl (by repeat (first | exact .head | apply Pick.tail)) (by kernel_rfl) rfl ?_
    refine chk_hit (K := 9) (e := 116) (kd := .string) (by kernel_rfl) kStr h (by repeat (first | exact .head | apply Pick.tail)) (chkStr _) (tables_hit tb) ?_
    refine chk_ld h rfl (by repeat (first | exact .head | apply Pick.tail)) (by kernel_rfl) rfl ?_
    refine chk_ld h rfl (by repeat (first | exact .head | apply Pick.tail)) (by kernel_rfl) rfl ?_
    refine DrewP.go h fun w h => ?_
    refine val_nil ?_
    refine get_ld h rfl (by repeat (first | exact .head | apply Pick.tail)) (by kernel_rfl) (x := some ⟨b, 0, none⟩) rfl ?_
    refine val_nil ?_
    refine get_ld h rfl (by repeat (first | exact .head | apply Pick.tail)) (by kernel_rfl) (x := some t) rfl ?_
    refine val_pure (x := ⟨b10, 0, none⟩) (by kernel_rfl) ?_
    refine get_ld h rfl (by repeat (first | exact .head | apply Pick.tail)) (by kernel_rfl) (x := fS) rfl ?_
    refine get_hit (K := 9) (e := 116) (kd := .string) (y := some ⟨tb, 0, none⟩) (by kernel_rfl) kStr h (by repeat (first | exact .head | apply Pick.tail)) (chkStr _) (tables_hit tb) rfl ?_
    refine val_pure (x := ⟨b10, 1, none⟩) (by kernel_rfl) ?_
    refine get_ld h rfl (by repeat (first | exact .head | apply Pick.tail)) (by kernel_rfl) (x := keyW f') rfl ?_
    refine put_spec (kes := kes) (kck := kck) hl1 hfresh (h.pick2 (by repeat (first | exact .head | apply Pick.tail)) (by repeat (first | exact .head | apply Pick.tail))) fun w h => ?_
    refine chk_ld h rfl (by repeat (first | exact .head | apply Pick.tail)) (by kernel_rfl) rfl ?_
    refine chk_ld h rfl (by repeat (first | exact .head | apply Pick.tail)) (by kernel_rfl) rfl ?_
    refine chk_ld h rfl (by repeat (first | exact .head | apply Pick.tail)) (by kernel_rfl) rfl ?_
    have h := h.pick2 (A1 := verA s1 f') (A2 := starM verE kes) (by repeat (first | exact .head | apply Pick.tail)) (by repeat (first | exact .head | apply Pick.tail))
    have h := (verE.closed (q := ⟨keyW f', s1, kck⟩) rfl hf h).starM_snoc
    refine hnext (rest.eraseIdx i).length () w ?_ ⟨seen.push born, rest.eraseIdx i, kes ++ [⟨keyW f', s1, kck⟩], kck + 1, hstep s1, stamped_snoc hKS _ _, rfl, h.sub (by repeat (first | exact Sub.done | refine Sub.take (by repeat (first | exact .head | apply Pick.tail)) ?_ | refine Sub.skip ?_))⟩
    rw [List.length_eraseIdx, if_pos hi]; omega
end
end Go.Proofs.YtelhccfmfnaegaaGreat
end
