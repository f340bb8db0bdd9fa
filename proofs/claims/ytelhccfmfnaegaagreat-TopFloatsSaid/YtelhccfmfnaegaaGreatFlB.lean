/- Contracts of the functions of tables and rows, from the calls that were run. No conditions. -/
import Derived.Test.YtelhccfmfnaegaaGreatFlA
import Derived.Test.YtelhccfmfnaegaaGreatIntB
import Derived.Test.YtelhccfmfnaegaaGreatLibA
section
/- Calls where a float is not known, as contracts. -/
set_option linter.unusedSectionVars false
set_option linter.unusedVariables false
set_option maxRecDepth 10000
namespace Go.Proofs.YtelhccfmfnaegaaGreat
open Go Go.Sh
attribute [local irreducible] pto rob old ownS roS hstar hex hpure hemp opnA blks blk

/-- what is not known where the float is b; a map that is not known -/
@[reducible] def fenv (b : Nat) (ms : List MapEntry) (ck : Nat) : Env where
  ρ := fun i => match i with | 0 => .int .u64 (b : Int) | _ => .string (keyW b)
  na := fun i => by cases i <;> rfl
  nb := fun i v h => by cases i <;> cases h
  mp := fun _ => ms
  ck := fun _ => ck
theorem fenv_ok {b : Nat} (hb : b < 18446744073709551616) (hc : canW b = b) (ms : List MapEntry) (ck : Nat) : @FEnv (fenv b ms ck) b :=
  @FEnv.mk (fenv b ms ck) b hb hc rfl rfl
theorem zero_ok (ms : List MapEntry) (ck : Nat) : @FEnv (fenv 0 ms ck) 0 := fenv_ok (by omega) (by decide) ms ck

abbrev CHL : List Leaf := [.int .i64, .str, .slice, .int .i64, .int .i64, .str, .slice, .int .i64]
abbrev SCL : List Leaf := [.str, .slice, .int .i64]
abbrev QUL : List Leaf := [.int .i64, .str, .slice, .int .i64, .int .i64, .int .i64, .int .i64, .slice, .slice, .int .i64, .bool]
abbrev fS : ByteArray := ⟨#[102]⟩
abbrev eS : ByteArray := ⟨#[]⟩
abbrev nilS : Sl := ⟨none, 0, 0⟩
def baseC (sq tm : Int) (t : Nat) : List Value := [.int .i64 sq, .int .i64 tm, .int .i64 0, .map (some t)]
def colC : List Value := [.string ⟨#[120]⟩, .int .i64 3, .bool true]
abbrev cl (a : Nat) (T : TypeId) (cs : List Value) : HProp := pto a (.cells ⟨cs⟩ T (0, 0))
/-- a slice of one element that an append made -/
abbrev slO (p : Pl) : Sl := ⟨some ⟨p.a, 0, none⟩, 1, p.cap⟩
/-- a slice of one element that was laid whole -/
abbrev slI (a : Nat) : Sl := ⟨some ⟨a, 0, none⟩, 1, 1⟩

section
variable {E w : World} {L : List HProp}

theorem new_spec {k : Option Addr → Pr} (h : Holds E w L) (hk : ∀ b t w', Holds E w' (cl b 101 (baseC 0 (-1) t) :: pto t (.map ⟨[]⟩ 0) :: L) → k (some ⟨b, 0, none⟩) w') : CallP Tryz.prog 13 #[] tPtr k w := by
  letI := fenv 0 [] 0
  refine CallP.of_cut (t := tPtr) (ad := []) (xs := []) (callF_ok (zero_ok [] 0)) rcNew rfl rfl rfl (h.into .nil) fun w' m y hy h => ?_
  obtain ⟨p0, ms, hp0, hm0, h⟩ := h.map_out
  obtain ⟨p1, vs, hp1, hv1, h⟩ := h.swap.out_cells
  have h := h.swap.drop
  simp only [Pl.ents, Option.some.injEq] at hm0; subst hm0
  simp only [rabsL, rabs, gi, hp0, Option.some.injEq] at hv1; subst hv1
  simp only [rabs, cNew, hp1, Option.some.injEq] at hy; subst hy
  exact ⟨some ⟨p1.a, 0, none⟩, rfl, hk p1.a p0.a w' h⟩

/-- a change that puts a float's row -/
def putC (s : Sl) : cellsDen CHL := (1, fS, s, 0, 1, eS, nilS, 0, ())
theorem changeP_spec {a b : Nat} {k : Bool → Pr} (hb : b < 18446744073709551616) (hc : canW b = b) (h : Holds E w (cl a 27 (fcells b) :: L)) (hk : ∀ w', Holds E w' (cl a 27 (fcells b) :: L) → k true w') : CallP Tryz.prog 112 #[ag CHL (putC (slI a))] tBool k w := by
  letI := fenv b [] 0
  have hE := fenv_ok hb hc [] 0
  exact CallP.ro_cut (t := tBool) (x := true) (ad := [⟨a, 1⟩]) (callF_ok hE) rcChangeP rfl rfl rfl rfl (.cons (.cells (p := ⟨a, 1⟩) rfl (fval_abs hE _)) .nil) h (fun m => rfl) hk

theorem changeT_spec {a : Nat} {k : Bool → Pr} (h : Holds E w (cl a 60 colC :: L)) (hk : ∀ w', Holds E w' (cl a 60 colC :: L) → k true w') : CallP Tryz.prog 112 #[ag CHL (3, fS, nilS, 0, 0, fS, slI a, 1, ())] tBool k w := by
  letI := fenv 0 [] 0
  exact CallP.ro_cut (t := tBool) (x := true) (ad := [⟨a, 1⟩]) (callF_ok (zero_ok [] 0)) rcChangeT rfl rfl rfl rfl (.cons (.cells (p := ⟨a, 1⟩) rfl rfl) .nil) h (fun m => rfl) hk

theorem copy_spec {b t : Nat} {k : Option Addr → Pr} (h : Holds E w (cl b 101 (baseC 0 (-1) t) :: pto t (.map ⟨[]⟩ 0) :: L))
    (hk : ∀ b' t' w', Holds E w' (cl b' 101 (baseC 0 (-1) t') :: pto t' (.map ⟨[]⟩ 0) :: cl b 101 (baseC 0 (-1) t) :: pto t (.map ⟨[]⟩ 0) :: L) → k (some ⟨b', 0, none⟩) w') : CallP Tryz.prog 37 #[.pointer (some ⟨b, 0, none⟩)] tPtr k w := by
  letI := fenv 0 [] 0
  have hA : All2 (IsB Tryz.prog [⟨b, 0⟩, ⟨t, 0⟩]) cCopy.pre [cl b 101 (baseC 0 (-1) t), pto t (.map ⟨[]⟩ 0)] := .cons (.cells (p := ⟨b, 0⟩) rfl rfl) (.cons (.map (p := ⟨t, 0⟩) rfl rfl) .nil)
  refine CallP.of_cut (t := tPtr) (ad := [⟨b, 0⟩, ⟨t, 0⟩]) (xs := [.pointer (some ⟨b, 0, none⟩)]) (callF_ok (zero_ok [] 0)) rcCopy rfl rfl rfl (Holds.into hA h) fun w' m y hy h => ?_
  have h := Holds.back (fs := [(2, .cells [gi 0, .g (.int .i64 (-1)), gi 0, .mp 3] 101 false), (3, .map [] 0)]) hA h
  obtain ⟨p1, vs, hp1, hv1, h⟩ := (h.pick (by repeat (first | exact .head | apply Pick.tail))).out_cells
  obtain ⟨p0, ms, hp0, hm0, h⟩ := h.swap.map_out
  have h := h.swap.drop
  simp only [Pl.ents, Option.some.injEq] at hm0; subst hm0
  simp only [rabsL, rabs, gi, hp0, Option.some.injEq] at hv1; subst hv1
  simp only [rabs, cCopy, hp1, Option.some.injEq] at hy; subst hy
  exact ⟨some ⟨p1.a, 0, none⟩, rfl, hk p1.a p0.a w' (h.sub (by repeat (first | exact Sub.done | refine Sub.take (by repeat (first | exact .head | apply Pick.tail)) ?_ | refine Sub.skip ?_)))⟩

def tablesM (tb : Nat) : List MapEntry := [{ key := .string fS, val := .pointer (some ⟨tb, 0, none⟩), born := 0 }]
/-- the base that has the table: its blocks -/
abbrev tabL (t tb d ks : Nat) (pc : Pl) : List HProp := [pto t (.map ⟨tablesM tb⟩ 1), cl tb 115 [sv (slI d), .map (some ks)], cl d 191 [iv 1, .string fS, sv (slO pc), iv 1], opnA Tryz.prog pc 60 colC]

theorem lay_spec {wk b t nw a : Nat} {k : Int → Pr} (h : Holds E w (cl wk 106 [.pointer (some ⟨b, 0, none⟩), iv 1, .map (some nw)] :: cl b 101 (baseC 0 (-1) t) :: pto t (.map ⟨[]⟩ 0) :: pto nw (.map ⟨[]⟩ 0) :: cl a 60 colC :: L))
    (hk : ∀ tb d ks pc w', 1 ≤ pc.cap → Holds E w' (cl wk 106 [.pointer (some ⟨b, 0, none⟩), iv 1, .map (some nw)] :: cl b 101 (baseC 0 (-1) t) :: pto nw (.map ⟨[]⟩ 0) :: pto ks (.map ⟨[]⟩ 0) :: (tabL t tb d ks pc ++ cl a 60 colC :: L)) → k 0 w') :
    CallP Tryz.prog 38 #[.pointer (some ⟨wk, 0, none⟩), ag CHL (3, fS, nilS, 0, 0, fS, slI a, 1, ())] tInt k w := by
  letI := fenv 0 [] 0
  have hA : All2 (IsB Tryz.prog [⟨wk, 0⟩, ⟨b, 0⟩, ⟨t, 0⟩, ⟨nw, 0⟩, ⟨a, 0⟩]) cLay.pre [cl wk 106 [.pointer (some ⟨b, 0, none⟩), iv 1, .map (some nw)], cl b 101 (baseC 0 (-1) t), pto t (.map ⟨[]⟩ 0), pto nw (.map ⟨[]⟩ 0), cl a 60 colC] :=
    .cons (.cells (p := ⟨wk, 0⟩) rfl rfl) (.cons (.cells (p := ⟨b, 0⟩) rfl rfl) (.cons (.map (p := ⟨t, 0⟩) rfl rfl) (.cons (.map (p := ⟨nw, 0⟩) rfl rfl) (.cons (.cells (p := ⟨a, 0⟩) rfl rfl) .nil))))
  refine CallP.of_cut (t := tInt) (ad := [⟨wk, 0⟩, ⟨b, 0⟩, ⟨t, 0⟩, ⟨nw, 0⟩, ⟨a, 0⟩]) (xs := [.pointer (some ⟨wk, 0, none⟩), ag CHL (3, fS, nilS, 0, 0, fS, slI a, 1, ())]) (callF_ok (zero_ok [] 0)) rcLay rfl rfl rfl (Holds.into hA h) fun w' m y hy h => ?_
  have h := h.out_same (IsB.cells (vs := [.pointer (some ⟨b, 0, none⟩), iv 1, .map (some nw)]) (p := ⟨wk, 0⟩) rfl rfl)
  have h := h.swap.out_same (IsB.cells (vs := baseC 0 (-1) t) (p := ⟨b, 0⟩) rfl rfl)
  obtain ⟨p2, ms, hp2, hm2, h⟩ := h.swap.map_out
  have h := h.swap.out_same (IsB.map (l := []) (p := ⟨nw, 0⟩) rfl rfl)
  have h := h.swap.out_same (IsB.cells (vs := colC) (p := ⟨a, 0⟩) rfl rfl)
  obtain ⟨p7, v7, hp7, hv7, h⟩ := h.swap.out_opn
  obtain ⟨p9, v9, hp9, hv9, h⟩ := h.swap.out_cells
  obtain ⟨p10, m10, hp10, hm10, h⟩ := h.swap.map_out
  obtain ⟨p11, v11, hp11, hv11, h⟩ := h.swap.out_cells
  have h := h.swap.drop
  have e2 : p2 = ⟨t, 0⟩ := by cases hp2; rfl
  subst e2
  simp only [Pl.ents, rabs, hp11, Option.some.injEq] at hm2 hm10; subst hm2 hm10
  simp only [rabsL, rabs, gi, Option.some.injEq] at hv7; subst hv7
  by_cases hcap : 1 ≤ p7.cap
  · simp only [rabsL, so_some hp7 hcap, rabs_g, rabs_gi, Option.some.injEq] at hv9; subst hv9
    simp only [rabsL, rabs_si hp9, rabs_m hp10, Option.some.injEq] at hv11; subst hv11
    cases hy
    exact ⟨0, rfl, hk p11.a p9.a p10.a p7 w' hcap (h.sub (by repeat (first | exact Sub.done | refine Sub.take (by repeat (first | exact .head | apply Pick.tail)) ?_ | refine Sub.skip ?_)))⟩
  · simp only [rabsL, so_none hp7 hcap, rabs_g, rabs_gi] at hv9; cases hv9
end
end Go.Proofs.YtelhccfmfnaegaaGreat
end

section
/- More calls where a float is not known, as contracts: keys, pieces, versions. -/
set_option linter.unusedSectionVars false
set_option linter.unusedVariables false
set_option maxRecDepth 10000
namespace Go.Proofs.YtelhccfmfnaegaaGreat
open Go Go.Sh
attribute [local irreducible] pto rob old ownS roS hstar hex hpure hemp opnA blks blk

section
variable {E w : World} {L : List HProp}

/-- a row of one float, made by an append -/
def rowA (s : Sl) (b : Nat) : HProp := hex fun p : Pl => hstar (hpure (s = slO p ∧ 1 ≤ p.cap)) (opnA Tryz.prog p 27 (fcells b))
/-- a piece with such a row -/
def pieceA (s : Sl) (b : Nat) : HProp := hex fun q : Pl × Pl => hstar (hpure (s = slO q.1 ∧ 1 ≤ q.1.cap ∧ 1 ≤ q.2.cap)) (hstar (opnA Tryz.prog q.1 50 [iv 0, iv 1, sv (slO q.2)]) (opnA Tryz.prog q.2 27 (fcells b)))
/-- a version with such a row -/
def verA (s : Sl) (b : Nat) : HProp := hex fun q : Pl × Pl => hstar (hpure (s = slO q.1 ∧ 1 ≤ q.1.cap ∧ 1 ≤ q.2.cap)) (hstar (opnA Tryz.prog q.1 172 [iv 1, iv 1099511627776, iv 0, iv 1, sv (slO q.2)]) (opnA Tryz.prog q.2 27 (fcells b)))

theorem rowA.opened {s : Sl} {b : Nat} (h : Holds E w (rowA s b :: L)) : ∃ p, s = slO p ∧ 1 ≤ p.cap ∧ Holds E w (opnA Tryz.prog p 27 (fcells b) :: L) := by
  obtain ⟨p, h⟩ := h.ex_out
  obtain ⟨⟨h1, h2⟩, h⟩ := h.star_out.pure_out
  exact ⟨p, h1, h2, h⟩
theorem rowA.closed {p : Pl} {b : Nat} (hp : 1 ≤ p.cap) (h : Holds E w (opnA Tryz.prog p 27 (fcells b) :: L)) : Holds E w (rowA (slO p) b :: L) :=
  Holds.ex_in p (Holds.star_in (Holds.pure_in ⟨rfl, hp⟩ h))
theorem pieceA.opened {s : Sl} {b : Nat} (h : Holds E w (pieceA s b :: L)) : ∃ p q, s = slO p ∧ 1 ≤ p.cap ∧ 1 ≤ q.cap ∧ Holds E w (opnA Tryz.prog p 50 [iv 0, iv 1, sv (slO q)] :: opnA Tryz.prog q 27 (fcells b) :: L) := by
  obtain ⟨q, h⟩ := h.ex_out
  obtain ⟨⟨h1, h2, h3⟩, h⟩ := h.star_out.pure_out
  exact ⟨q.1, q.2, h1, h2, h3, h.star_out⟩
theorem pieceA.closed {p q : Pl} {b : Nat} (hp : 1 ≤ p.cap) (hq : 1 ≤ q.cap) (h : Holds E w (opnA Tryz.prog p 50 [iv 0, iv 1, sv (slO q)] :: opnA Tryz.prog q 27 (fcells b) :: L)) : Holds E w (pieceA (slO p) b :: L) :=
  Holds.ex_in (p, q) (Holds.star_in (Holds.pure_in ⟨rfl, hp, hq⟩ h.star_in))
theorem verA.opened {s : Sl} {b : Nat} (h : Holds E w (verA s b :: L)) : ∃ p q, s = slO p ∧ 1 ≤ p.cap ∧ 1 ≤ q.cap ∧ Holds E w (opnA Tryz.prog p 172 [iv 1, iv 1099511627776, iv 0, iv 1, sv (slO q)] :: opnA Tryz.prog q 27 (fcells b) :: L) := by
  obtain ⟨q, h⟩ := h.ex_out
  obtain ⟨⟨h1, h2, h3⟩, h⟩ := h.star_out.pure_out
  exact ⟨q.1, q.2, h1, h2, h3, h.star_out⟩
theorem verA.closed {p q : Pl} {b : Nat} (hp : 1 ≤ p.cap) (hq : 1 ≤ q.cap) (h : Holds E w (opnA Tryz.prog p 172 [iv 1, iv 1099511627776, iv 0, iv 1, sv (slO q)] :: opnA Tryz.prog q 27 (fcells b) :: L)) : Holds E w (verA (slO p) b :: L) :=
  Holds.ex_in (p, q) (Holds.star_in (Holds.pure_in ⟨rfl, hp, hq⟩ h.star_in))

theorem last_spec {tb d ks : Nat} {pc : Pl} {ms : List MapEntry} {ck : Nat} {k : cellsDen SCL → Pr} (hp : 1 ≤ pc.cap) (h : Holds E w (cl tb 115 [sv (slI d), .map (some ks)] :: cl d 191 [iv 1, .string fS, sv (slO pc), iv 1] :: pto ks (.map ⟨[]⟩ 0) :: opnA Tryz.prog pc 60 colC :: L))
    (hk : ∀ w', Holds E w' (cl tb 115 [sv (slI d), .map (some ks)] :: cl d 191 [iv 1, .string fS, sv (slO pc), iv 1] :: pto ks (.map ⟨[]⟩ 0) :: opnA Tryz.prog pc 60 colC :: L) → k (fS, slO pc, 1, ()) w') : CallP Tryz.prog 74 #[.pointer (some ⟨tb, 0, none⟩)] (.one (.agg SCL)) k w := by
  letI := fenv 0 [] 0
  have hso : ∀ m, rabs ([⟨tb, 0⟩, ⟨d, 0⟩, ⟨ks, 0⟩, pc] ++ m) (.sl 3 0 1 (.opn 0)) = some (sv (slO pc)) := fun m => so_some rfl hp
  refine CallP.ro_cut (t := .one (.agg SCL)) (x := (fS, slO pc, 1, ())) (ad := [⟨tb, 0⟩, ⟨d, 0⟩, ⟨ks, 0⟩, pc]) (callF_ok (zero_ok [] 0)) rcLast rfl rfl rfl rfl
    (.cons (.cells (p := ⟨tb, 0⟩) rfl rfl) (.cons (.cells (p := ⟨d, 0⟩) rfl ?_) (.cons (.map (p := ⟨ks, 0⟩) rfl rfl) (.cons (.opn (p := pc) rfl rfl) .nil)))) h (fun m => ?_) hk
  · have := hso []
    rw [List.append_nil] at this
    simp only [rabsL, this, rabs_g, rabs_gi]; rfl
  · simp only [cLast, rabs, rabsL, gi]
    have := hso m
    simp only [rabs] at this
    rw [this]; rfl

theorem keyOf_spec {pc : Pl} {a b : Nat} {k : ByteArray × Int × Unit → Pr} (hb : b < 18446744073709551616) (hc : canW b = b) (hp : 1 ≤ pc.cap) (h : Holds E w (opnA Tryz.prog pc 60 colC :: cl a 27 (fcells b) :: L))
    (hk : ∀ w', Holds E w' (opnA Tryz.prog pc 60 colC :: cl a 27 (fcells b) :: L) → k (keyW b, 0, ()) w') : CallP Tryz.prog 73 #[ag SCL (fS, slO pc, 1, ()), ag CHL (putC (slI a))] (.tup [.leaf .str, .leaf (.int .i64)]) k w := by
  letI := fenv b [] 0
  have hE := fenv_ok hb hc [] 0
  have hso : rabs [pc, ⟨a, 0⟩] (.sl 0 0 1 (.opn 0)) = some (sv (slO pc)) := so_some rfl hp
  refine CallP.ro_cut (t := .tup [.leaf .str, .leaf (.int .i64)]) (x := (keyW b, 0, ())) (ad := [pc, ⟨a, 0⟩]) (xs := [ag SCL (fS, slO pc, 1, ()), ag CHL (putC (slI a))]) (callF_ok hE) rcKeyOf rfl rfl rfl ?_
    (.cons (.opn (p := pc) rfl rfl) (.cons (.cells (p := ⟨a, 0⟩) rfl (fval_abs hE _)) .nil)) h (fun m => rfl) hk
  simp only [cKeyOf, rabs, rabsL, gi]
  simp only [rabs] at hso
  rw [hso]; rfl

theorem atNil_spec {k : Sl → Pr} (h : Holds E w L) (hk : ∀ w', Holds E w' L → k nilS w') : CallP Tryz.prog 75 #[sv nilS, iv 1099511627775] tSl k w := by
  letI := fenv 0 [] 0
  exact CallP.ro_cut (t := tSl) (x := nilS) (ad := []) (xs := [sv nilS, iv 1099511627775]) (callF_ok (zero_ok [] 0)) rcAtNil rfl rfl rfl rfl .nil h (fun m => rfl) hk

theorem put1_spec {a b : Nat} {k : Sl → Pr} (hb : b < 18446744073709551616) (hc : canW b = b) (h : Holds E w (cl a 27 (fcells b) :: L)) (hk : ∀ s w', Holds E w' (pieceA s b :: cl a 27 (fcells b) :: L) → k s w') :
    CallP Tryz.prog 76 #[sv nilS, ag [.int .i64, .int .i64] (0, 1, ()), sv (slI a)] tSl k w := by
  letI := fenv b [] 0
  have hE := fenv_ok hb hc [] 0
  have hA : All2 (IsB Tryz.prog [⟨a, 0⟩]) cPut1.pre [cl a 27 (fcells b)] := .cons (.cells (p := ⟨a, 0⟩) rfl (fval_abs hE _)) .nil
  refine CallP.of_cut (t := tSl) (ad := [⟨a, 0⟩]) (xs := [sv nilS, ag [.int .i64, .int .i64] (0, 1, ()), sv (slI a)]) (callF_ok hE) rcPut1 rfl rfl rfl (Holds.into hA h) fun w' m y hy h => ?_
  have h := h.out_same (IsB.cells (p := ⟨a, 0⟩) rfl (fval_abs hE _))
  obtain ⟨p6, v6, hp6, hv6, h⟩ := h.swap.out_opn
  obtain ⟨p8, v8, hp8, hv8, h⟩ := h.swap.out_opn
  have h := h.swap.drop
  have e6 := hv6.symm.trans (fval_abs hE _)
  cases e6
  by_cases h6 : 1 ≤ p6.cap
  · by_cases h8 : 1 ≤ p8.cap
    · simp only [rabsL, so_some hp6 h6, rabs_gi, Option.some.injEq] at hv8; subst hv8
      simp only [cPut1, so_some hp8 h8, Option.some.injEq] at hy; subst hy
      exact ⟨slO p8, rfl, hk _ w' (pieceA.closed h8 h6 h)⟩
    · simp only [cPut1, so_none hp8 h8] at hy; cases hy
  · simp only [rabsL, so_none hp6 h6, rabs_gi] at hv8; cases hv8

theorem put2_spec {a b : Nat} {s : Sl} {k : Sl → Pr} (hb : b < 18446744073709551616) (hc : canW b = b) (h : Holds E w (cl a 27 (fcells b) :: pieceA s b :: L)) (hk : ∀ s w', Holds E w' (pieceA s b :: cl a 27 (fcells b) :: L) → k s w') :
    CallP Tryz.prog 76 #[sv s, ag [.int .i64, .int .i64] (0, 1, ()), sv (slI a)] tSl k w := by
  obtain ⟨p, q, rfl, hp, hq, h⟩ := pieceA.opened h.swap
  letI := fenv b [] 0
  have hE := fenv_ok hb hc [] 0
  have hso : ∀ m, rabs ([⟨a, 0⟩, p, q] ++ m) (.sl 2 0 1 (.opn 0)) = some (sv (slO q)) := fun m => so_some rfl hq
  have hs2 : rabs [⟨a, 0⟩, p, q] (.sl 1 0 1 (.opn 0)) = some (sv (slO p)) := so_some rfl hp
  have b0 : IsB Tryz.prog [⟨a, 0⟩, p, q] (0, .cells fval 27 false) (cl a 27 (fcells b)) := .cells (p := ⟨a, 0⟩) rfl (fval_abs hE _)
  have b1 : IsB Tryz.prog [⟨a, 0⟩, p, q] (1, .cells [gi 0, gi 1, .sl 2 0 1 (.opn 0)] 50 true) (opnA Tryz.prog p 50 [iv 0, iv 1, sv (slO q)]) := .opn (p := p) rfl (by
    have := hso []
    rw [List.append_nil] at this
    simp only [rabsL, this, rabs_gi]; rfl)
  have b2 : IsB Tryz.prog [⟨a, 0⟩, p, q] (2, .cells fval 27 true) (opnA Tryz.prog q 27 (fcells b)) := .opn (p := q) rfl (fval_abs hE _)
  have hA : All2 (IsB Tryz.prog [⟨a, 0⟩, p, q]) cPut2.pre [cl a 27 (fcells b), opnA Tryz.prog p 50 [iv 0, iv 1, sv (slO q)], opnA Tryz.prog q 27 (fcells b)] := .cons b0 (.cons b1 (.cons b2 .nil))
  refine CallP.of_cut (t := tSl) (ad := [⟨a, 0⟩, p, q]) (xs := [sv (slO p), ag [.int .i64, .int .i64] (0, 1, ()), sv (slI a)]) (callF_ok hE) rcPut2 rfl rfl ?_ (Holds.into hA (h.sub (by repeat (first | exact Sub.done | refine Sub.take (by repeat (first | exact .head | apply Pick.tail)) ?_ | refine Sub.skip ?_)))) fun w' m y hy h => ?_
  · simp only [cPut2, rabsL, hs2]; rfl
  have h := h.out_same b0
  have h := h.swap.out_same b1
  have h := h.swap.out_same b2
  obtain ⟨p6, v6, hp6, hv6, h⟩ := h.swap.out_opn
  obtain ⟨p8, v8, hp8, hv8, h⟩ := h.swap.out_opn
  have h := h.swap.drop
  have e6 := hv6.symm.trans (fval_abs hE _)
  cases e6
  by_cases h6 : 1 ≤ p6.cap
  · by_cases h8 : 1 ≤ p8.cap
    · simp only [rabsL, so_some hp6 h6, rabs_gi, Option.some.injEq] at hv8; subst hv8
      simp only [cPut2, so_some hp8 h8, Option.some.injEq] at hy; subst hy
      exact ⟨slO p8, rfl, hk _ w' (pieceA.closed h8 h6 (h.sub (by repeat (first | exact Sub.done | refine Sub.take (by repeat (first | exact .head | apply Pick.tail)) ?_ | refine Sub.skip ?_))))⟩
    · simp only [cPut2, so_none hp8 h8] at hy; cases hy
  · simp only [rabsL, so_none hp6 h6, rabs_gi] at hv8; cases hv8

theorem set1_spec {b : Nat} {s : Sl} {k : Sl × Int × Unit → Pr} (hb : b < 18446744073709551616) (hc : canW b = b) (h : Holds E w (pieceA s b :: L)) (hk : ∀ s' w', Holds E w' (verA s' b :: L) → k (s', 0, ()) w') :
    CallP Tryz.prog 39 #[sv nilS, iv 1, sv s] (.tup [.leaf .slice, .leaf (.int .i64)]) k w := by
  obtain ⟨p, q, rfl, hp, hq, h⟩ := pieceA.opened h
  letI := fenv b [] 0
  have hE := fenv_ok hb hc [] 0
  have hso : rabs [p, q] (.sl 1 0 1 (.opn 0)) = some (sv (slO q)) := so_some rfl hq
  have hs2 : rabs [p, q] (.sl 0 0 1 (.opn 0)) = some (sv (slO p)) := so_some rfl hp
  have b1 : IsB Tryz.prog [p, q] (0, .cells [gi 0, gi 1, .sl 1 0 1 (.opn 0)] 50 true) (opnA Tryz.prog p 50 [iv 0, iv 1, sv (slO q)]) := .opn (p := p) rfl (by simp only [rabsL, hso, rabs_gi]; rfl)
  have b2 : IsB Tryz.prog [p, q] (1, .cells fval 27 true) (opnA Tryz.prog q 27 (fcells b)) := .opn (p := q) rfl (fval_abs hE _)
  have hA : All2 (IsB Tryz.prog [p, q]) cSet1.pre [opnA Tryz.prog p 50 [iv 0, iv 1, sv (slO q)], opnA Tryz.prog q 27 (fcells b)] := .cons b1 (.cons b2 .nil)
  refine CallP.of_cut (t := .tup [.leaf .slice, .leaf (.int .i64)]) (ad := [p, q]) (xs := [sv nilS, iv 1, sv (slO p)]) (callF_ok hE) rcSet1 rfl rfl ?_ (Holds.into hA h) fun w' m y hy h => ?_
  · simp only [cSet1, rabsL, hs2]; rfl
  have h := h.out_same b1
  have h := h.swap.out_same b2
  obtain ⟨p6, v6, hp6, hv6, h⟩ := h.swap.out_opn
  obtain ⟨p8, v8, hp8, hv8, h⟩ := h.swap.out_opn
  have h := h.swap.drop
  have e6 := hv6.symm.trans (fval_abs hE _)
  cases e6
  by_cases h6 : 1 ≤ p6.cap
  · by_cases h8 : 1 ≤ p8.cap
    · simp only [rabsL, so_some hp6 h6, rabs_gi, Option.some.injEq] at hv8; subst hv8
      have hy' : some (Value.tuple ⟨[sv (slO p8), iv 0]⟩) = some y := by
        rw [← hy]
        simp only [cSet1, rabs, rabsL, gi]
        have := so_some hp8 h8
        simp only [rabs] at this
        rw [this]; rfl
      cases hy'
      exact ⟨(slO p8, 0, ()), rfl, hk _ w' (verA.closed h8 h6 (h.sub (by repeat (first | exact Sub.done | refine Sub.take (by repeat (first | exact .head | apply Pick.tail)) ?_ | refine Sub.skip ?_))))⟩
    · exfalso
      have := so_none hp8 h8
      simp only [cSet1, rabs, rabsL, gi] at hy this
      rw [this] at hy; cases hy
  · simp only [rabsL, so_none hp6 h6, rabs_gi] at hv8; cases hv8
end
end Go.Proofs.YtelhccfmfnaegaaGreat
end

section
/- Queries where a float is not known, as contracts. -/
set_option linter.unusedSectionVars false
set_option linter.unusedVariables false
set_option maxRecDepth 10000
namespace Go.Proofs.YtelhccfmfnaegaaGreat
open Go Go.Sh
attribute [local irreducible] pto rob old ownS roS hstar hex hpure hemp opnA blks blk

/-- the base with the table, the transaction done -/
abbrev stL (b t tb d ks : Nat) (pc : Pl) (ms : List MapEntry) (ck : Nat) : List HProp :=
  [cl b 101 (baseC 1 1 t), pto t (.map ⟨tablesM tb⟩ 1), cl tb 115 [sv (slI d), .map (some ks)], cl d 191 [iv 1, .string fS, sv (slO pc), iv 1], opnA Tryz.prog pc 60 colC, pto ks (.map ⟨ms⟩ ck)]
def qA : cellsDen QUL := (1, fS, nilS, 1, 0, 0, 0, nilS, nilS, 0, false, ())
def qU (s : Sl) : cellsDen QUL := (4, fS, s, 0, 0, 0, 0, nilS, nilS, 0, false, ())
/-- a map has versions at a float's key -/
def FindAt (ms : List MapEntry) (b : Nat) (s : Sl) : Prop := ∃ j, Instr.findNow .string (.string (keyW b)) ms 0 = some (some (j, sv s))
/-- an answer of one row of one float -/
def ansA (s : Sl) (b : Nat) : HProp := hex fun q : Pl × Pl => hstar (hpure (s = slO q.1 ∧ 1 ≤ q.1.cap ∧ 1 ≤ q.2.cap)) (hstar (opnA Tryz.prog q.1 47 [.string (keyW b), iv 1, iv 2, iv 0, iv 1, sv (slO q.2)]) (opnA Tryz.prog q.2 27 (fcells b)))
/-- a piece whose row was laid whole -/
def toldA (s : Sl) (b : Nat) : HProp := hex fun q : Pl × Nat => hstar (hpure (s = slO q.1 ∧ 1 ≤ q.1.cap)) (hstar (opnA Tryz.prog q.1 50 [iv 0, iv 1, sv (slI q.2)]) (cl q.2 27 (fcells b)))

section
variable {E w : World} {L : List HProp}

theorem ansA.opened {s : Sl} {b : Nat} (h : Holds E w (ansA s b :: L)) : ∃ p q, s = slO p ∧ 1 ≤ p.cap ∧ 1 ≤ q.cap ∧ Holds E w (opnA Tryz.prog p 47 [.string (keyW b), iv 1, iv 2, iv 0, iv 1, sv (slO q)] :: opnA Tryz.prog q 27 (fcells b) :: L) := by
  obtain ⟨q, h⟩ := h.ex_out
  obtain ⟨⟨h1, h2, h3⟩, h⟩ := h.star_out.pure_out
  exact ⟨q.1, q.2, h1, h2, h3, h.star_out⟩
theorem ansA.closed {p q : Pl} {b : Nat} (hp : 1 ≤ p.cap) (hq : 1 ≤ q.cap) (h : Holds E w (opnA Tryz.prog p 47 [.string (keyW b), iv 1, iv 2, iv 0, iv 1, sv (slO q)] :: opnA Tryz.prog q 27 (fcells b) :: L)) : Holds E w (ansA (slO p) b :: L) :=
  Holds.ex_in (p, q) (Holds.star_in (Holds.pure_in ⟨rfl, hp, hq⟩ h.star_in))
theorem toldA.opened {s : Sl} {b : Nat} (h : Holds E w (toldA s b :: L)) : ∃ p a, s = slO p ∧ 1 ≤ p.cap ∧ Holds E w (opnA Tryz.prog p 50 [iv 0, iv 1, sv (slI a)] :: cl a 27 (fcells b) :: L) := by
  obtain ⟨q, h⟩ := h.ex_out
  obtain ⟨⟨h1, h2⟩, h⟩ := h.star_out.pure_out
  exact ⟨q.1, q.2, h1, h2, h.star_out⟩
theorem toldA.closed {p : Pl} {a b : Nat} (hp : 1 ≤ p.cap) (h : Holds E w (opnA Tryz.prog p 50 [iv 0, iv 1, sv (slI a)] :: cl a 27 (fcells b) :: L)) : Holds E w (toldA (slO p) b :: L) :=
  Holds.ex_in (p, a) (Holds.star_in (Holds.pure_in ⟨rfl, hp⟩ h.star_in))

section
variable [Env]
/-- the base's blocks, as the interpreter tells them -/
theorem stB {b t tb d ks : Nat} {pc : Pl} {rest : List Pl} {es : List (Nat × Option RV)} (hp : 1 ≤ pc.cap) (hv : ViewOk ([⟨b, 0⟩, ⟨t, 0⟩, ⟨tb, 0⟩, ⟨d, 0⟩, pc, ⟨ks, 0⟩] ++ rest) es (Env.mp 0)) :
    All2 (IsB Tryz.prog ([⟨b, 0⟩, ⟨t, 0⟩, ⟨tb, 0⟩, ⟨d, 0⟩, pc, ⟨ks, 0⟩] ++ rest))
      [(0, .cells [gi 1, gi 1, gi 0, .mp 1] 101 false), (1, .map [(.g (.string (.mk #[102])), .ptr 2 0, 0)] 1), (2, .cells [.sl 3 0 1 (.is 1), .mp 5] 115 false), (3, .cells [gi 1, .g (.string (.mk #[102])), .sl 4 0 1 (.opn 0), gi 1] 191 false), (4, .cells [.g (.string (.mk #[120])), gi 3, .g (.bool true)] 60 true), (5, .view 0 es)]
      (stL b t tb d ks pc (Env.mp 0) (Env.ck 0)) := by
  refine .cons (.cells (p := ⟨b, 0⟩) rfl rfl) (.cons (.map (p := ⟨t, 0⟩) rfl rfl) (.cons (.cells (p := ⟨tb, 0⟩) rfl rfl) (.cons (.cells (p := ⟨d, 0⟩) rfl ?_) (.cons (.opn (p := pc) rfl rfl) (.cons (.view (p := ⟨ks, 0⟩) rfl hv) .nil)))))
  have hso : rabs ([⟨b, 0⟩, ⟨t, 0⟩, ⟨tb, 0⟩, ⟨d, 0⟩, pc, ⟨ks, 0⟩] ++ rest) (.sl 4 0 1 (.opn 0)) = some (sv (slO pc)) := so_some rfl hp
  simp only [rabsL, hso, rabs_g, rabs_gi]; rfl
end

theorem schema_spec {b t tb d ks : Nat} {pc : Pl} {ms : List MapEntry} {ck : Nat} {k : cellsDen SCL × Int × Unit → Pr} (hp : 1 ≤ pc.cap) (h : Holds E w (stL b t tb d ks pc ms ck ++ L))
    (hk : ∀ pc' w', 1 ≤ pc'.cap → Holds E w' (opnA Tryz.prog pc' 60 colC :: (stL b t tb d ks pc ms ck ++ L)) → k ((fS, slO pc', 1, ()), 0, ()) w') :
    CallP Tryz.prog 41 #[.pointer (some ⟨b, 0, none⟩), ag QUL qA] (.tup [.agg SCL, .leaf (.int .i64)]) k w := by
  letI := fenv 0 ms ck
  have hA := stB (b := b) (t := t) (tb := tb) (d := d) (ks := ks) (rest := []) (es := []) hp (fun i r hi => by cases hi)
  refine CallP.of_cut (t := .tup [.agg SCL, .leaf (.int .i64)]) (ad := [⟨b, 0⟩, ⟨t, 0⟩, ⟨tb, 0⟩, ⟨d, 0⟩, pc, ⟨ks, 0⟩]) (xs := [.pointer (some ⟨b, 0, none⟩), ag QUL qA]) (callF_ok (zero_ok ms ck)) rcSchema rfl rfl rfl (Holds.into hA h) fun w' m y hy h => ?_
  have h := Holds.back (fs := [(14, .cells [.g (.string (.mk #[120])), gi 3, .g (.bool true)] 60 true)]) hA h
  obtain ⟨p6, v6, hp6, hv6, h⟩ := (h.pick (by repeat (first | exact .head | apply Pick.tail))).out_opn
  have h := h.swap.drop
  cases hv6
  replace hp6 : ([⟨b, 0⟩, ⟨t, 0⟩, ⟨tb, 0⟩, ⟨d, 0⟩, pc, ⟨ks, 0⟩] ++ m)[14]? = some p6 := hp6
  by_cases h6 : 1 ≤ p6.cap
  · have hy' : some (Value.tuple ⟨[.agg ⟨[.string fS, sv (slO p6), iv 1]⟩, iv 0]⟩) = some y := by
      rw [← hy]
      simp only [cSchema, rabs, rabsL, gi]
      have := so_some hp6 h6
      simp only [rabs] at this
      rw [this]; rfl
    cases hy'
    exact ⟨((fS, slO p6, 1, ()), 0, ()), rfl, hk _ w' h6 h⟩
  · exfalso
    have := so_none hp6 h6
    simp only [cSchema, rabs, rabsL, gi] at hy this
    rw [this] at hy; cases hy

theorem rightA_spec {pc : Pl} {k : Bool → Pr} (hp : 1 ≤ pc.cap) (h : Holds E w (opnA Tryz.prog pc 60 colC :: L)) (hk : ∀ w', Holds E w' (opnA Tryz.prog pc 60 colC :: L) → k true w') :
    CallP Tryz.prog 42 #[ag QUL qA, ag SCL (fS, slO pc, 1, ())] tBool k w := by
  letI := fenv 0 [] 0
  have hso : rabs [pc] (.sl 0 0 1 (.opn 0)) = some (sv (slO pc)) := so_some rfl hp
  refine CallP.ro_cut (t := tBool) (x := true) (ad := [pc]) (xs := [ag QUL qA, ag SCL (fS, slO pc, 1, ())]) (callF_ok (zero_ok [] 0)) rcRightA rfl rfl rfl ?_ (.cons (.opn (p := pc) rfl rfl) .nil) h (fun m => rfl) hk
  simp only [cRightA, rabs, rabsL, gi]
  simp only [rabs] at hso
  rw [hso]; rfl

def kindsM : List MapEntry := [{ key := iv 1, val := .agg #[.func (.func 90) #[] #[], .func (.func 91) #[] #[]], born := 0 }, { key := iv 2, val := .agg #[.func (.func 90) #[] #[], .func (.func 92) #[] #[]], born := 1 },
  { key := iv 3, val := .agg #[.func (.func 93) #[] #[], .func (.func 94) #[] #[]], born := 2 }, { key := iv 4, val := .agg #[.func (.func 93) #[] #[], .func (.func 95) #[] #[]], born := 3 }]
theorem kinds_spec {k : Option Nat → Pr} (h : Holds E w L) (hk : ∀ a w', Holds E w' (pto a (.map ⟨kindsM⟩ 4) :: L) → k (some a) w') : CallP Tryz.prog 43 #[] tMap k w := by
  letI := fenv 0 [] 0
  refine CallP.of_cut (t := tMap) (ad := []) (xs := []) (callF_ok (zero_ok [] 0)) rcKinds rfl rfl rfl (h.into .nil) fun w' m y hy h => ?_
  obtain ⟨p, ms, hp, hm, h⟩ := h.map_out
  have h := h.swap.drop
  cases hm
  simp only [cKinds, rabs_m hp, Option.some.injEq] at hy; subst hy
  exact ⟨some p.a, rfl, hk p.a w' h⟩

theorem pass_spec {s : Sl} {b : Nat} {k : Bool → Pr} (hb : b < 18446744073709551616) (hc : canW b = b) {a : Nat} (h : Holds E w (cl a 27 (fcells b) :: L)) (hk : ∀ w', Holds E w' (cl a 27 (fcells b) :: L) → k true w') :
    CallP Tryz.prog 44 #[ag QUL qA, sv (slI a)] tBool k w := by
  letI := fenv b [] 0
  have hE := fenv_ok hb hc [] 0
  exact CallP.ro_cut (t := tBool) (x := true) (ad := [⟨a, 0⟩]) (xs := [ag QUL qA, sv (slI a)]) (callF_ok hE) rcPass rfl rfl rfl rfl (.cons (.cells (p := ⟨a, 0⟩) rfl (fval_abs hE _)) .nil) h (fun m => rfl) hk

theorem proj_spec {b a : Nat} {k : Sl → Pr} (hb : b < 18446744073709551616) (hc : canW b = b) (h : Holds E w (cl a 27 (fcells b) :: L)) (hk : ∀ s w', Holds E w' (rowA s b :: cl a 27 (fcells b) :: L) → k s w') :
    CallP Tryz.prog 45 #[ag QUL qA, sv (slI a)] tSl k w := by
  letI := fenv b [] 0
  have hE := fenv_ok hb hc [] 0
  have b0 : IsB Tryz.prog [⟨a, 0⟩] (0, .cells fval 27 false) (cl a 27 (fcells b)) := .cells (p := ⟨a, 0⟩) rfl (fval_abs hE _)
  refine CallP.of_cut (t := tSl) (ad := [⟨a, 0⟩]) (xs := [ag QUL qA, sv (slI a)]) (callF_ok hE) rcProj rfl rfl rfl (Holds.into (.cons b0 .nil) h) fun w' m y hy h => ?_
  have h := h.out_same b0
  obtain ⟨p6, v6, hp6, hv6, h⟩ := h.swap.out_opn
  have h := h.swap.drop
  have e6 := hv6.symm.trans (fval_abs hE _)
  cases e6
  by_cases h6 : 1 ≤ p6.cap
  · simp only [cProj, so_some hp6 h6, Option.some.injEq] at hy; subst hy
    exact ⟨slO p6, rfl, hk _ w' (rowA.closed h6 h)⟩
  · simp only [cProj, so_none hp6 h6] at hy; cases hy

theorem at_spec {b t tb d ks f : Nat} {pc : Pl} {ms : List MapEntry} {ck : Nat} {s : Sl} {k : Sl × Int × Unit → Pr} (hb : f < 18446744073709551616) (hc : canW f = f) (hp : 1 ≤ pc.cap) (hf : FindAt ms f s) (h : Holds E w (stL b t tb d ks pc ms ck ++ verA s f :: L))
    (hk : ∀ s' w', Holds E w' (toldA s' f :: (stL b t tb d ks pc ms ck ++ verA s f :: L)) → k (s', 0, ()) w') :
    CallP Tryz.prog 128 #[.pointer (some ⟨b, 0, none⟩), .string fS, .string (keyW f), iv 1] (.tup [.leaf .slice, .leaf (.int .i64)]) k w := by
  obtain ⟨p, q, rfl, h1, h2, h⟩ := verA.opened (h.pick (by repeat (first | exact .head | apply Pick.tail)))
  letI := fenv f ms ck
  have hE := fenv_ok hb hc ms ck
  have hq : rabs ([⟨b, 0⟩, ⟨t, 0⟩, ⟨tb, 0⟩, ⟨d, 0⟩, pc, ⟨ks, 0⟩] ++ [p, q]) (.sl 7 0 1 (.opn 0)) = some (sv (slO q)) := so_some rfl h2
  have hv : ViewOk ([⟨b, 0⟩, ⟨t, 0⟩, ⟨tb, 0⟩, ⟨d, 0⟩, pc, ⟨ks, 0⟩] ++ [p, q]) [(1, some (.sl 6 0 1 (.opn 0)))] (Env.mp 0) := fun i r hi => by
    simp only [List.mem_singleton, Prod.mk.injEq] at hi
    obtain ⟨rfl, rfl⟩ := hi
    obtain ⟨j, hj⟩ := hf
    exact ⟨keyW f, rfl, j, _, hj, so_some rfl h1⟩
  have hA := stB (b := b) (t := t) (tb := tb) (d := d) (ks := ks) hp hv
  have b1 : IsB Tryz.prog ([⟨b, 0⟩, ⟨t, 0⟩, ⟨tb, 0⟩, ⟨d, 0⟩, pc, ⟨ks, 0⟩] ++ [p, q]) (6, .cells [gi 1, gi 1099511627776, gi 0, gi 1, .sl 7 0 1 (.opn 0)] 172 true) (opnA Tryz.prog p 172 [iv 1, iv 1099511627776, iv 0, iv 1, sv (slO q)]) :=
    .opn (p := p) rfl (by simp only [rabsL, hq, rabs_gi]; rfl)
  have b2 : IsB Tryz.prog ([⟨b, 0⟩, ⟨t, 0⟩, ⟨tb, 0⟩, ⟨d, 0⟩, pc, ⟨ks, 0⟩] ++ [p, q]) (7, .cells fval 27 true) (opnA Tryz.prog q 27 (fcells f)) := .opn (p := q) rfl (fval_abs hE _)
  have hA := hA.app (.cons b1 (.cons b2 .nil))
  refine CallP.of_cut (t := .tup [.leaf .slice, .leaf (.int .i64)]) (ad := [⟨b, 0⟩, ⟨t, 0⟩, ⟨tb, 0⟩, ⟨d, 0⟩, pc, ⟨ks, 0⟩, p, q]) (xs := [.pointer (some ⟨b, 0, none⟩), .string fS, .string (keyW f), iv 1]) (callF_ok hE) rcAt rfl rfl rfl (Holds.into hA (h.sub (by repeat (first | exact Sub.done | refine Sub.take (by repeat (first | exact .head | apply Pick.tail)) ?_ | refine Sub.skip ?_)))) fun w' m y hy h => ?_
  have h := Holds.back (fs := [(40, .cells fval 27 false), (51, .cells [gi 0, gi 1, .sl 40 0 1 (.is 1)] 50 true)]) hA h
  obtain ⟨p4, v4, hp4, hv4, h⟩ := (h.pick (by repeat (first | exact .head | apply Pick.tail))).out_cells
  obtain ⟨p5, v5, hp5, hv5, h⟩ := h.swap.out_opn
  have h := h.swap.drop
  have e4 := hv4.symm.trans (fval_abs hE _)
  cases e4
  replace hp4 : ([⟨b, 0⟩, ⟨t, 0⟩, ⟨tb, 0⟩, ⟨d, 0⟩, pc, ⟨ks, 0⟩, p, q] ++ m)[40]? = some p4 := hp4
  replace hp5 : ([⟨b, 0⟩, ⟨t, 0⟩, ⟨tb, 0⟩, ⟨d, 0⟩, pc, ⟨ks, 0⟩, p, q] ++ m)[51]? = some p5 := hp5
  replace hv5 : rabsL ([⟨b, 0⟩, ⟨t, 0⟩, ⟨tb, 0⟩, ⟨d, 0⟩, pc, ⟨ks, 0⟩, p, q] ++ m) [gi 0, gi 1, .sl 40 0 1 (.is 1)] = some v5 := hv5
  simp only [rabsL, rabs_si hp4, rabs_gi, Option.some.injEq] at hv5; subst hv5
  by_cases h5 : 1 ≤ p5.cap
  · have hy' : some (Value.tuple ⟨[sv (slO p5), iv 0]⟩) = some y := by
      rw [← hy]
      simp only [cAt, rabs, rabsL, gi]
      have := so_some hp5 h5
      simp only [rabs] at this
      rw [this]; rfl
    cases hy'
    refine ⟨(slO p5, 0, ()), rfl, hk _ w' (toldA.closed (a := p4.a) h5 ?_)⟩
    refine Holds.unpick (A := verA (slO p) f) (L' := opnA Tryz.prog p5 50 [iv 0, iv 1, sv (slI p4.a)] :: cl p4.a 27 (fcells f) :: (stL b t tb d ks pc ms ck ++ L)) ?_ (by repeat (first | exact .head | apply Pick.tail))
    exact verA.closed h1 h2 (h.sub (by repeat (first | exact Sub.done | refine Sub.take (by repeat (first | exact .head | apply Pick.tail)) ?_ | refine Sub.skip ?_)))
  · exfalso
    have := so_none hp5 h5
    simp only [cAt, rabs, rabsL, gi] at hy this
    rw [this] at hy; cases hy

theorem audit_spec {b t tb d ks f a : Nat} {pc : Pl} {ms : List MapEntry} {ck : Nat} {s : Sl} {k : Sl × Int × Unit → Pr} (hb : f < 18446744073709551616) (hc : canW f = f) (hp : 1 ≤ pc.cap) (hf : FindAt ms f s) (h : Holds E w (stL b t tb d ks pc ms ck ++ verA s f :: cl a 27 (fcells f) :: L))
    (hk : ∀ s' w', Holds E w' (ansA s' f :: (stL b t tb d ks pc ms ck ++ verA s f :: cl a 27 (fcells f) :: L)) → k (s', 0, ()) w') :
    CallP Tryz.prog 17 #[.pointer (some ⟨b, 0, none⟩), ag QUL (qU (slI a))] (.tup [.leaf .slice, .leaf (.int .i64)]) k w := by
  obtain ⟨p, q, rfl, h1, h2, h⟩ := verA.opened (h.pick (by repeat (first | exact .head | apply Pick.tail)))
  letI := fenv f ms ck
  have hE := fenv_ok hb hc ms ck
  have hq : rabs ([⟨b, 0⟩, ⟨t, 0⟩, ⟨tb, 0⟩, ⟨d, 0⟩, pc, ⟨ks, 0⟩] ++ [p, q, ⟨a, 0⟩]) (.sl 7 0 1 (.opn 0)) = some (sv (slO q)) := so_some rfl h2
  have hv : ViewOk ([⟨b, 0⟩, ⟨t, 0⟩, ⟨tb, 0⟩, ⟨d, 0⟩, pc, ⟨ks, 0⟩] ++ [p, q, ⟨a, 0⟩]) [(1, some (.sl 6 0 1 (.opn 0)))] (Env.mp 0) := fun i r hi => by
    simp only [List.mem_singleton, Prod.mk.injEq] at hi
    obtain ⟨rfl, rfl⟩ := hi
    obtain ⟨j, hj⟩ := hf
    exact ⟨keyW f, rfl, j, _, hj, so_some rfl h1⟩
  have hA := stB (b := b) (t := t) (tb := tb) (d := d) (ks := ks) hp hv
  have b1 : IsB Tryz.prog ([⟨b, 0⟩, ⟨t, 0⟩, ⟨tb, 0⟩, ⟨d, 0⟩, pc, ⟨ks, 0⟩] ++ [p, q, ⟨a, 0⟩]) (6, .cells [gi 1, gi 1099511627776, gi 0, gi 1, .sl 7 0 1 (.opn 0)] 172 true) (opnA Tryz.prog p 172 [iv 1, iv 1099511627776, iv 0, iv 1, sv (slO q)]) :=
    .opn (p := p) rfl (by simp only [rabsL, hq, rabs_gi]; rfl)
  have b2 : IsB Tryz.prog ([⟨b, 0⟩, ⟨t, 0⟩, ⟨tb, 0⟩, ⟨d, 0⟩, pc, ⟨ks, 0⟩] ++ [p, q, ⟨a, 0⟩]) (7, .cells fval 27 true) (opnA Tryz.prog q 27 (fcells f)) := .opn (p := q) rfl (fval_abs hE _)
  have b3 : IsB Tryz.prog ([⟨b, 0⟩, ⟨t, 0⟩, ⟨tb, 0⟩, ⟨d, 0⟩, pc, ⟨ks, 0⟩] ++ [p, q, ⟨a, 0⟩]) (8, .cells fval 27 false) (cl a 27 (fcells f)) := .cells (p := ⟨a, 0⟩) rfl (fval_abs hE _)
  have hA := hA.app (.cons b1 (.cons b2 (.cons b3 .nil)))
  refine CallP.of_cut (t := .tup [.leaf .slice, .leaf (.int .i64)]) (ad := [⟨b, 0⟩, ⟨t, 0⟩, ⟨tb, 0⟩, ⟨d, 0⟩, pc, ⟨ks, 0⟩, p, q, ⟨a, 0⟩]) (xs := [.pointer (some ⟨b, 0, none⟩), ag QUL (qU (slI a))]) (callF_ok hE) rcAudit rfl rfl rfl (Holds.into hA (h.sub (by repeat (first | exact Sub.done | refine Sub.take (by repeat (first | exact .head | apply Pick.tail)) ?_ | refine Sub.skip ?_)))) fun w' m y hy h => ?_
  have h := Holds.back (fs := [(115, .cells fval 27 true), (117, .cells [.sy 1, gi 1, gi 2, gi 0, gi 1, .sl 115 0 1 (.opn 0)] 47 true)]) hA h
  obtain ⟨p4, v4, hp4, hv4, h⟩ := (h.pick (by repeat (first | exact .head | apply Pick.tail))).out_opn
  obtain ⟨p5, v5, hp5, hv5, h⟩ := h.swap.out_opn
  have h := h.swap.drop
  have e4 := hv4.symm.trans (fval_abs hE _)
  cases e4
  replace hp4 : ([⟨b, 0⟩, ⟨t, 0⟩, ⟨tb, 0⟩, ⟨d, 0⟩, pc, ⟨ks, 0⟩, p, q, ⟨a, 0⟩] ++ m)[115]? = some p4 := hp4
  replace hp5 : ([⟨b, 0⟩, ⟨t, 0⟩, ⟨tb, 0⟩, ⟨d, 0⟩, pc, ⟨ks, 0⟩, p, q, ⟨a, 0⟩] ++ m)[117]? = some p5 := hp5
  replace hv5 : rabsL ([⟨b, 0⟩, ⟨t, 0⟩, ⟨tb, 0⟩, ⟨d, 0⟩, pc, ⟨ks, 0⟩, p, q, ⟨a, 0⟩] ++ m) [.sy 1, gi 1, gi 2, gi 0, gi 1, .sl 115 0 1 (.opn 0)] = some v5 := hv5
  by_cases h4 : 1 ≤ p4.cap
  · simp only [rabsL, so_some hp4 h4, rabs_gi, rabs_sy, Option.some.injEq] at hv5; subst hv5
    by_cases h5 : 1 ≤ p5.cap
    · have hy' : some (Value.tuple ⟨[sv (slO p5), iv 0]⟩) = some y := by
        rw [← hy]
        simp only [cAudit, rabs, rabsL, gi]
        have := so_some hp5 h5
        simp only [rabs] at this
        rw [this]; rfl
      cases hy'
      refine ⟨(slO p5, 0, ()), rfl, hk _ w' (ansA.closed (q := p4) h5 h4 ?_)⟩
      refine Holds.unpick (A := verA (slO p) f) (L' := opnA Tryz.prog p5 47 [.string (keyW f), iv 1, iv 2, iv 0, iv 1, sv (slO p4)] :: opnA Tryz.prog p4 27 (fcells f) :: (stL b t tb d ks pc ms ck ++ cl a 27 (fcells f) :: L)) ?_ (by repeat (first | exact .head | apply Pick.tail))
      exact verA.closed h1 h2 (h.sub (by repeat (first | exact Sub.done | refine Sub.take (by repeat (first | exact .head | apply Pick.tail)) ?_ | refine Sub.skip ?_)))
    · exfalso
      have := so_none hp5 h5
      simp only [cAudit, rabs, rabsL, gi] at hy this
      rw [this] at hy; cases hy
  · simp only [rabsL, so_none hp4 h4, rabs_gi, rabs_sy] at hv5; cases hv5
end
end Go.Proofs.YtelhccfmfnaegaaGreat
end

section
/- Maps whose keys may be of several cells: lookup, store, range. -/
namespace Go.Sh

/-- a key's kind: what the model's search needs of it -/
structure KeyC (P : Program) (K : TypeId) (kl : Comp) (eqk : kl.den → kl.den → Bool) : Prop where
  iff : ∀ x y, eqk x y = true ↔ x = y
  eq : ∃ d, pureRun P (underlying K) = some d ∧ ∀ x, (∀ y, Instr.sameNow d (kl.val x) (kl.val y) = none) ∧ ∀ y, pureRun P (Op.equal K (kl.val x) (kl.val y)) = some (eqk x y)
  chk : ∀ x e, pureRun P (Instr.checkKey e 10000 K (kl.val x)) = some ()
  bits : ∀ x, Instr.sameBits 10000 (kl.val x) (kl.val x) = true

section
variable {P : Program} {E w : World} {L L' : List HProp} {kl vl : Comp} {eqk : kl.den → kl.den → Bool}

def toEntC (kl : Comp) (vl : Comp) (e : MEnt kl.den vl.den) : MapEntry := { key := kl.val e.key, val := vl.val e.val, born := e.born }
def mapC (kl : Comp) (vl : Comp) (r : Nat) (es : List (MEnt kl.den vl.den)) (clock : Nat) : HProp := pto r (.map ⟨es.map (toEntC kl vl)⟩ clock)

theorem run_findAskingC {K : TypeId} {x : kl.den} (hs : ∀ y, pureRun P (Op.equal K (kl.val x) (kl.val y)) = some (eqk x y)) : ∀ (es : List (MEnt kl.den vl.den)) (i : Nat),
    (Instr.findAsking K (kl.val x) (es.map (toEntC kl vl)) i).run P w = .ok ((mfindAt eqk x es i).map fun p => (p.1, vl.val p.2)) w
  | [], _ => rfl
  | e :: es, i => by
    simp only [List.map_cons, Instr.findAsking, mfindAt]
    rw [show (toEntC kl vl e).key = kl.val e.key from rfl, run_pureRun (hs e.key)]
    cases eqk x e.key with
    | true => simp [toEntC]
    | false => simpa using run_findAskingC hs es (i + 1)
theorem run_findKeyC {K : TypeId} (hK : KeyC P K kl eqk) (x : kl.den) (es : List (MEnt kl.den vl.den)) :
    (Instr.findKey K (kl.val x) (es.map (toEntC kl vl))).run P w = .ok ((mfindAt eqk x es 0).map fun p => (p.1, vl.val p.2)) w := by
  obtain ⟨d, hd, h⟩ := hK.eq
  obtain ⟨hn, hs⟩ := h x
  unfold Instr.findKey
  rw [run_ok (pureRun_sound _ hd w)]
  cases es with
  | nil => rfl
  | cons e es =>
    have : Instr.findNow d (kl.val x) ((e :: es).map (toEntC kl vl)) 0 = none := by
      simp only [List.map_cons, Instr.findNow]
      rw [show (toEntC kl vl e).key = kl.val e.key from rfl, hn e.key]
    rw [this]
    exact run_findAskingC hs (e :: es) 0

theorem get_lookup_okC {M K V : TypeId} {r : Nat} {es : List (MEnt kl.den vl.den)} {clock : Nat} {x : kl.den} {z : vl.den} {k : (vl.den × Bool × Unit) → Pr}
    (hM : pureRun P (underlying M) = some (.map K V)) (hK : KeyC P K kl eqk) (hz : pureRun P (zeroValue V) = some (vl.val z)) (h : Holds E w L) (p : Pick L (mapC kl vl r es clock) L')
    (hk : k (match mlook eqk x es with | some v => (v, true, ()) | none => (z, false, ())) w) : GetP P (vN (Instr.lookup M (.map (some r)) (kl.val x) true)) (.tup [vl, .leaf .bool]) k w := by
  have hr := (h.pick p).own
  refine ⟨_, run_vN ?_, hk⟩
  unfold Instr.lookup
  rw [run_ok (pureRun_sound _ hM w)]
  simp only []
  rw [run_ok (run_getMap hr)]
  simp only []
  rw [run_ok (a := (⟨es.map (toEntC kl vl)⟩ : Array MapEntry)) (w' := w) rfl]
  rw [run_ok (pureRun_sound _ (hK.chk x _) w)]
  rw [run_ok (run_findKeyC hK x es)]
  have hl := mfindAt_look eqk x es 0
  cases hm : mfindAt eqk x es 0 with
  | none =>
    rw [hm] at hl
    rw [← hl]
    simp only [Option.map_none]
    rw [run_ok (pureRun_sound _ hz w)]
    rfl
  | some p =>
    rw [hm] at hl
    rw [← hl]
    rfl

theorem mset_specC (x : kl.den) (v : vl.den) : ∀ (es : List (MEnt kl.den vl.den)) (clock i : Nat), (∀ a b, eqk a b = true ↔ a = b) →
    match mfindAt eqk x es i with
    | some (j, _) => i ≤ j ∧ (es.map (toEntC kl vl)).modify (j - i) (fun e => { e with key := kl.val x, val := vl.val v }) = (mset eqk x v es clock).map (toEntC kl vl) ∧
        ((es.map (toEntC kl vl))[j - i]?).map (·.key) = some (kl.val x)
    | none => mset eqk x v es clock = es ++ [⟨x, v, clock⟩]
  | [], clock, i, _ => rfl
  | e :: es, clock, i, hiff => by
    simp only [mfindAt, mset]
    by_cases hx : eqk x e.key = true
    · rw [if_pos hx, if_pos hx]
      have := (hiff _ _).1 hx
      subst this
      refine ⟨Nat.le_refl _, ?_, ?_⟩ <;> simp [toEntC]
    · rw [if_neg hx, if_neg hx]
      have ih := mset_specC x v es clock (i + 1) hiff
      cases hm : mfindAt eqk x es (i + 1) with
      | none => rw [hm] at ih; simp only at ih ⊢; rw [ih]; rfl
      | some q =>
        obtain ⟨j, u⟩ := q
        rw [hm] at ih
        simp only at ih ⊢
        obtain ⟨h1, h2, h3⟩ := ih
        have e : j - i = (j - (i + 1)) + 1 := by omega
        refine ⟨by omega, ?_, ?_⟩
        · rw [e, List.map_cons, List.modify_succ_cons, h2]; rfl
        · rw [e, List.map_cons, List.getElem?_cons_succ, h3]

theorem do_mapUpdateC {M K V : TypeId} {r : Nat} {es : List (MEnt kl.den vl.den)} {clock : Nat} {x : kl.den} {v : vl.den} {k : Pr}
    (hM : pureRun P (underlying M) = some (.map K V)) (hK : KeyC P K kl eqk) (h : Holds E w L) (p : Pick L (mapC kl vl r es clock) L')
    (hk : ∀ w', Holds E w' (mapC kl vl r (mset eqk x v es clock) (mclock eqk x es clock) :: L') → k w') : DoU P (uN (Instr.mapUpdate M (.map (some r)) (kl.val x) (vl.val v))) k w := by
  have hp := h.pick p
  have hr := hp.own
  have hspec := mset_specC (vl := vl) x v es clock 0 hK.iff
  have hl := mfindAt_look eqk x es 0
  refine ⟨{ w with heap := w.heap.setIfInBounds r (.map ⟨(mset eqk x v es clock).map (toEntC kl vl)⟩ (mclock eqk x es clock)) }, run_uN ?_, hk _ hp.set⟩
  unfold Instr.mapUpdate
  rw [run_ok (pureRun_sound _ hM w)]
  simp only []
  rw [run_ok (run_getMap hr)]
  simp only []
  rw [run_ok (pureRun_sound _ (hK.chk x _) w), run_ok (run_findKeyC hK x es)]
  cases hm : mfindAt eqk x es 0 with
  | none =>
    rw [hm] at hspec hl
    simp only at hspec
    simp only [Option.map_none]
    rw [run_setMap hr]
    have hc : mclock eqk x es clock = clock + 1 := by simp [mclock, ← hl]
    rw [hc, hspec]
    congr 3
    simp [toEntC]
  | some q =>
    obtain ⟨j, u⟩ := q
    rw [hm] at hspec hl
    simp only [Nat.sub_zero] at hspec
    obtain ⟨_, h2, h3⟩ := hspec
    simp only [Option.map_some]
    have hold : (((⟨es.map (toEntC kl vl)⟩ : Array MapEntry)[j]?).map (·.key)).getD (kl.val x) = kl.val x := by
      simp only [List.getElem?_toArray]
      rw [h3]; rfl
    rw [hold]
    rw [run_ok (a := kl.val x) (w' := w) (by unfold Instr.keyThatStays; rw [hK.bits x]; rfl)]
    rw [run_setMap hr]
    have hc : mclock eqk x es clock = clock := by simp [mclock, ← hl]
    rw [hc, ← h2]
    congr 4
    apply Array.ext'
    simp

/-- 'range m' -/
theorem do_rangeC {t K V : TypeId} {m : Nat} {es : List (MEnt kl.den vl.den)} {clock : Nat} {k : Addr → Pr} (h : Holds E w L) (p : Pick L (mapC kl vl m es clock) L') (ht : P.underlying t = some (.map K V))
    (hk : ∀ r w', Holds E w' (pto r (.mapIter (some m) clock #[] clock) :: L) → k ⟨r, 0, none⟩ w') : DoP P (vN (Instr.range t (.map (some m)))) tAddr k w :=
  do_new (l := .addr) (x := ⟨w.heap.size, 0, none⟩) (o := .mapIter (some m) clock #[] clock) h (run_range_map w t K V m _ clock ht (h.pick p).own) rfl (hk _)

/-- the next of a range over a map -/
theorem next_mapC {ty : TypeId} {r m : Nat} {es : List (MEnt kl.den vl.den)} {clock : Nat} {seen : Array Nat} {kn : Pr} {ks : (kl.den × vl.den × Unit) → Pr}
    (h : Holds E w (pto r (.mapIter (some m) clock seen clock) :: mapC kl vl m es clock :: L)) (hS : Stamped es clock)
    (hn : (∀ e ∈ es, e.born ∈ seen) → kn w)
    (hs : ∀ e ∈ es, e.born ∉ seen → ∀ w', Holds E w' (pto r (.mapIter (some m) clock (seen.push e.born) clock) :: mapC kl vl m es clock :: L) → ks (e.key, e.val, ()) w') :
    NextP P (vN (Instr.next (.pointer (some ⟨r, 0, none⟩)) false ty)) [kl, vl] kn ks w := by
  have hb := h.swap.own
  rcases run_next_at (P := P) w ty r m clock clock seen ⟨es.map (toEntC kl vl)⟩ clock h.own hb (by
    intro x hx
    obtain ⟨e, he, rfl⟩ := List.mem_map.1 hx
    exact hS.lt e he) (Nat.le_refl _) with ⟨h0, hr⟩ | ⟨e, he, w1, hw1, hr⟩
  · refine ⟨.inl ⟨w, run_vN hr, hn fun e he => ?_⟩⟩
    unfold leftOf at h0
    have : (⟨es.map (toEntC kl vl)⟩ : Array MapEntry).filter (fun e => !seen.contains e.born) = #[] := Array.eq_empty_of_size_eq_zero h0
    rw [Array.filter_eq_empty_iff] at this
    have := this (toEntC kl vl e) (by simp; exact ⟨e, he, rfl⟩)
    simpa [toEntC] using this
  · have he' : e ∈ es.map (toEntC kl vl) ∧ e.born ∉ seen := by
      have : e ∈ (leftOf ⟨es.map (toEntC kl vl)⟩ seen) := by simpa using he
      unfold leftOf at this
      rw [Array.mem_filter] at this
      exact ⟨by simpa using this.1, by simpa using this.2⟩
    obtain ⟨e0, he0, rfl⟩ := List.mem_map.1 he'.1
    refine ⟨.inr ⟨(e0.key, e0.val, ()), _, run_vN hr, hs e0 he0 he'.2 _ ?_⟩⟩
    rcases hw1 with rfl | rfl
    · exact h.set
    · exact h.drew.set

/-- the key and the value of the round -/
theorem get_entryC {r m : Nat} {es : List (MEnt kl.den vl.den)} {clock : Nat} {seen : Array Nat} {e : MEnt kl.den vl.den} {k : (kl.den × vl.den × Unit) → Pr}
    (h : Holds E w (pto r (.mapIter (some m) clock (seen.push e.born) clock) :: mapC kl vl m es clock :: L)) (hS : Stamped es clock) (he : e ∈ es) (hk : k (e.key, e.val, ()) w) :
    GetP P (vN (Instr.entry (.pointer (some ⟨r, 0, none⟩)))) (.tup [kl, vl]) k w := by
  refine ⟨(e.key, e.val, ()), run_vN (run_entry_at (P := P) w r m clock seen ⟨es.map (toEntC kl vl)⟩ clock (toEntC kl vl e) h.own h.swap.own (List.mem_map.2 ⟨e, he, rfl⟩) ?_), hk⟩
  simp only [List.map_map]
  exact hS.nodup
end
end Go.Sh
namespace Go.Sh
/-- what holds of each of a list, separated -/
def starM {α : Type} (f : α → HProp) (xs : List α) : HProp := stars (xs.map f)
section
variable {α : Type} {f : α → HProp} {E w : World} {L : List HProp} {xs : List α}
theorem starM_pick : ∀ {xs : List α} {i : Nat} (hi : i < xs.length), Pick (xs.map f) (f xs[i]) ((xs.eraseIdx i).map f)
  | x :: xs, 0, _ => .head
  | x :: xs, i + 1, hi => .tail (starM_pick (xs := xs) (i := i) (by simpa using hi))
theorem Holds.starM_take {i : Nat} (hi : i < xs.length) (h : Holds E w (starM f xs :: L)) : Holds E w (f xs[i] :: starM f (xs.eraseIdx i) :: L) :=
  (h.mono (B := hstar (f xs[i]) (starM f (xs.eraseIdx i))) fun _ hx => stars_pick (starM_pick hi) hx).star_out
theorem Holds.starM_put {i : Nat} (hi : i < xs.length) (h : Holds E w (f xs[i] :: starM f (xs.eraseIdx i) :: L)) : Holds E w (starM f xs :: L) :=
  h.star_in.mono fun _ hx => stars_unpick (starM_pick hi) hx
theorem Holds.starM_nil (h : Holds E w L) : Holds E w (starM f [] :: L) := h.emp_in
theorem Holds.starM_cons {x : α} (h : Holds E w (f x :: starM f xs :: L)) : Holds E w (starM f (x :: xs) :: L) := h.star_in
theorem Holds.starM_snoc {x : α} (h : Holds E w (f x :: starM f xs :: L)) : Holds E w (starM f (xs ++ [x]) :: L) := by
  have e : (xs ++ [x]).eraseIdx xs.length = xs := by
    rw [List.eraseIdx_append_of_length_le (Nat.le_refl _)]; simp
  have hi : xs.length < (xs ++ [x]).length := by simp
  refine Holds.starM_put hi ?_
  rw [e]
  have : (xs ++ [x])[xs.length] = x := by simp
  rw [this]; exact h
/-- one of them is another one now -/
theorem Holds.starM_set {i : Nat} {y : α} (hi : i < xs.length) (h : Holds E w (f y :: starM f (xs.eraseIdx i) :: L)) : Holds E w (starM f (xs.set i y) :: L) := by
  have hi' : i < (xs.set i y).length := by simpa using hi
  refine Holds.starM_put hi' ?_
  have e1 : (xs.set i y)[i] = y := by simp
  have e2 : (xs.set i y).eraseIdx i = xs.eraseIdx i := by
    apply List.ext_getElem?
    intro j
    rw [List.getElem?_eraseIdx, List.getElem?_eraseIdx]
    split
    · rw [List.getElem?_set_ne (by omega)]
    · rw [List.getElem?_set_ne (by omega)]
  rw [e1, e2]; exact h
end
end Go.Sh
namespace Go.Sh
section
variable {E w : World} {A1 A2 A3 A4 A5 A6 A7 : HProp} {L L1 L2 L3 L4 L5 L6 L7 : List HProp}
theorem Pick.stars2 {L L1 L2 : List HProp} {A B : HProp} (p : Pick L A L1) (h : ∀ x, stars L1 x → stars (B :: L2) x) : ∀ x, stars L x → stars (A :: B :: L2) x :=
  fun _ hx => hstar_mono (fun _ h => h) (fun y hy => h y hy) (stars_pick p hx)
theorem Holds.pick2 (h : Holds E w L) (p1 : Pick L A1 L1) (p2 : Pick L1 A2 L2) : Holds E w (A1 :: A2 :: L2) := h.imp (p1.stars2 fun _ => stars_pick p2)
theorem Holds.pick3 (h : Holds E w L) (p1 : Pick L A1 L1) (p2 : Pick L1 A2 L2) (p3 : Pick L2 A3 L3) : Holds E w (A1 :: A2 :: A3 :: L3) := h.imp (p1.stars2 (p2.stars2 fun _ => stars_pick p3))
theorem Holds.pick4 (h : Holds E w L) (p1 : Pick L A1 L1) (p2 : Pick L1 A2 L2) (p3 : Pick L2 A3 L3) (p4 : Pick L3 A4 L4) : Holds E w (A1 :: A2 :: A3 :: A4 :: L4) := h.imp (p1.stars2 (p2.stars2 (p3.stars2 fun _ => stars_pick p4)))
theorem Holds.pick5 (h : Holds E w L) (p1 : Pick L A1 L1) (p2 : Pick L1 A2 L2) (p3 : Pick L2 A3 L3) (p4 : Pick L3 A4 L4) (p5 : Pick L4 A5 L5) : Holds E w (A1 :: A2 :: A3 :: A4 :: A5 :: L5) := h.imp (p1.stars2 (p2.stars2 (p3.stars2 (p4.stars2 fun _ => stars_pick p5))))
theorem Holds.pick6 (h : Holds E w L) (p1 : Pick L A1 L1) (p2 : Pick L1 A2 L2) (p3 : Pick L2 A3 L3) (p4 : Pick L3 A4 L4) (p5 : Pick L4 A5 L5) (p6 : Pick L5 A6 L6) : Holds E w (A1 :: A2 :: A3 :: A4 :: A5 :: A6 :: L6) := h.imp (p1.stars2 (p2.stars2 (p3.stars2 (p4.stars2 (p5.stars2 fun _ => stars_pick p6)))))
theorem Holds.pick7 (h : Holds E w L) (p1 : Pick L A1 L1) (p2 : Pick L1 A2 L2) (p3 : Pick L2 A3 L3) (p4 : Pick L3 A4 L4) (p5 : Pick L4 A5 L5) (p6 : Pick L5 A6 L6) (p7 : Pick L6 A7 L7) : Holds E w (A1 :: A2 :: A3 :: A4 :: A5 :: A6 :: A7 :: L7) := h.imp (p1.stars2 (p2.stars2 (p3.stars2 (p4.stars2 (p5.stars2 (p6.stars2 fun _ => stars_pick p7))))))
end
end Go.Sh
namespace Go.Sh
theorem mapC_nil (kl vl : Comp) (r : Nat) : mapC kl vl r [] 0 = pto r (.map ⟨[]⟩ 0) := rfl
end Go.Sh
end

section
/- Keys of two texts: as a map's key. -/
set_option linter.unusedSectionVars false
set_option linter.unusedVariables false
set_option maxRecDepth 10000
namespace Go.Proofs.YtelhccfmfnaegaaGreat
open Go Go.Sh
attribute [local irreducible] pto rob old ownS roS hstar hex hpure hemp opnA blks blk
attribute [local instance] env0

theorem ba_eq (a b : ByteArray) : (a == b) = true ↔ a = b := by
  obtain ⟨x⟩ := a
  obtain ⟨y⟩ := b
  show (x == y) = true ↔ _
  rw [beq_iff_eq]
  exact ⟨fun h => by rw [h], fun h => by cases h; rfl⟩

abbrev TWO : Comp := .agg [.str, .str]
def eqTwo : ByteArray × ByteArray × Unit → ByteArray × ByteArray × Unit → Bool := fun a b => a.1 == b.1 && a.2.1 == b.2.1

theorem pr_eqTwo (a b c d : ByteArray) : pureRun Tryz.prog (Op.equal 108 (.agg #[.string a, .string b]) (.agg #[.string c, .string d])) = some (a == c && b == d) := by
  have := sem_lawful
  show pureRun Tryz.prog (Op.equalIn (9998 + 1 + 1) 108 (.agg #[.string a, .string b]) (.agg #[.string c, .string d])) = _
  unfold Op.equalIn
  have a9 : pureRun Tryz.prog (isAgg 9) = some false := (by kernel_rfl)
  have s9 : pureRun Tryz.prog (sizeOf 9) = some 1 := (by kernel_rfl)
  rw [pureRun_bind, pr_underlying, show Tryz.prog.underlying 108 = some (.array 2 9) from (by kernel_rfl)]
  simp only [Option.bind_some]
  rw [pureRun_bind, s9, Option.bind_some]
  have st : ∀ {i' : Nat} {u v : Value} {r : Bool}, (#[Value.string a, .string b])[i']? = some u → (#[Value.string c, .string d])[i']? = some v → pureRun Tryz.prog (Op.equalIn 9999 9 u v) = some r →
      pureRun Tryz.prog (do let a' ← part 9 #[Value.string a, .string b] i'; let b' ← part 9 #[Value.string c, .string d] i'; let r ← Op.equalIn 9999 9 a' b'; if (!r) = true then pure (ForInStep.done (some false, ())) else pure (ForInStep.yield (none, ())) : Sem (ForInStep (Option Bool × Unit))) = some (if r then .yield (none, ()) else .done (some false, ())) := by
    intro i' u v r h2 h3 h4
    rw [pureRun_bind, part1 a9 h2, Option.bind_some, pureRun_bind, part1 a9 h3, Option.bind_some, pureRun_bind, h4, Option.bind_some]
    cases r <;> rfl
  have s0 := st (i' := 0) rfl rfl (pr_eqS (d := 9998) (by kernel_rfl) a c)
  have s1 := st (i' := 1) rfl rfl (pr_eqS (d := 9998) (by kernel_rfl) b d)
  simp only [Std.Legacy.Range.forIn_eq_forIn_range', Std.Legacy.Range.size, List.range', Nat.sub_zero, Nat.add_sub_cancel, Nat.div_one, List.forIn_cons, List.forIn_nil, Nat.zero_add, Nat.mul_one]
  rw [pureRun_bind, pureRun_bind, s0]
  cases a == c
  · rfl
  simp only [if_true, Option.bind_some]
  rw [pureRun_bind, s1]
  cases b == d <;> rfl

theorem keyTwo : KeyC Tryz.prog 108 TWO eqTwo where
  iff := fun x y => by
    obtain ⟨a, b, _⟩ := x
    obtain ⟨c, d, _⟩ := y
    simp only [eqTwo, Bool.and_eq_true, ba_eq]
    constructor
    · rintro ⟨rfl, rfl⟩; rfl
    · intro h; cases h; exact ⟨rfl, rfl⟩
  eq := ⟨.array 2 9, (by kernel_rfl), fun x => ⟨fun y => rfl, fun y => pr_eqTwo _ _ _ _⟩⟩
  chk := fun x e => pr_checkKey (P := Tryz.prog) (kd := .array 2 9) (k := .agg [.g (.string x.1), .g (.string x.2.1)]) (.two (by kernel_rfl) (by kernel_rfl) (by kernel_rfl)) rfl
  bits := fun x => by
    obtain ⟨a, b, _⟩ := x
    show (_ == _ && _) = true
    have h1 : ∀ t : ByteArray, (t == t) = true := fun t => (ba_eq t t).2 rfl
    simp [Instr.sameBits, cellsVal, Leaf.val]
    exact ⟨h1 _, h1 _⟩
end Go.Proofs.YtelhccfmfnaegaaGreat
end
