/- Contracts of Apply, of the keys, of a query as of a time. No conditions. -/
import Derived.Test.YtelhccfmfnaegaaGreatFlD
section
/- Apply: a transaction that lays the table and puts rows of floats. -/
set_option linter.unusedSectionVars false
set_option linter.unusedVariables false
set_option maxRecDepth 10000
namespace Go.Proofs.YtelhccfmfnaegaaGreat
open Go Go.Sh
attribute [local irreducible] pto rob old ownS roS hstar hex hpure hemp opnA blks blk starM mapC pieceA verA entA verE
attribute [local instance] env0

theorem NowOk.nil : NowOk [] [] := ⟨fun e h => (by cases h), fun b h => (by cases h), List.nodup_nil⟩
theorem NowOk.set {es : List NE} {bs : List Nat} {ck f : Nat} {s : Sl} (h : NowOk es bs) (hf : FOk f) : NowOk (mset eqTwo (key2 f) s es ck) (bs ++ [f]) where
  of := fun e he => by
    rcases mset_keys keyTwo.iff (key2 f) s es ck e.key (List.mem_map.2 ⟨e, he, rfl⟩) with h1 | h1
    · exact ⟨f, by simp, hf, h1⟩
    · obtain ⟨e', he', hk⟩ := List.mem_map.1 h1
      obtain ⟨b, hb, hb1, hb2⟩ := h.of e' he'
      exact ⟨b, List.mem_append_left _ hb, hb1, by rw [← hk]; exact hb2⟩
  all := fun b hb => by
    have key : ∃ v, mlook eqTwo (key2 b) (mset eqTwo (key2 f) s es ck) = some v := by
      rw [mlook_set keyTwo.iff]
      split
      · exact ⟨_, rfl⟩
      · rename_i hne
        rcases List.mem_append.1 hb with hb | hb
        · obtain ⟨e, he, hk⟩ := h.all b hb
          have := mlook_mem keyTwo.iff h.nodup he
          rw [hk] at this
          exact ⟨_, this⟩
        · simp only [List.mem_singleton] at hb
          subst hb
          exact absurd ((keyTwo.iff _ _).2 rfl) hne
    obtain ⟨v, hv⟩ := key
    obtain ⟨e, he, hk, _⟩ := mlook_some keyTwo.iff hv
    exact ⟨e, he, hk⟩
  nodup := mset_nodup keyTwo.iff _ _ _ _ h.nodup

section
variable {E w : World} {L L' : List HProp}

set_option maxHeartbeats 4000000 in
theorem apTail_spec {b3 b0 b t0 t nw a : Nat} {xs : List (Nat × Nat)} {s : Sl} {k : Int → Pr} (hx : ∀ p ∈ xs, FOk p.2) (hn : xs.length ≤ 20)
    (h : Holds E w (pto b3 (.cells (ag TXL (1, 1, s, ())).cells 68 (0, 0)) :: cl b0 101 (baseC 0 (-1) t0) :: cl b 101 (baseC 0 (-1) t) :: pto t (.map ⟨[]⟩ 0) :: pto nw (.map ⟨[]⟩ 0) :: ownS 65 8 s ((chL a xs).flatMap encCh) :: cl a 60 colC :: starM rowB xs :: L))
    (hk : ∀ tb d ks pc kes kck w', 1 ≤ pc.cap → KeysOk kes (xs.map (·.2)) → Stamped kes kck → Holds E w' (starM verE kes :: (stL b0 t tb d ks pc (keysM kes) kck ++ ownS 65 8 s ((chL a xs).flatMap encCh) :: cl a 60 colC :: starM rowB xs :: L)) → k 0 w') :
    apTail (some ⟨b0, 0, none⟩) ⟨b3, 0, none⟩ 1 (some ⟨b, 0, none⟩) (some nw) k w := by
  unfold apTail
  have hl := (h.pick (A := ownS 65 8 s ((chL a xs).flatMap encCh)) (by repeat (first | exact .head | apply Pick.tail))).reads_own.len_eq encCh_len (by omega)
  rw [chL_len] at hl
  refine do_box h fun wk w h => ?_
  refine chk_ld h rfl (by repeat (first | exact .head | apply Pick.tail)) (by kernel_rfl) rfl ?_
  refine get_ld h rfl (by repeat (first | exact .head | apply Pick.tail)) (by kernel_rfl) (x := s) rfl ?_
  refine LoopP.inv (fun i w => (i = 0 ∧ Holds E w (cl wk 106 [.pointer (some ⟨b, 0, none⟩), iv 1, .map (some nw)] :: cl b 101 (baseC 0 (-1) t) :: pto t (.map ⟨[]⟩ 0) :: pto nw (.map ⟨[]⟩ 0) :: cl a 60 colC :: ownS 65 8 s ((chL a xs).flatMap encCh) :: starM rowB xs :: pto b3 (.cells (ag TXL (1, 1, s, ())).cells 68 (0, 0)) :: cl b0 101 (baseC 0 (-1) t0) :: L)) ∨
    ∃ (j tb d ks : Nat) (pc : Pl) (es : List NE) (ck : Nat), i = ((j + 1 : Nat) : Int) ∧ j ≤ xs.length ∧ 1 ≤ pc.cap ∧ Stamped es ck ∧ NowOk es ((xs.take j).map (·.2)) ∧
      Holds E w (mapC TWO SLV nw es ck :: starM entA es :: (wkL wk b t tb d ks nw pc ++ ownS 65 8 s ((chL a xs).flatMap encCh) :: cl a 60 colC :: starM rowB xs :: pto b3 (.cells (ag TXL (1, 1, s, ())).cells 68 (0, 0)) :: cl b0 101 (baseC 0 (-1) t0) :: L))) (fun i _ => xs.length + 1 - i.toNat)
    (.inl ⟨rfl, h.sub (by repeat (first | exact Sub.done | refine Sub.take (by repeat (first | exact .head | apply Pick.tail)) ?_ | refine Sub.skip ?_))⟩) ?_
  rintro next i w (⟨rfl, h⟩ | ⟨j, tb, d, ks, pc, es, ck, rfl, hj, hp, hS, hN, h⟩) hnext
  · refine AnyP.go fun _ => ?_
    refine CondP.yes (by rw [hl]; simp) ?_
    have hic : 0 < (chL a xs).length := by rw [chL_len]; omega
    have hO := (h.pick (A := ownS 65 8 s ((chL a xs).flatMap encCh)) (by repeat (first | exact .head | apply Pick.tail))).reads_own
    refine val_idx (i := 0) hO encCh_len (by omega) hic (T := 66) (Te := 65) (by kernel_rfl) (by kernel_rfl) fun a0 ha0 hs0 => ?_
    refine get_elt (i := 0) (tabC a) hO encCh_len ha0 hic (by kernel_rfl) (by kernel_rfl) rfl ?_
    refine do_alloc (z := .agg #[.int .i64 0, .string ⟨#[]⟩, .slice none 0 0, .int .i64 0, .int .i64 0, .string ⟨#[]⟩, .slice none 0 0, .int .i64 0]) h (by kernel_rfl) fun b4 w h => ?_
    refine do_st_all h rfl .head (by kernel_rfl) (by rfl) (by rfl) (ch_na _) ?_; intro w h
    refine get_ld_agg (ls := CHL) (tabC a) h rfl .head (by kernel_rfl) (by kernel_rfl) ?_
    refine lay_spec (h.pick5 (by repeat (first | exact .head | apply Pick.tail)) (by repeat (first | exact .head | apply Pick.tail)) (by repeat (first | exact .head | apply Pick.tail)) (by repeat (first | exact .head | apply Pick.tail)) (by repeat (first | exact .head | apply Pick.tail))) fun tb d ks pc w hp h => ?_
    refine CondP.no rfl ?_
    refine hnext _ _ (.inr ⟨0, tb, d, ks, pc, [], 0, rfl, by omega, hp, .nil, .nil, ?_⟩) (show xs.length + 1 - (1 : Int).toNat < xs.length + 1 - (0 : Int).toNat by simp)
    rw [mapC_nil]
    have h := Holds.starM_nil (f := entA) h
    exact h.sub (by repeat (first | exact Sub.done | refine Sub.take (by repeat (first | exact .head | apply Pick.tail)) ?_ | refine Sub.skip ?_))
  · refine AnyP.go fun _ => ?_
    have hw : IntKind.i64.wrap (((j + 1 : Nat) : Int) + 1) = ((j + 1 + 1 : Nat) : Int) := by rw [IntWalk.i64_in _ (by omega)]; omega
    refine CondP.mk' (fun hc => ?_) (fun hc => ?_)
    · have hj' : j < xs.length := by have := cT hc; omega
      have hf := hx xs[j] (List.getElem_mem hj')
      have hic : j + 1 < (chL a xs).length := by rw [chL_len]; omega
      have hO := (h.pick (A := ownS 65 8 s ((chL a xs).flatMap encCh)) (by repeat (first | exact .head | apply Pick.tail))).reads_own
      refine val_idx (i := j + 1) hO encCh_len (by omega) hic (T := 66) (Te := 65) (by kernel_rfl) (by kernel_rfl) fun a0 ha0 hs0 => ?_
      refine get_elt (i := j + 1) (putC (slI xs[j].1)) hO encCh_len ha0 hic (by kernel_rfl) (by kernel_rfl) (by rw [chL_succ hj']; rfl) ?_
      refine do_alloc (z := .agg #[.int .i64 0, .string ⟨#[]⟩, .slice none 0 0, .int .i64 0, .int .i64 0, .string ⟨#[]⟩, .slice none 0 0, .int .i64 0]) h (by kernel_rfl) fun b4 w h => ?_
      refine do_st_all h rfl .head (by kernel_rfl) (by rfl) (by rfl) (ch_na _) ?_; intro w h
      refine get_ld_agg (ls := CHL) (putC (slI xs[j].1)) h rfl .head (by kernel_rfl) (by kernel_rfl) ?_
      have h := (h.pick (A := starM rowB xs) (by repeat (first | exact .head | apply Pick.tail))).starM_take hj'
      refine changePut_spec (wk := wk) (b := b) (t := t) (tb := tb) (d := d) (ks := ks) (nw := nw) (a := xs[j].1) (f := xs[j].2) (pc := pc) (es := es) (ck := ck)
        (L := pto b4 (.cells ⟨encCh (putC (slI xs[j].1))⟩ 65 (0, 0)) :: starM rowB (xs.eraseIdx j) :: ownS 65 8 s ((chL a xs).flatMap encCh) :: cl a 60 colC :: pto b3 (.cells (ag TXL (1, 1, s, ())).cells 68 (0, 0)) :: cl b0 101 (baseC 0 (-1) t0) :: L) hf hp (h.sub (by repeat (first | exact Sub.done | refine Sub.take (by repeat (first | exact .head | apply Pick.tail)) ?_ | refine Sub.skip ?_))) fun s1 w h => ?_
      refine CondP.no rfl ?_
      rw [hw]
      have h := h.pick2 (A1 := rowB xs[j]) (A2 := starM rowB (xs.eraseIdx j)) (by repeat (first | exact .head | apply Pick.tail)) (by repeat (first | exact .head | apply Pick.tail))
      have h := h.starM_put hj'
      refine hnext _ _ (.inr ⟨j + 1, tb, d, ks, pc, _, _, rfl, by omega, hp, hS.set eqTwo (key2 xs[j].2) s1, ?_, h.sub (by repeat (first | exact Sub.done | refine Sub.take (by repeat (first | exact .head | apply Pick.tail)) ?_ | refine Sub.skip ?_))⟩) (by omega)
      have e : (xs.take (j + 1)).map (·.2) = (xs.take j).map (·.2) ++ [xs[j].2] := by
        rw [List.take_add_one, List.getElem?_eq_getElem hj', List.map_append]; rfl
      rw [e]
      exact hN.set hf
    · have hj' : j = xs.length := by have := cF hc; omega
      subst hj'
      rw [List.take_length] at hN
      refine apLoop2_spec hS hN hp (h.sub (by repeat (first | exact Sub.done | refine Sub.take (by repeat (first | exact .head | apply Pick.tail)) ?_ | refine Sub.skip ?_))) fun kes kck w hK hKS h => ?_
      exact hk tb d ks pc kes kck w hp hK hKS (h.sub (by repeat (first | exact Sub.done | refine Sub.take (by repeat (first | exact .head | apply Pick.tail)) ?_ | refine Sub.skip ?_)))

theorem apply_spec {b0 t0 a : Nat} {xs : List (Nat × Nat)} {s : Sl} {k : Int → Pr} (hx : ∀ p ∈ xs, FOk p.2) (hn : xs.length ≤ 20)
    (h : Holds E w (cl b0 101 (baseC 0 (-1) t0) :: pto t0 (.map ⟨[]⟩ 0) :: ownS 65 8 s ((chL a xs).flatMap encCh) :: cl a 60 colC :: starM rowB xs :: L))
    (hk : ∀ t tb d ks pc kes kck w', 1 ≤ pc.cap → KeysOk kes (xs.map (·.2)) → Stamped kes kck → Holds E w' (starM verE kes :: (stL b0 t tb d ks pc (keysM kes) kck ++ ownS 65 8 s ((chL a xs).flatMap encCh) :: cl a 60 colC :: starM rowB xs :: L)) → k 0 w') :
    CallP Tryz.prog 16 #[.pointer (some ⟨b0, 0, none⟩), ag TXL (1, 1, s, ())] tInt k w := by
  refine rd16 _ _ _ _ ?_
  unfold sh16
  refine do_box h fun b3 w h => ?_
  refine get_pure (x := false) (by kernel_rfl) ?_
  refine CondP.no rfl ?_
  refine get_ld_agg (ls := TXL) (1, 1, s, ()) h rfl (by repeat (first | exact .head | apply Pick.tail)) (by kernel_rfl) (by kernel_rfl) ?_
  refine wrong_spec (a := a) hx hn (h.pick4 (by repeat (first | exact .head | apply Pick.tail)) (by repeat (first | exact .head | apply Pick.tail)) (by repeat (first | exact .head | apply Pick.tail)) (by repeat (first | exact .head | apply Pick.tail))) fun w h => ?_
  refine CondP.no rfl ?_
  refine DrewP.go h fun w h => ?_
  refine get_ld h rfl (by repeat (first | exact .head | apply Pick.tail)) (by kernel_rfl) rfl ?_
  refine ⟨?_, ?_⟩
  · refine copy_spec (h.pick2 (by repeat (first | exact .head | apply Pick.tail)) (by repeat (first | exact .head | apply Pick.tail))) fun b' t' w h => ?_
    refine chk_ld h rfl (by repeat (first | exact .head | apply Pick.tail)) (by kernel_rfl) rfl ?_
    refine do_makeMap h fun nw w h => ?_
    refine chk_ld h rfl (by repeat (first | exact .head | apply Pick.tail)) (by kernel_rfl) rfl ?_
    exact apTail_spec (a := a) (xs := xs) hx hn (h.sub (by repeat (first | exact Sub.done | refine Sub.take (by repeat (first | exact .head | apply Pick.tail)) ?_ | refine Sub.skip ?_))) fun tb d ks pc kes kck w hp hK hKS h => hk t' tb d ks pc kes kck w hp hK hKS h
  · refine do_makeMap h fun nw w h => ?_
    refine chk_ld h rfl (by repeat (first | exact .head | apply Pick.tail)) (by kernel_rfl) rfl ?_
    refine copy_spec (h.pick2 (by repeat (first | exact .head | apply Pick.tail)) (by repeat (first | exact .head | apply Pick.tail))) fun b' t' w h => ?_
    refine chk_ld h rfl (by repeat (first | exact .head | apply Pick.tail)) (by kernel_rfl) rfl ?_
    exact apTail_spec (a := a) (xs := xs) hx hn (h.sub (by repeat (first | exact Sub.done | refine Sub.take (by repeat (first | exact .head | apply Pick.tail)) ?_ | refine Sub.skip ?_))) fun tb d ks pc kes kck w hp hK hKS h => hk t' tb d ks pc kes kck w hp hK hKS h
end
end Go.Proofs.YtelhccfmfnaegaaGreat
end

section
/- The keys of a table, rising. -/
set_option linter.unusedSectionVars false
set_option linter.unusedVariables false
set_option maxRecDepth 10000
namespace Go.Proofs.YtelhccfmfnaegaaGreat
open Go Go.Sh
attribute [local irreducible] pto rob old ownS roS hstar hex hpure hemp opnA blks blk starM mapC pieceA verA entA verE
attribute [local instance] env0

def ltB (a b : ByteArray) : Bool := Op.bytesLess a.toList b.toList
theorem bl_trans : ∀ {a b c : List UInt8}, Op.bytesLess a b = true → Op.bytesLess b c = true → Op.bytesLess a c = true
  | a, b, [], _, h => by cases b <;> simp [Op.bytesLess] at h
  | a, [], c :: z, h, _ => by cases a <;> simp [Op.bytesLess] at h
  | [], b :: y, c :: z, _, _ => rfl
  | a :: x, b :: y, c :: z, h1, h2 => by
    simp only [Op.bytesLess, Bool.or_eq_true, decide_eq_true_eq, Bool.and_eq_true, beq_iff_eq] at h1 h2 ⊢
    rcases h1 with h1 | ⟨rfl, h1⟩ <;> rcases h2 with h2 | ⟨rfl, h2⟩
    · left; rw [UInt8.lt_iff_toNat_lt] at *; omega
    · exact .inl h1
    · exact .inl h2
    · exact .inr ⟨rfl, bl_trans h1 h2⟩
theorem bl_total : ∀ (a b : List UInt8), Op.bytesLess a b = false → a ≠ b → Op.bytesLess b a = true
  | [], [], _, h => absurd rfl h
  | [], b :: y, h, _ => by simp [Op.bytesLess] at h
  | a :: x, [], _, _ => rfl
  | a :: x, b :: y, h, hne => by
    simp only [Op.bytesLess, Bool.or_eq_false_iff, decide_eq_false_iff_not, Bool.and_eq_false_iff, beq_eq_false_iff_ne] at h
    simp only [Op.bytesLess, Bool.or_eq_true, decide_eq_true_eq, Bool.and_eq_true, beq_iff_eq]
    by_cases hab : a = b
    · subst hab
      right
      refine ⟨rfl, bl_total x y ?_ (fun hc => hne (by rw [hc]))⟩
      rcases h.2 with h2 | h2
      · exact absurd rfl h2
      · exact h2
    · left
      have h1 := h.1
      have : a.toNat ≠ b.toNat := fun hc => hab (UInt8.toNat_inj.1 hc)
      rw [UInt8.lt_iff_toNat_lt] at *
      omega
theorem ltB_trans {a b c : ByteArray} (h1 : ltB a b = true) (h2 : ltB b c = true) : ltB a c = true := bl_trans h1 h2
theorem ltB_total {a b : ByteArray} (h : ltB a b = false) (hne : a ≠ b) : ltB b a = true := bl_total _ _ h fun hc => hne (by
  rw [Go.Lib.toList_data, Go.Lib.toList_data] at hc
  obtain ⟨⟨x⟩⟩ := a
  obtain ⟨⟨y⟩⟩ := b
  simp only at hc
  rw [hc])
/-- rising -/
def Rise (l : List ByteArray) : Prop := l.Pairwise fun a b => ltB a b = true
theorem Rise.insert {l : List ByteArray} {x : ByteArray} {n : Nat} (h : Rise l) (hn : n ≤ l.length) (h1 : ∀ y ∈ l.take n, ltB y x = true) (h2 : ∀ y ∈ l.drop n, ltB x y = true) : Rise (l.take n ++ x :: l.drop n) := by
  have hs : Rise (l.take n ++ l.drop n) := by rw [List.take_append_drop]; exact h
  have hs := List.pairwise_append.1 hs
  refine List.pairwise_append.2 ⟨hs.1, List.pairwise_cons.2 ⟨fun y hy => h2 y hy, hs.2.1⟩, fun a ha b hb => ?_⟩
  rcases List.mem_cons.1 hb with rfl | hb
  · exact h1 a ha
  · exact hs.2.2 a ha b hb
def encS (x : ByteArray) : List Value := [.string x]
theorem encS_len (x : ByteArray) : (encS x).length = 1 := rfl
theorem encS_na (l : List ByteArray) : ∀ v ∈ l.flatMap encS, notAgg v = true := by
  intro v hv
  obtain ⟨x, _, hx⟩ := List.mem_flatMap.1 hv
  simp only [encS, List.mem_singleton] at hx
  subst hx; rfl
theorem elemS : ElemT Tryz.prog 9 1 16 := ⟨(by kernel_rfl), (by kernel_rfl), (by kernel_rfl)⟩

/-- what has been told of the keys so far -/
structure Told1 (kes : List KE) (seen : Array Nat) (l : List ByteArray) : Prop where
  rise : Rise l
  mem : ∀ y, y ∈ l ↔ ∃ q ∈ kes, q.born ∈ seen ∧ q.key = y
  len : l.length + toCome kes seen ≤ kes.length

theorem Told1.step {kes : List KE} {kck : Nat} {seen : Array Nat} {l : List ByteArray} {q : KE} {n : Nat} (hT : Told1 kes seen l) (hq : q ∈ kes) (hs : q.born ∉ seen) (hS : Stamped kes kck) (hn : n ≤ l.length)
    (h1 : ∀ y ∈ l.take n, ltB y q.key = true) (h2 : ∀ y ∈ l.drop n, ltB q.key y = true) : Told1 kes (seen.push q.born) (l.take n ++ q.key :: l.drop n) := by
  refine ⟨hT.rise.insert hn h1 h2, fun y => ?_, ?_⟩
  · have e : y ∈ l.take n ++ q.key :: l.drop n ↔ y ∈ l ∨ y = q.key := by
      have hl : y ∈ l ↔ y ∈ l.take n ∨ y ∈ l.drop n := by rw [← List.mem_append, List.take_append_drop]
      rw [hl, List.mem_append, List.mem_cons]
      constructor
      · rintro (h | h | h)
        · exact .inl (.inl h)
        · exact .inr h
        · exact .inl (.inr h)
      · rintro ((h | h) | h)
        · exact .inl h
        · exact .inr (.inr h)
        · exact .inr (.inl h)
    rw [e, hT.mem]
    constructor
    · rintro (⟨q', h3, h4, h5⟩ | rfl)
      · exact ⟨q', h3, by simp [h4], h5⟩
      · exact ⟨q, hq, by simp, rfl⟩
    · rintro ⟨q', h3, h4, h5⟩
      simp only [Array.mem_push] at h4
      rcases h4 with h4 | h4
      · exact .inl ⟨q', h3, h4, h5⟩
      · have := nodup_map_inj hS.nodup h3 hq h4
        subst this
        exact .inr h5.symm
  · have := toCome_lt hq hs
    have := hT.len
    rw [List.length_append, List.length_cons, List.length_take, List.length_drop]
    omega

section
variable {E w : World} {L L' : List HProp}

set_option maxHeartbeats 4000000 in
theorem names_spec {ks kck : Nat} {kes : List KE} {k : Sl → Pr} (hS : Stamped kes kck) (hnd : (kes.map (·.key)).Nodup) (hn : kes.length ≤ 20) (h : Holds E w (pto ks (.map ⟨keysM kes⟩ kck) :: L))
    (hk : ∀ (l : List ByteArray) s w', Rise l → (∀ y, y ∈ l ↔ ∃ q ∈ kes, q.key = y) → l.length ≤ kes.length → Holds E w' (ownS 9 1 s (l.flatMap encS) :: pto ks (.map ⟨keysM kes⟩ kck) :: L) → k s w') :
    CallP Tryz.prog 162 #[.map (some ks)] tSl k w := by
  refine rd162 _ _ _ ?_
  unfold sh162
  refine JoinP.go ?_
  have h : Holds E w (mapB .str SLV ks kes kck :: L) := h
  refine do_range (K := 9) (V := 109) h .head (by kernel_rfl) fun r w h => ?_
  refine LoopP.num (fun n s w => ∃ (seen : Array Nat) (l : List ByteArray), Told1 kes seen l ∧ n = toCome kes seen ∧ Holds E w (pto r (.mapIter (some ks) kck seen kck) :: mapB .str SLV ks kes kck :: ownS 9 1 s (l.flatMap encS) :: L)) (toCome kes #[])
    ⟨#[], [], ⟨List.Pairwise.nil, fun y => by simp, by rw [List.length_nil, Nat.zero_add]; exact List.length_filter_le _ _⟩, rfl, ?_⟩ ?_
  · have h := h.own_nil (T := 9) (sz := 1)
    exact h.sub (by repeat (first | exact Sub.done | refine Sub.take (by repeat (first | exact .head | apply Pick.tail)) ?_ | refine Sub.skip ?_))
  rintro n next s w ⟨seen, l, hT, rfl, h⟩ hnext
  refine AnyP.go fun _ => ?_
  refine next_map h hS (fun hd => ?_) (fun q hq hs w h => ?_)
  · refine CondP.no rfl ?_
    refine AnyP.go fun _ => ?_
    refine hk l s w hT.rise (fun y => ?_) (by have := hT.len; omega) ((h.drop).swap)
    rw [hT.mem]
    constructor
    · rintro ⟨q, h1, _, h2⟩; exact ⟨q, h1, h2⟩
    · rintro ⟨q, h1, h2⟩; exact ⟨q, h1, hd q h1, h2⟩
  · refine CondP.yes rfl ?_
    refine get_entry h hS hq ?_
    have hfresh : q.key ∉ l := fun hc => by
      obtain ⟨q', h1, h2, h3⟩ := (hT.mem _).1 hc
      have := nodup_map_inj hnd h1 hq h3
      subst this
      exact hs h2
    have hto := toCome_lt hq hs
    have hlen := hT.len
    have hOr := fun w (h : Holds E w (pto r (.mapIter (some ks) kck (seen.push q.born) kck) :: mapB .str SLV ks kes kck :: ownS 9 1 s (l.flatMap encS) :: L)) => (h.pick (.tail (.tail .head))).reads_own
    have hl := (hOr w h).len_eq encS_len (by omega)
    have hcap := (h.pick (A := ownS 9 1 s (l.flatMap encS)) (.tail (.tail .head))).own_le
    refine LoopP.inv (fun (i : Int) w => ∃ n : Nat, i = n ∧ n ≤ l.length ∧ (∀ y ∈ l.drop n, ltB q.key y = true) ∧ Holds E w (pto r (.mapIter (some ks) kck (seen.push q.born) kck) :: mapB .str SLV ks kes kck :: ownS 9 1 s (l.flatMap encS) :: L)) (fun i _ => i.toNat)
      ⟨l.length, by rw [hl], Nat.le_refl _, fun y hy => by simp at hy, h⟩ ?_
    rintro next2 i w ⟨n, rfl, hn1, hdrop, h⟩ hnext2
    refine AnyP.go fun _ => ?_
    refine JoinP.via (fun b w => Holds E w (pto r (.mapIter (some ks) kck (seen.push q.born) kck) :: mapB .str SLV ks kes kck :: ownS 9 1 s (l.flatMap encS) :: L) ∧ (b = true → 0 < n ∧ ∃ hn2 : n - 1 < l.length, ltB q.key l[n - 1] = true) ∧ (b = false → ∀ y ∈ l.take n, ltB y q.key = true)) ?_ ?_
    · rintro b w ⟨h, hb1, hb0⟩
      refine AnyP.go fun _ => ?_
      refine CondP.mk' (fun hc => ?_) (fun hc => ?_)
      · obtain ⟨hn0, hn2, hlt⟩ := hb1 hc
        refine hnext2 _ _ ⟨n - 1, by rw [IntWalk.i64_in _ (by omega)]; omega, by omega, fun y hy => ?_, h⟩ (by rw [IntWalk.i64_in _ (by omega)]; omega)
        have e : l.drop (n - 1) = l[n - 1] :: l.drop n := by
          rw [List.drop_eq_getElem_cons hn2]; congr 2; omega
        rw [e] at hy
        rcases List.mem_cons.1 hy with rfl | hy
        · exact hlt
        · exact hdrop y hy
      · have htake := hb0 hc
        refine DrewP.go h fun w h => ?_
        refine val_slice_three (T := 204) (Te := 9) (sz := 1) (by kernel_rfl) (by kernel_rfl) (by omega) (by omega) (by omega) ?_
        refine val_slice_from (T := 204) (Te := 9) (sz := 1) (by kernel_rfl) (by kernel_rfl) (by omega) (by omega) ?_
        rw [show ((n : Int).toNat) = n from rfl]
        refine do_build (Te := 9) (sz := 1) (len := 1) [.string q.key] h (by kernel_rfl) rfl fun t32 w ht32 h => ?_
        have r1 := (hOr _ h.drop).from_ encS_len (l := n) (m := s.cap) hn1 hl hcap
        have l1 := r1.len_eq encS_len (by omega)
        rw [List.length_drop] at l1
        refine do_append (Te2 := 9) h .head (by kernel_rfl) (by kernel_rfl) elemS r1 (encS_na _) (by rw [ht32, l1]; omega) (by rw [ht32, l1]; omega) fun t36 w ht36 h => ?_
        have hsub := (h.pick (A := ownS 9 1 s (l.flatMap encS)) (by repeat (first | exact .head | apply Pick.tail))).own_sub (l := 0) (h := n) (m := n) (by omega) (by omega) (by omega) (by omega)
        have e1 : ((l.flatMap encS).drop (0 * 1)).take ((n - 0) * 1) = (l.take n).flatMap encS := by
          rw [Nat.zero_mul, List.drop_zero, Nat.sub_zero, flat_take encS 1 encS_len]
        rw [e1] at hsub
        have r2 := (hsub.pick (A := ownS 9 1 t36 ([.string q.key] ++ (l.drop n).flatMap encS)) (.tail .head)).reads_own
        have hna2 : ∀ v ∈ ([Value.string q.key] ++ (l.drop n).flatMap encS), notAgg v = true := fun v hv => by
          rcases List.mem_append.1 hv with hv | hv
          · simp only [List.mem_singleton] at hv; subst hv; rfl
          · exact encS_na _ v hv
        have ls : (subS s 0 n n 1).len = n := rfl
        refine do_append (Te2 := 9) hsub .head (by kernel_rfl) (by kernel_rfl) elemS r2 hna2 (by rw [ls, ht36, ht32, l1]; omega) (by rw [ls, ht36, ht32, l1]; omega) fun t37 w ht37 h => ?_
        have e2 : (l.take n).flatMap encS ++ ([.string q.key] ++ (l.drop n).flatMap encS) = (l.take n ++ q.key :: l.drop n).flatMap encS := by
          rw [List.flatMap_append, List.flatMap_cons]; rfl
        rw [e2] at h
        exact hnext _ _ w hto ⟨seen.push q.born, _, hT.step hq hs hS hn1 htake hdrop, rfl, h.sub (by repeat (first | exact Sub.done | refine Sub.take (by repeat (first | exact .head | apply Pick.tail)) ?_ | refine Sub.skip ?_))⟩
    · intro J hJ
      refine CondP.mk' (fun hc => ?_) (fun hc => ?_)
      · have hn0 : 0 < n := by have := cT hc; omega
        have hw : IntKind.i64.wrap ((n : Int) - 1) = ((n - 1 : Nat) : Int) := by rw [IntWalk.i64_in _ (by omega)]; omega
        rw [hw]
        have hn2 : n - 1 < l.length := by omega
        refine val_idx (i := n - 1) (hOr _ h) encS_len (by omega) hn2 (T := 204) (Te := 9) (by kernel_rfl) (by kernel_rfl) fun a0 ha0 hs0 => ?_
        refine get_one l[n - 1] (hOr _ h) encS_len ha0 hn2 (by kernel_rfl) rfl ?_
        refine hJ _ _ ⟨h, fun hb => ⟨hn0, hn2, ?_⟩, fun hb y hy => ?_⟩
        · simp only [Bool.not_eq_true', Bool.or_eq_false_iff] at hb
          exact ltB_total hb.1 (fun hc => by rw [hc] at hb; simp at hb)
        · simp only [Bool.not_eq_false', Bool.or_eq_true] at hb
          have hlast : ltB l[n - 1] q.key = true := by
            rcases hb with hb | hb
            · exact hb
            · have he : l[n - 1] = q.key := by
                have he := eq_of_beq hb
                rw [Go.Lib.toList_data, Go.Lib.toList_data] at he
                generalize l[n - 1] = u at he
                obtain ⟨⟨x⟩⟩ := u
                generalize q.key = v at he
                obtain ⟨⟨y⟩⟩ := v
                simp only at he
                rw [he]
              exact absurd (he ▸ List.getElem_mem hn2) hfresh
          obtain ⟨j, hj, rfl⟩ := List.mem_iff_getElem.1 hy
          rw [List.length_take] at hj
          rw [List.getElem_take]
          by_cases hjn : j = n - 1
          · subst hjn; exact hlast
          · exact ltB_trans (List.pairwise_iff_getElem.1 hT.rise j (n - 1) (by omega) hn2 (by omega)) hlast
      · have hn0 : n = 0 := by have := cF hc; omega
        subst hn0
        exact hJ _ _ ⟨h, fun hb => (by cases hb), fun _ y hy => by simp at hy⟩
end
end Go.Proofs.YtelhccfmfnaegaaGreat
end

section
/- What all keys had: exec.at. -/
set_option linter.unusedSectionVars false
set_option linter.unusedVariables false
set_option maxRecDepth 10000
namespace Go.Proofs.YtelhccfmfnaegaaGreat
open Go Go.Sh
attribute [local instance] env0

section
variable {E w : World} {L L' : List HProp}
theorem opnA.reads {p : Pl} {T : TypeId} {sz : Nat} {cs : List Value} (hl : cs.length = sz) (h : Holds E w (opnA Tryz.prog p T cs :: L)) : Reads w (slO p) sz cs := by
  obtain ⟨x, h1, h2⟩ := h.heap
  obtain ⟨u, v, hc, rfl, h3, h4⟩ := h2
  unfold opnA at h3
  obtain ⟨slack, fr, sz', _, _, _, _, h5⟩ := h3
  have hh : Holds E w (pto p.a (.cells ⟨cs ++ slack⟩ T fr) :: L) := ⟨h.tape, h.os, h.output, _, h1, u, v, hc, rfl, h5, h4⟩
  refine ⟨by show cs.length = 1 * sz; omega, fun _ => ⟨p.a, 0, _, T, fr, rfl, hh.own, fun i hi => ?_⟩⟩
  rw [Nat.zero_add]
  simp [List.getElem?_append_left hi]
theorem cl.reads {a : Nat} {T : TypeId} {sz : Nat} {cs : List Value} (hl : cs.length = sz) (h : Holds E w (cl a T cs :: L)) : Reads w (slI a) sz cs :=
  ⟨by show cs.length = 1 * sz; omega, fun _ => ⟨a, 0, _, T, (0, 0), rfl, h.own, fun i hi => by rw [Nat.zero_add]; simp⟩⟩

end
attribute [local irreducible] pto rob old ownS roS hstar hex hpure hemp opnA blks blk starM mapC pieceA verA entA verE toldA rowA
section
variable {E w : World} {L L' : List HProp}
theorem find_of {kes : List KE} (hnd : (kes.map (·.key)).Nodup) {q : KE} (hq : q ∈ kes) {b : Nat} (hk : q.key = keyW b) : FindAt (keysM kes) b q.val := by
  unfold FindAt
  rw [keys_find]
  have h1 := mfindAt_look eqS (keyW b) kes 0
  have h2 := mlook_mem (eqk := eqS) (fun a b => ba_eq a b) hnd hq
  rw [hk] at h2
  rw [h2] at h1
  cases hm : mfindAt eqS (keyW b) kes 0 with
  | none => rw [hm] at h1; cases h1
  | some p =>
    rw [hm] at h1
    refine ⟨p.1, ?_⟩
    have : p.2 = q.val := Option.some.inj h1
    rw [← this]; rfl

theorem keys_spec {b t tb d ks kck : Nat} {pc : Pl} {kes : List KE} {k : Sl → Pr} (hS : Stamped kes kck) (hnd : (kes.map (·.key)).Nodup) (hn : kes.length ≤ 20) (h : Holds E w (stL b t tb d ks pc (keysM kes) kck ++ L))
    (hk : ∀ (l : List ByteArray) s w', Rise l → (∀ y, y ∈ l ↔ ∃ q ∈ kes, q.key = y) → l.length ≤ kes.length → Holds E w' (ownS 9 1 s (l.flatMap encS) :: (stL b t tb d ks pc (keysM kes) kck ++ L)) → k s w') :
    CallP Tryz.prog 127 #[.pointer (some ⟨b, 0, none⟩), .string fS] tSl k w := by
  refine rd127 _ _ _ _ ?_
  unfold sh127
  refine get_pure (x := false) (by kernel_rfl) ?_
  refine JoinP.go ?_
  refine CondP.no rfl ?_
  refine val_nil ?_
  refine get_ld h rfl (by repeat (first | exact .head | apply Pick.tail)) (by kernel_rfl) (x := some t) rfl ?_
  refine get_hit (K := 9) (e := 116) (kd := .string) (y := some ⟨tb, 0, none⟩) (by kernel_rfl) kStr h (by repeat (first | exact .head | apply Pick.tail)) (chkStr _) (tables_hit tb) rfl ?_
  refine get_pure (x := false) (by kernel_rfl) ?_
  refine AnyP.go fun _ => ?_
  refine CondP.no rfl ?_
  refine val_nil ?_
  refine get_ld h rfl (by repeat (first | exact .head | apply Pick.tail)) (by kernel_rfl) (x := some t) rfl ?_
  refine get_hit (K := 9) (e := 116) (kd := .string) (y := some ⟨tb, 0, none⟩) (by kernel_rfl) kStr h (by repeat (first | exact .head | apply Pick.tail)) (chkStr _) (tables_hit tb) rfl ?_
  refine val_nil ?_
  refine get_ld h rfl (by repeat (first | exact .head | apply Pick.tail)) (by kernel_rfl) (x := some ks) rfl ?_
  refine names_spec hS hnd hn (h.pick (by repeat (first | exact .head | apply Pick.tail))) fun l s w h1 h2 h3 h => ?_
  exact hk l s w h1 h2 h3 (h.sub (by repeat (first | exact Sub.done | refine Sub.take (by repeat (first | exact .head | apply Pick.tail)) ?_ | refine Sub.skip ?_)))

abbrev ROL : List Leaf := [.str, .int .i64, .int .i64, .int .i64, .int .i64, .slice]
/-- a row of an answer: by its place and bits -/
def rowC (p : Nat × Nat) : cellsDen ROL := (keyW p.2, 0, 0, 0, 1, slI p.1, ())
def encR (p : Nat × Nat) : List Value := cellsVal ROL (rowC p)
theorem encR_len (p : Nat × Nat) : (encR p).length = 6 := rfl
theorem ro_na (c : cellsDen ROL) : ∀ v ∈ cellsVal ROL c, notAgg v = true := by
  obtain ⟨a1, a2, a3, a4, a5, a6, _⟩ := c
  intro v hv
  have hv : v ∈ [Value.string a1, .int .i64 a2, .int .i64 a3, .int .i64 a4, .int .i64 a5, .slice a6.a a6.len a6.cap] := hv
  simp only [List.mem_cons, List.not_mem_nil, or_false] at hv
  rcases hv with rfl | rfl | rfl | rfl | rfl | rfl <;> rfl
theorem elemR : ElemT Tryz.prog 47 6 72 := ⟨(by kernel_rfl), (by kernel_rfl), (by kernel_rfl)⟩

set_option maxHeartbeats 4000000 in
theorem at91_spec {b t tb d ks kck : Nat} {pc : Pl} {kes : List KE} {k : Sl × Int × Unit → Pr} (hS : Stamped kes kck) (hnd : (kes.map (·.key)).Nodup) (hn : kes.length ≤ 20) (hp : 1 ≤ pc.cap) (h : Holds E w (starM verE kes :: (stL b t tb d ks pc (keysM kes) kck ++ L)))
    (hk : ∀ (ps : List (Nat × Nat)) s w', Rise (ps.map fun p => keyW p.2) → (∀ p ∈ ps, FOk p.2) → (∀ y, y ∈ ps.map (fun p => keyW p.2) ↔ ∃ q ∈ kes, q.key = y) → ps.length ≤ kes.length →
      Holds E w' (ownS 47 6 s (ps.flatMap encR) :: starM rowB ps :: starM verE kes :: (stL b t tb d ks pc (keysM kes) kck ++ L)) → k (s, 0, ()) w') :
    CallP Tryz.prog 91 #[.pointer (some ⟨b, 0, none⟩), ag QUL qA] (.tup [.leaf .slice, .leaf (.int .i64)]) k w := by
  refine rd91 _ _ _ _ ?_
  unfold sh91
  refine do_box h fun b3 w h => ?_
  refine get_ld h rfl (by repeat (first | exact .head | apply Pick.tail)) (by kernel_rfl) (x := fS) rfl ?_
  refine keys_spec (b := b) (t := t) (tb := tb) (d := d) (ks := ks) (kck := kck) (pc := pc) (kes := kes) (L := starM verE kes :: pto b3 (.cells (ag QUL qA).cells 43 (0, 0)) :: L) hS hnd hn (h.sub (by repeat (first | exact Sub.done | refine Sub.take (by repeat (first | exact .head | apply Pick.tail)) ?_ | refine Sub.skip ?_))) fun l s16 w hR hmem hlen h => ?_
  have hl := (h.pick (A := ownS 9 1 s16 (l.flatMap encS)) (by repeat (first | exact .head | apply Pick.tail))).reads_own.len_eq encS_len (by omega)
  refine LoopP.inv (fun (x : Sl × Int) w => ∃ (i : Nat) (ps : List (Nat × Nat)), x.2 = i ∧ i ≤ l.length ∧ ps.map (fun p => keyW p.2) = l.take i ∧ (∀ p ∈ ps, FOk p.2) ∧
      Holds E w (ownS 47 6 x.1 (ps.flatMap encR) :: starM rowB ps :: ownS 9 1 s16 (l.flatMap encS) :: starM verE kes :: pto b3 (.cells (ag QUL qA).cells 43 (0, 0)) :: (stL b t tb d ks pc (keysM kes) kck ++ L))) (fun x _ => l.length - x.2.toNat)
    ⟨0, [], rfl, by omega, rfl, fun p hp => (by cases hp), ?_⟩ ?_
  · have h := (h.starM_nil (f := rowB)).own_nil (T := 47) (sz := 6)
    exact h.sub (by repeat (first | exact Sub.done | refine Sub.take (by repeat (first | exact .head | apply Pick.tail)) ?_ | refine Sub.skip ?_))
  rintro next ⟨acc, _⟩ w ⟨i, ps, rfl, hi, hps, hok, h⟩ hnext
  refine AnyP.go fun _ => ?_
  have hplen : ps.length = i := by
    have := congrArg List.length hps
    rw [List.length_map, List.length_take] at this; omega
  have hacc := h.reads_own.len_eq encR_len (by omega)
  refine CondP.mk' (fun hc => ?_) (fun hc => ?_)
  · have hi' : i < l.length := by have := cT hc; simp only at this; omega
    have hO := (h.pick (A := ownS 9 1 s16 (l.flatMap encS)) (by repeat (first | exact .head | apply Pick.tail))).reads_own
    refine val_idx (i := i) hO encS_len (by omega) hi' (T := 204) (Te := 9) (by kernel_rfl) (by kernel_rfl) fun a0 ha0 hs0 => ?_
    refine get_one l[i] hO encS_len ha0 hi' (by kernel_rfl) rfl ?_
    refine get_ld h rfl (by repeat (first | exact .head | apply Pick.tail)) (by kernel_rfl) (x := fS) rfl ?_
    refine get_ld h rfl (by repeat (first | exact .head | apply Pick.tail)) (by kernel_rfl) (x := 1) rfl ?_
    obtain ⟨q, hq, hqk⟩ := (hmem l[i]).1 (List.getElem_mem hi')
    obtain ⟨j, hj, rfl⟩ := List.mem_iff_getElem.1 hq
    have h := (h.pick (A := starM verE kes) (by repeat (first | exact .head | apply Pick.tail))).starM_take hj
    obtain ⟨f, hf1, hf, h⟩ := verE.opened h
    have hkey : l[i] = keyW f := hqk.symm.trans hf1
    rw [hkey]
    refine at_spec (b := b) (t := t) (tb := tb) (d := d) (ks := ks) (pc := pc) (ms := keysM kes) (ck := kck) (s := kes[j].val) (L := starM verE (kes.eraseIdx j) :: ownS 47 6 acc (ps.flatMap encR) :: starM rowB ps :: ownS 9 1 s16 (l.flatMap encS) :: pto b3 (.cells (ag QUL qA).cells 43 (0, 0)) :: L) hf.1 hf.2 hp (find_of hnd hq hf1) (h.sub (by repeat (first | exact Sub.done | refine Sub.take (by repeat (first | exact .head | apply Pick.tail)) ?_ | refine Sub.skip ?_))) fun s29 w h => ?_
    have h := h.pick2 (A1 := verA kes[j].val f) (A2 := starM verE (kes.eraseIdx j)) (by repeat (first | exact .head | apply Pick.tail)) (by repeat (first | exact .head | apply Pick.tail))
    have h := (verE.closed (q := kes[j]) hf1 hf h).starM_put hj
    obtain ⟨p, a, rfl, hpc, h⟩ := toldA.opened (h.pick (A := toldA s29 f) (by repeat (first | exact .head | apply Pick.tail)))
    have h : Holds E w (ownS 47 6 acc (ps.flatMap encR) :: starM rowB ps :: cl a 27 (fcells f) :: opnA Tryz.prog p 50 [iv 0, iv 1, sv (slI a)] :: ownS 9 1 s16 (l.flatMap encS) :: starM verE kes :: pto b3 (.cells (ag QUL qA).cells 43 (0, 0)) :: (stL b t tb d ks pc (keysM kes) kck ++ L)) := h.sub (by repeat (first | exact Sub.done | refine Sub.take (by repeat (first | exact .head | apply Pick.tail)) ?_ | refine Sub.skip ?_))
    refine LoopP.inv (fun (x : Sl × Int) w => (x.2 = 0 ∧ x.1 = acc ∧ Holds E w (ownS 47 6 acc (ps.flatMap encR) :: starM rowB ps :: cl a 27 (fcells f) :: opnA Tryz.prog p 50 [iv 0, iv 1, sv (slI a)] :: ownS 9 1 s16 (l.flatMap encS) :: starM verE kes :: pto b3 (.cells (ag QUL qA).cells 43 (0, 0)) :: (stL b t tb d ks pc (keysM kes) kck ++ L))) ∨
        (x.2 = 1 ∧ Holds E w (ownS 47 6 x.1 ((ps ++ [(a, f)]).flatMap encR) :: starM rowB (ps ++ [(a, f)]) :: ownS 9 1 s16 (l.flatMap encS) :: starM verE kes :: pto b3 (.cells (ag QUL qA).cells 43 (0, 0)) :: (stL b t tb d ks pc (keysM kes) kck ++ L)))) (fun x _ => 1 - x.2.toNat)
      (.inl ⟨rfl, rfl, h⟩) ?_
    rintro next2 ⟨acc2, i2⟩ w (⟨rfl, rfl, h⟩ | ⟨rfl, h⟩) hnext2
    · refine AnyP.go fun _ => ?_
      refine CondP.yes rfl ?_
      have hr := (opnA.reads (sz := 3) rfl (h.pick (A := opnA Tryz.prog p 50 [iv 0, iv 1, sv (slI a)]) (by repeat (first | exact .head | apply Pick.tail))))
      refine val_index (T := 45) (Te := 50) (sz := 3) (by kernel_rfl) (by kernel_rfl) rfl (by simp) (by simp) ?_
      refine get_el_agg (ls := [.int .i64, .int .i64, .slice]) (0, 1, slI a, ()) hr rfl rfl (by kernel_rfl) (by kernel_rfl) (fun j _ => by simp; rfl) ?_
      refine do_alloc (z := .agg #[.int .i64 0, .int .i64 0, .slice none 0 0]) h (by kernel_rfl) fun b12 w h => ?_
      refine do_st_all h rfl .head (by kernel_rfl) (by rfl) (by rfl) (by simp [cellsVal, Leaf.val, notAgg]) ?_; intro w h
      refine get_agg (ls := [.int .i64, .int .i64]) (off := 0) (0, 1, ()) h.own (by kernel_rfl) (by kernel_rfl) rfl (fun j hj => ?_) ?_
      · have hj : j < 2 := hj
        rcases j with _ | _ | j
        · rfl
        · rfl
        · omega
      refine get_ld h rfl .head (by kernel_rfl) (x := slI a) rfl ?_
      refine do_build (Te := 47) (sz := 6) (len := 1) (encR (a, f)) h (by kernel_rfl) rfl fun t45 w ht45 h => ?_
      have r1 := h.reads_own
      refine do_append (Te2 := 47) (h.swap) (p := (by repeat (first | exact .head | apply Pick.tail))) (by kernel_rfl) (by kernel_rfl) elemR r1 (ro_na _) (by rw [hacc, ht45]; omega) (by rw [hacc, ht45]; omega) fun t46 w ht46 h => ?_
      refine hnext2 _ _ (.inr ⟨rfl, ?_⟩) (show 1 - (1 : Int).toNat < 1 - (0 : Int).toNat by decide)
      have e : ps.flatMap encR ++ encR (a, f) = (ps ++ [(a, f)]).flatMap encR := by rw [List.flatMap_append]; simp
      rw [e] at h
      have h := Holds.starM_snoc (f := rowB) (x := (a, f)) (h.pick2 (A1 := cl a 27 (fcells f)) (A2 := starM rowB ps) (by repeat (first | exact .head | apply Pick.tail)) (by repeat (first | exact .head | apply Pick.tail)))
      exact h.sub (by repeat (first | exact Sub.done | refine Sub.take (by repeat (first | exact .head | apply Pick.tail)) ?_ | refine Sub.skip ?_))
    · refine AnyP.go fun _ => ?_
      refine CondP.no rfl ?_
      have hw : IntKind.i64.wrap ((i : Int) + 1) = ((i + 1 : Nat) : Int) := by rw [IntWalk.i64_in _ (by omega)]; omega
      refine hnext _ _ ⟨i + 1, ps ++ [(a, f)], hw, by omega, ?_, fun p' hp' => ?_, h⟩ (by simp only [hw]; omega)
      · rw [List.map_append, hps, List.take_add_one, List.getElem?_eq_getElem hi', hkey]; rfl
      · rcases List.mem_append.1 hp' with hp' | hp'
        · exact hok p' hp'
        · simp only [List.mem_singleton] at hp'
          subst hp'; exact hf
  · have hi' : i = l.length := by have := cF hc; simp only at this; omega
    subst hi'
    rw [List.take_length] at hps
    refine hk ps acc w (by rw [hps]; exact hR) hok (by rw [hps]; exact hmem) (by omega) (h.sub (by repeat (first | exact Sub.done | refine Sub.take (by repeat (first | exact .head | apply Pick.tail)) ?_ | refine Sub.skip ?_)))
end
end Go.Proofs.YtelhccfmfnaegaaGreat
end

section
/- What is asked as of a time: exec.Run. -/
set_option linter.unusedSectionVars false
set_option linter.unusedVariables false
set_option maxRecDepth 10000
namespace Go.Proofs.YtelhccfmfnaegaaGreat
open Go Go.Sh
attribute [local irreducible] pto rob old ownS roS hstar hex hpure hemp opnA blks blk starM mapC pieceA verA entA verE toldA rowA
attribute [local instance] env0

/-- a row of an answer, its values made by an append -/
def rowCO (q : Pl × Nat) : cellsDen ROL := (keyW q.2, 0, 0, 0, 1, slO q.1, ())
def encO (q : Pl × Nat) : List Value := cellsVal ROL (rowCO q)
theorem encO_len (q : Pl × Nat) : (encO q).length = 6 := rfl
def rowO (q : Pl × Nat) : HProp := opnA Tryz.prog q.1 27 (fcells q.2)

section
variable {E w : World} {L L' : List HProp}
theorem kInt : KeyKind Tryz.prog 3 (.int .i64) := .int (by kernel_rfl)
theorem chkInt (n : Int) (b : Bool) : pureRun Tryz.prog (Instr.checkKey b 10000 3 (.int .i64 n)) = some () := pr_checkKey (k := .g (.int .i64 n)) kInt rfl
theorem kinds_hit : Instr.findNow (.int .i64) (iv 1) kindsM 0 = some (some (0, .agg #[.func (.func 90) #[] #[], .func (.func 91) #[] #[]])) := (by kernel_rfl)

set_option maxHeartbeats 4000000 in
theorem asOf_spec {b t tb d ks kck : Nat} {pc : Pl} {kes : List KE} {k : Sl × Int × Unit → Pr} (hS : Stamped kes kck) (hnd : (kes.map (·.key)).Nodup) (hn : kes.length ≤ 20) (hp : 1 ≤ pc.cap) (h : Holds E w (starM verE kes :: (stL b t tb d ks pc (keysM kes) kck ++ L)))
    (hk : ∀ (qs : List (Pl × Nat)) s w', Rise (qs.map fun q => keyW q.2) → (∀ q ∈ qs, FOk q.2) → (∀ y, y ∈ qs.map (fun q => keyW q.2) ↔ ∃ q ∈ kes, q.key = y) → qs.length ≤ kes.length →
      Holds E w' (ownS 47 6 s (qs.flatMap encO) :: starM rowO qs :: starM verE kes :: (stL b t tb d ks pc (keysM kes) kck ++ L)) → k (s, 0, ()) w') :
    CallP Tryz.prog 17 #[.pointer (some ⟨b, 0, none⟩), ag QUL qA] (.tup [.leaf .slice, .leaf (.int .i64)]) k w := by
  refine rd17 _ _ _ _ ?_
  unfold sh17
  refine do_box h fun b3 w h => ?_
  refine get_pure (x := false) (by kernel_rfl) ?_
  refine CondP.no rfl ?_
  refine get_ld_agg (ls := QUL) qA h rfl (by repeat (first | exact .head | apply Pick.tail)) (by kernel_rfl) (by kernel_rfl) ?_
  refine schema_spec (b := b) (t := t) (tb := tb) (d := d) (ks := ks) (pc := pc) (ms := keysM kes) (ck := kck) (L := starM verE kes :: pto b3 (.cells (ag QUL qA).cells 43 (0, 0)) :: L) hp (h.sub (by repeat (first | exact Sub.done | refine Sub.take (by repeat (first | exact .head | apply Pick.tail)) ?_ | refine Sub.skip ?_))) fun pc' w hp' h => ?_
  refine do_alloc (z := .agg #[.string ⟨#[]⟩, .slice none 0 0, .int .i64 0]) h (by kernel_rfl) fun b6 w h => ?_
  refine do_st_all h rfl .head (by kernel_rfl) (by rfl) (by rfl) (by simp [cellsVal, Leaf.val, notAgg]) ?_; intro w h
  refine CondP.no rfl ?_
  refine get_ld_agg (ls := QUL) qA h rfl (by repeat (first | exact .head | apply Pick.tail)) (by kernel_rfl) (by kernel_rfl) ?_
  refine get_ld_agg (ls := SCL) (fS, slO pc', 1, ()) h rfl (by repeat (first | exact .head | apply Pick.tail)) (by kernel_rfl) (by kernel_rfl) ?_
  refine rightA_spec hp' (h.pick (by repeat (first | exact .head | apply Pick.tail))) fun w h => ?_
  refine CondP.no rfl ?_
  refine DrewP.go h fun w h => ?_
  refine get_ld h rfl (by repeat (first | exact .head | apply Pick.tail)) (by kernel_rfl) (x := 1) rfl ?_
  refine get_ld_agg (ls := QUL) qA h rfl (by repeat (first | exact .head | apply Pick.tail)) (by kernel_rfl) (by kernel_rfl) ?_
  refine kinds_spec h fun mk w h => ?_
  refine chk_ld h rfl (by repeat (first | exact .head | apply Pick.tail)) (by kernel_rfl) rfl ?_
  refine chk_ld_agg h rfl (by repeat (first | exact .head | apply Pick.tail)) (by kernel_rfl) (by kernel_rfl) ?_
  refine get_hit (K := 3) (e := 123) (kd := .int .i64) (y := (.func (.func 90) #[] #[], .func (.func 91) #[] #[], ())) (by kernel_rfl) kInt h .head (chkInt _) kinds_hit rfl ?_
  refine ⟨.inr ⟨91, #[.pointer (some ⟨b, 0, none⟩), ag QUL qA], (by kernel_rfl), ?_⟩⟩
  refine at91_spec (b := b) (t := t) (tb := tb) (d := d) (ks := ks) (kck := kck) (pc := pc) (kes := kes) (L := pto mk (.map ⟨kindsM⟩ 4) :: pto b3 (.cells (ag QUL qA).cells 43 (0, 0)) :: L) hS hnd hn hp (h.sub (by repeat (first | exact Sub.done | refine Sub.take (by repeat (first | exact .head | apply Pick.tail)) ?_ | refine Sub.skip ?_))) fun ps s37 w hR hok hmem hlen h => ?_
  refine chk_ld h rfl (by repeat (first | exact .head | apply Pick.tail)) (by kernel_rfl) rfl ?_
  refine chk_hit (K := 3) (e := 123) (kd := .int .i64) (by kernel_rfl) kInt h (by repeat (first | exact .head | apply Pick.tail)) (chkInt _) kinds_hit ?_
  refine CondP.no rfl ?_
  refine JoinP.go ?_
  have hl := h.reads_own.len_eq encR_len (by omega)
  refine LoopP.inv (fun (x : Sl × Int) w => ∃ (i : Nat) (qs : List (Pl × Nat)), x.2 = i ∧ i ≤ ps.length ∧ qs.map (·.2) = (ps.map (·.2)).take i ∧
      Holds E w (ownS 47 6 x.1 (qs.flatMap encO) :: starM rowO qs :: ownS 47 6 s37 (ps.flatMap encR) :: starM rowB ps :: starM verE kes :: pto b3 (.cells (ag QUL qA).cells 43 (0, 0)) :: (stL b t tb d ks pc (keysM kes) kck ++ L))) (fun x _ => ps.length - x.2.toNat)
    ⟨0, [], rfl, by omega, rfl, ?_⟩ ?_
  · have h := (h.starM_nil (f := rowO)).own_nil (T := 47) (sz := 6)
    exact h.sub (by repeat (first | exact Sub.done | refine Sub.take (by repeat (first | exact .head | apply Pick.tail)) ?_ | refine Sub.skip ?_))
  rintro next ⟨acc, _⟩ w ⟨i, qs, rfl, hi, hqs, h⟩ hnext
  refine AnyP.go fun _ => ?_
  have hqlen : qs.length = i := by
    have := congrArg List.length hqs
    rw [List.length_map, List.length_take, List.length_map] at this; omega
  have hacc := h.reads_own.len_eq encO_len (by omega)
  refine CondP.mk' (fun hc => ?_) (fun hc => ?_)
  · have hi' : i < ps.length := by have := cT hc; simp only at this; omega
    have hf := hok ps[i] (List.getElem_mem hi')
    have hO := (h.pick (A := ownS 47 6 s37 (ps.flatMap encR)) (by repeat (first | exact .head | apply Pick.tail))).reads_own
    have hw : IntKind.i64.wrap ((i : Int) + 1) = ((i + 1 : Nat) : Int) := by rw [IntWalk.i64_in _ (by omega)]; omega
    refine JoinP.go ?_
    refine val_idx (i := i) hO encR_len (by omega) hi' (T := 30) (Te := 47) (by kernel_rfl) (by kernel_rfl) fun a0 ha0 hs0 => ?_
    refine get_elt (i := i) (rowC ps[i]) hO encR_len ha0 hi' (by kernel_rfl) (by kernel_rfl) rfl ?_
    refine do_alloc (z := .agg #[.string ⟨#[]⟩, .int .i64 0, .int .i64 0, .int .i64 0, .int .i64 0, .slice none 0 0]) h (by kernel_rfl) fun b11 w h => ?_
    refine do_st_all h rfl .head (by kernel_rfl) (by rfl) (by rfl) (ro_na _) ?_; intro w h
    refine JoinP.go ?_
    refine get_ld h rfl (by repeat (first | exact .head | apply Pick.tail)) (by kernel_rfl) (x := false) rfl ?_
    refine CondP.no rfl ?_
    refine AnyP.go fun _ => ?_
    refine get_ld h rfl (by repeat (first | exact .head | apply Pick.tail)) (by kernel_rfl) (x := 0) rfl ?_
    refine JoinP.go ?_
    refine CondP.no rfl ?_
    refine AnyP.go fun _ => ?_
    refine CondP.no rfl ?_
    refine get_ld_agg (ls := QUL) qA h rfl (by repeat (first | exact .head | apply Pick.tail)) (by kernel_rfl) (by kernel_rfl) ?_
    refine get_ld h rfl .head (by kernel_rfl) (x := slI ps[i].1) rfl ?_
    have h := (h.pick (A := starM rowB ps) (by repeat (first | exact .head | apply Pick.tail))).starM_take hi'
    refine pass_spec (s := nilS) (b := ps[i].2) hf.1 hf.2 (a := ps[i].1) h fun w h => ?_
    refine CondP.yes rfl ?_
    refine get_ld_agg (ls := QUL) qA h rfl (by repeat (first | exact .head | apply Pick.tail)) (by kernel_rfl) (by kernel_rfl) ?_
    refine get_ld h rfl (by repeat (first | exact .head | apply Pick.tail)) (by kernel_rfl) (x := slI ps[i].1) rfl ?_
    refine proj_spec (b := ps[i].2) (a := ps[i].1) hf.1 hf.2 h fun s79 w h => ?_
    obtain ⟨p, rfl, hpc, h⟩ := rowA.opened h
    have h := h.pick2 (A1 := cl ps[i].1 27 (fcells ps[i].2)) (A2 := starM rowB (ps.eraseIdx i)) (by repeat (first | exact .head | apply Pick.tail)) (by repeat (first | exact .head | apply Pick.tail))
    have h := Holds.starM_put (f := rowB) hi' h
    refine do_st h rfl (by repeat (first | exact .head | apply Pick.tail)) (by kernel_rfl) rfl rfl ?_; intro w h
    refine get_ld_agg (ls := ROL) (rowCO (p, ps[i].2)) h rfl .head (by kernel_rfl) (by kernel_rfl) ?_
    refine do_build (Te := 47) (sz := 6) (len := 1) (encO (p, ps[i].2)) h (by kernel_rfl) rfl fun t83 w ht83 h => ?_
    have r1 := h.reads_own
    refine do_append (Te2 := 47) (s := acc) (cs := qs.flatMap encO) h (p := (by repeat (first | exact .head | apply Pick.tail))) (by kernel_rfl) (by kernel_rfl) elemR r1 (ro_na _) (by rw [hacc, ht83]; omega) (by rw [hacc, ht83]; omega) fun t84 w ht84 h => ?_
    refine AnyP.go fun _ => ?_
    have e : qs.flatMap encO ++ encO (p, ps[i].2) = (qs ++ [(p, ps[i].2)]).flatMap encO := by rw [List.flatMap_append]; simp
    rw [e] at h
    have h := Holds.starM_snoc (f := rowO) (x := (p, ps[i].2)) (h.pick2 (A1 := opnA Tryz.prog p 27 (fcells ps[i].2)) (A2 := starM rowO qs) (by repeat (first | exact .head | apply Pick.tail)) (by repeat (first | exact .head | apply Pick.tail)))
    refine hnext _ _ ⟨i + 1, qs ++ [(p, ps[i].2)], hw, by omega, ?_, h.sub (by repeat (first | exact Sub.done | refine Sub.take (by repeat (first | exact .head | apply Pick.tail)) ?_ | refine Sub.skip ?_))⟩ (by simp only [hw]; omega)
    rw [List.map_append, hqs, List.take_add_one, List.getElem?_map, List.getElem?_eq_getElem hi']; rfl
  · have hi' : i = ps.length := by have := cF hc; simp only at this; omega
    subst hi'
    have hqs2 : qs.map (·.2) = ps.map (·.2) := by
      rw [hqs, List.take_of_length_le (by simp)]
    have e : qs.map (fun q => keyW q.2) = ps.map fun p => keyW p.2 := by
      have := congrArg (List.map keyW) hqs2
      rw [List.map_map, List.map_map] at this
      exact this
    refine AnyP.go fun _ => ?_
    refine hk qs acc w (by rw [e]; exact hR) (fun q hq => ?_) (by rw [e]; exact hmem) (by omega) (h.sub (by repeat (first | exact Sub.done | refine Sub.take (by repeat (first | exact .head | apply Pick.tail)) ?_ | refine Sub.skip ?_)))
    have : q.2 ∈ ps.map (·.2) := by rw [← hqs2]; exact List.mem_map.2 ⟨q, hq, rfl⟩
    obtain ⟨p, hp1, hp2⟩ := List.mem_map.1 this
    rw [← hp2]; exact hok p hp1
end
end Go.Proofs.YtelhccfmfnaegaaGreat
end
