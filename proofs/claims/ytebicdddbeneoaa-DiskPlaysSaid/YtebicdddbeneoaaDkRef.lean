/- The reference beside the disk: what its functions do. -/
import Derived.Test.YtebicdddbeneoaaDkStays
import Derived.Test.YtebicdddbeneoaaDkCopy
namespace Go.Proofs.Ytebicdddbeneoaa
open Go.Sh
attribute [local irreducible] pto rob old ownS roS hstar hex hpure hemp mapB Disk

def rcells (sd sc : Sl) (D : DSt) : Array Value :=
  #[.slice sd.a sd.len sd.cap, .slice sc.a sc.len sc.cap, .int .i64 D.writes, .int .i64 D.flushes, .bool D.fused, .int .i64 D.left]
def RefB (r : Nat) (D : DSt) (dk : List ByteArray) : HProp := hex fun g : Sl × Sl =>
  hstar (pto r (.cells (rcells g.1 g.2 D) 58 (0, 0))) (hstar (ownS 9 1 g.1 (strs dk)) (ownS 68 2 g.2 (D.cache.flatMap encW)))

section
variable {E w : World} {L L' : List HProp}
theorem RefB.opened {r : Nat} {D : DSt} {dk : List ByteArray} (h : Holds E w (RefB r D dk :: L)) :
    ∃ sd sc, Holds E w (pto r (.cells (rcells sd sc D) 58 (0, 0)) :: ownS 9 1 sd (strs dk) :: ownS 68 2 sc (D.cache.flatMap encW) :: L) := by
  obtain ⟨⟨sd, sc⟩, h⟩ := h.ex_out
  exact ⟨sd, sc, h.star3_out⟩
theorem RefB.closed {r : Nat} {sd sc : Sl} {D : DSt} {dk : List ByteArray} (h : Holds E w (pto r (.cells (rcells sd sc D) 58 (0, 0)) :: ownS 9 1 sd (strs dk) :: ownS 68 2 sc (D.cache.flatMap encW) :: L)) : Holds E w (RefB r D dk :: L) :=
  Holds.ex_in (sd, sc) h.star3_in
end
theorem RefB.congr (r : Nat) (D : DSt) (m : MS) (dk : List ByteArray) : RefB r { D with m := m } dk = RefB r D dk := rfl
attribute [local irreducible] RefB

theorem elemR : ElemT Try.prog 68 2 24 := ⟨(by kernel_rfl), (by kernel_rfl), (by kernel_rfl)⟩

section
variable {E w : World} {L : List HProp} {r : Nat} {D : DSt} {dk : List ByteArray}

theorem RBurn_spec {k : Bool → Pr} (h : Holds E w (RefB r D dk :: L)) (h1 : (D.fused && D.left == 0) = true → ∀ w', Holds E w' (RefB r D dk :: L) → k true w')
    (h2 : (D.fused && D.left == 0) = false → ∀ w', Holds E w' (RefB r { D with left := IntKind.i64.wrap (D.left - 1) } dk :: L) → k false w') : CallP Try.prog 32 #[.pointer (some ⟨r, 0, none⟩)] tBool k w := by
  obtain ⟨sd, sc, h⟩ := RefB.opened h
  refine rd32 _ _ _ ?_
  unfold sh32
  repeat (first | refine val_nil ?_ | refine get_ld h rfl (by first | exact .head | exact (.tail .head) | exact (.tail (.tail .head)) | exact (.tail (.tail (.tail .head))) | exact (.tail (.tail (.tail (.tail .head)))) | exact (.tail (.tail (.tail (.tail (.tail .head))))) | exact (.tail (.tail (.tail (.tail (.tail (.tail .head)))))) | exact (.tail (.tail (.tail (.tail (.tail (.tail (.tail .head))))))) | exact (.tail (.tail (.tail (.tail (.tail (.tail (.tail (.tail .head))))))))) (by kernel_rfl) rfl ?_ | (refine do_st h rfl (by first | exact .head | exact (.tail .head) | exact (.tail (.tail .head)) | exact (.tail (.tail (.tail .head))) | exact (.tail (.tail (.tail (.tail .head)))) | exact (.tail (.tail (.tail (.tail (.tail .head))))) | exact (.tail (.tail (.tail (.tail (.tail (.tail .head)))))) | exact (.tail (.tail (.tail (.tail (.tail (.tail (.tail .head))))))) | exact (.tail (.tail (.tail (.tail (.tail (.tail (.tail (.tail .head))))))))) (by kernel_rfl) rfl rfl ?_; intro w h) | (refine DrewP.go h ?_; intro w h) | (refine AnyP.go ?_; intro _) | refine chk_ld h rfl (by first | exact .head | exact (.tail .head) | exact (.tail (.tail .head)) | exact (.tail (.tail (.tail .head))) | exact (.tail (.tail (.tail (.tail .head)))) | exact (.tail (.tail (.tail (.tail (.tail .head))))) | exact (.tail (.tail (.tail (.tail (.tail (.tail .head)))))) | exact (.tail (.tail (.tail (.tail (.tail (.tail (.tail .head))))))) | exact (.tail (.tail (.tail (.tail (.tail (.tail (.tail (.tail .head))))))))) (by kernel_rfl) rfl ?_)
  refine JoinP.via (fun b w => b = (D.fused && D.left == 0) ∧ Holds E w (pto r (.cells (rcells sd sc D) 58 (0, 0)) :: ownS 9 1 sd (strs dk) :: ownS 68 2 sc (D.cache.flatMap encW) :: L)) ?_ fun J hJ => CondP.mk' (fun hb => ?_) (fun hb => ?_)
  · rintro b w ⟨rfl, h⟩
    refine AnyP.go fun _ => CondP.mk' (fun hb => h1 hb _ (RefB.closed h)) (fun hb => ?_)
    repeat (first | refine val_nil ?_ | refine get_ld h rfl (by first | exact .head | exact (.tail .head) | exact (.tail (.tail .head)) | exact (.tail (.tail (.tail .head))) | exact (.tail (.tail (.tail (.tail .head)))) | exact (.tail (.tail (.tail (.tail (.tail .head))))) | exact (.tail (.tail (.tail (.tail (.tail (.tail .head)))))) | exact (.tail (.tail (.tail (.tail (.tail (.tail (.tail .head))))))) | exact (.tail (.tail (.tail (.tail (.tail (.tail (.tail (.tail .head))))))))) (by kernel_rfl) rfl ?_ | (refine do_st h rfl (by first | exact .head | exact (.tail .head) | exact (.tail (.tail .head)) | exact (.tail (.tail (.tail .head))) | exact (.tail (.tail (.tail (.tail .head)))) | exact (.tail (.tail (.tail (.tail (.tail .head))))) | exact (.tail (.tail (.tail (.tail (.tail (.tail .head)))))) | exact (.tail (.tail (.tail (.tail (.tail (.tail (.tail .head))))))) | exact (.tail (.tail (.tail (.tail (.tail (.tail (.tail (.tail .head))))))))) (by kernel_rfl) rfl rfl ?_; intro w h) | (refine DrewP.go h ?_; intro w h) | (refine AnyP.go ?_; intro _) | refine chk_ld h rfl (by first | exact .head | exact (.tail .head) | exact (.tail (.tail .head)) | exact (.tail (.tail (.tail .head))) | exact (.tail (.tail (.tail (.tail .head)))) | exact (.tail (.tail (.tail (.tail (.tail .head))))) | exact (.tail (.tail (.tail (.tail (.tail (.tail .head)))))) | exact (.tail (.tail (.tail (.tail (.tail (.tail (.tail .head))))))) | exact (.tail (.tail (.tail (.tail (.tail (.tail (.tail (.tail .head))))))))) (by kernel_rfl) rfl ?_)
    exact h2 hb _ (RefB.closed (sd := sd) (sc := sc) h)
  · repeat (first | refine val_nil ?_ | refine get_ld h rfl (by first | exact .head | exact (.tail .head) | exact (.tail (.tail .head)) | exact (.tail (.tail (.tail .head))) | exact (.tail (.tail (.tail (.tail .head)))) | exact (.tail (.tail (.tail (.tail (.tail .head))))) | exact (.tail (.tail (.tail (.tail (.tail (.tail .head)))))) | exact (.tail (.tail (.tail (.tail (.tail (.tail (.tail .head))))))) | exact (.tail (.tail (.tail (.tail (.tail (.tail (.tail (.tail .head))))))))) (by kernel_rfl) rfl ?_ | (refine do_st h rfl (by first | exact .head | exact (.tail .head) | exact (.tail (.tail .head)) | exact (.tail (.tail (.tail .head))) | exact (.tail (.tail (.tail (.tail .head)))) | exact (.tail (.tail (.tail (.tail (.tail .head))))) | exact (.tail (.tail (.tail (.tail (.tail (.tail .head)))))) | exact (.tail (.tail (.tail (.tail (.tail (.tail (.tail .head))))))) | exact (.tail (.tail (.tail (.tail (.tail (.tail (.tail (.tail .head))))))))) (by kernel_rfl) rfl rfl ?_; intro w h) | (refine DrewP.go h ?_; intro w h) | (refine AnyP.go ?_; intro _) | refine chk_ld h rfl (by first | exact .head | exact (.tail .head) | exact (.tail (.tail .head)) | exact (.tail (.tail (.tail .head))) | exact (.tail (.tail (.tail (.tail .head)))) | exact (.tail (.tail (.tail (.tail (.tail .head))))) | exact (.tail (.tail (.tail (.tail (.tail (.tail .head)))))) | exact (.tail (.tail (.tail (.tail (.tail (.tail (.tail .head))))))) | exact (.tail (.tail (.tail (.tail (.tail (.tail (.tail (.tail .head))))))))) (by kernel_rfl) rfl ?_)
    exact hJ _ _ ⟨by rw [hb]; rfl, h⟩
  · exact hJ _ _ ⟨by rw [hb]; rfl, h⟩

theorem right_two {n x : Int} (h : rightM n x ≠ 0) : rightM n x = 2 := by
  unfold rightM at h ⊢
  by_cases hx : x < 0 ∨ n ≤ x
  · rw [if_pos hx]
  · rw [if_neg hx] at h; exact absurd rfl h

/-- the reference's first cut: the number's range -/
theorem RWrite_spec {x : Int} {s : ByteArray} {k : Int → Pr} (h : Holds E w (RefB r D dk :: L)) (hn : (dk.length : Int) = D.n) (hcl : D.cache.length ≤ 1073741824)
    (hk : ∀ w', Holds E w' (RefB r (wr D x s).2 dk :: L) → k (wr D x s).1 w') : CallP Try.prog 20 #[.pointer (some ⟨r, 0, none⟩), .int .i64 x, .string s] tInt k w := by
  obtain ⟨sd, sc, h⟩ := RefB.opened h
  refine rd20 _ _ _ _ _ ?_
  unfold sh20
  have hld := (h.pick (.tail .head)).own_len
  rw [strs_len] at hld
  have hlc := (h.pick (.tail (.tail .head))).own_len
  rw [flat_len encW 2 encW_len] at hlc
  refine JoinP.via (fun b w => (b = true ↔ rightM D.n x ≠ 0) ∧ Holds E w (pto r (.cells (rcells sd sc D) 58 (0, 0)) :: ownS 9 1 sd (strs dk) :: ownS 68 2 sc (D.cache.flatMap encW) :: L)) ?_ fun J hJ => CondP.mk' (fun hb => ?_) (fun hb => ?_)
  · rintro b w ⟨hb, h⟩
    refine AnyP.go fun _ => CondP.mk' (fun hb1 => ?_) (fun hb1 => ?_)
    · have hr := hb.1 hb1
      have e : wr D x s = (rightM D.n x, D) := by rw [wr, if_pos hr]
      have e2 := right_two hr
      rw [e, e2] at hk
      exact hk _ (RefB.closed h)
    · have hr : ¬ rightM D.n x ≠ 0 := fun hh => by rw [hb.2 hh] at hb1; cases hb1
      refine CondP.mk' (fun h1 => ?_) (fun h1 => ?_)
      · have h1 : 128 < s.size := by have := cT h1; omega
        have e : wr D x s = (19, D) := by rw [wr, if_neg hr, if_pos h1]
        rw [e] at hk
        exact hk _ (RefB.closed h)
      · have h1 : ¬ 128 < s.size := by have := cF h1; omega
        refine RBurn_spec (RefB.closed h) (fun h2 w h => ?_) (fun h2 w h => ?_)
        · have e : wr D x s = (6, D) := by rw [wr, if_neg hr, if_neg h1, if_pos h2]
          rw [e] at hk
          exact CondP.yes rfl (hk _ h)
        · have e : wr D x s = (0, { D with left := IntKind.i64.wrap (D.left - 1), cache := D.cache ++ [(x, pad s)], writes := IntKind.i64.wrap (D.writes + 1) }) := by
            rw [wr, if_neg hr, if_neg h1, if_neg (by simp [h2])]
          rw [e] at hk
          refine CondP.no rfl ?_
          obtain ⟨sd, sc, h⟩ := RefB.opened h
          have hlc := (h.pick (.tail (.tail .head))).own_len
          rw [flat_len encW 2 encW_len] at hlc
          have hc2 : sc.len = D.cache.length := by have := hlc.1; simp only at this; omega
          repeat (first | refine val_nil ?_ | refine get_ld h rfl (by first | exact .head | exact (.tail .head) | exact (.tail (.tail .head)) | exact (.tail (.tail (.tail .head))) | exact (.tail (.tail (.tail (.tail .head)))) | exact (.tail (.tail (.tail (.tail (.tail .head))))) | exact (.tail (.tail (.tail (.tail (.tail (.tail .head)))))) | exact (.tail (.tail (.tail (.tail (.tail (.tail (.tail .head))))))) | exact (.tail (.tail (.tail (.tail (.tail (.tail (.tail (.tail .head))))))))) (by kernel_rfl) rfl ?_ | (refine do_st h rfl (by first | exact .head | exact (.tail .head) | exact (.tail (.tail .head)) | exact (.tail (.tail (.tail .head))) | exact (.tail (.tail (.tail (.tail .head)))) | exact (.tail (.tail (.tail (.tail (.tail .head))))) | exact (.tail (.tail (.tail (.tail (.tail (.tail .head)))))) | exact (.tail (.tail (.tail (.tail (.tail (.tail (.tail .head))))))) | exact (.tail (.tail (.tail (.tail (.tail (.tail (.tail (.tail .head))))))))) (by kernel_rfl) rfl rfl ?_; intro w h) | (refine DrewP.go h ?_; intro w h) | (refine AnyP.go ?_; intro _) | refine chk_ld h rfl (by first | exact .head | exact (.tail .head) | exact (.tail (.tail .head)) | exact (.tail (.tail (.tail .head))) | exact (.tail (.tail (.tail (.tail .head)))) | exact (.tail (.tail (.tail (.tail (.tail .head))))) | exact (.tail (.tail (.tail (.tail (.tail (.tail .head)))))) | exact (.tail (.tail (.tail (.tail (.tail (.tail (.tail .head))))))) | exact (.tail (.tail (.tail (.tail (.tail (.tail (.tail (.tail .head))))))))) (by kernel_rfl) rfl ?_)
          refine Pad_spec h (by omega) ?_
          repeat (first | refine val_nil ?_ | refine get_ld h rfl (by first | exact .head | exact (.tail .head) | exact (.tail (.tail .head)) | exact (.tail (.tail (.tail .head))) | exact (.tail (.tail (.tail (.tail .head)))) | exact (.tail (.tail (.tail (.tail (.tail .head))))) | exact (.tail (.tail (.tail (.tail (.tail (.tail .head)))))) | exact (.tail (.tail (.tail (.tail (.tail (.tail (.tail .head))))))) | exact (.tail (.tail (.tail (.tail (.tail (.tail (.tail (.tail .head))))))))) (by kernel_rfl) rfl ?_ | (refine do_st h rfl (by first | exact .head | exact (.tail .head) | exact (.tail (.tail .head)) | exact (.tail (.tail (.tail .head))) | exact (.tail (.tail (.tail (.tail .head)))) | exact (.tail (.tail (.tail (.tail (.tail .head))))) | exact (.tail (.tail (.tail (.tail (.tail (.tail .head)))))) | exact (.tail (.tail (.tail (.tail (.tail (.tail (.tail .head))))))) | exact (.tail (.tail (.tail (.tail (.tail (.tail (.tail (.tail .head))))))))) (by kernel_rfl) rfl rfl ?_; intro w h) | (refine DrewP.go h ?_; intro w h) | (refine AnyP.go ?_; intro _) | refine chk_ld h rfl (by first | exact .head | exact (.tail .head) | exact (.tail (.tail .head)) | exact (.tail (.tail (.tail .head))) | exact (.tail (.tail (.tail (.tail .head)))) | exact (.tail (.tail (.tail (.tail (.tail .head))))) | exact (.tail (.tail (.tail (.tail (.tail (.tail .head)))))) | exact (.tail (.tail (.tail (.tail (.tail (.tail (.tail .head))))))) | exact (.tail (.tail (.tail (.tail (.tail (.tail (.tail (.tail .head))))))))) (by kernel_rfl) rfl ?_)
          refine do_build (Te := 68) (sz := 2) [.int .i64 x, .string (pad s)] h (by kernel_rfl) rfl fun t w ht h => ?_
          repeat (first | refine val_nil ?_ | refine get_ld h rfl (by first | exact .head | exact (.tail .head) | exact (.tail (.tail .head)) | exact (.tail (.tail (.tail .head))) | exact (.tail (.tail (.tail (.tail .head)))) | exact (.tail (.tail (.tail (.tail (.tail .head))))) | exact (.tail (.tail (.tail (.tail (.tail (.tail .head)))))) | exact (.tail (.tail (.tail (.tail (.tail (.tail (.tail .head))))))) | exact (.tail (.tail (.tail (.tail (.tail (.tail (.tail (.tail .head))))))))) (by kernel_rfl) rfl ?_ | (refine do_st h rfl (by first | exact .head | exact (.tail .head) | exact (.tail (.tail .head)) | exact (.tail (.tail (.tail .head))) | exact (.tail (.tail (.tail (.tail .head)))) | exact (.tail (.tail (.tail (.tail (.tail .head))))) | exact (.tail (.tail (.tail (.tail (.tail (.tail .head)))))) | exact (.tail (.tail (.tail (.tail (.tail (.tail (.tail .head))))))) | exact (.tail (.tail (.tail (.tail (.tail (.tail (.tail (.tail .head))))))))) (by kernel_rfl) rfl rfl ?_; intro w h) | (refine DrewP.go h ?_; intro w h) | (refine AnyP.go ?_; intro _) | refine chk_ld h rfl (by first | exact .head | exact (.tail .head) | exact (.tail (.tail .head)) | exact (.tail (.tail (.tail .head))) | exact (.tail (.tail (.tail (.tail .head)))) | exact (.tail (.tail (.tail (.tail (.tail .head))))) | exact (.tail (.tail (.tail (.tail (.tail (.tail .head)))))) | exact (.tail (.tail (.tail (.tail (.tail (.tail (.tail .head))))))) | exact (.tail (.tail (.tail (.tail (.tail (.tail (.tail (.tail .head))))))))) (by kernel_rfl) rfl ?_)
          refine do_append (Te2 := 68) h (.tail (.tail (.tail .head))) (by kernel_rfl) (by kernel_rfl) elemR h.reads_own ?_ ?_ ?_ ?_
          · intro v hv; simp at hv; rcases hv with rfl | rfl <;> rfl
          · rw [ht, hc2]; omega
          · rw [ht, hc2]; omega
          intro s' w hs' h
          repeat (first | refine val_nil ?_ | refine get_ld h rfl (by first | exact .head | exact (.tail .head) | exact (.tail (.tail .head)) | exact (.tail (.tail (.tail .head))) | exact (.tail (.tail (.tail (.tail .head)))) | exact (.tail (.tail (.tail (.tail (.tail .head))))) | exact (.tail (.tail (.tail (.tail (.tail (.tail .head)))))) | exact (.tail (.tail (.tail (.tail (.tail (.tail (.tail .head))))))) | exact (.tail (.tail (.tail (.tail (.tail (.tail (.tail (.tail .head))))))))) (by kernel_rfl) rfl ?_ | (refine do_st h rfl (by first | exact .head | exact (.tail .head) | exact (.tail (.tail .head)) | exact (.tail (.tail (.tail .head))) | exact (.tail (.tail (.tail (.tail .head)))) | exact (.tail (.tail (.tail (.tail (.tail .head))))) | exact (.tail (.tail (.tail (.tail (.tail (.tail .head)))))) | exact (.tail (.tail (.tail (.tail (.tail (.tail (.tail .head))))))) | exact (.tail (.tail (.tail (.tail (.tail (.tail (.tail (.tail .head))))))))) (by kernel_rfl) rfl rfl ?_; intro w h) | (refine DrewP.go h ?_; intro w h) | (refine AnyP.go ?_; intro _) | refine chk_ld h rfl (by first | exact .head | exact (.tail .head) | exact (.tail (.tail .head)) | exact (.tail (.tail (.tail .head))) | exact (.tail (.tail (.tail (.tail .head)))) | exact (.tail (.tail (.tail (.tail (.tail .head))))) | exact (.tail (.tail (.tail (.tail (.tail (.tail .head)))))) | exact (.tail (.tail (.tail (.tail (.tail (.tail (.tail .head))))))) | exact (.tail (.tail (.tail (.tail (.tail (.tail (.tail (.tail .head))))))))) (by kernel_rfl) rfl ?_)
          refine hk _ (RefB.closed (sd := sd) (sc := s') (h.sub (M := pto r _ :: ownS 9 1 sd (strs dk) :: ownS 68 2 s' ((D.cache ++ [(x, pad s)]).flatMap encW) :: L) ?_))
          have e2 : (D.cache ++ [(x, pad s)]).flatMap encW = D.cache.flatMap encW ++ [.int .i64 x, .string (pad s)] := by simp [encW]
          rw [e2]
          exact (by repeat (first | exact Sub.done | refine Sub.take (by first | exact .head | exact (.tail .head) | exact (.tail (.tail .head)) | exact (.tail (.tail (.tail .head))) | exact (.tail (.tail (.tail (.tail .head)))) | exact (.tail (.tail (.tail (.tail (.tail .head))))) | exact (.tail (.tail (.tail (.tail (.tail (.tail .head)))))) | exact (.tail (.tail (.tail (.tail (.tail (.tail (.tail .head))))))) | exact (.tail (.tail (.tail (.tail (.tail (.tail (.tail (.tail .head))))))))) ?_ | refine Sub.skip ?_))
  · have hb := cT hb
    exact hJ _ _ ⟨by rw [rightM, if_pos (.inl hb)]; simp, h⟩
  · have hb := cF hb
    repeat (first | refine val_nil ?_ | refine get_ld h rfl (by first | exact .head | exact (.tail .head) | exact (.tail (.tail .head)) | exact (.tail (.tail (.tail .head))) | exact (.tail (.tail (.tail (.tail .head)))) | exact (.tail (.tail (.tail (.tail (.tail .head))))) | exact (.tail (.tail (.tail (.tail (.tail (.tail .head)))))) | exact (.tail (.tail (.tail (.tail (.tail (.tail (.tail .head))))))) | exact (.tail (.tail (.tail (.tail (.tail (.tail (.tail (.tail .head))))))))) (by kernel_rfl) rfl ?_ | (refine do_st h rfl (by first | exact .head | exact (.tail .head) | exact (.tail (.tail .head)) | exact (.tail (.tail (.tail .head))) | exact (.tail (.tail (.tail (.tail .head)))) | exact (.tail (.tail (.tail (.tail (.tail .head))))) | exact (.tail (.tail (.tail (.tail (.tail (.tail .head)))))) | exact (.tail (.tail (.tail (.tail (.tail (.tail (.tail .head))))))) | exact (.tail (.tail (.tail (.tail (.tail (.tail (.tail (.tail .head))))))))) (by kernel_rfl) rfl rfl ?_; intro w h) | (refine DrewP.go h ?_; intro w h) | (refine AnyP.go ?_; intro _) | refine chk_ld h rfl (by first | exact .head | exact (.tail .head) | exact (.tail (.tail .head)) | exact (.tail (.tail (.tail .head))) | exact (.tail (.tail (.tail (.tail .head)))) | exact (.tail (.tail (.tail (.tail (.tail .head))))) | exact (.tail (.tail (.tail (.tail (.tail (.tail .head)))))) | exact (.tail (.tail (.tail (.tail (.tail (.tail (.tail .head))))))) | exact (.tail (.tail (.tail (.tail (.tail (.tail (.tail (.tail .head))))))))) (by kernel_rfl) rfl ?_)
    refine hJ _ _ ⟨?_, h⟩
    rw [decide_eq_true_iff, rightM]
    by_cases hx : x < 0 ∨ D.n ≤ x
    · rw [if_pos hx]; simp; omega
    · rw [if_neg hx]; simp; omega
/-- what the reference's sectors are to the disk's -/
def RelM (m : MS) (dk : List ByteArray) : Prop := ∀ (i : Nat) (h : i < dk.length), dk[i] = base m i

theorem RRead_spec {x : Int} {k : (ByteArray × Int × Unit) → Pr} (h : Holds E w (RefB r D dk :: L)) (hn : (dk.length : Int) = D.n) (hr : RelM D.m dk) (hcl : D.cache.length ≤ 1073741824)
    (hk : ∀ w', Holds E w' (RefB r D dk :: L) → k (if rightM D.n x ≠ 0 then (⟨#[]⟩, rightM D.n x, ()) else (rdD D x, 0, ())) w') :
    CallP Try.prog 21 #[.pointer (some ⟨r, 0, none⟩), .int .i64 x] (.tup [.leaf .str, .leaf (.int .i64)]) k w := by
  obtain ⟨sd, sc, h⟩ := RefB.opened h
  refine rd21 _ _ _ _ ?_
  unfold sh21
  have hld := (h.pick (.tail .head)).own_len
  rw [strs_len] at hld
  have hlc := (h.pick (.tail (.tail .head))).own_len
  rw [flat_len encW 2 encW_len] at hlc
  have hc2 : sc.len = D.cache.length := by omega
  have hd2 : sd.len = dk.length := by omega
  refine JoinP.via (fun b w => (b = true ↔ rightM D.n x ≠ 0) ∧ Holds E w (pto r (.cells (rcells sd sc D) 58 (0, 0)) :: ownS 9 1 sd (strs dk) :: ownS 68 2 sc (D.cache.flatMap encW) :: L)) ?_ fun J hJ => CondP.mk' (fun hb => ?_) (fun hb => ?_)
  · rintro b w ⟨hb, h⟩
    refine AnyP.go fun _ => CondP.mk' (fun hb1 => ?_) (fun hb1 => ?_)
    · have hr := hb.1 hb1
      have e2 := right_two hr
      rw [if_pos hr, e2] at hk
      exact hk _ (RefB.closed h)
    · have hrt : ¬ rightM D.n x ≠ 0 := fun hh => by rw [hb.2 hh] at hb1; cases hb1
      rw [if_neg hrt] at hk
      have hx : 0 ≤ x ∧ x < D.n := by
        unfold rightM at hrt
        by_cases hx : x < 0 ∨ D.n ≤ x
        · rw [if_pos hx] at hrt; exact absurd (by decide) hrt
        · omega
      repeat (first | refine val_nil ?_ | refine get_ld h rfl (by first | exact .head | exact (.tail .head) | exact (.tail (.tail .head)) | exact (.tail (.tail (.tail .head))) | exact (.tail (.tail (.tail (.tail .head)))) | exact (.tail (.tail (.tail (.tail (.tail .head))))) | exact (.tail (.tail (.tail (.tail (.tail (.tail .head)))))) | exact (.tail (.tail (.tail (.tail (.tail (.tail (.tail .head))))))) | exact (.tail (.tail (.tail (.tail (.tail (.tail (.tail (.tail .head))))))))) (by kernel_rfl) rfl ?_ | (refine do_st h rfl (by first | exact .head | exact (.tail .head) | exact (.tail (.tail .head)) | exact (.tail (.tail (.tail .head))) | exact (.tail (.tail (.tail (.tail .head)))) | exact (.tail (.tail (.tail (.tail (.tail .head))))) | exact (.tail (.tail (.tail (.tail (.tail (.tail .head)))))) | exact (.tail (.tail (.tail (.tail (.tail (.tail (.tail .head))))))) | exact (.tail (.tail (.tail (.tail (.tail (.tail (.tail (.tail .head))))))))) (by kernel_rfl) rfl rfl ?_; intro w h) | (refine DrewP.go h ?_; intro w h) | (refine AnyP.go ?_; intro _) | refine chk_ld h rfl (by first | exact .head | exact (.tail .head) | exact (.tail (.tail .head)) | exact (.tail (.tail (.tail .head))) | exact (.tail (.tail (.tail (.tail .head)))) | exact (.tail (.tail (.tail (.tail (.tail .head))))) | exact (.tail (.tail (.tail (.tail (.tail (.tail .head)))))) | exact (.tail (.tail (.tail (.tail (.tail (.tail (.tail .head))))))) | exact (.tail (.tail (.tail (.tail (.tail (.tail (.tail (.tail .head))))))))) (by kernel_rfl) rfl ?_)
      rw [wrap_in _ (by simp only [hc2]; omega)]
      refine LoopP.inv (fun s w => -1 ≤ s ∧ s < D.cache.length ∧ lastW (D.cache.drop (s + 1).toNat) x = none ∧ Holds E w (pto r (.cells (rcells sd sc D) 58 (0, 0)) :: ownS 9 1 sd (strs dk) :: ownS 68 2 sc (D.cache.flatMap encW) :: L))
        (fun s _ => (s + 1).toNat) ⟨by simp only [hc2]; omega, by simp only [hc2]; omega, ?_, h⟩ ?_
      · have : ((sc.len : Int) - 1 + 1).toNat = D.cache.length := by rw [hc2]; omega
        rw [this, List.drop_length]; rfl
      rintro next s w ⟨hs0, hs1, hs2, h⟩ hnext
      refine AnyP.go fun _ => CondP.mk' (fun h1 => ?_) (fun h1 => ?_)
      · have h1 : 0 ≤ s := by have := cT h1; omega
        obtain ⟨i, rfl⟩ := Int.eq_ofNat_of_zero_le h1
        have h1 : i < D.cache.length := by omega
        have hO := h.sub (M := ownS 68 2 sc (D.cache.flatMap encW) :: _) (by repeat (first | exact Sub.done | refine Sub.take (by first | exact .head | exact (.tail .head) | exact (.tail (.tail .head)) | exact (.tail (.tail (.tail .head))) | exact (.tail (.tail (.tail (.tail .head)))) | exact (.tail (.tail (.tail (.tail (.tail .head))))) | exact (.tail (.tail (.tail (.tail (.tail (.tail .head)))))) | exact (.tail (.tail (.tail (.tail (.tail (.tail (.tail .head))))))) | exact (.tail (.tail (.tail (.tail (.tail (.tail (.tail (.tail .head))))))))) ?_ | refine Sub.skip ?_))
        obtain ⟨b0, o0, ha⟩ := hO.reads_own.addr (by intro he; have := flat_len encW 2 encW_len D.cache; rw [he] at this; simp at this; omega)
        repeat (first | refine val_nil ?_ | refine get_ld h rfl (by first | exact .head | exact (.tail .head) | exact (.tail (.tail .head)) | exact (.tail (.tail (.tail .head))) | exact (.tail (.tail (.tail (.tail .head)))) | exact (.tail (.tail (.tail (.tail (.tail .head))))) | exact (.tail (.tail (.tail (.tail (.tail (.tail .head)))))) | exact (.tail (.tail (.tail (.tail (.tail (.tail (.tail .head))))))) | exact (.tail (.tail (.tail (.tail (.tail (.tail (.tail (.tail .head))))))))) (by kernel_rfl) rfl ?_ | (refine do_st h rfl (by first | exact .head | exact (.tail .head) | exact (.tail (.tail .head)) | exact (.tail (.tail (.tail .head))) | exact (.tail (.tail (.tail (.tail .head)))) | exact (.tail (.tail (.tail (.tail (.tail .head))))) | exact (.tail (.tail (.tail (.tail (.tail (.tail .head)))))) | exact (.tail (.tail (.tail (.tail (.tail (.tail (.tail .head))))))) | exact (.tail (.tail (.tail (.tail (.tail (.tail (.tail (.tail .head))))))))) (by kernel_rfl) rfl rfl ?_; intro w h) | (refine DrewP.go h ?_; intro w h) | (refine AnyP.go ?_; intro _) | refine chk_ld h rfl (by first | exact .head | exact (.tail .head) | exact (.tail (.tail .head)) | exact (.tail (.tail (.tail .head))) | exact (.tail (.tail (.tail (.tail .head)))) | exact (.tail (.tail (.tail (.tail (.tail .head))))) | exact (.tail (.tail (.tail (.tail (.tail (.tail .head)))))) | exact (.tail (.tail (.tail (.tail (.tail (.tail (.tail .head))))))) | exact (.tail (.tail (.tail (.tail (.tail (.tail (.tail (.tail .head))))))))) (by kernel_rfl) rfl ?_)
        refine val_index (Te := 68) (sz := 2) (a := ⟨b0, o0, none⟩) (by kernel_rfl) (by kernel_rfl) ha (by omega) (by simp only [hc2]; omega) ?_
        refine get_el (P := Try.prog) (i := i * 2 + 0) D.cache[i].1 hO.reads_own ha (Addr.add_add _ _ _ rfl) (by kernel_rfl) (by rw [flat_get encW 2 encW_len _ _ _ (by omega), List.getElem?_eq_getElem h1]; rfl) ?_
        have hdrop : D.cache.drop i = D.cache[i] :: D.cache.drop (i + 1) := List.drop_eq_getElem_cons h1
        have hs2' : lastW (D.cache.drop (i + 1)) x = none := by have e : ((i : Int) + 1).toNat = i + 1 := by omega
                                                                rw [e] at hs2; exact hs2
        refine CondP.mk' (fun h2 => ?_) (fun h2 => ?_)
        · have h2 := eqT h2
          repeat (first | refine val_nil ?_ | refine get_ld h rfl (by first | exact .head | exact (.tail .head) | exact (.tail (.tail .head)) | exact (.tail (.tail (.tail .head))) | exact (.tail (.tail (.tail (.tail .head)))) | exact (.tail (.tail (.tail (.tail (.tail .head))))) | exact (.tail (.tail (.tail (.tail (.tail (.tail .head)))))) | exact (.tail (.tail (.tail (.tail (.tail (.tail (.tail .head))))))) | exact (.tail (.tail (.tail (.tail (.tail (.tail (.tail (.tail .head))))))))) (by kernel_rfl) rfl ?_ | (refine do_st h rfl (by first | exact .head | exact (.tail .head) | exact (.tail (.tail .head)) | exact (.tail (.tail (.tail .head))) | exact (.tail (.tail (.tail (.tail .head)))) | exact (.tail (.tail (.tail (.tail (.tail .head))))) | exact (.tail (.tail (.tail (.tail (.tail (.tail .head)))))) | exact (.tail (.tail (.tail (.tail (.tail (.tail (.tail .head))))))) | exact (.tail (.tail (.tail (.tail (.tail (.tail (.tail (.tail .head))))))))) (by kernel_rfl) rfl rfl ?_; intro w h) | (refine DrewP.go h ?_; intro w h) | (refine AnyP.go ?_; intro _) | refine chk_ld h rfl (by first | exact .head | exact (.tail .head) | exact (.tail (.tail .head)) | exact (.tail (.tail (.tail .head))) | exact (.tail (.tail (.tail (.tail .head)))) | exact (.tail (.tail (.tail (.tail (.tail .head))))) | exact (.tail (.tail (.tail (.tail (.tail (.tail .head)))))) | exact (.tail (.tail (.tail (.tail (.tail (.tail (.tail .head))))))) | exact (.tail (.tail (.tail (.tail (.tail (.tail (.tail (.tail .head))))))))) (by kernel_rfl) rfl ?_)
          refine val_index (Te := 68) (sz := 2) (a := ⟨b0, o0, none⟩) (by kernel_rfl) (by kernel_rfl) ha (by omega) (by simp only [hc2]; omega) ?_
          refine get_el (P := Try.prog) (i := i * 2 + 1) D.cache[i].2 hO.reads_own ha (Addr.add_add _ _ _ rfl) (by kernel_rfl) (by rw [flat_get encW 2 encW_len _ _ _ (by omega), List.getElem?_eq_getElem h1]; rfl) ?_
          have e : rdD D x = D.cache[i].2 := by
            have e1 : lastW (D.cache.take i ++ D.cache.drop i) x = some D.cache[i].2 := by
              rw [lastW_append, hdrop]
              simp only [lastW, hs2']
              rw [if_pos h2]; rfl
            rw [List.take_append_drop] at e1
            rw [rdD, e1]; rfl
          rw [e] at hk
          exact hk _ (RefB.closed h)
        · have h2 := eqF h2
          rw [wrap_in _ (by omega)]
          refine hnext _ _ ⟨by omega, by omega, ?_, h⟩ (by omega)
          have e : ((i : Int) - 1 + 1).toNat = i := by omega
          rw [e, hdrop]
          simp only [lastW, hs2']
          rw [if_neg h2]
      · have h1 : s = -1 := by have := cF h1; omega
        subst h1
        obtain ⟨y, rfl⟩ := Int.eq_ofNat_of_zero_le hx.1
        have hy : y < dk.length := by omega
        have hO := h.sub (M := ownS 9 1 sd (strs dk) :: _) (by repeat (first | exact Sub.done | refine Sub.take (by first | exact .head | exact (.tail .head) | exact (.tail (.tail .head)) | exact (.tail (.tail (.tail .head))) | exact (.tail (.tail (.tail (.tail .head)))) | exact (.tail (.tail (.tail (.tail (.tail .head))))) | exact (.tail (.tail (.tail (.tail (.tail (.tail .head)))))) | exact (.tail (.tail (.tail (.tail (.tail (.tail (.tail .head))))))) | exact (.tail (.tail (.tail (.tail (.tail (.tail (.tail (.tail .head))))))))) ?_ | refine Sub.skip ?_))
        obtain ⟨b0, o0, ha⟩ := hO.reads_own.addr (by intro he; have := strs_len dk; rw [he] at this; simp at this; omega)
        repeat (first | refine val_nil ?_ | refine get_ld h rfl (by first | exact .head | exact (.tail .head) | exact (.tail (.tail .head)) | exact (.tail (.tail (.tail .head))) | exact (.tail (.tail (.tail (.tail .head)))) | exact (.tail (.tail (.tail (.tail (.tail .head))))) | exact (.tail (.tail (.tail (.tail (.tail (.tail .head)))))) | exact (.tail (.tail (.tail (.tail (.tail (.tail (.tail .head))))))) | exact (.tail (.tail (.tail (.tail (.tail (.tail (.tail (.tail .head))))))))) (by kernel_rfl) rfl ?_ | (refine do_st h rfl (by first | exact .head | exact (.tail .head) | exact (.tail (.tail .head)) | exact (.tail (.tail (.tail .head))) | exact (.tail (.tail (.tail (.tail .head)))) | exact (.tail (.tail (.tail (.tail (.tail .head))))) | exact (.tail (.tail (.tail (.tail (.tail (.tail .head)))))) | exact (.tail (.tail (.tail (.tail (.tail (.tail (.tail .head))))))) | exact (.tail (.tail (.tail (.tail (.tail (.tail (.tail (.tail .head))))))))) (by kernel_rfl) rfl rfl ?_; intro w h) | (refine DrewP.go h ?_; intro w h) | (refine AnyP.go ?_; intro _) | refine chk_ld h rfl (by first | exact .head | exact (.tail .head) | exact (.tail (.tail .head)) | exact (.tail (.tail (.tail .head))) | exact (.tail (.tail (.tail (.tail .head)))) | exact (.tail (.tail (.tail (.tail (.tail .head))))) | exact (.tail (.tail (.tail (.tail (.tail (.tail .head)))))) | exact (.tail (.tail (.tail (.tail (.tail (.tail (.tail .head))))))) | exact (.tail (.tail (.tail (.tail (.tail (.tail (.tail (.tail .head))))))))) (by kernel_rfl) rfl ?_)
        refine val_index (Te := 9) (sz := 1) (a := ⟨b0, o0, none⟩) (by kernel_rfl) (by kernel_rfl) ha (by omega) (by show (y : Int) < (sd.len : Int); omega) ?_
        refine get_el (P := Try.prog) (i := y * 1) dk[y] hO.reads_own ha rfl (by kernel_rfl) (by simp [strs, hy, Leaf.val]) ?_
        have e : rdD D (y : Int) = dk[y] := by
          rw [hr y hy]
          have : lastW D.cache (y : Int) = none := by simpa using hs2
          rw [rdD, this]; rfl
        rw [e] at hk
        exact hk _ (RefB.closed h)
  · have hb := cT hb
    exact hJ _ _ ⟨by rw [rightM, if_pos (.inl hb)]; simp, h⟩
  · have hb := cF hb
    repeat (first | refine val_nil ?_ | refine get_ld h rfl (by first | exact .head | exact (.tail .head) | exact (.tail (.tail .head)) | exact (.tail (.tail (.tail .head))) | exact (.tail (.tail (.tail (.tail .head)))) | exact (.tail (.tail (.tail (.tail (.tail .head))))) | exact (.tail (.tail (.tail (.tail (.tail (.tail .head)))))) | exact (.tail (.tail (.tail (.tail (.tail (.tail (.tail .head))))))) | exact (.tail (.tail (.tail (.tail (.tail (.tail (.tail (.tail .head))))))))) (by kernel_rfl) rfl ?_ | (refine do_st h rfl (by first | exact .head | exact (.tail .head) | exact (.tail (.tail .head)) | exact (.tail (.tail (.tail .head))) | exact (.tail (.tail (.tail (.tail .head)))) | exact (.tail (.tail (.tail (.tail (.tail .head))))) | exact (.tail (.tail (.tail (.tail (.tail (.tail .head)))))) | exact (.tail (.tail (.tail (.tail (.tail (.tail (.tail .head))))))) | exact (.tail (.tail (.tail (.tail (.tail (.tail (.tail (.tail .head))))))))) (by kernel_rfl) rfl rfl ?_; intro w h) | (refine DrewP.go h ?_; intro w h) | (refine AnyP.go ?_; intro _) | refine chk_ld h rfl (by first | exact .head | exact (.tail .head) | exact (.tail (.tail .head)) | exact (.tail (.tail (.tail .head))) | exact (.tail (.tail (.tail (.tail .head)))) | exact (.tail (.tail (.tail (.tail (.tail .head))))) | exact (.tail (.tail (.tail (.tail (.tail (.tail .head)))))) | exact (.tail (.tail (.tail (.tail (.tail (.tail (.tail .head))))))) | exact (.tail (.tail (.tail (.tail (.tail (.tail (.tail (.tail .head))))))))) (by kernel_rfl) rfl ?_)
    refine hJ _ _ ⟨?_, h⟩
    rw [decide_eq_true_iff, rightM]
    by_cases hx : x < 0 ∨ D.n ≤ x
    · rw [if_pos hx]; simp; omega
    · rw [if_neg hx]; simp; omega

theorem RDirty_spec {k : Sl → Pr} (h : Holds E w (RefB r D dk :: L)) (hcl : D.cache.length ≤ 1073741824)
    (hk : ∀ s w', Holds E w' (ownS 3 1 s (ints D.cache) :: RefB r D dk :: L) → k s w') : CallP Try.prog 27 #[.pointer (some ⟨r, 0, none⟩)] tSl k w := by
  obtain ⟨sd, sc, h⟩ := RefB.opened h
  refine rd27 _ _ _ ?_
  unfold sh27
  have hlc := (h.pick (.tail (.tail .head))).own_len
  rw [flat_len encW 2 encW_len] at hlc
  have hc2 : sc.len = D.cache.length := by omega
  refine LoopP.inv (fun s w => ∃ i : Nat, s.2 = i ∧ i ≤ D.cache.length ∧ Holds E w (ownS 3 1 s.1 (ints (D.cache.take i)) :: pto r (.cells (rcells sd sc D) 58 (0, 0)) :: ownS 9 1 sd (strs dk) :: ownS 68 2 sc (D.cache.flatMap encW) :: L))
    (fun s _ => D.cache.length - s.2.toNat) ⟨0, rfl, Nat.zero_le _, h.own_nil⟩ ?_
  rintro next ⟨s1, s2⟩ w ⟨i, hs2, hi, h⟩ hnext
  simp only at hs2 h
  subst hs2
  refine AnyP.go fun _ => ?_
  repeat (first | refine val_nil ?_ | refine get_ld h rfl (by first | exact .head | exact (.tail .head) | exact (.tail (.tail .head)) | exact (.tail (.tail (.tail .head))) | exact (.tail (.tail (.tail (.tail .head)))) | exact (.tail (.tail (.tail (.tail (.tail .head))))) | exact (.tail (.tail (.tail (.tail (.tail (.tail .head)))))) | exact (.tail (.tail (.tail (.tail (.tail (.tail (.tail .head))))))) | exact (.tail (.tail (.tail (.tail (.tail (.tail (.tail (.tail .head))))))))) (by kernel_rfl) rfl ?_ | (refine do_st h rfl (by first | exact .head | exact (.tail .head) | exact (.tail (.tail .head)) | exact (.tail (.tail (.tail .head))) | exact (.tail (.tail (.tail (.tail .head)))) | exact (.tail (.tail (.tail (.tail (.tail .head))))) | exact (.tail (.tail (.tail (.tail (.tail (.tail .head)))))) | exact (.tail (.tail (.tail (.tail (.tail (.tail (.tail .head))))))) | exact (.tail (.tail (.tail (.tail (.tail (.tail (.tail (.tail .head))))))))) (by kernel_rfl) rfl rfl ?_; intro w h) | (refine DrewP.go h ?_; intro w h) | (refine AnyP.go ?_; intro _) | refine chk_ld h rfl (by first | exact .head | exact (.tail .head) | exact (.tail (.tail .head)) | exact (.tail (.tail (.tail .head))) | exact (.tail (.tail (.tail (.tail .head)))) | exact (.tail (.tail (.tail (.tail (.tail .head))))) | exact (.tail (.tail (.tail (.tail (.tail (.tail .head)))))) | exact (.tail (.tail (.tail (.tail (.tail (.tail (.tail .head))))))) | exact (.tail (.tail (.tail (.tail (.tail (.tail (.tail (.tail .head))))))))) (by kernel_rfl) rfl ?_)
  refine CondP.mk' (fun h1 => ?_) (fun h1 => ?_)
  · have h1 : i < D.cache.length := by have := cT h1; simp only [hc2] at this; omega
    have hO := h.sub (M := ownS 68 2 sc (D.cache.flatMap encW) :: _) (by repeat (first | exact Sub.done | refine Sub.take (by first | exact .head | exact (.tail .head) | exact (.tail (.tail .head)) | exact (.tail (.tail (.tail .head))) | exact (.tail (.tail (.tail (.tail .head)))) | exact (.tail (.tail (.tail (.tail (.tail .head))))) | exact (.tail (.tail (.tail (.tail (.tail (.tail .head)))))) | exact (.tail (.tail (.tail (.tail (.tail (.tail (.tail .head))))))) | exact (.tail (.tail (.tail (.tail (.tail (.tail (.tail (.tail .head))))))))) ?_ | refine Sub.skip ?_))
    obtain ⟨b0, o0, ha⟩ := hO.reads_own.addr (by intro he; have := flat_len encW 2 encW_len D.cache; rw [he] at this; simp at this; omega)
    repeat (first | refine val_nil ?_ | refine get_ld h rfl (by first | exact .head | exact (.tail .head) | exact (.tail (.tail .head)) | exact (.tail (.tail (.tail .head))) | exact (.tail (.tail (.tail (.tail .head)))) | exact (.tail (.tail (.tail (.tail (.tail .head))))) | exact (.tail (.tail (.tail (.tail (.tail (.tail .head)))))) | exact (.tail (.tail (.tail (.tail (.tail (.tail (.tail .head))))))) | exact (.tail (.tail (.tail (.tail (.tail (.tail (.tail (.tail .head))))))))) (by kernel_rfl) rfl ?_ | (refine do_st h rfl (by first | exact .head | exact (.tail .head) | exact (.tail (.tail .head)) | exact (.tail (.tail (.tail .head))) | exact (.tail (.tail (.tail (.tail .head)))) | exact (.tail (.tail (.tail (.tail (.tail .head))))) | exact (.tail (.tail (.tail (.tail (.tail (.tail .head)))))) | exact (.tail (.tail (.tail (.tail (.tail (.tail (.tail .head))))))) | exact (.tail (.tail (.tail (.tail (.tail (.tail (.tail (.tail .head))))))))) (by kernel_rfl) rfl rfl ?_; intro w h) | (refine DrewP.go h ?_; intro w h) | (refine AnyP.go ?_; intro _) | refine chk_ld h rfl (by first | exact .head | exact (.tail .head) | exact (.tail (.tail .head)) | exact (.tail (.tail (.tail .head))) | exact (.tail (.tail (.tail (.tail .head)))) | exact (.tail (.tail (.tail (.tail (.tail .head))))) | exact (.tail (.tail (.tail (.tail (.tail (.tail .head)))))) | exact (.tail (.tail (.tail (.tail (.tail (.tail (.tail .head))))))) | exact (.tail (.tail (.tail (.tail (.tail (.tail (.tail (.tail .head))))))))) (by kernel_rfl) rfl ?_)
    refine val_index (Te := 68) (sz := 2) (a := ⟨b0, o0, none⟩) (by kernel_rfl) (by kernel_rfl) ha (by omega) (by show (i : Int) < (sc.len : Int); omega) ?_
    refine get_el (P := Try.prog) (i := i * 2 + 0) D.cache[i].1 hO.reads_own ha (Addr.add_add _ _ _ rfl) (by kernel_rfl) (by rw [flat_get encW 2 encW_len _ _ _ (by omega), List.getElem?_eq_getElem h1]; rfl) ?_
    refine do_build (Te := 3) (sz := 1) [.int .i64 D.cache[i].1] h (by kernel_rfl) rfl fun t w ht h => ?_
    have hl1 := (h.sub (M := ownS 3 1 s1 (ints (D.cache.take i)) :: L) (by repeat (first | exact Sub.done | refine Sub.take (by first | exact .head | exact (.tail .head) | exact (.tail (.tail .head)) | exact (.tail (.tail (.tail .head))) | exact (.tail (.tail (.tail (.tail .head)))) | exact (.tail (.tail (.tail (.tail (.tail .head))))) | exact (.tail (.tail (.tail (.tail (.tail (.tail .head)))))) | exact (.tail (.tail (.tail (.tail (.tail (.tail (.tail .head))))))) | exact (.tail (.tail (.tail (.tail (.tail (.tail (.tail (.tail .head))))))))) ?_ | refine Sub.skip ?_))).own_len
    have hl2 : s1.len = i := by
      have := hl1.1
      simp only [ints, List.length_map, List.length_take, Nat.mul_one] at this
      omega
    refine do_append (s := s1) (cs := ints (D.cache.take i)) (Te2 := 3) h (by first | exact .head | exact (.tail .head) | exact (.tail (.tail .head)) | exact (.tail (.tail (.tail .head))) | exact (.tail (.tail (.tail (.tail .head)))) | exact (.tail (.tail (.tail (.tail (.tail .head))))) | exact (.tail (.tail (.tail (.tail (.tail (.tail .head)))))) | exact (.tail (.tail (.tail (.tail (.tail (.tail (.tail .head))))))) | exact (.tail (.tail (.tail (.tail (.tail (.tail (.tail (.tail .head))))))))) (by kernel_rfl) (by kernel_rfl) elemI h.reads_own (by intro v hv; simp at hv; subst hv; rfl) (by rw [ht, hl2]; omega) (by rw [ht, hl2]; omega) fun s' w hs' h => ?_
    rw [wrap_in _ (by omega)]
    refine hnext _ _ ⟨i + 1, by simp, h1, h.sub ?_⟩ (by simp; omega)
    have e : ints (D.cache.take (i + 1)) = ints (D.cache.take i) ++ [.int .i64 D.cache[i].1] := by
      unfold ints; rw [List.take_succ_eq_append_getElem h1, List.map_append]; rfl
    rw [e]
    exact (by repeat (first | exact Sub.done | refine Sub.take (by first | exact .head | exact (.tail .head) | exact (.tail (.tail .head)) | exact (.tail (.tail (.tail .head))) | exact (.tail (.tail (.tail (.tail .head)))) | exact (.tail (.tail (.tail (.tail (.tail .head))))) | exact (.tail (.tail (.tail (.tail (.tail (.tail .head)))))) | exact (.tail (.tail (.tail (.tail (.tail (.tail (.tail .head))))))) | exact (.tail (.tail (.tail (.tail (.tail (.tail (.tail (.tail .head))))))))) ?_ | refine Sub.skip ?_))
  · have h1 : i = D.cache.length := by have := cF h1; simp only [hc2] at this; omega
    subst h1
    rw [List.take_length] at h
    refine hk _ _ ?_
    have h2 := h.sub (M := pto r (.cells (rcells sd sc D) 58 (0, 0)) :: ownS 9 1 sd (strs dk) :: ownS 68 2 sc (D.cache.flatMap encW) :: ownS 3 1 s1 (ints D.cache) :: L) (by repeat (first | exact Sub.done | refine Sub.take (by first | exact .head | exact (.tail .head) | exact (.tail (.tail .head)) | exact (.tail (.tail (.tail .head))) | exact (.tail (.tail (.tail (.tail .head)))) | exact (.tail (.tail (.tail (.tail (.tail .head))))) | exact (.tail (.tail (.tail (.tail (.tail (.tail .head)))))) | exact (.tail (.tail (.tail (.tail (.tail (.tail (.tail .head))))))) | exact (.tail (.tail (.tail (.tail (.tail (.tail (.tail (.tail .head))))))))) ?_ | refine Sub.skip ?_))
    exact (RefB.closed h2).swap
end
end Go.Proofs.Ytebicdddbeneoaa
