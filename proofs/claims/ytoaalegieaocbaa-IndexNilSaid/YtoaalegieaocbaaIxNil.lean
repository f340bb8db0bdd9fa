/- The law IndexNil: the walk. -/
import Derived.Test.YtoaalegieaocbaaIx13
namespace Go.Proofs.Ytoaalegieaocbaa
open Go.Sh
attribute [local irreducible] pto rob old ownS roS hstar hex hpure hemp mapB hro IxB

/-- an index that is not there -/
def NoT (E : World) (p : Option Addr) (A : HProp) : Prop := ∀ (L L' : List HProp) (w : World) (k : Bool → Pr), Holds E w L → Pick L A L' → k false w → CallP Try.prog 33 #[.pointer p] tBool k w

section
variable {E w : World} {L L' : List HProp} {p : Option Addr} {A : HProp}

theorem NoT.nil : NoT E none A := fun _ _ _ _ _ _ hk => there_nil hk
theorem NoT.zero {d : Nat} {s : Value} : NoT E (some ⟨d, 0, none⟩) (pto d (.cells #[.int .i64 0, s] 68 (0, 0))) := fun _ _ _ _ h hp hk => there_spec (n := 0) h hp rfl hk

theorem get_no {key : ByteArray} {st : Int} {k : Item × Int × Unit → Pr} (hN : NoT E p A) (h : Holds E w (A :: L)) (hk : ∀ w', Holds E w' (A :: L) → k (zeroI, 13, ()) w') :
    CallP Try.prog 24 #[.pointer p, .string key, .int .i64 st] (.tup [.agg itL, .leaf (.int .i64)]) k w := by
  refine rd24 _ _ _ _ _ ?_
  unfold sh24
  refine do_alloc (z := .agg #[.string ⟨#[]⟩, .int .i64 0, .int .i64 0, .int .i64 0]) h (by kernel_rfl) fun b6 w h => ?_
  refine hN _ _ _ _ h .two (CondP.yes rfl ?_)
  refine do_st_all (n := 4) h rfl .head (by kernel_rfl) rfl rfl (by intro v hv; simp at hv; rcases hv with rfl | rfl | rfl <;> rfl) fun w h => ?_
  exact get_res2 (ls := itL) zeroI h .head (by kernel_rfl) (by kernel_rfl) (hk _ h.drop)
theorem insert_no {i : Item} {k : Int → Pr} (hN : NoT E p A) (h : Holds E w (A :: L)) (hk : ∀ w', Holds E w' (A :: L) → k 13 w') :
    CallP Try.prog 12 #[.pointer p, .agg #[.string i.1, .int .i64 i.2.1, .int .i64 i.2.2.1, .int .i64 i.2.2.2.1]] tInt k w := by
  refine rd12 _ _ _ _ ?_
  unfold sh12
  refine do_box h fun b3 w h => ?_
  exact hN _ _ _ _ h .two (CondP.yes rfl (hk _ h.drop))
theorem close_no {key : ByteArray} {st e : Int} {k : Int → Pr} (hN : NoT E p A) (h : Holds E w (A :: L)) (hk : ∀ w', Holds E w' (A :: L) → k 13 w') :
    CallP Try.prog 14 #[.pointer p, .string key, .int .i64 st, .int .i64 e] tInt k w := by
  refine rd14 _ _ _ _ _ _ ?_
  unfold sh14
  refine get_no hN h fun w h => ?_
  refine do_alloc (z := .agg #[.string ⟨#[]⟩, .int .i64 0, .int .i64 0, .int .i64 0]) h (by kernel_rfl) fun b9 w h => ?_
  refine do_st_all (n := 4) h rfl .head (by kernel_rfl) rfl rfl (by intro v hv; simp at hv; rcases hv with rfl | rfl | rfl | rfl <;> rfl) fun w h => ?_
  exact CondP.yes rfl (hk _ h.drop)
theorem delete_no {key : ByteArray} {st : Int} {k : Int → Pr} (hN : NoT E p A) (h : Holds E w (A :: L)) (hk : ∀ w', Holds E w' (A :: L) → k 13 w') :
    CallP Try.prog 16 #[.pointer p, .string key, .int .i64 st] tInt k w := by
  refine rd16 _ _ _ _ _ ?_
  unfold sh16
  refine get_no hN h fun w h => ?_
  refine do_alloc (z := .agg #[.string ⟨#[]⟩, .int .i64 0, .int .i64 0, .int .i64 0]) h (by kernel_rfl) fun b9 w h => ?_
  refine do_st_all (n := 4) h rfl .head (by kernel_rfl) rfl rfl (by intro v hv; simp at hv; rcases hv with rfl | rfl | rfl | rfl <;> rfl) fun w h => ?_
  exact CondP.yes rfl (hk _ h.drop)
theorem range_no {b4 b5 b6 b7 b9 : Nat} {lo hi : ByteArray} {above : Int} {B : Nat → Item → Pr → Pr} {kD : Nat → Pr} (hN : NoT E p A)
    (h : Holds E w (pto b4 (.cells #[.pointer p] 23 (0, 0)) :: pto b5 (.cells #[.string lo] 9 (0, 0)) :: pto b6 (.cells #[.string hi] 9 (0, 0)) :: pto b7 (.cells #[.int .i64 above] 3 (0, 0)) :: pto b9 (.cells #[.slice none 0 0] 42 (0, 0)) :: A :: L))
    (hk : ∀ D w', Holds E w' (pto D (.deferred (some [])) :: pto b9 (.cells #[.slice none 0 0] 42 (0, 0)) :: A :: L) → kD D w') :
    RangeP Try.prog (.func (.func 47) #[] #[.pointer (some ⟨b4, 0, none⟩), .pointer (some ⟨b7, 0, none⟩), .pointer (some ⟨b5, 0, none⟩), .pointer (some ⟨b6, 0, none⟩)]) (.agg itL) B kD w := by
  refine RangeP.go (lb := [.pointer (some ⟨b4, 0, none⟩), .pointer (some ⟨b7, 0, none⟩), .pointer (some ⟨b5, 0, none⟩), .pointer (some ⟨b6, 0, none⟩)]) h rfl (fun args w => pureRun_sound _ (by kernel_rfl) w) fun l D rec w hs hp hpar hR h => ?_
  refine rd47 _ _ _ _ _ _ _ ?_
  unfold sh47
  refine get_ld (b := b4) h rfl (by first | exact .head | exact (.tail .head) | exact (.tail (.tail .head)) | exact (.tail (.tail (.tail .head))) | exact (.tail (.tail (.tail (.tail .head)))) | exact (.tail (.tail (.tail (.tail (.tail .head))))) | exact (.tail (.tail (.tail (.tail (.tail (.tail .head)))))) | exact (.tail (.tail (.tail (.tail (.tail (.tail (.tail .head))))))) | exact (.tail (.tail (.tail (.tail (.tail (.tail (.tail (.tail .head))))))))) (by kernel_rfl) (x := p) rfl ?_
  refine hN _ _ _ _ h (.tail (.tail (.tail (.tail (.tail (.tail (.tail .head))))))) (CondP.yes rfl ?_)
  exact EndLP.go h hs hp fun w h => hk D w (h.sub (by repeat (first | exact Sub.done | refine Sub.take (by first | exact .head | exact (.tail .head) | exact (.tail (.tail .head)) | exact (.tail (.tail (.tail .head))) | exact (.tail (.tail (.tail (.tail .head)))) | exact (.tail (.tail (.tail (.tail (.tail .head))))) | exact (.tail (.tail (.tail (.tail (.tail (.tail .head)))))) | exact (.tail (.tail (.tail (.tail (.tail (.tail (.tail .head))))))) | exact (.tail (.tail (.tail (.tail (.tail (.tail (.tail (.tail .head))))))))) ?_ | refine Sub.skip ?_)))
theorem stab_no {lo hi : ByteArray} {t : Int} {k : Sl → Pr} (hN : NoT E p A) (h : Holds E w (A :: L)) (hk : ∀ w', Holds E w' (A :: L) → k ⟨none, 0, 0⟩ w') :
    CallP Try.prog 20 #[.pointer p, .string lo, .string hi, .int .i64 t] tSl k w := by
  refine rd20 _ _ _ _ _ _ ?_
  unfold sh20
  refine do_box h fun bt w h => ?_
  refine do_alloc (z := .slice none 0 0) h (by kernel_rfl) fun b9 w h => ?_
  refine get_ld h rfl (by first | exact .head | exact (.tail .head) | exact (.tail (.tail .head)) | exact (.tail (.tail (.tail .head))) | exact (.tail (.tail (.tail (.tail .head)))) | exact (.tail (.tail (.tail (.tail (.tail .head))))) | exact (.tail (.tail (.tail (.tail (.tail (.tail .head)))))) | exact (.tail (.tail (.tail (.tail (.tail (.tail (.tail .head))))))) | exact (.tail (.tail (.tail (.tail (.tail (.tail (.tail (.tail .head))))))))) (by kernel_rfl) (x := t) rfl ?_
  refine each_spec h fun b4 b5 b6 b7 w h => ?_
  refine range_no hN (h.sub (by repeat (first | exact Sub.done | refine Sub.take (by first | exact .head | exact (.tail .head) | exact (.tail (.tail .head)) | exact (.tail (.tail (.tail .head))) | exact (.tail (.tail (.tail (.tail .head)))) | exact (.tail (.tail (.tail (.tail (.tail .head))))) | exact (.tail (.tail (.tail (.tail (.tail (.tail .head)))))) | exact (.tail (.tail (.tail (.tail (.tail (.tail (.tail .head))))))) | exact (.tail (.tail (.tail (.tail (.tail (.tail (.tail (.tail .head))))))))) ?_ | refine Sub.skip ?_))) fun D w h => ?_
  refine get_ld (b := b9) h rfl (by first | exact .head | exact (.tail .head) | exact (.tail (.tail .head)) | exact (.tail (.tail (.tail .head))) | exact (.tail (.tail (.tail (.tail .head)))) | exact (.tail (.tail (.tail (.tail (.tail .head))))) | exact (.tail (.tail (.tail (.tail (.tail (.tail .head)))))) | exact (.tail (.tail (.tail (.tail (.tail (.tail (.tail .head))))))) | exact (.tail (.tail (.tail (.tail (.tail (.tail (.tail (.tail .head))))))))) (by kernel_rfl) (x := ⟨none, 0, 0⟩) rfl ?_
  exact LeaveP.go h fun w h => hk _ h.drop
theorem over_no {lo hi : ByteArray} {t : Int × Int × Unit} {k : Sl → Pr} (hN : NoT E p A) (h : Holds E w (A :: L)) (hk : ∀ w', Holds E w' (A :: L) → k ⟨none, 0, 0⟩ w') :
    CallP Try.prog 22 #[.pointer p, .string lo, .string hi, .agg #[.int .i64 t.1, .int .i64 t.2.1]] tSl k w := by
  refine rd22 _ _ _ _ _ _ ?_
  unfold sh22
  refine do_box h fun bt w h => ?_
  refine do_alloc (z := .slice none 0 0) h (by kernel_rfl) fun b9 w h => ?_
  refine get_ld h rfl (by first | exact .head | exact (.tail .head) | exact (.tail (.tail .head)) | exact (.tail (.tail (.tail .head))) | exact (.tail (.tail (.tail (.tail .head)))) | exact (.tail (.tail (.tail (.tail (.tail .head))))) | exact (.tail (.tail (.tail (.tail (.tail (.tail .head)))))) | exact (.tail (.tail (.tail (.tail (.tail (.tail (.tail .head))))))) | exact (.tail (.tail (.tail (.tail (.tail (.tail (.tail (.tail .head))))))))) (by kernel_rfl) (x := t.1) rfl ?_
  refine each_spec h fun b4 b5 b6 b7 w h => ?_
  refine range_no hN (h.sub (by repeat (first | exact Sub.done | refine Sub.take (by first | exact .head | exact (.tail .head) | exact (.tail (.tail .head)) | exact (.tail (.tail (.tail .head))) | exact (.tail (.tail (.tail (.tail .head)))) | exact (.tail (.tail (.tail (.tail (.tail .head))))) | exact (.tail (.tail (.tail (.tail (.tail (.tail .head)))))) | exact (.tail (.tail (.tail (.tail (.tail (.tail (.tail .head))))))) | exact (.tail (.tail (.tail (.tail (.tail (.tail (.tail (.tail .head))))))))) ?_ | refine Sub.skip ?_))) fun D w h => ?_
  refine get_ld (b := b9) h rfl (by first | exact .head | exact (.tail .head) | exact (.tail (.tail .head)) | exact (.tail (.tail (.tail .head))) | exact (.tail (.tail (.tail (.tail .head)))) | exact (.tail (.tail (.tail (.tail (.tail .head))))) | exact (.tail (.tail (.tail (.tail (.tail (.tail .head)))))) | exact (.tail (.tail (.tail (.tail (.tail (.tail (.tail .head))))))) | exact (.tail (.tail (.tail (.tail (.tail (.tail (.tail (.tail .head))))))))) (by kernel_rfl) (x := ⟨none, 0, 0⟩) rfl ?_
  exact LeaveP.go h fun w h => hk _ h.drop
theorem all_no {k : Sl → Pr} (hN : NoT E p A) (h : Holds E w (A :: L)) (hk : ∀ w', Holds E w' (A :: L) → k ⟨none, 0, 0⟩ w') :
    CallP Try.prog 29 #[.pointer p] tSl k w := by
  refine rd29 _ _ _ ?_
  unfold sh29
  refine do_alloc (z := .slice none 0 0) h (by kernel_rfl) fun b9 w h => ?_
  refine each_spec h fun b4 b5 b6 b7 w h => ?_
  refine range_no hN (h.sub (by repeat (first | exact Sub.done | refine Sub.take (by first | exact .head | exact (.tail .head) | exact (.tail (.tail .head)) | exact (.tail (.tail (.tail .head))) | exact (.tail (.tail (.tail (.tail .head)))) | exact (.tail (.tail (.tail (.tail (.tail .head))))) | exact (.tail (.tail (.tail (.tail (.tail (.tail .head)))))) | exact (.tail (.tail (.tail (.tail (.tail (.tail (.tail .head))))))) | exact (.tail (.tail (.tail (.tail (.tail (.tail (.tail (.tail .head))))))))) ?_ | refine Sub.skip ?_))) fun D w h => ?_
  refine get_ld (b := b9) h rfl (by first | exact .head | exact (.tail .head) | exact (.tail (.tail .head)) | exact (.tail (.tail (.tail .head))) | exact (.tail (.tail (.tail (.tail .head)))) | exact (.tail (.tail (.tail (.tail (.tail .head))))) | exact (.tail (.tail (.tail (.tail (.tail (.tail .head)))))) | exact (.tail (.tail (.tail (.tail (.tail (.tail (.tail .head))))))) | exact (.tail (.tail (.tail (.tail (.tail (.tail (.tail (.tail .head))))))))) (by kernel_rfl) (x := ⟨none, 0, 0⟩) rfl ?_
  exact LeaveP.go h fun w h => hk _ h.drop
theorem blocks_no {k : Sl → Pr} (hN : NoT E p A) (h : Holds E w (A :: L)) (hk : k ⟨none, 0, 0⟩ w) : CallP Try.prog 32 #[.pointer p] tSl k w := by
  refine rd32 _ _ _ ?_
  unfold sh32
  exact hN _ _ _ _ h .head (CondP.yes rfl hk)
theorem len_no {k : Int → Pr} (hN : NoT E p A) (h : Holds E w (A :: L)) (hk : k 0 w) : CallP Try.prog 26 #[.pointer p] tInt k w := by
  refine rd26 _ _ _ ?_
  unfold sh26
  refine blocks_no hN h ?_
  refine LoopP.inv (fun q w' => q = (0, 0) ∧ w' = w) (fun _ _ => 0) ⟨rfl, rfl⟩ ?_
  rintro next _ _ ⟨rfl, rfl⟩ _
  exact AnyP.go fun _ => CondP.no rfl hk
theorem max_no {k : Int → Pr} (hN : NoT E p A) (h : Holds E w (A :: L)) (hk : k 0 w) : CallP Try.prog 27 #[.pointer p] tInt k w := by
  refine rd27 _ _ _ ?_
  unfold sh27
  exact hN _ _ _ _ h .head (CondP.yes rfl hk)

set_option maxHeartbeats 1000000 in
theorem nil_walk {W : World} {i : Item} {k : Bool → Pr} (hk : ∀ w', Holds W w' [old W] → k true w') : CallP Try.prog 7 #[.agg #[.string i.1, .int .i64 i.2.1, .int .i64 i.2.2.1, .int .i64 i.2.2.2.1]] tBool k W := by
  refine rd7 _ _ _ ?_
  unfold sh7
  refine do_box (Holds.start W) fun b1 w h => do_box h fun d w h => ?_
  have hN : NoT W none (pto d (.cells #[.int .i64 0, .slice none 0 0] 68 (0, 0))) := NoT.nil
  have hZ : NoT W (some ⟨d, 0, none⟩) (pto d (.cells #[.int .i64 0, .slice none 0 0] 68 (0, 0))) := NoT.zero
  refine get_ld (b := b1) h rfl (by first | exact .head | exact (.tail .head) | exact (.tail (.tail .head)) | exact (.tail (.tail (.tail .head))) | exact (.tail (.tail (.tail (.tail .head)))) | exact (.tail (.tail (.tail (.tail (.tail .head))))) | exact (.tail (.tail (.tail (.tail (.tail (.tail .head)))))) | exact (.tail (.tail (.tail (.tail (.tail (.tail (.tail .head))))))) | exact (.tail (.tail (.tail (.tail (.tail (.tail (.tail (.tail .head))))))))) (by kernel_rfl) (x := i.1) rfl ?_
  refine get_ld (b := b1) h rfl (by first | exact .head | exact (.tail .head) | exact (.tail (.tail .head)) | exact (.tail (.tail (.tail .head))) | exact (.tail (.tail (.tail (.tail .head)))) | exact (.tail (.tail (.tail (.tail (.tail .head))))) | exact (.tail (.tail (.tail (.tail (.tail (.tail .head)))))) | exact (.tail (.tail (.tail (.tail (.tail (.tail (.tail .head))))))) | exact (.tail (.tail (.tail (.tail (.tail (.tail (.tail (.tail .head))))))))) (by kernel_rfl) (x := i.2.1) rfl ?_
  refine get_no hN h fun w h => ?_
  refine do_alloc (z := .agg #[.string ⟨#[]⟩, .int .i64 0, .int .i64 0, .int .i64 0]) h (by kernel_rfl) fun b5 w h => ?_
  refine do_st_all (n := 4) h rfl .head (by kernel_rfl) rfl rfl (by intro v hv; simp at hv; rcases hv with rfl | rfl | rfl | rfl <;> rfl) fun w h => ?_
  refine get_ld (b := b1) h rfl (by first | exact .head | exact (.tail .head) | exact (.tail (.tail .head)) | exact (.tail (.tail (.tail .head))) | exact (.tail (.tail (.tail (.tail .head)))) | exact (.tail (.tail (.tail (.tail (.tail .head))))) | exact (.tail (.tail (.tail (.tail (.tail (.tail .head)))))) | exact (.tail (.tail (.tail (.tail (.tail (.tail (.tail .head))))))) | exact (.tail (.tail (.tail (.tail (.tail (.tail (.tail (.tail .head))))))))) (by kernel_rfl) (x := i.1) rfl ?_
  refine get_ld (b := b1) h rfl (by first | exact .head | exact (.tail .head) | exact (.tail (.tail .head)) | exact (.tail (.tail (.tail .head))) | exact (.tail (.tail (.tail (.tail .head)))) | exact (.tail (.tail (.tail (.tail (.tail .head))))) | exact (.tail (.tail (.tail (.tail (.tail (.tail .head)))))) | exact (.tail (.tail (.tail (.tail (.tail (.tail (.tail .head))))))) | exact (.tail (.tail (.tail (.tail (.tail (.tail (.tail (.tail .head))))))))) (by kernel_rfl) (x := i.2.1) rfl ?_
  refine get_no hZ h.drop fun w h => ?_
  refine do_alloc (z := .agg #[.string ⟨#[]⟩, .int .i64 0, .int .i64 0, .int .i64 0]) h (by kernel_rfl) fun b7 w h => ?_
  refine do_st_all (n := 4) h rfl .head (by kernel_rfl) rfl rfl (by intro v hv; simp at hv; rcases hv with rfl | rfl | rfl | rfl <;> rfl) fun w h => ?_
  replace h := h.drop
  refine JoinP.go (CondP.yes rfl (AnyP.go fun _ => JoinP.go (CondP.yes rfl ?_)))
  refine get_ld_agg (ls := itL) i h rfl .two (by kernel_rfl) (by kernel_rfl) ?_
  refine insert_no hN h fun w h => AnyP.go fun _ => JoinP.go (CondP.yes rfl ?_)
  refine get_ld_agg (ls := itL) i h rfl .two (by kernel_rfl) (by kernel_rfl) ?_
  refine insert_no hZ h fun w h => AnyP.go fun _ => JoinP.go (CondP.yes rfl ?_)
  refine get_ld (b := b1) h rfl (by first | exact .head | exact (.tail .head) | exact (.tail (.tail .head)) | exact (.tail (.tail (.tail .head))) | exact (.tail (.tail (.tail (.tail .head)))) | exact (.tail (.tail (.tail (.tail (.tail .head))))) | exact (.tail (.tail (.tail (.tail (.tail (.tail .head)))))) | exact (.tail (.tail (.tail (.tail (.tail (.tail (.tail .head))))))) | exact (.tail (.tail (.tail (.tail (.tail (.tail (.tail (.tail .head))))))))) (by kernel_rfl) (x := i.1) rfl ?_
  refine close_no hN h fun w h => AnyP.go fun _ => JoinP.go (CondP.yes rfl ?_)
  refine get_ld (b := b1) h rfl (by first | exact .head | exact (.tail .head) | exact (.tail (.tail .head)) | exact (.tail (.tail (.tail .head))) | exact (.tail (.tail (.tail (.tail .head)))) | exact (.tail (.tail (.tail (.tail (.tail .head))))) | exact (.tail (.tail (.tail (.tail (.tail (.tail .head)))))) | exact (.tail (.tail (.tail (.tail (.tail (.tail (.tail .head))))))) | exact (.tail (.tail (.tail (.tail (.tail (.tail (.tail (.tail .head))))))))) (by kernel_rfl) (x := i.1) rfl ?_
  refine delete_no hZ h fun w h => AnyP.go fun _ => JoinP.go (CondP.yes rfl ?_)
  refine stab_no hN h fun w h => AnyP.go fun _ => JoinP.go (CondP.yes rfl ?_)
  refine over_no (t := (0, 5, ())) hZ h fun w h => AnyP.go fun _ => JoinP.go (CondP.yes rfl ?_)
  refine all_no hN h fun w h => AnyP.go fun _ => JoinP.go (CondP.yes rfl ?_)
  refine len_no hN h (AnyP.go fun _ => JoinP.go (CondP.yes rfl ?_))
  refine max_no hZ h (AnyP.go fun _ => JoinP.go (CondP.yes rfl ?_))
  refine blocks_no hZ h (AnyP.go fun _ => JoinP.go (CondP.yes rfl ?_))
  exact known_spec h fun w h => AnyP.go fun _ => hk _ (h.sub (by repeat (first | exact Sub.done | refine Sub.take (by first | exact .head | exact (.tail .head) | exact (.tail (.tail .head)) | exact (.tail (.tail (.tail .head))) | exact (.tail (.tail (.tail (.tail .head)))) | exact (.tail (.tail (.tail (.tail (.tail .head))))) | exact (.tail (.tail (.tail (.tail (.tail (.tail .head)))))) | exact (.tail (.tail (.tail (.tail (.tail (.tail (.tail .head))))))) | exact (.tail (.tail (.tail (.tail (.tail (.tail (.tail (.tail .head))))))))) ?_ | refine Sub.skip ?_)))
end
end Go.Proofs.Ytoaalegieaocbaa
