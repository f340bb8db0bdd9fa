/- The index's laws: the fixed calls. -/
import Derived.Test.YtoaalegieaocbaaIx11
namespace Go.Proofs.Ytoaalegieaocbaa
open Go.Sh
attribute [local irreducible] pto rob old ownS roS hstar hex hpure hemp mapB hro IxB

def sa : ByteArray := ⟨#[97]⟩
def sb : ByteArray := ⟨#[98]⟩
def i1 : Item := (sa, 3, 1099511627776, 1, ())
def i2 : Item := (sa, 0, 3, 2, ())
def i3 : Item := (sa, 3, 4, 0, ())
def i4 : Item := (sa, 3, 9, 1, ())

section
variable {E w : World} {L L' : List HProp}

theorem insert_to {d : Nat} {W r : Int} {bs bs' : List (List Item)} {i : Item} {k : Int → Pr} (h : Holds E w (IxB d W bs :: L)) (hW : 0 < W) (hW1 : W ≤ 100) (hok : Okb bs) (e : insM W bs i = (r, bs'))
    (hk : ∀ w', Holds E w' (IxB d W bs' :: L) → k r w') : CallP Try.prog 12 #[.pointer (some ⟨d, 0, none⟩), .agg #[.string i.1, .int .i64 i.2.1, .int .i64 i.2.2.1, .int .i64 i.2.2.2.1]] tInt k w :=
  insert_spec h hW hW1 hok fun w h => by rw [e] at h ⊢; exact hk _ h
theorem close_to {d : Nat} {W r : Int} {bs bs' : List (List Item)} {key : ByteArray} {st e : Int} {k : Int → Pr} (h : Holds E w (IxB d W bs :: L)) (hW : 0 < W) (hok : Okb bs) (he : closeM bs key st e = (r, bs'))
    (hk : ∀ w', Holds E w' (IxB d W bs' :: L) → k r w') : CallP Try.prog 14 #[.pointer (some ⟨d, 0, none⟩), .string key, .int .i64 st, .int .i64 e] tInt k w :=
  close_spec h hW hok fun w h => by rw [he] at h ⊢; exact hk _ h
theorem delete_to {d : Nat} {W r : Int} {bs bs' : List (List Item)} {key : ByteArray} {st : Int} {k : Int → Pr} (h : Holds E w (IxB d W bs :: L)) (hW : 0 < W) (hW1 : W ≤ 100) (hok : Okb bs) (he : delM W bs key st = (r, bs'))
    (hk : ∀ w', Holds E w' (IxB d W bs' :: L) → k r w') : CallP Try.prog 16 #[.pointer (some ⟨d, 0, none⟩), .string key, .int .i64 st] tInt k w :=
  delete_spec h hW hW1 hok fun w h => by rw [he] at h ⊢; exact hk _ h
theorem get_to {d : Nat} {W r : Int} {x : Item} {bs : List (List Item)} {key : ByteArray} {st : Int} {k : Item × Int × Unit → Pr} (h : Holds E w (IxB d W bs :: L)) (hW : 0 < W) (hok : Okb bs) (he : getM bs key st = (x, r))
    (hk : ∀ w', Holds E w' (IxB d W bs :: L) → k (x, r, ()) w') : CallP Try.prog 24 #[.pointer (some ⟨d, 0, none⟩), .string key, .int .i64 st] (.tup [.agg itL, .leaf (.int .i64)]) k w :=
  get_spec h hW hok fun w h => by rw [he]; exact hk _ h

theorem okb_one {l : List Item} (h : l ≠ []) (hl : l.length ≤ 100) : Okb [l] := ⟨fun b hb => by simp at hb; subst hb; exact h, by simp; omega⟩

set_option maxHeartbeats 2000000 in
theorem known_spec {k : Bool → Pr} (h : Holds E w L) (hk : ∀ w', Holds E w' L → k true w') : CallP Try.prog 30 #[] tBool k w := by
  refine rd30 _ _ ?_
  unfold sh30
  refine new_spec h (fun hb => absurd ⟨by omega, by omega⟩ hb) fun _ _ d w h => ?_
  refine new_spec h (fun _ => ?_) (fun hb => by omega)
  refine JoinP.go (CondP.no rfl ?_)
  refine get_pure false (by kernel_rfl) ?_
  refine AnyP.go fun _ => CondP.no rfl ?_
  have o0 : Okb [] := ⟨fun b hb => by simp at hb, by simp⟩
  have o1 : Okb [[i1]] := okb_one (by simp) (by simp)
  have o2 : Okb [[i2, i1]] := okb_one (by simp) (by simp)
  have o3 : Okb [[i2, i4]] := okb_one (by simp) (by simp)
  have o4 : Okb [[i4]] := okb_one (by simp) (by simp)
  refine insert_to (i := i1) (r := 0) (bs' := [[i1]]) h (by omega) (by omega) o0 (by kernel_rfl) fun w h => ?_
  refine insert_to (i := i2) (r := 0) (bs' := [[i2, i1]]) h (by omega) (by omega) o1 (by kernel_rfl) fun w h => ?_
  refine insert_to (i := i3) (r := 5) (bs' := [[i2, i1]]) h (by omega) (by omega) o2 (by kernel_rfl) fun w h => ?_
  refine stab_spec h (by omega) o2 fun s1 w h => ?_
  rw [show stabM [[i2, i1]] ⟨#[]⟩ ⟨#[]⟩ 2 = [i2] from (by kernel_rfl)] at h
  refine close_to (key := sa) (r := 0) (bs' := [[i2, i4]]) h.swap (by omega) o2 (by kernel_rfl) fun w h => ?_
  refine close_to (key := sa) (r := 6) (bs' := [[i2, i4]]) h (by omega) o3 (by kernel_rfl) fun w h => ?_
  refine over_spec (t := (2, 4, ())) h (by omega) o3 fun s2 w h => ?_
  rw [show overM [[i2, i4]] ⟨#[97]⟩ ⟨#[98]⟩ (2, 4, ()) = [i2, i4] from (by kernel_rfl)] at h
  refine delete_to (key := sa) (r := 0) (bs' := [[i4]]) h.swap (by omega) (by omega) o3 (by kernel_rfl) fun w h => ?_
  refine get_to (key := sa) (x := i4) (r := 0) h (by omega) o4 (by kernel_rfl) fun w h => ?_
  refine do_alloc (z := .agg #[.string ⟨#[]⟩, .int .i64 0, .int .i64 0, .int .i64 0]) h (by kernel_rfl) fun b13 w h => ?_
  refine do_st_all (n := 4) h rfl (by first | exact .head | exact (.tail .head) | exact (.tail (.tail .head)) | exact (.tail (.tail (.tail .head))) | exact (.tail (.tail (.tail (.tail .head)))) | exact (.tail (.tail (.tail (.tail (.tail .head))))) | exact (.tail (.tail (.tail (.tail (.tail (.tail .head)))))) | exact (.tail (.tail (.tail (.tail (.tail (.tail (.tail .head))))))) | exact (.tail (.tail (.tail (.tail (.tail (.tail (.tail (.tail .head))))))))) (by kernel_rfl) rfl rfl (by intro v hv; simp at hv; rcases hv with rfl | rfl | rfl | rfl <;> rfl) fun w h => ?_
  refine get_to (key := sa) (x := zeroI) (r := 4) (h.pick .two) (by omega) o4 (by kernel_rfl) fun w h => ?_
  refine do_alloc (z := .agg #[.string ⟨#[]⟩, .int .i64 0, .int .i64 0, .int .i64 0]) h (by kernel_rfl) fun b15 w h => ?_
  refine do_st_all (n := 4) h rfl (by first | exact .head | exact (.tail .head) | exact (.tail (.tail .head)) | exact (.tail (.tail (.tail .head))) | exact (.tail (.tail (.tail (.tail .head)))) | exact (.tail (.tail (.tail (.tail (.tail .head))))) | exact (.tail (.tail (.tail (.tail (.tail (.tail .head)))))) | exact (.tail (.tail (.tail (.tail (.tail (.tail (.tail .head))))))) | exact (.tail (.tail (.tail (.tail (.tail (.tail (.tail (.tail .head))))))))) (by kernel_rfl) rfl rfl (by intro v hv; simp at hv; rcases hv with rfl | rfl | rfl | rfl <;> rfl) fun w h => ?_
  have hl2 := (h.sub (M := ownS 31 4 s2 ([i2, i4].flatMap encI) :: L) (by repeat (first | exact Sub.done | refine Sub.take (by first | exact .head | exact (.tail .head) | exact (.tail (.tail .head)) | exact (.tail (.tail (.tail .head))) | exact (.tail (.tail (.tail (.tail .head)))) | exact (.tail (.tail (.tail (.tail (.tail .head))))) | exact (.tail (.tail (.tail (.tail (.tail (.tail .head)))))) | exact (.tail (.tail (.tail (.tail (.tail (.tail (.tail .head))))))) | exact (.tail (.tail (.tail (.tail (.tail (.tail (.tail (.tail .head))))))))) ?_ | refine Sub.skip ?_))).reads_own
  have hl1 := (h.sub (M := ownS 31 4 s1 ([i2].flatMap encI) :: L) (by repeat (first | exact Sub.done | refine Sub.take (by first | exact .head | exact (.tail .head) | exact (.tail (.tail .head)) | exact (.tail (.tail (.tail .head))) | exact (.tail (.tail (.tail (.tail .head)))) | exact (.tail (.tail (.tail (.tail (.tail .head))))) | exact (.tail (.tail (.tail (.tail (.tail (.tail .head)))))) | exact (.tail (.tail (.tail (.tail (.tail (.tail (.tail .head))))))) | exact (.tail (.tail (.tail (.tail (.tail (.tail (.tail (.tail .head))))))))) ?_ | refine Sub.skip ?_))).reads_own
  have e1 := hl1.len_eq encI_len (by omega)
  have e2 := hl2.len_eq encI_len (by omega)
  repeat (first | refine JoinP.go ?_ | (refine AnyP.go ?_; intro _) | refine CondP.yes (by first | rfl | (rw [e1]; rfl) | (rw [e2]; rfl)) ?_)
  refine val_idx (i := 0) hl1 encI_len (by omega) (by simp) (T := 42) (Te := 31) (by kernel_rfl) (by kernel_rfl) fun a0 ha0 hs0 => ?_
  refine get_fld (i := 0) (2 : Int) hl1 encI_len ha0 hs0 (by simp) (by omega) (by kernel_rfl) rfl ?_
  repeat (first | refine JoinP.go ?_ | (refine AnyP.go ?_; intro _) | refine CondP.yes (by first | rfl | (rw [e1]; rfl) | (rw [e2]; rfl)) ?_)
  refine val_idx (i := 0) hl2 encI_len (by omega) (by simp) (T := 42) (Te := 31) (by kernel_rfl) (by kernel_rfl) fun a1 ha1 hs1 => ?_
  refine get_fld (i := 0) (2 : Int) hl2 encI_len ha1 hs1 (by simp) (by omega) (by kernel_rfl) rfl ?_
  repeat (first | refine JoinP.go ?_ | (refine AnyP.go ?_; intro _) | refine CondP.yes (by first | rfl | (rw [e1]; rfl) | (rw [e2]; rfl)) ?_)
  refine get_ld_agg (ls := itL) i4 h rfl (by first | exact .head | exact (.tail .head) | exact (.tail (.tail .head)) | exact (.tail (.tail (.tail .head))) | exact (.tail (.tail (.tail (.tail .head)))) | exact (.tail (.tail (.tail (.tail (.tail .head))))) | exact (.tail (.tail (.tail (.tail (.tail (.tail .head)))))) | exact (.tail (.tail (.tail (.tail (.tail (.tail (.tail .head))))))) | exact (.tail (.tail (.tail (.tail (.tail (.tail (.tail (.tail .head))))))))) (by kernel_rfl) (by kernel_rfl) ?_
  refine val_eql31 (a := i4) (b := i4) ?_
  rw [decide_eq_true rfl]
  repeat (first | refine JoinP.go ?_ | (refine AnyP.go ?_; intro _) | refine CondP.yes (by first | rfl | (rw [e1]; rfl) | (rw [e2]; rfl)) ?_)
  refine len_spec (h.pick .two) (by omega) o4 fun w h => ?_
  repeat (first | refine JoinP.go ?_ | (refine AnyP.go ?_; intro _) | refine CondP.yes (by first | rfl | (rw [e1]; rfl) | (rw [e2]; rfl)) ?_)
  refine max_spec h (by omega) o4 fun w h => ?_
  repeat (first | refine JoinP.go ?_ | (refine AnyP.go ?_; intro _) | refine CondP.yes (by first | rfl | (rw [e1]; rfl) | (rw [e2]; rfl)) ?_)
  refine blocks_spec h (by omega) o4 fun s3 w h => ?_
  have e1 := h.reads_own.len_eq encN_len (by omega)
  repeat (first | refine JoinP.go ?_ | (refine AnyP.go ?_; intro _) | refine CondP.yes (by first | rfl | (rw [e1]; rfl) | (rw [e2]; rfl)) ?_)
  refine all_spec h.swap (by omega) o4 fun s4 w h => ?_
  have e1 := h.reads_own.len_eq encI_len (by omega)
  repeat (first | refine JoinP.go ?_ | (refine AnyP.go ?_; intro _) | refine CondP.yes (by first | rfl | (rw [e1]; rfl) | (rw [e2]; rfl)) ?_)
  rw [e1, show (((allM [[i4]]).length : Int) == 1) = true from (by kernel_rfl)]
  exact hk _ (h.sub (by repeat (first | exact Sub.done | refine Sub.take (by first | exact .head | exact (.tail .head) | exact (.tail (.tail .head)) | exact (.tail (.tail (.tail .head))) | exact (.tail (.tail (.tail (.tail .head)))) | exact (.tail (.tail (.tail (.tail (.tail .head))))) | exact (.tail (.tail (.tail (.tail (.tail (.tail .head)))))) | exact (.tail (.tail (.tail (.tail (.tail (.tail (.tail .head))))))) | exact (.tail (.tail (.tail (.tail (.tail (.tail (.tail (.tail .head))))))))) ?_ | refine Sub.skip ?_)))
end
end Go.Proofs.Ytoaalegieaocbaa
