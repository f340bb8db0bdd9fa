/- The disk: the fixed calls come to true. -/
import Derived.Test.YtebicdddbeneoaaDk2
namespace Go.Proofs.Ytebicdddbeneoaa
open Go.Sh
attribute [local irreducible] pto rob old ownS roS hstar hex hpure hemp mapB Disk

def D0 (n : Int) : DSt := { n := n, m := ([], 0), cache := [], writes := 0, flushes := 0, fused := false, left := 0 }
def sAb : ByteArray := ⟨#[97, 98]⟩
def sCd : ByteArray := ⟨#[99, 100]⟩
def sX : ByteArray := ⟨#[120]⟩
def sXy : ByteArray := ⟨#[120, 121]⟩
def K1 : DSt := { n := 4, m := ([], 0), cache := [(3, pad sAb)], writes := 1, flushes := 0, fused := false, left := -1 }
def K2 : DSt := { n := 4, m := ([], 0), cache := [(3, pad sAb), (3, pad sCd)], writes := 2, flushes := 0, fused := false, left := -2 }
def K3 : DSt := { n := 4, m := ([⟨3, pad sAb, 0⟩], 1), cache := [], writes := 2, flushes := 0, fused := false, left := -2 }
def K4 : DSt := { n := 4, m := ([⟨3, pad sAb, 0⟩], 1), cache := [(1, pad sXy)], writes := 3, flushes := 0, fused := false, left := -3 }
def K5 : DSt := { n := 4, m := ([⟨3, pad sAb, 0⟩, ⟨1, pad sXy, 1⟩], 2), cache := [], writes := 3, flushes := 1, fused := false, left := -4 }

theorem own_bools {E w : World} {L : List HProp} {s : Sl} {l : List Bool} (h : Holds E w (ownS 4 1 s (bools l) :: L)) : Reads w s 1 (bools l) := h.reads_own
theorem reads_nil (w : World) : Reads w ⟨none, 0, 0⟩ 1 (bools []) := ⟨rfl, fun h => absurd rfl h⟩

theorem known_spec {E w : World} {L : List HProp} {k : Bool → Pr} (h : Holds E w L) (hk : ∀ w', Holds E w' L → k true w') : CallP Try.prog 15 #[] tBool k w := by
  refine rd15 _ _ ?_
  unfold sh15
  refine New_spec h (fun h => absurd h (by omega)) fun _ _ d w h => ?_
  refine New_spec h (fun _ => ?_) (fun h1 _ => absurd h1 (by omega))
  refine JoinP.go (CondP.no rfl ?_)
  refine get_pure false (by kernel_rfl) ?_
  refine AnyP.go fun _ => CondP.no rfl ?_
  refine Write_to (D := D0 4) (D' := K1) (r := 0) (s := sAb) h (by decide) (by decide) (by kernel_rfl) fun w h => ?_
  refine Write_to (D := K1) (D' := K2) (r := 0) (s := sCd) h (by decide) (by decide) (by kernel_rfl) fun w h => ?_
  refine Dirty_spec h (by decide) (by decide) fun sD w h => ?_
  refine do_build (Te := 4) (sz := 1) (len := 3) (bools [true, false, true]) h (by kernel_rfl) rfl fun s3 w hs3 h => ?_
  refine Crash_to (D := K2) (D' := K2) (A := ownS 4 1 s3 (bools [true, false, true])) (keep := [true, false, true]) (r := 1) (h.sub (M := Disk d K2 :: ownS 4 1 s3 (bools [true, false, true]) :: ownS 3 1 sD (ints K2.cache) :: L) (by repeat (first | exact Sub.done | refine Sub.take (by first | exact .head | exact (.tail .head) | exact (.tail (.tail .head)) | exact (.tail (.tail (.tail .head))) | exact (.tail (.tail (.tail (.tail .head)))) | exact (.tail (.tail (.tail (.tail (.tail .head))))) | exact (.tail (.tail (.tail (.tail (.tail (.tail .head)))))) | exact (.tail (.tail (.tail (.tail (.tail (.tail (.tail .head))))))) | exact (.tail (.tail (.tail (.tail (.tail (.tail (.tail (.tail .head))))))))) ?_ | refine Sub.skip ?_)))
    (by decide) (by decide) (fun _ _ h => own_bools h) hs3 (by kernel_rfl) fun w h => ?_
  refine do_build (Te := 4) (sz := 1) (len := 1) (bools [true]) h (by kernel_rfl) rfl fun s1 w hs1 h => ?_
  refine Crash_to (D := K2) (D' := K3) (A := ownS 4 1 s1 (bools [true])) (keep := [true]) (r := 0) (h.sub (M := Disk d K2 :: ownS 4 1 s1 (bools [true]) :: ownS 3 1 sD (ints K2.cache) :: L) (by repeat (first | exact Sub.done | refine Sub.take (by first | exact .head | exact (.tail .head) | exact (.tail (.tail .head)) | exact (.tail (.tail (.tail .head))) | exact (.tail (.tail (.tail (.tail .head)))) | exact (.tail (.tail (.tail (.tail (.tail .head))))) | exact (.tail (.tail (.tail (.tail (.tail (.tail .head)))))) | exact (.tail (.tail (.tail (.tail (.tail (.tail (.tail .head))))))) | exact (.tail (.tail (.tail (.tail (.tail (.tail (.tail (.tail .head))))))))) ?_ | refine Sub.skip ?_)))
    (by decide) (by decide) (fun _ _ h => own_bools h) hs1 (by kernel_rfl) fun w h => ?_
  refine Read_to (D := K3) (r := 0) (s := pad sAb) h (by decide) (by decide) (by kernel_rfl) fun w h => ?_
  refine Write_to (D := K3) (D' := K3) (r := 2) (s := sX) h (by decide) (by decide) (by kernel_rfl) fun w h => ?_
  refine Write_to (D := K3) (D' := K4) (r := 0) (s := sXy) h (by decide) (by decide) (by kernel_rfl) fun w h => ?_
  refine Flush_to (D := K4) (D' := K5) (r := 0) h (by decide) (by decide) (by kernel_rfl) fun w h => ?_
  refine Crash_to (D := K5) (D' := K5) (s := ⟨none, 0, 0⟩) (keep := []) (r := 0) h (by decide) (by decide) (fun w _ _ => reads_nil w) rfl (by kernel_rfl) fun w h => ?_
  refine Read_to (D := K5) (r := 0) (s := pad sXy) h (by decide) (by decide) (by kernel_rfl) fun w h => ?_
  refine Count_spec h fun w h => ?_
  have hD : ints K2.cache = nums [3, 3] := rfl
  rw [hD] at h
  repeat (first | refine JoinP.go ?_ | (refine AnyP.go ?_; intro _) | refine CondP.yes (beq_self_eq_true _) ?_ | refine CondP.yes rfl ?_)
  refine do_build (Te := 3) (sz := 1) (len := 2) (nums [3, 3]) h (by kernel_rfl) rfl fun s2 w hs2 h => ?_
  refine Ints_spec (x := [3, 3]) (y := [3, 3]) h (fun w h => (h.sub (M := ownS 3 1 sD (nums [3, 3]) :: L) (by repeat (first | exact Sub.done | refine Sub.take (by first | exact .head | exact (.tail .head) | exact (.tail (.tail .head)) | exact (.tail (.tail (.tail .head))) | exact (.tail (.tail (.tail (.tail .head)))) | exact (.tail (.tail (.tail (.tail (.tail .head))))) | exact (.tail (.tail (.tail (.tail (.tail (.tail .head)))))) | exact (.tail (.tail (.tail (.tail (.tail (.tail (.tail .head))))))) | exact (.tail (.tail (.tail (.tail (.tail (.tail (.tail (.tail .head))))))))) ?_ | refine Sub.skip ?_))).reads_own) (fun w h => h.reads_own) (by decide) fun w h => ?_
  repeat (first | refine JoinP.go ?_ | (refine AnyP.go ?_; intro _) | refine CondP.yes (beq_self_eq_true _) ?_ | refine CondP.yes rfl ?_)
  refine Pad_spec h (by decide) ?_
  repeat (first | refine JoinP.go ?_ | (refine AnyP.go ?_; intro _) | refine CondP.yes (beq_self_eq_true _) ?_ | refine CondP.yes rfl ?_)
  refine Pad_spec h (by decide) ?_
  repeat (first | refine JoinP.go ?_ | (refine AnyP.go ?_; intro _) | refine CondP.yes (beq_self_eq_true _) ?_ | refine CondP.yes rfl ?_)
  refine Len_spec' (D := K5) (h.sub (M := Disk d K5 :: L) (by repeat (first | exact Sub.done | refine Sub.take (by first | exact .head | exact (.tail .head) | exact (.tail (.tail .head)) | exact (.tail (.tail (.tail .head))) | exact (.tail (.tail (.tail (.tail .head)))) | exact (.tail (.tail (.tail (.tail (.tail .head))))) | exact (.tail (.tail (.tail (.tail (.tail (.tail .head)))))) | exact (.tail (.tail (.tail (.tail (.tail (.tail (.tail .head))))))) | exact (.tail (.tail (.tail (.tail (.tail (.tail (.tail (.tail .head))))))))) ?_ | refine Sub.skip ?_))) fun w h => ?_
  repeat (first | refine JoinP.go ?_ | (refine AnyP.go ?_; intro _) | refine CondP.yes (beq_self_eq_true _) ?_ | refine CondP.yes rfl ?_)
  refine Dirty_spec h (by decide) (by decide) fun sE w h => ?_
  have hl := h.own_len.1
  refine AnyP.go fun _ => ?_
  have : sE.len = 0 := by simpa [ints, K5] using hl.symm
  rw [this]
  exact hk _ (h.drop.drop)

end Go.Proofs.Ytebicdddbeneoaa
