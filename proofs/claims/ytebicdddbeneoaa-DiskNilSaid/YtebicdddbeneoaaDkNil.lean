/- The law DiskNil: the walk. -/
import Derived.Test.YtebicdddbeneoaaDk3
namespace Go.Proofs.Ytebicdddbeneoaa
open Go.Sh
attribute [local irreducible] pto rob old ownS roS hstar hex hpure hemp mapB Disk

/-- a disk that has no sectors in this world -/
def Dead (p : Option Addr) (w : World) : Prop := ∀ k : Int → Pr, k 0 w → CallP Try.prog 18 #[.pointer p] tInt k w

theorem dead_nil (w : World) : Dead none w := by
  intro k hk
  refine rd18 _ _ _ ?_
  unfold sh18
  refine get_pure true (by kernel_rfl) ?_
  exact CondP.yes rfl hk
theorem dead_zero {E w : World} {L L' : List HProp} {d : Nat} {c : Array Value} (h : Holds E w L) (p : Pick L (pto d (.cells c 47 (0, 0))) L')
    (hc : c[0]? = some (.int .i64 0)) : Dead (some ⟨d, 0, none⟩) w := fun _ hk => Len_spec h p hc hk

variable {p : Option Addr} {w : World} (hd : Dead p w)
include hd
theorem dead_right {at_ : Int} {k : Int → Pr} (hk : k 13 w) : CallP Try.prog 28 #[.pointer p, .int .i64 at_] tInt k w := by
  refine rd28 _ _ _ _ ?_
  unfold sh28
  exact hd _ (CondP.yes rfl hk)
theorem dead_write {at_ : Int} {s : ByteArray} {k : Int → Pr} (hk : k 13 w) : CallP Try.prog 10 #[.pointer p, .int .i64 at_, .string s] tInt k w := by
  refine rd10 _ _ _ _ _ ?_
  unfold sh10
  exact dead_right hd (CondP.yes rfl hk)
theorem dead_flush {k : Int → Pr} (hk : k 13 w) : CallP Try.prog 11 #[.pointer p] tInt k w := by
  refine rd11 _ _ _ ?_
  unfold sh11
  exact hd _ (CondP.yes rfl hk)
theorem dead_dirty {k : Sl → Pr} (hk : k ⟨none, 0, 0⟩ w) : CallP Try.prog 12 #[.pointer p] tSl k w := by
  refine rd12 _ _ _ ?_
  unfold sh12
  exact hd _ (CondP.yes rfl hk)
theorem dead_crash {s : Sl} {k : Int → Pr} (hk : k 13 w) : CallP Try.prog 13 #[.pointer p, .slice s.a s.len s.cap] tInt k w := by
  refine rd13 _ _ _ _ ?_
  unfold sh13
  exact hd _ (CondP.yes rfl hk)
theorem dead_read {at_ : Int} {k : (ByteArray × Int × Unit) → Pr} (hk : k (⟨#[]⟩, 13, ()) w) : CallP Try.prog 14 #[.pointer p, .int .i64 at_] (.tup [.leaf .str, .leaf (.int .i64)]) k w := by
  refine rd14 _ _ _ _ ?_
  unfold sh14
  exact dead_right hd (CondP.yes rfl hk)
theorem dead_copy {k : Option Addr → Pr} (hk : k none w) : CallP Try.prog 16 #[.pointer p] tPtr k w := by
  refine rd16 _ _ _ ?_
  unfold sh16
  exact hd _ (CondP.yes rfl hk)
omit hd

theorem nil_walk {W : World} {x : Int} {s : ByteArray} {k : Bool → Pr} (hk : ∀ w', Holds W w' [old W] → k true w') : CallP Try.prog 6 #[.int .i64 x, .string s] tBool k W := by
  refine rd6 _ _ _ _ ?_
  unfold sh6
  refine do_box (Holds.start W) fun d w h => ?_
  have d1 := dead_nil w
  have d2 := dead_zero h .head rfl
  refine dead_read d1 ?_
  refine dead_read d2 ?_
  refine rd17 _ _ _ ?_
  unfold sh17
  refine get_pure false (by kernel_rfl) ?_
  refine CondP.no rfl ?_
  refine DrewP.go h fun w h => ?_
  have d1 := dead_nil w
  have d2 := dead_zero h .head rfl
  refine val_nil ?_
  refine get_ld h rfl .head (by kernel_rfl) (x := 0) rfl ?_
  refine val_nil ?_
  refine get_ld h rfl .head (by kernel_rfl) (x := 0) rfl ?_
  refine chk_ld h rfl .head (by kernel_rfl) rfl ?_
  refine JoinP.go (CondP.yes rfl (AnyP.go fun _ => JoinP.go (CondP.yes rfl ?_)))
  refine dead_write d1 (AnyP.go fun _ => JoinP.go (CondP.yes rfl ?_))
  refine dead_write d2 (AnyP.go fun _ => JoinP.go (CondP.yes rfl ?_))
  refine dead_flush d1 (AnyP.go fun _ => JoinP.go (CondP.yes rfl ?_))
  refine dead_flush d2 (AnyP.go fun _ => JoinP.go (CondP.yes rfl ?_))
  refine dead_crash (s := ⟨none, 0, 0⟩) d1 (AnyP.go fun _ => JoinP.go (CondP.yes rfl ?_))
  refine dead_crash (s := ⟨none, 0, 0⟩) d2 (AnyP.go fun _ => JoinP.go (CondP.yes rfl ?_))
  refine dead_dirty d1 (AnyP.go fun _ => JoinP.go (CondP.yes rfl ?_))
  refine d1 _ (AnyP.go fun _ => JoinP.go (CondP.yes rfl (AnyP.go fun _ => JoinP.go (CondP.yes rfl (AnyP.go fun _ => JoinP.go (CondP.yes rfl ?_))))))
  refine dead_copy d1 ?_
  refine get_pure true (by kernel_rfl) ?_
  refine AnyP.go fun _ => JoinP.go (CondP.yes rfl ?_)
  refine dead_copy d2 ?_
  refine get_pure true (by kernel_rfl) ?_
  refine AnyP.go fun _ => JoinP.go (CondP.yes rfl ?_)
  exact known_spec h fun w h => AnyP.go fun _ => hk _ h.drop
end Go.Proofs.Ytebicdddbeneoaa
