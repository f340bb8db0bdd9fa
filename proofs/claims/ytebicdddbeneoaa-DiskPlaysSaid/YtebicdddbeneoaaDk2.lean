/- The disk: crash, count; the fixed calls. -/
import Derived.Test.YtebicdddbeneoaaDk
namespace Go.Proofs.Ytebicdddbeneoaa
open Go.Sh
attribute [local irreducible] pto rob old ownS roS hstar hex hpure hemp mapB Disk

def crM (m : MS) (x : Bool × (Int × ByteArray)) : MS := if x.1 then layM m x.2 else m
def cr (D : DSt) (keep : List Bool) : Int × DSt :=
  if D.cache.length < keep.length then (1, D) else (0, { D with m := (keep.zip D.cache).foldl crM D.m, cache := [], fused := false })

theorem crash_inv (m : MS) (l : List (Bool × (Int × ByteArray))) (i : Nat) (h : i < l.length) : (l.take (i + 1)).foldl crM m = crM ((l.take i).foldl crM m) l[i] := by
  rw [List.take_succ_eq_append_getElem h, List.foldl_append]; rfl

def bools (l : List Bool) : List Value := l.map Value.bool

/-- keep stands in the item A -/
theorem Crash_spec {E w : World} {L : List HProp} {A : HProp} {d : Nat} {D : DSt} {s : Sl} {keep : List Bool} {k : Int → Pr} (h : Holds E w (Disk d D :: A :: L)) (hn : 0 < D.n)
    (hcl : D.cache.length ≤ 1073741824) (hA : ∀ (w : World) (L : List HProp), Holds E w (A :: L) → Reads w s 1 (bools keep)) (hkl : s.len = keep.length)
    (hk : ∀ w', Holds E w' (Disk d (cr D keep).2 :: A :: L) → k (cr D keep).1 w') : CallP Try.prog 13 #[.pointer (some ⟨d, 0, none⟩), .slice s.a s.len s.cap] tInt k w := by
  obtain ⟨r, c, h⟩ := Disk.opened h
  refine rd13 _ _ _ _ ?_
  unfold sh13
  refine Len_spec h .head rfl ?_
  have hne : D.n ≠ 0 := by omega
  refine CondP.no (beq_eq_false_iff_ne.2 hne) ?_
  repeat (first | refine val_nil ?_ | refine get_ld h rfl (by first | exact .head | exact (.tail .head) | exact (.tail (.tail .head)) | exact (.tail (.tail (.tail .head))) | exact (.tail (.tail (.tail (.tail .head)))) | exact (.tail (.tail (.tail (.tail (.tail .head))))) | exact (.tail (.tail (.tail (.tail (.tail (.tail .head)))))) | exact (.tail (.tail (.tail (.tail (.tail (.tail (.tail .head))))))) | exact (.tail (.tail (.tail (.tail (.tail (.tail (.tail (.tail .head))))))))) (by kernel_rfl) rfl ?_ | (refine do_st h rfl (by first | exact .head | exact (.tail .head) | exact (.tail (.tail .head)) | exact (.tail (.tail (.tail .head))) | exact (.tail (.tail (.tail (.tail .head)))) | exact (.tail (.tail (.tail (.tail (.tail .head))))) | exact (.tail (.tail (.tail (.tail (.tail (.tail .head)))))) | exact (.tail (.tail (.tail (.tail (.tail (.tail (.tail .head))))))) | exact (.tail (.tail (.tail (.tail (.tail (.tail (.tail (.tail .head))))))))) (by kernel_rfl) rfl rfl ?_; intro w h) | (refine DrewP.go h ?_; intro w h) | (refine AnyP.go ?_; intro _) | refine chk_ld h rfl (by first | exact .head | exact (.tail .head) | exact (.tail (.tail .head)) | exact (.tail (.tail (.tail .head))) | exact (.tail (.tail (.tail (.tail .head)))) | exact (.tail (.tail (.tail (.tail (.tail .head))))) | exact (.tail (.tail (.tail (.tail (.tail (.tail .head)))))) | exact (.tail (.tail (.tail (.tail (.tail (.tail (.tail .head))))))) | exact (.tail (.tail (.tail (.tail (.tail (.tail (.tail (.tail .head))))))))) (by kernel_rfl) rfl ?_)
  have hlen := (h.pick (.tail (.tail .head))).own_len
  rw [flat_len encW 2 encW_len] at hlen
  have hc2 : c.len = D.cache.length := by omega
  refine CondP.mk' (fun h2 => ?_) (fun h2 => ?_)
  · have h2 : D.cache.length < keep.length := by have := cT h2; simp only [hc2] at this; omega
    have e : cr D keep = (1, D) := by rw [cr, if_pos h2]
    rw [e] at hk
    exact hk _ (Disk.closed h)
  · have h2 : ¬ D.cache.length < keep.length := by have := cF h2; simp only [hc2] at this; omega
    have e : cr D keep = (0, { D with m := (keep.zip D.cache).foldl crM D.m, cache := [], fused := false }) := by rw [cr, if_neg h2]
    rw [e] at hk
    have hzl : (keep.zip D.cache).length = keep.length := by rw [List.length_zip]; omega
    refine LoopP.inv (fun t w => ∃ i : Nat, t = i ∧ i ≤ keep.length ∧ Holds E w (pto d (.cells (dcells D r c) 47 (0, 0)) :: mapI r (((keep.zip D.cache).take i).foldl crM D.m) :: ownS 64 2 c (D.cache.flatMap encW) :: A :: L))
      (fun t _ => keep.length - t.toNat) ⟨0, rfl, Nat.zero_le _, h⟩ ?_
    rintro next t w ⟨i, rfl, hi, h⟩ hnext
    refine AnyP.go fun _ => CondP.mk' (fun h1 => ?_) (fun h1 => ?_)
    · have h1 : i < keep.length := by have := cT h1; omega
      have h1' : i < D.cache.length := by omega
      refine JoinP.go ?_
      have hK := hA w _ (h.sub (M := A :: _) (by repeat (first | exact Sub.done | refine Sub.take (by first | exact .head | exact (.tail .head) | exact (.tail (.tail .head)) | exact (.tail (.tail (.tail .head))) | exact (.tail (.tail (.tail (.tail .head)))) | exact (.tail (.tail (.tail (.tail (.tail .head))))) | exact (.tail (.tail (.tail (.tail (.tail (.tail .head)))))) | exact (.tail (.tail (.tail (.tail (.tail (.tail (.tail .head))))))) | exact (.tail (.tail (.tail (.tail (.tail (.tail (.tail (.tail .head))))))))) ?_ | refine Sub.skip ?_)))
      obtain ⟨b0, off, hb0⟩ := hK.addr (by intro he; have : (bools keep).length = keep.length := List.length_map ..; rw [he] at this; simp at this; omega)
      refine val_index (Te := 4) (sz := 1) (a := ⟨b0, off, none⟩) (by kernel_rfl) (by kernel_rfl) hb0 (by omega) (by omega) ?_
      refine get_el (P := Try.prog) (i := i * 1) keep[i] hK hb0 rfl (by kernel_rfl) (by simp [bools, h1, Leaf.val]) ?_
      have hstep : ((keep.zip D.cache).take (i + 1)).foldl crM D.m = crM (((keep.zip D.cache).take i).foldl crM D.m) (keep[i], D.cache[i]) := by
        rw [crash_inv _ _ i (by rw [hzl]; exact h1), List.getElem_zip]
      refine CondP.mk' (fun h2 => ?_) (fun h2 => ?_)
      · repeat (first | refine val_nil ?_ | refine get_ld h rfl (by first | exact .head | exact (.tail .head) | exact (.tail (.tail .head)) | exact (.tail (.tail (.tail .head))) | exact (.tail (.tail (.tail (.tail .head)))) | exact (.tail (.tail (.tail (.tail (.tail .head))))) | exact (.tail (.tail (.tail (.tail (.tail (.tail .head)))))) | exact (.tail (.tail (.tail (.tail (.tail (.tail (.tail .head))))))) | exact (.tail (.tail (.tail (.tail (.tail (.tail (.tail (.tail .head))))))))) (by kernel_rfl) rfl ?_ | (refine do_st h rfl (by first | exact .head | exact (.tail .head) | exact (.tail (.tail .head)) | exact (.tail (.tail (.tail .head))) | exact (.tail (.tail (.tail (.tail .head)))) | exact (.tail (.tail (.tail (.tail (.tail .head))))) | exact (.tail (.tail (.tail (.tail (.tail (.tail .head)))))) | exact (.tail (.tail (.tail (.tail (.tail (.tail (.tail .head))))))) | exact (.tail (.tail (.tail (.tail (.tail (.tail (.tail (.tail .head))))))))) (by kernel_rfl) rfl rfl ?_; intro w h) | (refine DrewP.go h ?_; intro w h) | (refine AnyP.go ?_; intro _) | refine chk_ld h rfl (by first | exact .head | exact (.tail .head) | exact (.tail (.tail .head)) | exact (.tail (.tail (.tail .head))) | exact (.tail (.tail (.tail (.tail .head)))) | exact (.tail (.tail (.tail (.tail (.tail .head))))) | exact (.tail (.tail (.tail (.tail (.tail (.tail .head)))))) | exact (.tail (.tail (.tail (.tail (.tail (.tail (.tail .head))))))) | exact (.tail (.tail (.tail (.tail (.tail (.tail (.tail (.tail .head))))))))) (by kernel_rfl) rfl ?_)
        have hO := h.sub (M := ownS 64 2 c (D.cache.flatMap encW) :: _) (by repeat (first | exact Sub.done | refine Sub.take (by first | exact .head | exact (.tail .head) | exact (.tail (.tail .head)) | exact (.tail (.tail (.tail .head))) | exact (.tail (.tail (.tail (.tail .head)))) | exact (.tail (.tail (.tail (.tail (.tail .head))))) | exact (.tail (.tail (.tail (.tail (.tail (.tail .head)))))) | exact (.tail (.tail (.tail (.tail (.tail (.tail (.tail .head))))))) | exact (.tail (.tail (.tail (.tail (.tail (.tail (.tail (.tail .head))))))))) ?_ | refine Sub.skip ?_))
        obtain ⟨a0, ha⟩ := own_addr hO h1'
        refine val_index (Te := 64) (sz := 2) (a := a0) (by kernel_rfl) (by kernel_rfl) ha (by omega) (by simp only [hc2]; omega) ?_
        refine get_wrote hO h1' ha ?_
        refine lay_spec (x := (D.cache[i].1, D.cache[i].2)) (h.sub (M := pto d _ :: mapI r _ :: _) (by repeat (first | exact Sub.done | refine Sub.take (by first | exact .head | exact (.tail .head) | exact (.tail (.tail .head)) | exact (.tail (.tail (.tail .head))) | exact (.tail (.tail (.tail (.tail .head)))) | exact (.tail (.tail (.tail (.tail (.tail .head))))) | exact (.tail (.tail (.tail (.tail (.tail (.tail .head)))))) | exact (.tail (.tail (.tail (.tail (.tail (.tail (.tail .head))))))) | exact (.tail (.tail (.tail (.tail (.tail (.tail (.tail (.tail .head))))))))) ?_ | refine Sub.skip ?_))) rfl fun w h => ?_
        refine AnyP.go fun _ => ?_
        rw [wrap_in _ (by omega)]
        refine hnext _ _ ⟨i + 1, by omega, h1, h.sub ?_⟩ (by omega)
        rw [hstep, crM, if_pos h2]
        exact (by repeat (first | exact Sub.done | refine Sub.take (by first | exact .head | exact (.tail .head) | exact (.tail (.tail .head)) | exact (.tail (.tail (.tail .head))) | exact (.tail (.tail (.tail (.tail .head)))) | exact (.tail (.tail (.tail (.tail (.tail .head))))) | exact (.tail (.tail (.tail (.tail (.tail (.tail .head)))))) | exact (.tail (.tail (.tail (.tail (.tail (.tail (.tail .head))))))) | exact (.tail (.tail (.tail (.tail (.tail (.tail (.tail (.tail .head))))))))) ?_ | refine Sub.skip ?_))
      · refine AnyP.go fun _ => ?_
        rw [wrap_in _ (by omega)]
        refine hnext _ _ ⟨i + 1, by omega, h1, h.sub ?_⟩ (by omega)
        rw [hstep, crM, if_neg (by rw [h2]; exact Bool.false_ne_true)]
        exact (by repeat (first | exact Sub.done | refine Sub.take (by first | exact .head | exact (.tail .head) | exact (.tail (.tail .head)) | exact (.tail (.tail (.tail .head))) | exact (.tail (.tail (.tail (.tail .head)))) | exact (.tail (.tail (.tail (.tail (.tail .head))))) | exact (.tail (.tail (.tail (.tail (.tail (.tail .head)))))) | exact (.tail (.tail (.tail (.tail (.tail (.tail (.tail .head))))))) | exact (.tail (.tail (.tail (.tail (.tail (.tail (.tail (.tail .head))))))))) ?_ | refine Sub.skip ?_))
    · have h1 : i = keep.length := by have := cF h1; omega
      subst h1
      rw [← hzl, List.take_length] at h
      repeat (first | refine val_nil ?_ | refine get_ld h rfl (by first | exact .head | exact (.tail .head) | exact (.tail (.tail .head)) | exact (.tail (.tail (.tail .head))) | exact (.tail (.tail (.tail (.tail .head)))) | exact (.tail (.tail (.tail (.tail (.tail .head))))) | exact (.tail (.tail (.tail (.tail (.tail (.tail .head)))))) | exact (.tail (.tail (.tail (.tail (.tail (.tail (.tail .head))))))) | exact (.tail (.tail (.tail (.tail (.tail (.tail (.tail (.tail .head))))))))) (by kernel_rfl) rfl ?_ | (refine do_st h rfl (by first | exact .head | exact (.tail .head) | exact (.tail (.tail .head)) | exact (.tail (.tail (.tail .head))) | exact (.tail (.tail (.tail (.tail .head)))) | exact (.tail (.tail (.tail (.tail (.tail .head))))) | exact (.tail (.tail (.tail (.tail (.tail (.tail .head)))))) | exact (.tail (.tail (.tail (.tail (.tail (.tail (.tail .head))))))) | exact (.tail (.tail (.tail (.tail (.tail (.tail (.tail (.tail .head))))))))) (by kernel_rfl) rfl rfl ?_; intro w h) | (refine DrewP.go h ?_; intro w h) | (refine AnyP.go ?_; intro _) | refine chk_ld h rfl (by first | exact .head | exact (.tail .head) | exact (.tail (.tail .head)) | exact (.tail (.tail (.tail .head))) | exact (.tail (.tail (.tail (.tail .head)))) | exact (.tail (.tail (.tail (.tail (.tail .head))))) | exact (.tail (.tail (.tail (.tail (.tail (.tail .head)))))) | exact (.tail (.tail (.tail (.tail (.tail (.tail (.tail .head))))))) | exact (.tail (.tail (.tail (.tail (.tail (.tail (.tail (.tail .head))))))))) (by kernel_rfl) rfl ?_)
      refine hk _ (Disk.closed (r := r) (c := ⟨none, 0, 0⟩) ((h.sub (M := pto d _ :: mapI r ((keep.zip D.cache).foldl crM D.m) :: A :: L) (by repeat (first | exact Sub.done | refine Sub.take (by first | exact .head | exact (.tail .head) | exact (.tail (.tail .head)) | exact (.tail (.tail (.tail .head))) | exact (.tail (.tail (.tail (.tail .head)))) | exact (.tail (.tail (.tail (.tail (.tail .head))))) | exact (.tail (.tail (.tail (.tail (.tail (.tail .head)))))) | exact (.tail (.tail (.tail (.tail (.tail (.tail (.tail .head))))))) | exact (.tail (.tail (.tail (.tail (.tail (.tail (.tail (.tail .head))))))))) ?_ | refine Sub.skip ?_))).own_nil (T := 64) (sz := 2) |>.sub ?_))
      exact (by repeat (first | exact Sub.done | refine Sub.take (by first | exact .head | exact (.tail .head) | exact (.tail (.tail .head)) | exact (.tail (.tail (.tail .head))) | exact (.tail (.tail (.tail (.tail .head)))) | exact (.tail (.tail (.tail (.tail (.tail .head))))) | exact (.tail (.tail (.tail (.tail (.tail (.tail .head)))))) | exact (.tail (.tail (.tail (.tail (.tail (.tail (.tail .head))))))) | exact (.tail (.tail (.tail (.tail (.tail (.tail (.tail (.tail .head))))))))) ?_ | refine Sub.skip ?_))

theorem Count_spec {E w : World} {L : List HProp} {d : Nat} {D : DSt} {k : (Int × Int × Unit) → Pr} (h : Holds E w (Disk d D :: L))
    (hk : ∀ w', Holds E w' (Disk d D :: L) → k (D.writes, D.flushes, ()) w') : CallP Try.prog 17 #[.pointer (some ⟨d, 0, none⟩)] (.tup [.leaf (.int .i64), .leaf (.int .i64)]) k w := by
  obtain ⟨r, c, h⟩ := Disk.opened h
  refine rd17 _ _ _ ?_
  unfold sh17
  refine get_pure false (by kernel_rfl) ?_
  refine CondP.no rfl ?_
  repeat (first | refine val_nil ?_ | refine get_ld h rfl (by first | exact .head | exact (.tail .head) | exact (.tail (.tail .head)) | exact (.tail (.tail (.tail .head))) | exact (.tail (.tail (.tail (.tail .head)))) | exact (.tail (.tail (.tail (.tail (.tail .head))))) | exact (.tail (.tail (.tail (.tail (.tail (.tail .head)))))) | exact (.tail (.tail (.tail (.tail (.tail (.tail (.tail .head))))))) | exact (.tail (.tail (.tail (.tail (.tail (.tail (.tail (.tail .head))))))))) (by kernel_rfl) rfl ?_ | (refine do_st h rfl (by first | exact .head | exact (.tail .head) | exact (.tail (.tail .head)) | exact (.tail (.tail (.tail .head))) | exact (.tail (.tail (.tail (.tail .head)))) | exact (.tail (.tail (.tail (.tail (.tail .head))))) | exact (.tail (.tail (.tail (.tail (.tail (.tail .head)))))) | exact (.tail (.tail (.tail (.tail (.tail (.tail (.tail .head))))))) | exact (.tail (.tail (.tail (.tail (.tail (.tail (.tail (.tail .head))))))))) (by kernel_rfl) rfl rfl ?_; intro w h) | (refine DrewP.go h ?_; intro w h) | (refine AnyP.go ?_; intro _) | refine chk_ld h rfl (by first | exact .head | exact (.tail .head) | exact (.tail (.tail .head)) | exact (.tail (.tail (.tail .head))) | exact (.tail (.tail (.tail (.tail .head)))) | exact (.tail (.tail (.tail (.tail (.tail .head))))) | exact (.tail (.tail (.tail (.tail (.tail (.tail .head)))))) | exact (.tail (.tail (.tail (.tail (.tail (.tail (.tail .head))))))) | exact (.tail (.tail (.tail (.tail (.tail (.tail (.tail (.tail .head))))))))) (by kernel_rfl) rfl ?_)
  exact hk _ (Disk.closed h)
theorem Len_spec' {E w : World} {L : List HProp} {d : Nat} {D : DSt} {k : Int → Pr} (h : Holds E w (Disk d D :: L))
    (hk : ∀ w', Holds E w' (Disk d D :: L) → k D.n w') : CallP Try.prog 18 #[.pointer (some ⟨d, 0, none⟩)] tInt k w := by
  obtain ⟨r, c, h⟩ := Disk.opened h
  exact Len_spec h .head rfl (hk _ (Disk.closed h))

/-- two lists of numbers -/
def nums (l : List Int) : List Value := l.map (Value.int .i64)
theorem Ints_spec {E w : World} {L : List HProp} {a b : Sl} {x y : List Int} {k : Bool → Pr} (h : Holds E w L) (ha : ∀ w, Holds E w L → Reads w a 1 (nums x)) (hb : ∀ w, Holds E w L → Reads w b 1 (nums y))
    (hlx : x.length ≤ 1073741824) (hk : ∀ w', Holds E w' L → k (x == y) w') : CallP Try.prog 26 #[.slice a.a a.len a.cap, .slice b.a b.len b.cap] tBool k w := by
  refine rd26 _ _ _ _ ?_
  unfold sh26
  have hal : a.len = x.length := by have := (ha w h).1; simp [nums] at this; omega
  have hbl : b.len = y.length := by have := (hb w h).1; simp [nums] at this; omega
  refine CondP.mk' (fun h1 => ?_) (fun h1 => ?_)
  · have h1 := neT h1
    have e : (x == y) = false := by
      rw [beq_eq_false_iff_ne]; intro he; apply h1; rw [hal, hbl, he]
    rw [e] at hk; exact hk _ h
  · have h1 : x.length = y.length := by have := neF h1; omega
    refine LoopP.inv (fun t w => ∃ i : Nat, t = i ∧ i ≤ x.length ∧ x.take i = y.take i ∧ Holds E w L) (fun t _ => x.length - t.toNat) ⟨0, rfl, Nat.zero_le _, rfl, h⟩ ?_
    rintro next t w ⟨i, rfl, hi, he, h⟩ hnext
    refine AnyP.go fun _ => CondP.mk' (fun h2 => ?_) (fun h2 => ?_)
    · have h2 : i < x.length := by have := cT h2; omega
      have h2' : i < y.length := by omega
      refine DrewP.go h fun w h => ?_
      have hra := ha w h
      have hrb := hb w h
      obtain ⟨b0, o0, hb0⟩ := hra.addr (by intro he; have : (nums x).length = x.length := List.length_map ..; rw [he] at this; simp at this; omega)
      obtain ⟨b1, o1, hb1⟩ := hrb.addr (by intro he; have : (nums y).length = y.length := List.length_map ..; rw [he] at this; simp at this; omega)
      refine val_index (Te := 3) (sz := 1) (a := ⟨b0, o0, none⟩) (by kernel_rfl) (by kernel_rfl) hb0 (by omega) (by omega) ?_
      refine get_el (P := Try.prog) (i := i * 1) x[i] hra hb0 rfl (by kernel_rfl) (by simp [nums, h2, Leaf.val]) ?_
      refine val_index (Te := 3) (sz := 1) (a := ⟨b1, o1, none⟩) (by kernel_rfl) (by kernel_rfl) hb1 (by omega) (by omega) ?_
      refine get_el (P := Try.prog) (i := i * 1) y[i] hrb hb1 rfl (by kernel_rfl) (by simp [nums, h2', Leaf.val]) ?_
      refine CondP.mk' (fun h3 => ?_) (fun h3 => ?_)
      · have h3 := neT h3
        have e : (x == y) = false := by
          rw [beq_eq_false_iff_ne]; intro he; apply h3; subst he; rfl
        rw [e] at hk; exact hk _ h
      · have h3 := neF h3
        rw [wrap_in _ (by omega)]
        refine hnext _ _ ⟨i + 1, by omega, by omega, ?_, h⟩ (by omega)
        rw [List.take_succ_eq_append_getElem h2, List.take_succ_eq_append_getElem h2', he, h3]
    · have h2 : i = x.length := by have := cF h2; omega
      subst h2
      have e : (x == y) = true := by
        rw [beq_iff_eq]; rw [List.take_length, h1, List.take_length] at he; exact he
      rw [e] at hk; exact hk _ h

theorem Write_to {E w : World} {L : List HProp} {d : Nat} {D D' : DSt} {at_ r : Int} {s : ByteArray} {k : Int → Pr} (h : Holds E w (Disk d D :: L))
    (hn : 0 < D.n) (hcl : D.cache.length ≤ 1073741824) (e : wr D at_ s = (r, D')) (hk : ∀ w', Holds E w' (Disk d D' :: L) → k r w') :
    CallP Try.prog 10 #[.pointer (some ⟨d, 0, none⟩), .int .i64 at_, .string s] tInt k w :=
  Write_spec h hn hcl (by rw [e]; exact hk)
theorem Flush_to {E w : World} {L : List HProp} {d : Nat} {D D' : DSt} {r : Int} {k : Int → Pr} (h : Holds E w (Disk d D :: L)) (hn : 0 < D.n) (hcl : D.cache.length ≤ 1073741824)
    (e : fl D = (r, D')) (hk : ∀ w', Holds E w' (Disk d D' :: L) → k r w') : CallP Try.prog 11 #[.pointer (some ⟨d, 0, none⟩)] tInt k w :=
  Flush_spec h hn hcl (by rw [e]; exact hk)
theorem Crash_to {E w : World} {L : List HProp} {A : HProp} {d : Nat} {D D' : DSt} {s : Sl} {keep : List Bool} {r : Int} {k : Int → Pr} (h : Holds E w (Disk d D :: A :: L)) (hn : 0 < D.n)
    (hcl : D.cache.length ≤ 1073741824) (hA : ∀ (w : World) (L : List HProp), Holds E w (A :: L) → Reads w s 1 (bools keep)) (hkl : s.len = keep.length)
    (e : cr D keep = (r, D')) (hk : ∀ w', Holds E w' (Disk d D' :: A :: L) → k r w') : CallP Try.prog 13 #[.pointer (some ⟨d, 0, none⟩), .slice s.a s.len s.cap] tInt k w :=
  Crash_spec h hn hcl hA hkl (by rw [e]; exact hk)
theorem Read_to {E w : World} {L : List HProp} {d : Nat} {D : DSt} {x r : Int} {s : ByteArray} {k : (ByteArray × Int × Unit) → Pr} (h : Holds E w (Disk d D :: L)) (hn : 0 < D.n) (hcl : D.cache.length ≤ 1073741824)
    (e : (if rightM D.n x ≠ 0 then ((⟨#[]⟩ : ByteArray), rightM D.n x, ()) else (rdD D x, 0, ())) = (s, r, ())) (hk : ∀ w', Holds E w' (Disk d D :: L) → k (s, r, ()) w') :
    CallP Try.prog 14 #[.pointer (some ⟨d, 0, none⟩), .int .i64 x] (.tup [.leaf .str, .leaf (.int .i64)]) k w :=
  Read_spec h hn hcl (by rw [e]; exact hk)

end Go.Proofs.Ytebicdddbeneoaa
