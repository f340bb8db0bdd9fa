/- The index: items, blocks, what puts one in and takes some out. -/
import Derived.Test.YtoaalegieaocbaaShQ
import Derived.Test.YtoaalegieaocbaaRdIndex2
import Derived.Test.YtoaalegieaocbaaShJ
namespace Go.Proofs.Ytoaalegieaocbaa
open Go.Sh
attribute [local irreducible] pto rob old ownS roS hstar hex hpure hemp mapB hro

theorem wrap_in (n : Int) (h : -9223372036854775808 ≤ n ∧ n ≤ 9223372036854775807) : IntKind.i64.wrap n = n := IntWalk.i64_in n h

/-! ### put and cut, whatever the elements -/
section
variable {P : Program} {E w : World} {L : List HProp} {α : Type} {enc : α → List Value} {sz by_ : Nat} {s t : Sl} {xs ys : List α} {T T2 Te Te2 : TypeId}

theorem flat_notAgg (hna : ∀ x, ∀ v ∈ enc x, notAgg v = true) (xs : List α) : ∀ v ∈ xs.flatMap enc, notAgg v = true := by
  intro v hv
  obtain ⟨x, _, hx⟩ := List.mem_flatMap.1 hv
  exact hna x v hx

theorem append_part {s' : Sl} {ds : List α} {k : Sl → Pr} {L' : List HProp} {R : TypeId} (h : Holds E w (ownS Te sz s' (ds.flatMap enc) :: L')) (henc : ∀ x, (enc x).length = sz) (hna : ∀ x, ∀ v ∈ enc x, notAgg v = true) (h0 : 0 < sz)
    (hT : pureRun P (underlying T) = some (.slice Te)) (hT2 : pureRun P (underlying T2) = some (.slice Te2)) (hE : ElemT P Te sz by_) (hby : by_ ≤ 64)
    (ht : Reads w t sz (ys.flatMap enc)) (hb : ds.length + ys.length ≤ 1073741824)
    (hk : ∀ s1 w', s1.len = ds.length + ys.length → Holds E w' (ownS Te sz s1 ((ds ++ ys).flatMap enc) :: L') → k s1 w') :
    DoP P (vN (Builtin.append_ #[T, T2] R #[.slice s'.a s'.len s'.cap, .slice t.a t.len t.cap])) tSl k w := by
  have l1 := h.reads_own.len_eq henc h0
  have l2 := ht.len_eq henc h0
  refine do_append (Te2 := Te2) h .head hT hT2 hE ht (flat_notAgg hna ys) (by rw [l1, l2]; omega) ?_ fun s1 w' hs1 h' => hk s1 w' (by rw [hs1, l1, l2]) (by rw [List.flatMap_append]; exact h')
  rw [l1, l2]
  refine Nat.le_trans (Nat.mul_le_mul_left _ hby) ?_
  omega

theorem put_walk {n : Nat} {k : Sl → Pr} (h : Holds E w L) (henc : ∀ x, (enc x).length = sz) (hna : ∀ x, ∀ v ∈ enc x, notAgg v = true) (h0 : 0 < sz)
    (hT : pureRun P (underlying T) = some (.slice Te)) (hT2 : pureRun P (underlying T2) = some (.slice Te2)) (hE : ElemT P Te sz by_) (hby : by_ ≤ 64)
    (hr : Oracle E L s sz (xs.flatMap enc)) (ht : Oracle E L t sz (ys.flatMap enc)) (hle : s.len ≤ s.cap) (hn : n ≤ xs.length) (hb : xs.length + ys.length ≤ 1073741824)
    (hk : ∀ s1 w', s1.len = xs.length + ys.length → Holds E w' (ownS Te sz s1 ((xs.take n ++ ys ++ xs.drop n).flatMap enc) :: L) → k s1 w') :
    (ValP P (vN (Instr.sliceAt T (.slice s.a s.len s.cap) none (some (.int .i64 n)) none)) tSl fun t10 =>
      DoP P (vN (Builtin.append_ #[T, T] T #[.slice none 0 0, .slice t10.a t10.len t10.cap])) tSl fun t11 =>
      DrewP <|
      ValP P (vN (Instr.sliceAt T (.slice s.a s.len s.cap) (some (.int .i64 n)) none none)) tSl fun t17 =>
      DoP P (vN (Builtin.append_ #[T, T2] T #[.slice t11.a t11.len t11.cap, .slice t.a t.len t.cap])) tSl fun t14 =>
      DoP P (vN (Builtin.append_ #[T, T] T #[.slice t14.a t14.len t14.cap, .slice t17.a t17.len t17.cap])) tSl fun t18 => k t18) w := by
  have l1 := (hr w h).len_eq henc h0
  refine val_slice_to hT hE.size (by omega) (by omega) ?_
  rw [show ((n : Int).toNat) = n from rfl]
  have r1 := (hr w h).part henc (l := 0) (h := n) (m := s.cap) (by omega) hn l1 (by omega)
  rw [List.drop_zero, Nat.sub_zero] at r1
  refine append_part (s' := ⟨none, 0, 0⟩) (ds := []) (by simpa using h.own_nil) henc hna h0 hT hT hE hby r1 (by rw [List.length_take]; simp; omega) fun s1 w1 hs1 h1 => ?_
  rw [List.nil_append] at h1
  refine DrewP.go h1 fun w1 h1 => ?_
  refine val_slice_from hT hE.size (by omega) (by omega) ?_
  rw [show ((n : Int).toNat) = n from rfl]
  refine append_part h1 henc hna h0 hT hT2 hE hby (ht _ h1.drop) (by rw [List.length_take]; omega) fun s2 w2 hs2 h2 => ?_
  have r2 := (hr _ h2.drop).from_ henc (l := n) (m := s.cap) hn l1 hle
  refine append_part h2 henc hna h0 hT hT hE hby r2 (by simp; omega) fun s3 w3 hs3 h3 => hk _ _ ?_ h3
  rw [hs3]; simp; omega

theorem cut_walk {n m : Nat} {k : Sl → Pr} (h : Holds E w L) (henc : ∀ x, (enc x).length = sz) (hna : ∀ x, ∀ v ∈ enc x, notAgg v = true) (h0 : 0 < sz)
    (hT : pureRun P (underlying T) = some (.slice Te)) (hE : ElemT P Te sz by_) (hby : by_ ≤ 64)
    (hr : Oracle E L s sz (xs.flatMap enc)) (hle : s.len ≤ s.cap) (hn : n + m ≤ xs.length) (hb : xs.length ≤ 1073741824)
    (hk : ∀ s1 w', s1.len = xs.length - m → Holds E w' (ownS Te sz s1 ((xs.take n ++ xs.drop (n + m)).flatMap enc) :: L) → k s1 w') :
    (DrewP <|
      ValP P (vN (Instr.sliceAt T (.slice s.a s.len s.cap) none (some (.int .i64 n)) none)) tSl fun t9 =>
      ValP P (vN (Instr.sliceAt T (.slice s.a s.len s.cap) (some (.int .i64 (IntKind.i64.wrap ((n : Int) + m)))) none none)) tSl fun t15 =>
      DoP P (vN (Builtin.append_ #[T, T] T #[.slice none 0 0, .slice t9.a t9.len t9.cap])) tSl fun t10 =>
      DoP P (vN (Builtin.append_ #[T, T] T #[.slice t10.a t10.len t10.cap, .slice t15.a t15.len t15.cap])) tSl fun t16 => k t16) w := by
  have l1 := (hr w h).len_eq henc h0
  refine DrewP.go h fun w h => ?_
  refine val_slice_to hT hE.size (by omega) (by omega) ?_
  rw [show ((n : Int).toNat) = n from rfl]
  rw [show IntKind.i64.wrap ((n : Int) + m) = ((n + m : Nat) : Int) by rw [wrap_in _ (by omega)]; omega]
  refine val_slice_from hT hE.size (by omega) (by omega) ?_
  rw [show (((n + m : Nat) : Int).toNat) = n + m from rfl]
  have r1 := (hr w h).part henc (l := 0) (h := n) (m := s.cap) (by omega) (by omega) l1 (by omega)
  rw [List.drop_zero, Nat.sub_zero] at r1
  refine append_part (s' := ⟨none, 0, 0⟩) (ds := []) (by simpa using h.own_nil) henc hna h0 hT hT hE hby r1 (by rw [List.length_take]; simp; omega) fun s1 w1 hs1 h1 => ?_
  rw [List.nil_append] at h1
  have r2 := (hr _ h1.drop).from_ henc (l := n + m) (m := s.cap) hn l1 hle
  refine append_part h1 henc hna h0 hT hT hE hby r2 (by simp; omega) fun s3 w3 hs3 h3 => hk _ _ ?_ h3
  rw [hs3]; simp; omega
end
end Go.Proofs.Ytoaalegieaocbaa
