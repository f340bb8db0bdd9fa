/- The document's answer for the index: Stab, Overlap and Max. -/
import Derived.Test.YtoaalegieaocbaaIxRef2
namespace Go.Proofs.Ytoaalegieaocbaa
open Go.Sh
attribute [local irreducible] pto rob old ownS roS hstar hex hpure hemp mapB hro IxB RfB

section
variable {E w : World} {L L' : List HProp}

abbrev rItem (b : Nat) (x : Item) : HProp := pto b (.cells #[.string x.1, .int .i64 x.2.1, .int .i64 x.2.2.1, .int .i64 x.2.2.2.1] 36 (0, 0))

/-- what is appended, if it is among those asked for -/
theorem rpush {b11 : Nat} {s sl : Sl} {r : Nat} {l acc : List Item} {x : Item} {b : Bool} {J : Sl → Pr} {p : Item → Bool} (hp : b = p x) (h : Holds E w (rItem b11 x :: ownS 36 4 sl (acc.flatMap encI) :: Ro r s l L)) (hb : acc.length ≤ 536870912)
    (hJ : ∀ s1 w', Holds E w' (ownS 36 4 s1 ((acc ++ [x].filter p).flatMap encI) :: Ro r s l L) → J s1 w') :
    CondP b (
      GetP Try.prog (vN (Instr.loadAt 36 (.pointer (some ⟨b11, 0, none⟩)))) (.one (.agg [.str, .int .i64, .int .i64, .int .i64])) fun t46 =>
      DoP Try.prog (vN (Instr.buildSlice 40 1 #[(0, .agg #[.string t46.1, .int .i64 t46.2.1, .int .i64 t46.2.2.1, .int .i64 t46.2.2.2.1])])) tSl fun t47 =>
      DoP Try.prog (vN (Builtin.append_ #[40, 40] 40 #[.slice sl.a sl.len sl.cap, .slice t47.a t47.len t47.cap])) tSl fun t48 =>
      J t48) (
      J sl) w := by
  refine CondP.mk' (fun hc => ?_) (fun hc => ?_)
  · rw [List.filter_cons_of_pos (by rw [← hp, hc]), List.filter_nil] at hJ
    refine get_ld_agg (ls := itL) x h rfl .head (by kernel_rfl) (by kernel_rfl) ?_
    refine do_build (Te := 36) (sz := 4) (len := 1) ([x].flatMap encI) h (by kernel_rfl) rfl fun t w ht h => ?_
    exact append_part (Te := 36) (Te2 := 36) (h.pick (.tail (.tail .head))) encI_len encI_na (by omega) (by kernel_rfl) (by kernel_rfl) elemR (by omega) h.reads_own (by simp; omega) fun s1 w _ h => hJ _ _ (h.sub (by repeat (first | exact Sub.done | refine Sub.take (by first | exact .head | exact (.tail .head) | exact (.tail (.tail .head)) | exact (.tail (.tail (.tail .head))) | exact (.tail (.tail (.tail (.tail .head)))) | exact (.tail (.tail (.tail (.tail (.tail .head))))) | exact (.tail (.tail (.tail (.tail (.tail (.tail .head)))))) | exact (.tail (.tail (.tail (.tail (.tail (.tail (.tail .head))))))) | exact (.tail (.tail (.tail (.tail (.tail (.tail (.tail (.tail .head))))))))) ?_ | refine Sub.skip ?_)))
  · rw [List.filter_cons_of_neg (by rw [← hp, hc]; simp), List.filter_nil, List.append_nil] at hJ
    exact hJ _ _ h.drop

theorem filt_snoc {p q : Item → Bool} {l : List Item} {i : Nat} (hi : i < l.length) : ((l.take (i + 1)).filter q).filter p = ((l.take i).filter q).filter p ++ [l[i]].filter (fun x => q x && p x) := by
  rw [← List.take_append_getElem hi, List.filter_append, List.filter_append]
  congr 1
  simp only [List.filter_cons, List.filter_nil]
  cases q l[i] <;> cases hp : p l[i] <;> simp [hp]

set_option maxHeartbeats 1000000 in
theorem rstab_spec {r : Nat} {l : List Item} {lo hi : ByteArray} {t : Int} {k : Sl → Pr} (h : Holds E w (RfB r l :: L)) (hl : l.length ≤ 536870912) (h1 : lo.size ≤ 1000000) (h2 : hi.size ≤ 1000000)
    (hk : ∀ s w', Holds E w' (ownS 36 4 s ((stabL l lo hi t).flatMap encI) :: RfB r l :: L) → k s w') : CallP Try.prog 21 #[.pointer (some ⟨r, 0, none⟩), .string lo, .string hi, .int .i64 t] tSl k w := by
  replace h := RfB.opened h
  obtain ⟨s, h⟩ := h
  have hR : Oracle E (Ro r s l L) s 4 (l.flatMap encI) := fun w h => h.drop.reads_own
  have hsl := (hR w h).len_eq encI_len (by omega)
  refine rd21 _ _ _ _ _ _ ?_
  unfold sh21
  refine LoopP.inv (fun q w => ∃ (sl : Sl) (i : Nat), q = (sl, (i : Int)) ∧ i ≤ l.length ∧ Holds E w (ownS 36 4 sl ((stabL (l.take i) lo hi t).flatMap encI) :: Ro r s l L)) (fun q _ => l.length - q.2.toNat) ⟨⟨none, 0, 0⟩, 0, rfl, by omega, by simpa [stabL] using h.own_nil⟩ ?_
  rintro next q w ⟨sl, i, rfl, hi', h⟩ hnext
  refine AnyP.go fun _ => ?_
  refine val_nil ?_
  refine get_ld h rfl .two (by kernel_rfl) (x := s) rfl ?_
  refine CondP.mk' (fun hc => ?_) (fun hc => ?_)
  rotate_left
  · have hc : i = l.length := by have : ¬ (i : Int) < s.len := cF hc; omega
    rw [hc, List.take_length] at h
    exact hk _ _ (RfB.closed (s := s) (h.sub (M := pto r _ :: ownS 36 4 s _ :: ownS 36 4 sl _ :: L) (by repeat (first | exact Sub.done | refine Sub.take (by first | exact .head | exact (.tail .head) | exact (.tail (.tail .head)) | exact (.tail (.tail (.tail .head))) | exact (.tail (.tail (.tail (.tail .head)))) | exact (.tail (.tail (.tail (.tail (.tail .head))))) | exact (.tail (.tail (.tail (.tail (.tail (.tail .head)))))) | exact (.tail (.tail (.tail (.tail (.tail (.tail (.tail .head))))))) | exact (.tail (.tail (.tail (.tail (.tail (.tail (.tail (.tail .head))))))))) ?_ | refine Sub.skip ?_)))).swap
  have hc : i < l.length := by have : (i : Int) < s.len := cT hc; omega
  have hw1 : IntKind.i64.wrap ((i : Int) + 1) = ((i + 1 : Nat) : Int) := by rw [wrap_in _ (by omega)]; omega
  have hsn : stabL (l.take (i + 1)) lo hi t = stabL (l.take i) lo hi t ++ [l[i]].filter (fun x => inr lo hi x && stabP t x) := filt_snoc hc
  have hle : (stabL (l.take i) lo hi t).length ≤ 536870912 := by
    have e1 := List.length_filter_le (stabP t) ((l.take i).filter (inr lo hi))
    have e2 := List.length_filter_le (inr lo hi) (l.take i)
    have e3 : (l.take i).length ≤ l.length := by rw [List.length_take]; omega
    unfold stabL; omega
  refine JoinP.via (fun s1 w => Holds E w (ownS 36 4 s1 ((stabL (l.take (i + 1)) lo hi t).flatMap encI) :: Ro r s l L)) ?_ fun J hJ => ?_
  · intro s1 w h
    refine AnyP.go fun _ => ?_
    rw [hw1]
    exact hnext _ _ ⟨s1, i + 1, rfl, by omega, h⟩ (by simp only; omega)
  clear hnext
  rw [hsn] at hJ
  generalize stabL (l.take i) lo hi t = acc at *
  refine val_nil ?_
  refine get_ld h rfl .two (by kernel_rfl) (x := s) rfl ?_
  refine val_idx (hR w h.drop) encI_len (by omega) hc (T := 40) (Te := 36) (by kernel_rfl) (by kernel_rfl) fun a0 ha0 hs0 => ?_
  refine get_elt l[i] (hR w h.drop) encI_len ha0 hc (by kernel_rfl) (by kernel_rfl) rfl ?_
  generalize l[i] = x at *
  refine do_alloc (z := .agg #[.string ⟨#[]⟩, .int .i64 0, .int .i64 0, .int .i64 0]) h (by kernel_rfl) fun b11 w h => ?_
  refine do_st_all (n := 4) h rfl .head (by kernel_rfl) rfl rfl (by intro v hv; simp at hv; rcases hv with rfl | rfl | rfl | rfl <;> rfl) fun w h => ?_
  replace h : Holds E w (rItem b11 x :: ownS 36 4 sl (acc.flatMap encI) :: Ro r s l L) := h
  refine get_ld h rfl .head (by kernel_rfl) (x := x.1) rfl ?_
  refine among_spec h h1 h2 fun w h => ?_
  have hin : (!(Op.bytesLess x.1.toList lo.toList || (!(hi.toList == (⟨#[]⟩ : ByteArray).toList) && !Op.bytesLess x.1.toList hi.toList))) = inr lo hi x := rfl
  rw [hin]
  refine JoinP.via (fun b w => b = (inr lo hi x && decide (x.2.1 ≤ t)) ∧ Holds E w (rItem b11 x :: ownS 36 4 sl (acc.flatMap encI) :: Ro r s l L)) ?_ fun J2 hJ2 => CondP.mk' (fun hb => ?_) (fun hb => hJ2 _ _ ⟨by rw [hb, Bool.false_and], h⟩)
  rotate_left
  · refine get_ld h rfl .head (by kernel_rfl) (x := x.2.1) rfl ?_
    exact hJ2 _ _ ⟨by rw [hb, Bool.true_and], h⟩
  rintro b w ⟨hb, h⟩
  refine AnyP.go fun _ => JoinP.via (fun b w => b = (inr lo hi x && stabP t x) ∧ Holds E w (rItem b11 x :: ownS 36 4 sl (acc.flatMap encI) :: Ro r s l L)) ?_ fun J3 hJ3 => CondP.mk' (fun hb2 => ?_) (fun hb2 => hJ3 _ _ ⟨?_, h⟩)
  rotate_left
  · refine get_ld h rfl .head (by kernel_rfl) (x := x.2.2.1) rfl ?_
    refine hJ3 _ _ ⟨?_, h⟩
    unfold stabP; rw [← Bool.and_assoc, ← hb, hb2, Bool.true_and]
  · unfold stabP; rw [← Bool.and_assoc, ← hb, hb2, Bool.false_and]
  rintro b w ⟨hb3, h⟩
  exact AnyP.go fun _ => rpush (p := fun x => inr lo hi x && stabP t x) hb3 h hle hJ

theorem over_iff {a b f u : Int} (h : a < b) : decide ((if f > a then f else a) < (if u < b then u else b)) = (decide (a < u) && decide (f < b) && decide (f < u)) := by
  rw [Bool.eq_iff_iff]
  simp only [Bool.and_eq_true, decide_eq_true_eq]
  split <;> split <;> omega

set_option maxHeartbeats 1000000 in
theorem rover_spec {r : Nat} {l : List Item} {lo hi : ByteArray} {t : Int × Int × Unit} {k : Sl → Pr} (h : Holds E w (RfB r l :: L)) (hl : l.length ≤ 536870912) (hok : ∀ x ∈ l, okI x) (h1 : lo.size ≤ 1000000) (h2 : hi.size ≤ 1000000)
    (hk : ∀ s w', Holds E w' (ownS 36 4 s ((overL l lo hi t).flatMap encI) :: RfB r l :: L) → k s w') : CallP Try.prog 23 #[.pointer (some ⟨r, 0, none⟩), .string lo, .string hi, .agg #[.int .i64 t.1, .int .i64 t.2.1]] tSl k w := by
  replace h := RfB.opened h
  obtain ⟨s, h⟩ := h
  refine rd23 _ _ _ _ _ _ ?_
  unfold sh23
  refine do_box h fun bt w h => ?_
  replace h : Holds E w (Ro r s l (pto bt (.cells #[.int .i64 t.1, .int .i64 t.2.1] 46 (0, 0)) :: L)) := h.sub (by repeat (first | exact Sub.done | refine Sub.take (by first | exact .head | exact (.tail .head) | exact (.tail (.tail .head)) | exact (.tail (.tail (.tail .head))) | exact (.tail (.tail (.tail (.tail .head)))) | exact (.tail (.tail (.tail (.tail (.tail .head))))) | exact (.tail (.tail (.tail (.tail (.tail (.tail .head)))))) | exact (.tail (.tail (.tail (.tail (.tail (.tail (.tail .head))))))) | exact (.tail (.tail (.tail (.tail (.tail (.tail (.tail (.tail .head))))))))) ?_ | refine Sub.skip ?_))
  have hR : Oracle E (Ro r s l (pto bt (.cells #[.int .i64 t.1, .int .i64 t.2.1] 46 (0, 0)) :: L)) s 4 (l.flatMap encI) := fun w h => h.drop.reads_own
  have hsl := (hR w h).len_eq encI_len (by omega)
  refine LoopP.inv (fun q w => ∃ (sl : Sl) (i : Nat), q = (sl, (i : Int)) ∧ i ≤ l.length ∧ Holds E w (ownS 36 4 sl ((overL (l.take i) lo hi t).flatMap encI) :: Ro r s l (pto bt (.cells #[.int .i64 t.1, .int .i64 t.2.1] 46 (0, 0)) :: L))) (fun q _ => l.length - q.2.toNat) ⟨⟨none, 0, 0⟩, 0, rfl, by omega, by simpa [overL] using h.own_nil⟩ ?_
  rintro next q w ⟨sl, i, rfl, hi', h⟩ hnext
  refine AnyP.go fun _ => ?_
  refine val_nil ?_
  refine get_ld h rfl .two (by kernel_rfl) (x := s) rfl ?_
  refine CondP.mk' (fun hc => ?_) (fun hc => ?_)
  rotate_left
  · have hc : i = l.length := by have : ¬ (i : Int) < s.len := cF hc; omega
    rw [hc, List.take_length] at h
    exact hk _ _ (RfB.closed (s := s) (h.sub (M := pto r _ :: ownS 36 4 s _ :: ownS 36 4 sl _ :: L) (by repeat (first | exact Sub.done | refine Sub.take (by first | exact .head | exact (.tail .head) | exact (.tail (.tail .head)) | exact (.tail (.tail (.tail .head))) | exact (.tail (.tail (.tail (.tail .head)))) | exact (.tail (.tail (.tail (.tail (.tail .head))))) | exact (.tail (.tail (.tail (.tail (.tail (.tail .head)))))) | exact (.tail (.tail (.tail (.tail (.tail (.tail (.tail .head))))))) | exact (.tail (.tail (.tail (.tail (.tail (.tail (.tail (.tail .head))))))))) ?_ | refine Sub.skip ?_)))).swap
  have hc : i < l.length := by have : (i : Int) < s.len := cT hc; omega
  have hw1 : IntKind.i64.wrap ((i : Int) + 1) = ((i + 1 : Nat) : Int) := by rw [wrap_in _ (by omega)]; omega
  have hsn : overL (l.take (i + 1)) lo hi t = overL (l.take i) lo hi t ++ [l[i]].filter (fun x => inr lo hi x && overP t x) := filt_snoc hc
  have hle : (overL (l.take i) lo hi t).length ≤ 536870912 := by
    have e1 := List.length_filter_le (overP t) ((l.take i).filter (inr lo hi))
    have e2 := List.length_filter_le (inr lo hi) (l.take i)
    have e3 : (l.take i).length ≤ l.length := by rw [List.length_take]; omega
    unfold overL; omega
  have hx := hok _ (List.getElem_mem hc)
  refine JoinP.via (fun s1 w => Holds E w (ownS 36 4 s1 ((overL (l.take (i + 1)) lo hi t).flatMap encI) :: Ro r s l (pto bt (.cells #[.int .i64 t.1, .int .i64 t.2.1] 46 (0, 0)) :: L))) ?_ fun J hJ => ?_
  · intro s1 w h
    refine AnyP.go fun _ => ?_
    rw [hw1]
    exact hnext _ _ ⟨s1, i + 1, rfl, by omega, h⟩ (by simp only; omega)
  clear hnext
  rw [hsn] at hJ
  generalize overL (l.take i) lo hi t = acc at *
  refine val_nil ?_
  refine get_ld h rfl .two (by kernel_rfl) (x := s) rfl ?_
  refine val_idx (hR w h.drop) encI_len (by omega) hc (T := 40) (Te := 36) (by kernel_rfl) (by kernel_rfl) fun a0 ha0 hs0 => ?_
  refine get_elt l[i] (hR w h.drop) encI_len ha0 hc (by kernel_rfl) (by kernel_rfl) rfl ?_
  generalize l[i] = x at *
  refine do_alloc (z := .agg #[.string ⟨#[]⟩, .int .i64 0, .int .i64 0, .int .i64 0]) h (by kernel_rfl) fun b11 w h => ?_
  refine do_st_all (n := 4) h rfl .head (by kernel_rfl) rfl rfl (by intro v hv; simp at hv; rcases hv with rfl | rfl | rfl | rfl <;> rfl) fun w h => ?_
  replace h : Holds E w (rItem b11 x :: ownS 36 4 sl (acc.flatMap encI) :: Ro r s l (pto bt (.cells #[.int .i64 t.1, .int .i64 t.2.1] 46 (0, 0)) :: L)) := h
  refine get_ld h rfl .head (by kernel_rfl) (x := x.1) rfl ?_
  refine among_spec h h1 h2 fun w h => ?_
  have hin : (!(Op.bytesLess x.1.toList lo.toList || (!(hi.toList == (⟨#[]⟩ : ByteArray).toList) && !Op.bytesLess x.1.toList hi.toList))) = inr lo hi x := rfl
  rw [hin]
  refine JoinP.via (fun b w => b = (inr lo hi x && overP t x) ∧ Holds E w (rItem b11 x :: ownS 36 4 sl (acc.flatMap encI) :: Ro r s l (pto bt (.cells #[.int .i64 t.1, .int .i64 t.2.1] 46 (0, 0)) :: L))) ?_ fun J2 hJ2 => CondP.mk' (fun hb => ?_) (fun hb => hJ2 _ _ ⟨by rw [hb, Bool.false_and], h⟩)
  rotate_left
  · refine get_ld h rfl .head (by kernel_rfl) (x := x.2.1) rfl ?_
    refine get_ld (b := bt) h rfl (by first | exact .head | exact (.tail .head) | exact (.tail (.tail .head)) | exact (.tail (.tail (.tail .head))) | exact (.tail (.tail (.tail (.tail .head)))) | exact (.tail (.tail (.tail (.tail (.tail .head))))) | exact (.tail (.tail (.tail (.tail (.tail (.tail .head)))))) | exact (.tail (.tail (.tail (.tail (.tail (.tail (.tail .head))))))) | exact (.tail (.tail (.tail (.tail (.tail (.tail (.tail (.tail .head))))))))) (by kernel_rfl) (x := t.1) rfl ?_
    refine get_ld h rfl .head (by kernel_rfl) (x := x.2.2.1) rfl ?_
    refine get_ld (b := bt) h rfl (by first | exact .head | exact (.tail .head) | exact (.tail (.tail .head)) | exact (.tail (.tail (.tail .head))) | exact (.tail (.tail (.tail (.tail .head)))) | exact (.tail (.tail (.tail (.tail (.tail .head))))) | exact (.tail (.tail (.tail (.tail (.tail (.tail .head)))))) | exact (.tail (.tail (.tail (.tail (.tail (.tail (.tail .head))))))) | exact (.tail (.tail (.tail (.tail (.tail (.tail (.tail (.tail .head))))))))) (by kernel_rfl) (x := t.2.1) rfl ?_
    refine hJ2 _ _ ⟨?_, h⟩
    rw [hb, Bool.true_and]
    exact over_iff hx.2.1
  rintro b w ⟨hb3, h⟩
  exact AnyP.go fun _ => rpush (p := fun x => inr lo hi x && overP t x) hb3 h hle hJ

theorem rmax_spec {r : Nat} {s : Sl} {l : List Item} {k : Int → Pr} (h : Holds E w (Ro r s l L)) (hl : l.length ≤ 536870912) (hk : ∀ w', Holds E w' (Ro r s l L) → k (maxEnd l) w') :
    CallP Try.prog 28 #[.pointer (some ⟨r, 0, none⟩)] tInt k w := by
  have hR : Oracle E (Ro r s l L) s 4 (l.flatMap encI) := fun w h => h.drop.reads_own
  have hsl := (hR w h).len_eq encI_len (by omega)
  refine rd28 _ _ _ ?_
  unfold sh28
  refine LoopP.inv (fun q w => ∃ i : Nat, q = (maxEnd (l.take i), (i : Int)) ∧ i ≤ l.length ∧ Holds E w (Ro r s l L)) (fun q _ => l.length - q.2.toNat) ⟨0, rfl, by omega, h⟩ ?_
  rintro next q w ⟨i, rfl, hi, h⟩ hnext
  refine AnyP.go fun _ => ?_
  refine val_nil ?_
  refine get_ld h rfl .head (by kernel_rfl) (x := s) rfl ?_
  refine CondP.mk' (fun hc => ?_) (fun hc => ?_)
  · have hc : i < l.length := by have : (i : Int) < s.len := cT hc; omega
    refine val_nil ?_
    refine get_ld h rfl .head (by kernel_rfl) (x := s) rfl ?_
    refine val_idx (hR w h) encI_len (by omega) hc (T := 40) (Te := 36) (by kernel_rfl) (by kernel_rfl) fun a0 ha0 hs0 => ?_
    refine get_fld l[i].2.2.1 (hR w h) encI_len ha0 hs0 hc (by omega) (by kernel_rfl) rfl ?_
    rw [show IntKind.i64.wrap ((i : Int) + 1) = ((i + 1 : Nat) : Int) by rw [wrap_in _ (by omega)]; omega]
    refine hnext _ _ ⟨i + 1, ?_, by omega, h⟩ (by simp only; omega)
    rw [← List.take_append_getElem hc, maxEnd_snoc]
  · have hc : i = l.length := by have : ¬ (i : Int) < s.len := cF hc; omega
    rw [hc, List.take_length]
    exact hk _ h
end
end Go.Proofs.Ytoaalegieaocbaa
