/- The document's answer for the index: find, Insert, Close, Delete and Get. -/
import Derived.Test.YtoaalegieaocbaaIxRef
namespace Go.Proofs.Ytoaalegieaocbaa
open Go.Sh
attribute [local irreducible] pto rob old ownS roS hstar hex hpure hemp mapB hro IxB RfB

section
variable {E w : World} {L L' : List HProp}

abbrev Ro (r : Nat) (s : Sl) (l : List Item) (L : List HProp) : List HProp := pto r (.cells #[.slice s.a s.len s.cap] 55 (0, 0)) :: ownS 36 4 s (l.flatMap encI) :: L

set_option maxHeartbeats 1000000 in
theorem rfind_spec {r : Nat} {l : List Item} {key : ByteArray} {st : Int} {k : Int × Bool × Unit → Pr} (h : Holds E w (RfB r l :: L)) (hl : l.length ≤ 536870912) (hkey : key.size ≤ 1000000)
    (hk : ∀ w', Holds E w' (RfB r l :: L) → k ((posL l key st : Nat), has l key st, ()) w') : CallP Try.prog 38 #[.pointer (some ⟨r, 0, none⟩), .string key, .int .i64 st] (.tup [.leaf (.int .i64), .leaf .bool]) k w := by
  replace h := RfB.opened h
  obtain ⟨s, h⟩ := h
  have hR : Oracle E (Ro r s l L) s 4 (l.flatMap encI) := fun w h => h.drop.reads_own
  have hsl := (hR w h).len_eq encI_len (by omega)
  refine rd38 _ _ _ _ _ ?_
  unfold sh38
  refine LoopP.inv (fun t w => ∃ n : Nat, t = n ∧ n ≤ l.length ∧ (∀ j (hj : j < l.length), j < n → lt l[j] key st = true) ∧ Holds E w (Ro r s l L)) (fun t _ => l.length - t.toNat) ⟨0, rfl, by omega, fun j _ hj => absurd hj (Nat.not_lt_zero _), h⟩ ?_
  rintro next t w ⟨n, rfl, hn, hall, h⟩ hnext
  have hw1 : IntKind.i64.wrap ((n : Int) + 1) = ((n + 1 : Nat) : Int) := by rw [wrap_in _ (by omega)]; omega
  refine AnyP.go fun _ => ?_
  refine val_nil ?_
  refine get_ld h rfl .head (by kernel_rfl) (x := s) rfl ?_
  refine JoinP.via (fun b w => b = (match l[n]? with | some x => lt x key st | none => false) ∧ Holds E w (Ro r s l L)) ?_ fun J hJ => CondP.mk' (fun hc => ?_) (fun hc => hJ _ _ ⟨?_, h⟩)
  rotate_left
  · have hc : n < l.length := by have := cT hc; omega
    refine val_nil ?_
    refine get_ld h rfl .head (by kernel_rfl) (x := s) rfl ?_
    refine val_idx (hR w h) encI_len (by omega) hc (T := 40) (Te := 36) (by kernel_rfl) (by kernel_rfl) fun a0 ha0 hs0 => ?_
    refine get_elt l[n] (hR w h) encI_len ha0 hc (by kernel_rfl) (by kernel_rfl) rfl ?_
    refine rahead_spec h hkey fun w h => hJ _ _ ⟨?_, h⟩
    rw [List.getElem?_eq_getElem hc]
  · have hc : ¬ n < l.length := by have := cF hc; omega
    rw [List.getElem?_eq_none (by omega)]
  rintro b w ⟨hb, h⟩
  refine AnyP.go fun _ => CondP.mk' (fun hc => ?_) (fun hc => ?_)
  · rw [hc] at hb
    have hlt : n < l.length := by
      rcases Nat.lt_or_ge n l.length with h | h
      · exact h
      · rw [List.getElem?_eq_none h] at hb; cases hb
    rw [List.getElem?_eq_getElem hlt] at hb
    rw [hw1]
    refine hnext _ _ ⟨n + 1, rfl, by omega, fun j hj hjn => ?_, h⟩ (by omega)
    by_cases hj' : j = n
    · subst hj'; exact hb.symm
    · exact hall j hj (by omega)
  rw [hc] at hb
  have hpos : posL l key st = n := twl_eq hn hall fun hlt => by
    rw [List.getElem?_eq_getElem hlt] at hb; exact hb.symm
  unfold has at hk
  rw [hpos] at hk
  clear hnext hall hb hpos
  refine DrewP.go h fun w h => ?_
  refine val_nil ?_
  refine get_ld h rfl .head (by kernel_rfl) (x := s) rfl ?_
  refine CondP.mk' (fun hc => ?_) (fun hc => ?_)
  · have hc : n < l.length := by have := cT hc; omega
    have hisA : isAt l n key st = (l[n].1.toList == key.toList && l[n].2.1 == st) := by
      unfold isAt; rw [List.getElem?_eq_getElem hc]
    rw [hisA] at hk
    refine val_nil ?_
    refine get_ld h rfl .head (by kernel_rfl) (x := s) rfl ?_
    refine val_idx (hR w h) encI_len (by omega) hc (T := 40) (Te := 36) (by kernel_rfl) (by kernel_rfl) fun a1 ha1 hs1 => ?_
    refine get_fld l[n].1 (hR w h) encI_len ha1 hs1 hc (by omega) (by kernel_rfl) rfl ?_
    refine CondP.mk' (fun he => ?_) (fun he => ?_)
    · rw [he, Bool.true_and] at hk
      refine val_nil ?_
      refine get_ld h rfl .head (by kernel_rfl) (x := s) rfl ?_
      refine val_idx (hR w h) encI_len (by omega) hc (T := 40) (Te := 36) (by kernel_rfl) (by kernel_rfl) fun a2 ha2 hs2 => ?_
      refine get_fld l[n].2.1 (hR w h) encI_len ha2 hs2 hc (by omega) (by kernel_rfl) rfl ?_
      refine chk_ld h rfl .head (by kernel_rfl) rfl ?_
      refine chk_ld h rfl .head (by kernel_rfl) rfl ?_
      refine chk_fld (hR w h) encI_len ha1 hs1 hc (by omega) (by kernel_rfl) rfl ?_
      refine chk_ld h rfl .head (by kernel_rfl) rfl ?_
      refine chk_fld (hR w h) encI_len ha2 hs2 hc (by omega) (by kernel_rfl) rfl ?_
      exact hk _ (RfB.closed h)
    · rw [he, Bool.false_and] at hk
      refine chk_ld h rfl .head (by kernel_rfl) rfl ?_
      refine chk_ld h rfl .head (by kernel_rfl) rfl ?_
      refine chk_fld (hR w h) encI_len ha1 hs1 hc (by omega) (by kernel_rfl) rfl ?_
      exact hk _ (RfB.closed h)
  · have hc : ¬ n < l.length := by have := cF hc; omega
    have hisA : isAt l n key st = false := by unfold isAt; rw [List.getElem?_eq_none (by omega)]
    rw [hisA] at hk
    refine CondP.no rfl ?_
    refine chk_ld h rfl .head (by kernel_rfl) rfl ?_
    exact hk _ (RfB.closed h)

/-- a reslice up to n, and from n on, of a slice of one's own, appended to another -/
theorem rappend_to {r n : Nat} {s s' : Sl} {l ds : List Item} {k : Sl → Pr} (h : Holds E w (ownS 36 4 s' (ds.flatMap encI) :: Ro r s l L)) (hn : n ≤ l.length) (hb : ds.length + l.length ≤ 1073741824)
    (hk : ∀ s1 w', Holds E w' (ownS 36 4 s1 ((ds ++ l.take n).flatMap encI) :: Ro r s l L) → k s1 w') :
    (ValP Try.prog (vN (Instr.sliceAt 40 (.slice s.a s.len s.cap) none (some (.int .i64 n)) none)) tSl fun t39 =>
      DoP Try.prog (vN (Builtin.append_ #[40, 40] 40 #[.slice s'.a s'.len s'.cap, .slice t39.a t39.len t39.cap])) tSl k) w := by
  have hR := h.drop.drop.reads_own
  have hle := h.drop.drop.own_le
  have hsl := hR.len_eq encI_len (by omega)
  refine val_slice_to (Te := 36) (sz := 4) (by kernel_rfl) (by kernel_rfl) (by omega) (by omega) ?_
  rw [show ((n : Int).toNat) = n from rfl]
  have r1 := hR.part encI_len (l := 0) (h := n) (m := s.cap) (by omega) hn hsl (by omega)
  rw [List.drop_zero, Nat.sub_zero] at r1
  exact append_part (Te := 36) (Te2 := 36) h encI_len encI_na (by omega) (by kernel_rfl) (by kernel_rfl) elemR (by omega) r1 (by rw [List.length_take]; omega) fun s1 w _ h => hk _ _ h
theorem rappend_from {r n : Nat} {s s' : Sl} {l ds : List Item} {k : Sl → Pr} (h : Holds E w (ownS 36 4 s' (ds.flatMap encI) :: Ro r s l L)) (hn : n ≤ l.length) (hb : ds.length + l.length ≤ 1073741824)
    (hk : ∀ s1 w', Holds E w' (ownS 36 4 s1 ((ds ++ l.drop n).flatMap encI) :: Ro r s l L) → k s1 w') :
    (ValP Try.prog (vN (Instr.sliceAt 40 (.slice s.a s.len s.cap) (some (.int .i64 n)) none none)) tSl fun t39 =>
      DoP Try.prog (vN (Builtin.append_ #[40, 40] 40 #[.slice s'.a s'.len s'.cap, .slice t39.a t39.len t39.cap])) tSl k) w := by
  have hR := h.drop.drop.reads_own
  have hle := h.drop.drop.own_le
  have hsl := hR.len_eq encI_len (by omega)
  refine val_slice_from (Te := 36) (sz := 4) (by kernel_rfl) (by kernel_rfl) (by omega) (by omega) ?_
  rw [show ((n : Int).toNat) = n from rfl]
  have r1 := hR.from_ encI_len (l := n) (m := s.cap) hn hsl hle
  exact append_part (Te := 36) (Te2 := 36) h encI_len encI_na (by omega) (by kernel_rfl) (by kernel_rfl) elemR (by omega) r1 (by rw [List.length_drop]; omega) fun s1 w _ h => hk _ _ h

set_option maxHeartbeats 1000000 in
theorem rinsert_spec {r : Nat} {l : List Item} {i : Item} {k : Int → Pr} (h : Holds E w (RfB r l :: L)) (hl : l.length ≤ 268435456) (hkey : i.1.size ≤ 1000000)
    (hk : ∀ w', Holds E w' (RfB r (insL l i).2 :: L) → k (insL l i).1 w') :
    CallP Try.prog 13 #[.pointer (some ⟨r, 0, none⟩), .agg #[.string i.1, .int .i64 i.2.1, .int .i64 i.2.2.1, .int .i64 i.2.2.2.1]] tInt k w := by
  refine rd13 _ _ _ _ ?_
  unfold sh13
  refine do_box h fun b3 w h => ?_
  replace h : Holds E w (pto b3 (.cells #[.string i.1, .int .i64 i.2.1, .int .i64 i.2.2.1, .int .i64 i.2.2.2.1] 36 (0, 0)) :: RfB r l :: L) := h
  refine get_ld h rfl (by first | exact .head | exact (.tail .head) | exact (.tail (.tail .head)) | exact (.tail (.tail (.tail .head))) | exact (.tail (.tail (.tail (.tail .head)))) | exact (.tail (.tail (.tail (.tail (.tail .head))))) | exact (.tail (.tail (.tail (.tail (.tail (.tail .head)))))) | exact (.tail (.tail (.tail (.tail (.tail (.tail (.tail .head))))))) | exact (.tail (.tail (.tail (.tail (.tail (.tail (.tail (.tail .head))))))))) (by kernel_rfl) (x := i.2.1) rfl ?_
  refine JoinP.via (fun b w => b = decide (i.2.1 < 0 ∨ i.2.2.1 ≤ i.2.1) ∧ Holds E w (pto b3 (.cells #[.string i.1, .int .i64 i.2.1, .int .i64 i.2.2.1, .int .i64 i.2.2.2.1] 36 (0, 0)) :: RfB r l :: L)) ?_ fun J hJ => CondP.mk' (fun hc => hJ _ _ ⟨(decide_eq_true (.inl (cT hc))).symm, h⟩) (fun hc => ?_)
  rotate_left
  · have hc := cF hc
    refine get_ld h rfl (by first | exact .head | exact (.tail .head) | exact (.tail (.tail .head)) | exact (.tail (.tail (.tail .head))) | exact (.tail (.tail (.tail (.tail .head)))) | exact (.tail (.tail (.tail (.tail (.tail .head))))) | exact (.tail (.tail (.tail (.tail (.tail (.tail .head)))))) | exact (.tail (.tail (.tail (.tail (.tail (.tail (.tail .head))))))) | exact (.tail (.tail (.tail (.tail (.tail (.tail (.tail (.tail .head))))))))) (by kernel_rfl) (x := i.2.2.1) rfl ?_
    refine get_ld h rfl (by first | exact .head | exact (.tail .head) | exact (.tail (.tail .head)) | exact (.tail (.tail (.tail .head))) | exact (.tail (.tail (.tail (.tail .head)))) | exact (.tail (.tail (.tail (.tail (.tail .head))))) | exact (.tail (.tail (.tail (.tail (.tail (.tail .head)))))) | exact (.tail (.tail (.tail (.tail (.tail (.tail (.tail .head))))))) | exact (.tail (.tail (.tail (.tail (.tail (.tail (.tail (.tail .head))))))))) (by kernel_rfl) (x := i.2.1) rfl ?_
    exact hJ _ _ ⟨decide_eq_decide.2 ⟨fun h => .inr h, fun h => h.resolve_left hc⟩, h⟩
  rintro _ w ⟨rfl, h⟩
  refine AnyP.go fun _ => JoinP.via (fun b w => b = decide (badI i) ∧ Holds E w (pto b3 (.cells #[.string i.1, .int .i64 i.2.1, .int .i64 i.2.2.1, .int .i64 i.2.2.2.1] 36 (0, 0)) :: RfB r l :: L)) ?_ fun J hJ => CondP.mk' (fun hc => hJ _ _ ⟨(decide_eq_true ?_).symm, h⟩) (fun hc => ?_)
  rotate_left
  · have hc : _ ∨ _ := cT hc
    exact hc.elim .inl fun h => .inr (.inl h)
  · have hc := cF hc
    refine get_ld h rfl (by first | exact .head | exact (.tail .head) | exact (.tail (.tail .head)) | exact (.tail (.tail (.tail .head))) | exact (.tail (.tail (.tail (.tail .head)))) | exact (.tail (.tail (.tail (.tail (.tail .head))))) | exact (.tail (.tail (.tail (.tail (.tail (.tail .head)))))) | exact (.tail (.tail (.tail (.tail (.tail (.tail (.tail .head))))))) | exact (.tail (.tail (.tail (.tail (.tail (.tail (.tail (.tail .head))))))))) (by kernel_rfl) (x := i.2.2.1) rfl ?_
    exact hJ _ _ ⟨decide_eq_decide.2 ⟨fun h => .inr (.inr h), fun h => (h.resolve_left fun h => hc (.inl h)).resolve_left fun h => hc (.inr h)⟩, h⟩
  rintro _ w ⟨rfl, h⟩
  unfold insL at hk
  refine AnyP.go fun _ => CondP.mk' (fun hc => ?_) (fun hc => ?_)
  · rw [if_pos (cT hc)] at hk
    exact hk _ h.drop
  rw [if_neg (cF hc)] at hk
  clear hc
  refine get_ld h rfl (by first | exact .head | exact (.tail .head) | exact (.tail (.tail .head)) | exact (.tail (.tail (.tail .head))) | exact (.tail (.tail (.tail (.tail .head)))) | exact (.tail (.tail (.tail (.tail (.tail .head))))) | exact (.tail (.tail (.tail (.tail (.tail (.tail .head)))))) | exact (.tail (.tail (.tail (.tail (.tail (.tail (.tail .head))))))) | exact (.tail (.tail (.tail (.tail (.tail (.tail (.tail (.tail .head))))))))) (by kernel_rfl) (x := i.1) rfl ?_
  refine get_ld h rfl (by first | exact .head | exact (.tail .head) | exact (.tail (.tail .head)) | exact (.tail (.tail (.tail .head))) | exact (.tail (.tail (.tail (.tail .head)))) | exact (.tail (.tail (.tail (.tail (.tail .head))))) | exact (.tail (.tail (.tail (.tail (.tail (.tail .head)))))) | exact (.tail (.tail (.tail (.tail (.tail (.tail (.tail .head))))))) | exact (.tail (.tail (.tail (.tail (.tail (.tail (.tail (.tail .head))))))))) (by kernel_rfl) (x := i.2.1) rfl ?_
  refine rfind_spec h.swap (by omega) hkey fun w h => ?_
  have hp := pos_le l i.1 i.2.1
  dsimp only
  generalize posL l i.1 i.2.1 = n at *
  refine CondP.mk' (fun hc => ?_) (fun hc => ?_)
  · rw [if_pos hc] at hk
    exact hk _ (h.sub (by repeat (first | exact Sub.done | refine Sub.take (by first | exact .head | exact (.tail .head) | exact (.tail (.tail .head)) | exact (.tail (.tail (.tail .head))) | exact (.tail (.tail (.tail (.tail .head)))) | exact (.tail (.tail (.tail (.tail (.tail .head))))) | exact (.tail (.tail (.tail (.tail (.tail (.tail .head)))))) | exact (.tail (.tail (.tail (.tail (.tail (.tail (.tail .head))))))) | exact (.tail (.tail (.tail (.tail (.tail (.tail (.tail (.tail .head))))))))) ?_ | refine Sub.skip ?_)))
  rw [if_neg (by rw [hc]; simp)] at hk
  replace h := RfB.opened h
  obtain ⟨s, h⟩ := h
  refine val_nil ?_
  refine get_ld h rfl .head (by kernel_rfl) (x := s) rfl ?_
  refine rappend_to (s' := ⟨none, 0, 0⟩) (ds := []) (by simpa using h.own_nil) hp (by simp; omega) fun s1 w h => ?_
  rw [List.nil_append] at h
  refine get_ld_agg (ls := itL) i h rfl (.tail (.tail (.tail .head))) (by kernel_rfl) (by kernel_rfl) ?_
  refine do_build (Te := 36) (sz := 4) (len := 1) ([i].flatMap encI) h (by kernel_rfl) rfl fun t w ht h => ?_
  refine append_part (Te := 36) (Te2 := 36) h.swap encI_len encI_na (by omega) (by kernel_rfl) (by kernel_rfl) elemR (by omega) h.reads_own (by simp; omega) fun s2 w hs2 h => ?_
  refine val_nil ?_
  refine get_ld h rfl (.tail (.tail .head)) (by kernel_rfl) (x := s) rfl ?_
  refine rappend_from (h.sub (M := ownS 36 4 s2 ((l.take n ++ [i]).flatMap encI) :: Ro r s l L) (by repeat (first | exact Sub.done | refine Sub.take (by first | exact .head | exact (.tail .head) | exact (.tail (.tail .head)) | exact (.tail (.tail (.tail .head))) | exact (.tail (.tail (.tail (.tail .head)))) | exact (.tail (.tail (.tail (.tail (.tail .head))))) | exact (.tail (.tail (.tail (.tail (.tail (.tail .head)))))) | exact (.tail (.tail (.tail (.tail (.tail (.tail (.tail .head))))))) | exact (.tail (.tail (.tail (.tail (.tail (.tail (.tail (.tail .head))))))))) ?_ | refine Sub.skip ?_))) hp (by simp; omega) fun s3 w h => ?_
  refine val_nil ?_
  refine do_st h rfl .two (by kernel_rfl) rfl rfl fun w h => ?_
  exact hk _ (RfB.closed (s := s3) (h.sub (by repeat (first | exact Sub.done | refine Sub.take (by first | exact .head | exact (.tail .head) | exact (.tail (.tail .head)) | exact (.tail (.tail (.tail .head))) | exact (.tail (.tail (.tail (.tail .head)))) | exact (.tail (.tail (.tail (.tail (.tail .head))))) | exact (.tail (.tail (.tail (.tail (.tail (.tail .head)))))) | exact (.tail (.tail (.tail (.tail (.tail (.tail (.tail .head))))))) | exact (.tail (.tail (.tail (.tail (.tail (.tail (.tail (.tail .head))))))))) ?_ | refine Sub.skip ?_))))

theorem rget_spec {r : Nat} {l : List Item} {key : ByteArray} {st : Int} {k : Item × Int × Unit → Pr} (h : Holds E w (RfB r l :: L)) (hl : l.length ≤ 536870912) (hkey : key.size ≤ 1000000)
    (hk : ∀ w', Holds E w' (RfB r l :: L) → k ((getL l key st).1, (getL l key st).2, ()) w') : CallP Try.prog 25 #[.pointer (some ⟨r, 0, none⟩), .string key, .int .i64 st] (.tup [.agg itL, .leaf (.int .i64)]) k w := by
  refine rd25 _ _ _ _ _ ?_
  unfold sh25
  refine do_alloc (z := .agg #[.string ⟨#[]⟩, .int .i64 0, .int .i64 0, .int .i64 0]) h (by kernel_rfl) fun b6 w h => ?_
  refine rfind_spec h.swap hl hkey fun w h => ?_
  dsimp only
  unfold getL at hk
  cases hf : has l key st with
  | false =>
    rw [hf] at hk
    refine CondP.yes rfl ?_
    refine do_st_all (n := 4) h rfl .two (by kernel_rfl) rfl rfl (by intro v hv; simp at hv; rcases hv with rfl | rfl | rfl <;> rfl) fun w h => ?_
    exact get_res2 (ls := itL) zeroI h .head (by kernel_rfl) (by kernel_rfl) (hk _ h.drop)
  | true =>
    rw [hf] at hk
    obtain ⟨hn, _⟩ := isAt_iff.1 hf
    clear hf
    generalize posL l key st = n at *
    refine CondP.no rfl ?_
    replace h := RfB.opened h
    obtain ⟨s, h⟩ := h
    refine val_nil ?_
    refine get_ld h rfl .head (by kernel_rfl) (x := s) rfl ?_
    have hR := h.drop.reads_own
    refine val_idx hR encI_len (by omega) hn (T := 40) (Te := 36) (by kernel_rfl) (by kernel_rfl) fun a0 ha0 hs0 => ?_
    refine get_elt l[n] hR encI_len ha0 hn (by kernel_rfl) (by kernel_rfl) rfl ?_
    refine do_st_all (n := 4) h rfl (.tail (.tail .head)) (by kernel_rfl) rfl rfl (by intro v hv; simp at hv; rcases hv with rfl | rfl | rfl | rfl <;> rfl) fun w h => ?_
    refine get_res2 (ls := itL) l[n] h .head (by kernel_rfl) (by kernel_rfl) ?_
    have := hk _ (RfB.closed h.drop)
    rw [List.getElem?_eq_getElem hn] at this
    exact this

set_option maxHeartbeats 1000000 in
theorem rclose_spec {r : Nat} {l : List Item} {key : ByteArray} {st e : Int} {k : Int → Pr} (h : Holds E w (RfB r l :: L)) (hl : l.length ≤ 536870912) (hkey : key.size ≤ 1000000)
    (hk : ∀ w', Holds E w' (RfB r (closeL l key st e).2 :: L) → k (closeL l key st e).1 w') : CallP Try.prog 15 #[.pointer (some ⟨r, 0, none⟩), .string key, .int .i64 st, .int .i64 e] tInt k w := by
  refine rd15 _ _ _ _ _ _ ?_
  unfold sh15
  refine rfind_spec h hl hkey fun w h => ?_
  dsimp only
  unfold closeL getL at hk
  cases hf : has l key st with
  | false =>
    rw [hf] at hk
    exact CondP.yes rfl (hk _ h)
  | true =>
    rw [hf] at hk
    obtain ⟨hn, _⟩ := isAt_iff.1 hf
    clear hf
    generalize posL l key st = n at *
    simp only [List.getElem?_eq_getElem hn, Option.getD_some, if_true, ne_eq, not_true_eq_false, if_false] at hk
    refine CondP.no rfl ?_
    replace h := RfB.opened h
    obtain ⟨s, h⟩ := h
    have hR : Oracle E (Ro r s l L) s 4 (l.flatMap encI) := fun w h => h.drop.reads_own
    refine val_nil ?_
    refine get_ld h rfl .head (by kernel_rfl) (x := s) rfl ?_
    refine val_idx (hR w h) encI_len (by omega) hn (T := 40) (Te := 36) (by kernel_rfl) (by kernel_rfl) fun a0 ha0 hs0 => ?_
    refine get_fld l[n].2.2.1 (hR w h) encI_len ha0 hs0 hn (by omega) (by kernel_rfl) rfl ?_
    refine CondP.mk' (fun hc => ?_) (fun hc => ?_)
    · rw [if_pos (neT hc)] at hk
      exact hk _ (RfB.closed h)
    rw [if_neg (fun h => h (neF hc))] at hk
    clear hc
    refine JoinP.via (fun b w => b = decide (e ≤ st ∨ 1099511627776 ≤ e) ∧ Holds E w (Ro r s l L)) ?_ fun J hJ => CondP.mk' (fun hc => hJ _ _ ⟨(decide_eq_true (.inl (cT hc))).symm, h⟩) (fun hc => hJ _ _ ⟨?_, h⟩)
    rotate_left
    · have hc := cF hc
      exact decide_eq_decide.2 ⟨fun h => .inr h, fun h => h.resolve_left hc⟩
    rintro _ w ⟨rfl, h⟩
    refine AnyP.go fun _ => CondP.mk' (fun hc => ?_) (fun hc => ?_)
    · rw [if_pos (cT hc)] at hk
      exact hk _ (RfB.closed h)
    rw [if_neg (cF hc)] at hk
    refine val_nil ?_
    refine get_ld h rfl .head (by kernel_rfl) (x := s) rfl ?_
    refine val_idx (hR w h) encI_len (by omega) hn (T := 40) (Te := 36) (by kernel_rfl) (by kernel_rfl) fun a1 ha1 hs1 => ?_
    have hfl := flat_len encI 4 encI_len l
    refine do_set_el (i := n * 4 + 2) h .two ha1 (Addr.add_add _ _ _ hs1) (by rw [hfl]; omega) (by kernel_rfl) rfl fun w h => ?_
    refine hk _ (RfB.closed (s := s) ?_)
    have e1 : (l.flatMap encI).set (n * 4 + 2) (.int .i64 e) = ((l.take n ++ [withEnd l[n] e] ++ l.drop (n + 1))).flatMap encI := by
      have h1 : l.flatMap encI = (l.take n).flatMap encI ++ (encI l[n] ++ (l.drop (n + 1)).flatMap encI) := by
        conv => lhs; rw [split_at hn]
        rw [List.flatMap_append, List.flatMap_cons]
      have h2 : ((l.take n).flatMap encI).length = n * 4 := by rw [flat_len encI 4 encI_len, List.length_take]; omega
      rw [h1, List.set_append_right _ _ (by omega), h2, show n * 4 + 2 - n * 4 = 2 by omega, List.flatMap_append, List.flatMap_append]
      rw [List.append_assoc]
      rfl
    rw [← e1]
    exact h.swap

theorem rdelete_spec {r : Nat} {l : List Item} {key : ByteArray} {st : Int} {k : Int → Pr} (h : Holds E w (RfB r l :: L)) (hl : l.length ≤ 268435456) (hkey : key.size ≤ 1000000)
    (hk : ∀ w', Holds E w' (RfB r (delL l key st).2 :: L) → k (delL l key st).1 w') : CallP Try.prog 17 #[.pointer (some ⟨r, 0, none⟩), .string key, .int .i64 st] tInt k w := by
  refine rd17 _ _ _ _ _ ?_
  unfold sh17
  refine rfind_spec h (by omega) hkey fun w h => ?_
  dsimp only
  unfold delL getL at hk
  cases hf : has l key st with
  | false =>
    rw [hf] at hk
    exact CondP.yes rfl (hk _ h)
  | true =>
    rw [hf] at hk
    obtain ⟨hn, _⟩ := isAt_iff.1 hf
    clear hf
    generalize posL l key st = n at *
    simp only [if_true, ne_eq, not_true_eq_false, if_false] at hk
    refine CondP.no rfl ?_
    replace h := RfB.opened h
    obtain ⟨s, h⟩ := h
    refine val_nil ?_
    refine get_ld h rfl .head (by kernel_rfl) (x := s) rfl ?_
    refine rappend_to (s' := ⟨none, 0, 0⟩) (ds := []) (by simpa using h.own_nil) (Nat.le_of_lt hn) (by simp; omega) fun s1 w h => ?_
    rw [List.nil_append] at h
    refine val_nil ?_
    refine get_ld h rfl .two (by kernel_rfl) (x := s) rfl ?_
    rw [show IntKind.i64.wrap ((n : Int) + 1) = ((n + 1 : Nat) : Int) by rw [wrap_in _ (by omega)]; omega]
    refine rappend_from h hn (by simp; omega) fun s3 w h => ?_
    refine val_nil ?_
    refine do_st h rfl .two (by kernel_rfl) rfl rfl fun w h => ?_
    exact hk _ (RfB.closed (s := s3) (h.sub (by repeat (first | exact Sub.done | refine Sub.take (by first | exact .head | exact (.tail .head) | exact (.tail (.tail .head)) | exact (.tail (.tail (.tail .head))) | exact (.tail (.tail (.tail (.tail .head)))) | exact (.tail (.tail (.tail (.tail (.tail .head))))) | exact (.tail (.tail (.tail (.tail (.tail (.tail .head)))))) | exact (.tail (.tail (.tail (.tail (.tail (.tail (.tail .head))))))) | exact (.tail (.tail (.tail (.tail (.tail (.tail (.tail (.tail .head))))))))) ?_ | refine Sub.skip ?_))))
end
end Go.Proofs.Ytoaalegieaocbaa
