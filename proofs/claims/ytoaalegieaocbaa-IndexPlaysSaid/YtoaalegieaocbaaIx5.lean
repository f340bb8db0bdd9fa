/- The index: merge. -/
import Derived.Test.YtoaalegieaocbaaIx4
namespace Go.Proofs.Ytoaalegieaocbaa
open Go.Sh
attribute [local irreducible] pto rob old ownS roS hstar hex hpure hemp mapB hro IxB

section
variable {E w : World} {L L' : List HProp}

theorem merge_nat {W : Int} {n : Nat} {bs : List (List Item)} (hn : n + 1 < bs.length) : mergeM W n bs =
    if W < ((bs[n].length + bs[n + 1].length : Nat) : Int) then bs else bs.take n ++ [bs[n] ++ bs[n + 1]] ++ bs.drop (n + 2) := by
  unfold mergeM
  rw [if_neg (by omega)]
  simp only [Int.toNat_natCast]
  rw [List.getElem?_eq_getElem (by omega), List.getElem?_eq_getElem hn]
  rfl

set_option maxHeartbeats 1000000 in
theorem merge_spec {d : Nat} {n W : Int} {bs : List (List Item)} {k : Unit → Pr} (h : Holds E w (IxB d W bs :: L)) (hn : -1 ≤ n) (hn1 : n ≤ 1073741824) (hb : bs.length ≤ 536870912) (hbl : ∀ b ∈ bs, b.length ≤ 536870912)
    (hk : ∀ w', Holds E w' (IxB d W (mergeM W n bs) :: L) → k () w') : CallP Try.prog 41 #[.pointer (some ⟨d, 0, none⟩), .int .i64 n] (.tup []) k w := by
  replace h := IxB.opened h
  obtain ⟨s, bl, rfl, h⟩ := h
  rw [List.length_map] at hb
  refine rd41 _ _ _ _ ?_
  unfold sh41
  have hB : Oracle E (pto d (.cells (xcells W s) 68 (0, 0)) :: ownS 74 2 s (bl.flatMap encB) :: hro 4 (bl.map roP) :: L) s 2 (bl.flatMap encB) := fun w h => (h.pick (.tail .head)).reads_own
  have hI : ∀ i (hi : i < bl.length), Oracle E (pto d (.cells (xcells W s) 68 (0, 0)) :: ownS 74 2 s (bl.flatMap encB) :: hro 4 (bl.map roP) :: L) bl[i].1 4 (bl[i].2.flatMap encI) := fun i hi w h => (hro_items (h.pick (.tail (.tail .head))) hi).1
  have hcap : ∀ i (hi : i < bl.length), bl[i].1.len ≤ bl[i].1.cap := fun i hi => (hro_items (h.pick (.tail (.tail .head))) hi).2
  have hil : ∀ i (hi : i < bl.length), bl[i].1.len = bl[i].2.length := fun i hi => (hI i hi w h).len_eq encI_len (by omega)
  have hln : ∀ i (hi : i < bl.length), bl[i].2.length ≤ 536870912 := fun i hi => hbl _ (List.mem_map.2 ⟨_, List.getElem_mem hi, rfl⟩)
  have hsl := (hB w h).len_eq encB_len (by omega)
  have hscap := (h.pick (.tail .head)).own_len.2
  refine JoinP.via (fun b w => b = decide (n < 0 ∨ (bl.length : Int) ≤ n + 1) ∧ Holds E w (pto d (.cells (xcells W s) 68 (0, 0)) :: ownS 74 2 s (bl.flatMap encB) :: hro 4 (bl.map roP) :: L)) ?_ fun J hJ => CondP.mk' (fun hc => hJ _ _ ⟨(decide_eq_true (.inl (cT hc))).symm, h⟩) (fun hc => ?_)
  rotate_left
  · have hc := cF hc
    refine val_nil ?_
    refine get_ld h rfl (by first | exact .head | exact (.tail .head) | exact (.tail (.tail .head)) | exact (.tail (.tail (.tail .head))) | exact (.tail (.tail (.tail (.tail .head)))) | exact (.tail (.tail (.tail (.tail (.tail .head))))) | exact (.tail (.tail (.tail (.tail (.tail (.tail .head)))))) | exact (.tail (.tail (.tail (.tail (.tail (.tail (.tail .head))))))) | exact (.tail (.tail (.tail (.tail (.tail (.tail (.tail (.tail .head))))))))) (by kernel_rfl) (x := s) rfl ?_
    refine hJ _ _ ⟨?_, h⟩
    rw [wrap_in _ (by omega), hsl]
    exact decide_eq_decide.2 ⟨fun h => .inr (by omega), fun h => h.elim (fun h => absurd h hc) (fun h => by omega)⟩
  rintro _ w ⟨rfl, h⟩
  refine AnyP.go fun _ => CondP.mk' (fun hc => ?_) (fun hc => ?_)
  · have hc : n < 0 ∨ (bl.length : Int) ≤ n + 1 := cT hc
    rw [mergeM, if_pos (by simpa using hc)] at hk
    exact hk _ (IxB.closed h)
  have hc : ¬ (n < 0 ∨ (bl.length : Int) ≤ n + 1) := cF hc
  obtain ⟨m, rfl⟩ : ∃ m : Nat, n = m := ⟨n.toNat, by omega⟩
  have hm : m + 1 < bl.length := by omega
  rw [merge_nat (by simpa using hm)] at hk
  refine DrewP.go h fun w h => ?_
  refine val_nil ?_
  refine get_ld h rfl (by first | exact .head | exact (.tail .head) | exact (.tail (.tail .head)) | exact (.tail (.tail (.tail .head))) | exact (.tail (.tail (.tail (.tail .head)))) | exact (.tail (.tail (.tail (.tail (.tail .head))))) | exact (.tail (.tail (.tail (.tail (.tail (.tail .head)))))) | exact (.tail (.tail (.tail (.tail (.tail (.tail (.tail .head))))))) | exact (.tail (.tail (.tail (.tail (.tail (.tail (.tail (.tail .head))))))))) (by kernel_rfl) (x := s) rfl ?_
  refine val_idx (hB w h) encB_len (by omega) (show m < bl.length by omega) (T := 66) (Te := 74) (by kernel_rfl) (by kernel_rfl) fun a0 ha0 hs0 => ?_
  refine get_fld bl[m].1 (hB w h) encB_len ha0 hs0 (by omega) (by omega) (by kernel_rfl) rfl ?_
  refine val_nil ?_
  refine get_ld h rfl (by first | exact .head | exact (.tail .head) | exact (.tail (.tail .head)) | exact (.tail (.tail (.tail .head))) | exact (.tail (.tail (.tail (.tail .head)))) | exact (.tail (.tail (.tail (.tail (.tail .head))))) | exact (.tail (.tail (.tail (.tail (.tail (.tail .head)))))) | exact (.tail (.tail (.tail (.tail (.tail (.tail (.tail .head))))))) | exact (.tail (.tail (.tail (.tail (.tail (.tail (.tail (.tail .head))))))))) (by kernel_rfl) (x := s) rfl ?_
  rw [show IntKind.i64.wrap ((m : Int) + 1) = ((m + 1 : Nat) : Int) by rw [wrap_in _ (by omega)]; omega]
  refine val_idx (hB w h) encB_len (by omega) hm (T := 66) (Te := 74) (by kernel_rfl) (by kernel_rfl) fun a1 ha1 hs1 => ?_
  refine get_fld bl[m + 1].1 (hB w h) encB_len ha1 hs1 hm (by omega) (by kernel_rfl) rfl ?_
  refine chk_ld h rfl (by first | exact .head | exact (.tail .head) | exact (.tail (.tail .head)) | exact (.tail (.tail (.tail .head))) | exact (.tail (.tail (.tail (.tail .head)))) | exact (.tail (.tail (.tail (.tail (.tail .head))))) | exact (.tail (.tail (.tail (.tail (.tail (.tail .head)))))) | exact (.tail (.tail (.tail (.tail (.tail (.tail (.tail .head))))))) | exact (.tail (.tail (.tail (.tail (.tail (.tail (.tail (.tail .head))))))))) (by kernel_rfl) rfl ?_
  refine chk_fld (hB w h) encB_len ha1 hs1 hm (by omega) (by kernel_rfl) rfl ?_
  refine val_nil ?_
  refine get_ld h rfl (by first | exact .head | exact (.tail .head) | exact (.tail (.tail .head)) | exact (.tail (.tail (.tail .head))) | exact (.tail (.tail (.tail (.tail .head)))) | exact (.tail (.tail (.tail (.tail (.tail .head))))) | exact (.tail (.tail (.tail (.tail (.tail (.tail .head)))))) | exact (.tail (.tail (.tail (.tail (.tail (.tail (.tail .head))))))) | exact (.tail (.tail (.tail (.tail (.tail (.tail (.tail (.tail .head))))))))) (by kernel_rfl) (x := W) rfl ?_
  have i0 := hil m (by omega)
  have i1 := hil (m + 1) hm
  have n0 := hln m (by omega)
  have n1 := hln (m + 1) hm
  rw [show IntKind.i64.wrap ((bl[m].1.len : Int) + bl[m + 1].1.len) = ((bl[m].2.length + bl[m + 1].2.length : Nat) : Int) by rw [wrap_in _ (by omega)]; omega]
  have e0 : ((bl.map (·.2))[m]'(by simp; omega)) = bl[m].2 := by simp
  have e1 : ((bl.map (·.2))[m + 1]'(by simpa using hm)) = bl[m + 1].2 := by simp
  rw [e0, e1] at hk
  refine CondP.mk' (fun hc => ?_) (fun hc => ?_)
  · rw [if_pos (cT hc)] at hk
    exact hk _ (IxB.closed h)
  rw [if_neg (cF hc)] at hk
  refine val_nil ?_
  refine get_ld h rfl (by first | exact .head | exact (.tail .head) | exact (.tail (.tail .head)) | exact (.tail (.tail (.tail .head))) | exact (.tail (.tail (.tail (.tail .head)))) | exact (.tail (.tail (.tail (.tail (.tail .head))))) | exact (.tail (.tail (.tail (.tail (.tail (.tail .head)))))) | exact (.tail (.tail (.tail (.tail (.tail (.tail (.tail .head))))))) | exact (.tail (.tail (.tail (.tail (.tail (.tail (.tail (.tail .head))))))))) (by kernel_rfl) (x := s) rfl ?_
  refine cutB_spec (xs := bl) (n := m) (m := 2) h hB hscap (by omega) (by omega) fun s1 w hs1 h => ?_
  refine putI_spec (n := bl[m].1.len) (xs := bl[m].2) (ys := bl[m + 1].2) h (fun w h => hI m (by omega) w h.drop) (fun w h => hI (m + 1) hm w h.drop) (hcap m (by omega)) (by omega) (by omega) fun s2 w hs2 h => ?_
  rw [i0, List.take_length, List.drop_length, List.append_nil] at h
  refine of_spec (l := bl[m].2 ++ bl[m + 1].2) h (fun w h => h.reads_own) (by rw [List.length_append]; omega) fun w h => ?_
  refine do_build (Te := 74) (sz := 2) (len := 1) ([((s2, bl[m].2 ++ bl[m + 1].2) : Sl × List Item)].flatMap encB) h (by kernel_rfl) rfl fun t w ht h => ?_
  refine putB_spec (xs := bl.take m ++ bl.drop (m + 2)) (n := m) h (fun w h => (h.pick (.tail (.tail .head))).reads_own) (fun w h => h.reads_own) ((h.pick (.tail (.tail .head))).own_len.2) (by simp; omega) (by simp; omega) fun s3 w hs3 h => ?_
  refine val_nil ?_
  refine do_st h rfl (by first | exact .head | exact (.tail .head) | exact (.tail (.tail .head)) | exact (.tail (.tail (.tail .head))) | exact (.tail (.tail (.tail (.tail .head)))) | exact (.tail (.tail (.tail (.tail (.tail .head))))) | exact (.tail (.tail (.tail (.tail (.tail (.tail .head)))))) | exact (.tail (.tail (.tail (.tail (.tail (.tail (.tail .head))))))) | exact (.tail (.tail (.tail (.tail (.tail (.tail (.tail (.tail .head))))))))) (by kernel_rfl) rfl rfl fun w h => ?_
  have e1 : (bl.take m ++ bl.drop (m + 2)).take m = bl.take m := by
    rw [List.take_append_of_le_length (by simp; omega), List.take_take, Nat.min_self]
  have e2 : (bl.take m ++ bl.drop (m + 2)).drop m = bl.drop (m + 2) := by
    rw [List.drop_append_of_le_length (by simp; omega), List.drop_eq_nil_of_le (by simp; omega), List.nil_append]
  rw [e1, e2] at h
  have h1 := ((h.sub (M := ownS 31 4 s2 ((bl[m].2 ++ bl[m + 1].2).flatMap encI) :: hro 4 (bl.map roP) :: pto d _ :: ownS 74 2 s3 _ :: L) (by repeat (first | exact Sub.done | refine Sub.take (by first | exact .head | exact (.tail .head) | exact (.tail (.tail .head)) | exact (.tail (.tail (.tail .head))) | exact (.tail (.tail (.tail (.tail .head)))) | exact (.tail (.tail (.tail (.tail (.tail .head))))) | exact (.tail (.tail (.tail (.tail (.tail (.tail .head)))))) | exact (.tail (.tail (.tail (.tail (.tail (.tail (.tail .head))))))) | exact (.tail (.tail (.tail (.tail (.tail (.tail (.tail (.tail .head))))))))) ?_ | refine Sub.skip ?_))).hro_own).hro_weak
    (l' := (bl.take m ++ [((s2, bl[m].2 ++ bl[m + 1].2) : Sl × List Item)] ++ bl.drop (m + 2)).map roP) (fun x hx p hp => by
      obtain ⟨q, hq, rfl⟩ := List.mem_map.1 hp
      rcases List.mem_append.1 hq with hq | hq
      · rcases List.mem_append.1 hq with hq | hq
        · exact hx _ (List.mem_cons_of_mem _ (List.mem_map.2 ⟨q, List.mem_of_mem_take hq, rfl⟩))
        · simp only [List.mem_cons, List.not_mem_nil, or_false] at hq
          subst hq
          exact hx _ List.mem_cons_self
      · exact hx _ (List.mem_cons_of_mem _ (List.mem_map.2 ⟨q, List.mem_of_mem_drop hq, rfl⟩)))
  have h2 := IxB.closed (W := W) (h1.sub (M := pto d (.cells (xcells W s3) 68 (0, 0)) :: ownS 74 2 s3 _ :: hro 4 _ :: L) (by repeat (first | exact Sub.done | refine Sub.take (by first | exact .head | exact (.tail .head) | exact (.tail (.tail .head)) | exact (.tail (.tail (.tail .head))) | exact (.tail (.tail (.tail (.tail .head)))) | exact (.tail (.tail (.tail (.tail (.tail .head))))) | exact (.tail (.tail (.tail (.tail (.tail (.tail .head)))))) | exact (.tail (.tail (.tail (.tail (.tail (.tail (.tail .head))))))) | exact (.tail (.tail (.tail (.tail (.tail (.tail (.tail (.tail .head))))))))) ?_ | refine Sub.skip ?_)))
  refine hk _ ?_
  simp only [List.map_append, List.map_take, List.map_drop, List.map_cons, List.map_nil] at h2
  exact h2
end
end Go.Proofs.Ytoaalegieaocbaa
