/- The index: what is asked of it. -/
import Derived.Test.YtoaalegieaocbaaIx7
namespace Go.Proofs.Ytoaalegieaocbaa
open Go.Sh
attribute [local irreducible] pto rob old ownS roS hstar hex hpure hemp mapB hro IxB

/-- of keys from lo to hi -/
def inr (lo hi : ByteArray) (x : Item) : Bool := !(Op.bytesLess x.1.toList lo.toList || (!(hi.toList == (⟨#[]⟩ : ByteArray).toList) && !Op.bytesLess x.1.toList hi.toList))
def visit (lo hi : ByteArray) (above : Int) (bs : List (List Item)) : List Item := ((bs.filter fun b => decide (above < maxEnd b)).flatten).filter (inr lo hi)

theorem flat_sub {α : Type} : ∀ {a b : List (List α)}, a.Sublist b → a.flatten.Sublist b.flatten
  | _, _, .slnil => .slnil
  | _, _, .cons x h => by rw [List.flatten_cons]; exact (flat_sub h).trans (List.sublist_append_right _ _)
  | _, _, .cons_cons x h => by rw [List.flatten_cons, List.flatten_cons]; exact (List.Sublist.refl _).append (flat_sub h)
theorem visit_snoc (lo hi : ByteArray) (above : Int) (bs : List (List Item)) (b : List Item) : visit lo hi above (bs ++ [b]) = visit lo hi above bs ++ if above < maxEnd b then b.filter (inr lo hi) else [] := by
  unfold visit
  rw [List.filter_append, List.flatten_append, List.filter_append]
  congr 1
  by_cases h : above < maxEnd b <;> simp [h]
theorem visit_le (lo hi : ByteArray) (above : Int) (bs : List (List Item)) : (visit lo hi above bs).length ≤ bs.flatten.length := by
  unfold visit
  refine Nat.le_trans (List.length_filter_le _ _) ?_
  exact (flat_sub (List.filter_sublist (l := bs))).length_le

section
variable {E w : World} {L L' : List HProp}

theorem each_spec {d : Option Addr} {lo hi : ByteArray} {above : Int} {k : Value → Pr} (h : Holds E w L)
    (hk : ∀ b4 b5 b6 b7 w', Holds E w' (pto b4 (.cells #[.pointer d] 23 (0, 0)) :: pto b5 (.cells #[.string lo] 9 (0, 0)) :: pto b6 (.cells #[.string hi] 9 (0, 0)) :: pto b7 (.cells #[.int .i64 above] 3 (0, 0)) :: L) →
      k (.func (.func 47) #[] #[.pointer (some ⟨b4, 0, none⟩), .pointer (some ⟨b7, 0, none⟩), .pointer (some ⟨b5, 0, none⟩), .pointer (some ⟨b6, 0, none⟩)]) w') :
    CallP Try.prog 42 #[.pointer d, .string lo, .string hi, .int .i64 above] tRaw k w := by
  refine rd42 _ _ _ _ _ _ ?_
  unfold sh42
  refine do_box h fun b4 w h => do_box h fun b5 w h => do_box h fun b6 w h => do_box h fun b7 w h => hk _ _ _ _ _ (h.sub (by repeat (first | exact Sub.done | refine Sub.take (by first | exact .head | exact (.tail .head) | exact (.tail (.tail .head)) | exact (.tail (.tail (.tail .head))) | exact (.tail (.tail (.tail (.tail .head)))) | exact (.tail (.tail (.tail (.tail (.tail .head))))) | exact (.tail (.tail (.tail (.tail (.tail (.tail .head)))))) | exact (.tail (.tail (.tail (.tail (.tail (.tail (.tail .head))))))) | exact (.tail (.tail (.tail (.tail (.tail (.tail (.tail (.tail .head))))))))) ?_ | refine Sub.skip ?_)))

abbrev Fr8 (b4 b5 b6 b7 d : Nat) (W : Int) (s : Sl) (bl : Bl) (lo hi : ByteArray) (above : Int) (L : List HProp) : List HProp :=
  pto b4 (.cells #[.pointer (some ⟨d, 0, none⟩)] 23 (0, 0)) :: pto b5 (.cells #[.string lo] 9 (0, 0)) :: pto b6 (.cells #[.string hi] 9 (0, 0)) :: pto b7 (.cells #[.int .i64 above] 3 (0, 0)) ::
    pto d (.cells (xcells W s) 68 (0, 0)) :: ownS 74 2 s (bl.flatMap encB) :: hro 4 (bl.map roP) :: L

set_option maxHeartbeats 1000000 in
theorem each1_spec {d b4 b5 b6 b7 : Nat} {W : Int} {bs : List (List Item)} {lo hi : ByteArray} {above : Int} {yv : Value} {p : Item → Bool} {R : List Item → HProp} {k : Unit → Pr}
    (h : Holds E w (R [] :: pto b4 (.cells #[.pointer (some ⟨d, 0, none⟩)] 23 (0, 0)) :: pto b5 (.cells #[.string lo] 9 (0, 0)) :: pto b6 (.cells #[.string hi] 9 (0, 0)) :: pto b7 (.cells #[.int .i64 above] 3 (0, 0)) :: IxB d W bs :: L))
    (hW : 0 < W) (hok : Okb bs)
    (hy : ∀ (F : List HProp) (x : Item) (acc : List Item) (w : World) (kb : Bool → Pr), Holds E w (R acc :: F) → acc.length ≤ 536870912 → (∀ w', Holds E w' (R (acc ++ [x].filter p) :: F) → kb true w') →
      InvP Try.prog (callN yv #[.agg #[.string x.1, .int .i64 x.2.1, .int .i64 x.2.2.1, .int .i64 x.2.2.2.1]]) tBool kb w)
    (hk : ∀ w', Holds E w' (R ((visit lo hi above bs).filter p) :: IxB d W bs :: L) → k () w') :
    CallP Try.prog 47 #[yv, .pointer (some ⟨b4, 0, none⟩), .pointer (some ⟨b7, 0, none⟩), .pointer (some ⟨b5, 0, none⟩), .pointer (some ⟨b6, 0, none⟩)] (.tup []) k w := by
  replace h := IxB.opened (h.pick (.tail (.tail (.tail (.tail (.tail .head))))))
  obtain ⟨s, bl, rfl, h⟩ := h
  replace h := h.sub (M := R [] :: Fr8 b4 b5 b6 b7 d W s bl lo hi above L) (by repeat (first | exact Sub.done | refine Sub.take (by first | exact .head | exact (.tail .head) | exact (.tail (.tail .head)) | exact (.tail (.tail (.tail .head))) | exact (.tail (.tail (.tail (.tail .head)))) | exact (.tail (.tail (.tail (.tail (.tail .head))))) | exact (.tail (.tail (.tail (.tail (.tail (.tail .head)))))) | exact (.tail (.tail (.tail (.tail (.tail (.tail (.tail .head))))))) | exact (.tail (.tail (.tail (.tail (.tail (.tail (.tail (.tail .head))))))))) ?_ | refine Sub.skip ?_))
  have hfl := hok.sz
  have hone : ∀ i (hi : i < bl.length), bl[i].2.length ≤ 536870912 := fun i hi => hok.one _ (List.mem_map.2 ⟨_, List.getElem_mem hi, rfl⟩)
  have hlen : bl.length ≤ 536870912 := by have := hok.len; rwa [List.length_map] at this
  have hB : ∀ w a, Holds E w (R a :: Fr8 b4 b5 b6 b7 d W s bl lo hi above L) → Reads w s 2 (bl.flatMap encB) := fun w a h => (h.pick (.tail (.tail (.tail (.tail (.tail (.tail .head))))))).reads_own
  have hI : ∀ w a, Holds E w (R a :: Fr8 b4 b5 b6 b7 d W s bl lo hi above L) → ∀ i (hi : i < bl.length), Reads w bl[i].1 4 (bl[i].2.flatMap encI) := fun w a h i hi => (hro_items (h.pick (.tail (.tail (.tail (.tail (.tail (.tail (.tail .head)))))))) hi).1
  have hsl := (hB w _ h).len_eq encB_len (by omega)
  refine rd47 _ _ _ _ _ _ _ ?_
  unfold sh47
  refine get_ld h rfl (by first | exact .head | exact (.tail .head) | exact (.tail (.tail .head)) | exact (.tail (.tail (.tail .head))) | exact (.tail (.tail (.tail (.tail .head)))) | exact (.tail (.tail (.tail (.tail (.tail .head))))) | exact (.tail (.tail (.tail (.tail (.tail (.tail .head)))))) | exact (.tail (.tail (.tail (.tail (.tail (.tail (.tail .head))))))) | exact (.tail (.tail (.tail (.tail (.tail (.tail (.tail (.tail .head))))))))) (by kernel_rfl) (x := some ⟨d, 0, none⟩) rfl ?_
  refine there_spec h (.tail (.tail (.tail (.tail (.tail .head))))) rfl ?_
  refine CondP.no (by rw [decide_eq_true hW]; rfl) ?_
  refine get_ld h rfl (by first | exact .head | exact (.tail .head) | exact (.tail (.tail .head)) | exact (.tail (.tail (.tail .head))) | exact (.tail (.tail (.tail (.tail .head)))) | exact (.tail (.tail (.tail (.tail (.tail .head))))) | exact (.tail (.tail (.tail (.tail (.tail (.tail .head)))))) | exact (.tail (.tail (.tail (.tail (.tail (.tail (.tail .head))))))) | exact (.tail (.tail (.tail (.tail (.tail (.tail (.tail (.tail .head))))))))) (by kernel_rfl) (x := some ⟨d, 0, none⟩) rfl ?_
  refine val_nil ?_
  refine get_ld h rfl (by first | exact .head | exact (.tail .head) | exact (.tail (.tail .head)) | exact (.tail (.tail (.tail .head))) | exact (.tail (.tail (.tail (.tail .head)))) | exact (.tail (.tail (.tail (.tail (.tail .head))))) | exact (.tail (.tail (.tail (.tail (.tail (.tail .head)))))) | exact (.tail (.tail (.tail (.tail (.tail (.tail (.tail .head))))))) | exact (.tail (.tail (.tail (.tail (.tail (.tail (.tail (.tail .head))))))))) (by kernel_rfl) (x := s) rfl ?_
  have hvle : ∀ i, (visit lo hi above ((bl.take i).map (·.2))).length ≤ 536870912 := fun i => by
    refine Nat.le_trans (visit_le _ _ _ _) (Nat.le_trans ?_ hfl)
    exact (flat_sub ((List.take_sublist i bl).map _)).length_le
  refine LoopP.inv (fun t w => ∃ i : Nat, t = i ∧ i ≤ bl.length ∧ Holds E w (R ((visit lo hi above ((bl.take i).map (·.2))).filter p) :: Fr8 b4 b5 b6 b7 d W s bl lo hi above L)) (fun t _ => bl.length - t.toNat)
    ⟨0, rfl, by omega, h⟩ ?_
  rintro next t w ⟨i, rfl, hi', h⟩ hnext
  refine AnyP.go fun _ => CondP.mk' (fun hc => ?_) (fun hc => ?_)
  rotate_left
  · have hc : i = bl.length := by have := cF hc; omega
    rw [hc, List.take_length] at h
    refine hk _ ?_
    have h1 := IxB.closed (W := W) (h.sub (M := pto d (.cells (xcells W s) 68 (0, 0)) :: ownS 74 2 s (bl.flatMap encB) :: hro 4 (bl.map roP) :: R _ :: L) (by repeat (first | exact Sub.done | refine Sub.take (by first | exact .head | exact (.tail .head) | exact (.tail (.tail .head)) | exact (.tail (.tail (.tail .head))) | exact (.tail (.tail (.tail (.tail .head)))) | exact (.tail (.tail (.tail (.tail (.tail .head))))) | exact (.tail (.tail (.tail (.tail (.tail (.tail .head)))))) | exact (.tail (.tail (.tail (.tail (.tail (.tail (.tail .head))))))) | exact (.tail (.tail (.tail (.tail (.tail (.tail (.tail (.tail .head))))))))) ?_ | refine Sub.skip ?_)))
    exact h1.sub (by repeat (first | exact Sub.done | refine Sub.take (by first | exact .head | exact (.tail .head) | exact (.tail (.tail .head)) | exact (.tail (.tail (.tail .head))) | exact (.tail (.tail (.tail (.tail .head)))) | exact (.tail (.tail (.tail (.tail (.tail .head))))) | exact (.tail (.tail (.tail (.tail (.tail (.tail .head)))))) | exact (.tail (.tail (.tail (.tail (.tail (.tail (.tail .head))))))) | exact (.tail (.tail (.tail (.tail (.tail (.tail (.tail (.tail .head))))))))) ?_ | refine Sub.skip ?_))
  have hc : i < bl.length := by have := cT hc; omega
  have hw1 : IntKind.i64.wrap ((i : Int) + 1) = ((i + 1 : Nat) : Int) := by rw [wrap_in _ (by omega)]; omega
  have hsn : visit lo hi above ((bl.take (i + 1)).map (·.2)) = visit lo hi above ((bl.take i).map (·.2)) ++ if above < maxEnd bl[i].2 then bl[i].2.filter (inr lo hi) else [] := by
    rw [← List.take_append_getElem hc, List.map_append, ← visit_snoc]; rfl
  refine JoinP.via (fun _ w => Holds E w (R ((visit lo hi above ((bl.take (i + 1)).map (·.2))).filter p) :: Fr8 b4 b5 b6 b7 d W s bl lo hi above L)) (fun _ w h => AnyP.go fun _ => by rw [hw1]; exact hnext _ _ ⟨i + 1, rfl, by omega, h⟩ (by omega)) fun J hJ => ?_
  clear hnext
  rw [hsn, List.filter_append] at hJ
  refine val_idx (hB w _ h) encB_len (by omega) hc (T := 66) (Te := 74) (by kernel_rfl) (by kernel_rfl) fun a0 ha0 hs0 => ?_
  refine get_elt (ls := [.slice, .int .i64]) (bl[i].1, maxEnd bl[i].2, ()) (hB w _ h) encB_len ha0 hc (by kernel_rfl) (by kernel_rfl) rfl ?_
  refine do_alloc (z := .agg #[.slice none 0 0, .int .i64 0]) h (by kernel_rfl) fun bb w h => ?_
  refine do_st_all (n := 2) h rfl (by first | exact .head | exact (.tail .head) | exact (.tail (.tail .head)) | exact (.tail (.tail (.tail .head))) | exact (.tail (.tail (.tail (.tail .head)))) | exact (.tail (.tail (.tail (.tail (.tail .head))))) | exact (.tail (.tail (.tail (.tail (.tail (.tail .head)))))) | exact (.tail (.tail (.tail (.tail (.tail (.tail (.tail .head))))))) | exact (.tail (.tail (.tail (.tail (.tail (.tail (.tail (.tail .head))))))))) (by kernel_rfl) rfl rfl (by intro v hv; simp at hv; rcases hv with rfl | rfl <;> rfl) fun w h => ?_
  refine get_ld h rfl (by first | exact .head | exact (.tail .head) | exact (.tail (.tail .head)) | exact (.tail (.tail (.tail .head))) | exact (.tail (.tail (.tail (.tail .head)))) | exact (.tail (.tail (.tail (.tail (.tail .head))))) | exact (.tail (.tail (.tail (.tail (.tail (.tail .head)))))) | exact (.tail (.tail (.tail (.tail (.tail (.tail (.tail .head))))))) | exact (.tail (.tail (.tail (.tail (.tail (.tail (.tail (.tail .head))))))))) (by kernel_rfl) (x := maxEnd bl[i].2) rfl ?_
  refine get_ld (b := b7) h rfl (by first | exact .head | exact (.tail .head) | exact (.tail (.tail .head)) | exact (.tail (.tail (.tail .head))) | exact (.tail (.tail (.tail (.tail .head)))) | exact (.tail (.tail (.tail (.tail (.tail .head))))) | exact (.tail (.tail (.tail (.tail (.tail (.tail .head)))))) | exact (.tail (.tail (.tail (.tail (.tail (.tail (.tail .head))))))) | exact (.tail (.tail (.tail (.tail (.tail (.tail (.tail (.tail .head))))))))) (by kernel_rfl) (x := above) rfl ?_
  refine CondP.mk' (fun hm => ?_) (fun hm => ?_)
  · have hm : maxEnd bl[i].2 ≤ above := cT hm
    rw [if_neg (by omega), List.filter_nil, List.append_nil] at hJ
    exact hJ _ _ h.drop
  have hm : ¬ maxEnd bl[i].2 ≤ above := cF hm
  rw [if_pos (by omega)] at hJ
  refine get_ld h rfl (by first | exact .head | exact (.tail .head) | exact (.tail (.tail .head)) | exact (.tail (.tail (.tail .head))) | exact (.tail (.tail (.tail (.tail .head)))) | exact (.tail (.tail (.tail (.tail (.tail .head))))) | exact (.tail (.tail (.tail (.tail (.tail (.tail .head)))))) | exact (.tail (.tail (.tail (.tail (.tail (.tail (.tail .head))))))) | exact (.tail (.tail (.tail (.tail (.tail (.tail (.tail (.tail .head))))))))) (by kernel_rfl) (x := bl[i].1) rfl ?_
  replace h := h.drop
  have hil := (hI w _ h i hc).len_eq encI_len (by omega)
  have hon := hone i hc
  have hvi := hvle i
  have hvle' : ∀ j, ((visit lo hi above ((bl.take i).map (·.2))).filter p ++ ((bl[i].2.take j).filter (inr lo hi)).filter p).length ≤ 536870912 := fun j => by
    have h1 : (visit lo hi above ((bl.take (i + 1)).map (·.2))).length ≤ 536870912 := hvle (i + 1)
    rw [hsn, if_pos (by omega), List.length_append] at h1
    have h2 := List.length_filter_le p (visit lo hi above ((bl.take i).map (·.2)))
    have h3 := List.length_filter_le p ((bl[i].2.take j).filter (inr lo hi))
    have h4 : ((bl[i].2.take j).filter (inr lo hi)).length ≤ (bl[i].2.filter (inr lo hi)).length := ((List.take_sublist j _).filter _).length_le
    rw [List.length_append]
    omega
  generalize (visit lo hi above ((bl.take i).map (·.2))).filter p = V at *
  refine LoopP.inv (fun t w => ∃ j : Nat, t = j ∧ j ≤ bl[i].2.length ∧ Holds E w (R (V ++ ((bl[i].2.take j).filter (inr lo hi)).filter p) :: Fr8 b4 b5 b6 b7 d W s bl lo hi above L)) (fun t _ => bl[i].2.length - t.toNat)
    ⟨0, rfl, by omega, by simpa using h⟩ ?_
  rintro next2 t w ⟨j, rfl, hj, h⟩ hnext2
  refine AnyP.go fun _ => CondP.mk' (fun hc2 => ?_) (fun hc2 => ?_)
  rotate_left
  · have hc2 : j = bl[i].2.length := by have := cF hc2; omega
    rw [hc2, List.take_length] at h
    exact hJ _ _ h
  have hc2 : j < bl[i].2.length := by have := cT hc2; omega
  have hw2 : IntKind.i64.wrap ((j : Int) + 1) = ((j + 1 : Nat) : Int) := by rw [wrap_in _ (by omega)]; omega
  have hsn2 : V ++ ((bl[i].2.take (j + 1)).filter (inr lo hi)).filter p = (V ++ ((bl[i].2.take j).filter (inr lo hi)).filter p) ++ ([bl[i].2[j]].filter (inr lo hi)).filter p := by
    rw [← List.take_append_getElem hc2, List.filter_append, List.filter_append, List.append_assoc]
  refine JoinP.via (fun _ w => Holds E w (R (V ++ ((bl[i].2.take (j + 1)).filter (inr lo hi)).filter p) :: Fr8 b4 b5 b6 b7 d W s bl lo hi above L)) (fun _ w h => AnyP.go fun _ => by rw [hw2]; exact hnext2 _ _ ⟨j + 1, rfl, by omega, h⟩ (by omega)) fun J2 hJ2 => ?_
  clear hnext2
  rw [hsn2] at hJ2
  have hvj := hvle' j
  generalize V ++ ((bl[i].2.take j).filter (inr lo hi)).filter p = V2 at *
  refine val_idx (hI w _ h i hc) encI_len (by omega) hc2 (T := 72) (Te := 31) (by kernel_rfl) (by kernel_rfl) fun a1 ha1 hs1 => ?_
  refine get_elt bl[i].2[j] (hI w _ h i hc) encI_len ha1 hc2 (by kernel_rfl) (by kernel_rfl) rfl ?_
  generalize bl[i].2[j] = x at *
  refine do_alloc (z := .agg #[.string ⟨#[]⟩, .int .i64 0, .int .i64 0, .int .i64 0]) h (by kernel_rfl) fun bx w h => ?_
  refine do_st_all (n := 4) h rfl (by first | exact .head | exact (.tail .head) | exact (.tail (.tail .head)) | exact (.tail (.tail (.tail .head))) | exact (.tail (.tail (.tail (.tail .head)))) | exact (.tail (.tail (.tail (.tail (.tail .head))))) | exact (.tail (.tail (.tail (.tail (.tail (.tail .head)))))) | exact (.tail (.tail (.tail (.tail (.tail (.tail (.tail .head))))))) | exact (.tail (.tail (.tail (.tail (.tail (.tail (.tail (.tail .head))))))))) (by kernel_rfl) rfl rfl (by intro v hv; simp at hv; rcases hv with rfl | rfl | rfl | rfl <;> rfl) fun w h => ?_
  refine get_ld h rfl (by first | exact .head | exact (.tail .head) | exact (.tail (.tail .head)) | exact (.tail (.tail (.tail .head))) | exact (.tail (.tail (.tail (.tail .head)))) | exact (.tail (.tail (.tail (.tail (.tail .head))))) | exact (.tail (.tail (.tail (.tail (.tail (.tail .head)))))) | exact (.tail (.tail (.tail (.tail (.tail (.tail (.tail .head))))))) | exact (.tail (.tail (.tail (.tail (.tail (.tail (.tail (.tail .head))))))))) (by kernel_rfl) (x := x.1) rfl ?_
  refine get_ld (b := b5) h rfl (by first | exact .head | exact (.tail .head) | exact (.tail (.tail .head)) | exact (.tail (.tail (.tail .head))) | exact (.tail (.tail (.tail (.tail .head)))) | exact (.tail (.tail (.tail (.tail (.tail .head))))) | exact (.tail (.tail (.tail (.tail (.tail (.tail .head)))))) | exact (.tail (.tail (.tail (.tail (.tail (.tail (.tail .head))))))) | exact (.tail (.tail (.tail (.tail (.tail (.tail (.tail (.tail .head))))))))) (by kernel_rfl) (x := lo) rfl ?_
  refine JoinP.via (fun b w => b = !inr lo hi x ∧ Holds E w (pto bx (.cells #[.string x.1, .int .i64 x.2.1, .int .i64 x.2.2.1, .int .i64 x.2.2.2.1] 31 (0, 0)) :: R V2 :: Fr8 b4 b5 b6 b7 d W s bl lo hi above L)) ?_ fun J3 hJ3 => CondP.mk' (fun hb => hJ3 _ _ ⟨by simp [inr, hb], h⟩) (fun hb => ?_)
  rotate_left
  · refine get_ld (b := b6) h rfl (by first | exact .head | exact (.tail .head) | exact (.tail (.tail .head)) | exact (.tail (.tail (.tail .head))) | exact (.tail (.tail (.tail (.tail .head)))) | exact (.tail (.tail (.tail (.tail (.tail .head))))) | exact (.tail (.tail (.tail (.tail (.tail (.tail .head)))))) | exact (.tail (.tail (.tail (.tail (.tail (.tail (.tail .head))))))) | exact (.tail (.tail (.tail (.tail (.tail (.tail (.tail (.tail .head))))))))) (by kernel_rfl) (x := hi) rfl ?_
    refine JoinP.via (fun b w => b = !inr lo hi x ∧ Holds E w (pto bx (.cells #[.string x.1, .int .i64 x.2.1, .int .i64 x.2.2.1, .int .i64 x.2.2.2.1] 31 (0, 0)) :: R V2 :: Fr8 b4 b5 b6 b7 d W s bl lo hi above L)) (fun b w hh => AnyP.go fun _ => hJ3 _ _ hh) fun J4 hJ4 => CondP.mk' (fun hb2 => ?_) (fun hb2 => hJ4 _ _ ⟨by simp only [inr, hb, Bool.false_or, hb2, Bool.false_and, Bool.not_false, Bool.not_true], h⟩)
    refine get_ld h rfl (by first | exact .head | exact (.tail .head) | exact (.tail (.tail .head)) | exact (.tail (.tail (.tail .head))) | exact (.tail (.tail (.tail (.tail .head)))) | exact (.tail (.tail (.tail (.tail (.tail .head))))) | exact (.tail (.tail (.tail (.tail (.tail (.tail .head)))))) | exact (.tail (.tail (.tail (.tail (.tail (.tail (.tail .head))))))) | exact (.tail (.tail (.tail (.tail (.tail (.tail (.tail (.tail .head))))))))) (by kernel_rfl) (x := x.1) rfl ?_
    refine get_ld (b := b6) h rfl (by first | exact .head | exact (.tail .head) | exact (.tail (.tail .head)) | exact (.tail (.tail (.tail .head))) | exact (.tail (.tail (.tail (.tail .head)))) | exact (.tail (.tail (.tail (.tail (.tail .head))))) | exact (.tail (.tail (.tail (.tail (.tail (.tail .head)))))) | exact (.tail (.tail (.tail (.tail (.tail (.tail (.tail .head))))))) | exact (.tail (.tail (.tail (.tail (.tail (.tail (.tail (.tail .head))))))))) (by kernel_rfl) (x := hi) rfl ?_
    exact hJ4 _ _ ⟨by simp only [inr, hb, Bool.false_or, hb2, Bool.true_and, Bool.not_not], h⟩
  rintro _ w ⟨rfl, h⟩
  refine AnyP.go fun _ => CondP.mk' (fun hb => ?_) (fun hb => ?_)
  · have hb : inr lo hi x = false := by simpa using hb
    rw [List.filter_cons_of_neg (by rw [hb]; simp), List.filter_nil, List.filter_nil, List.append_nil] at hJ2
    exact hJ2 _ _ h.drop
  · have hb : inr lo hi x = true := by simpa using hb
    rw [List.filter_cons_of_pos hb, List.filter_nil] at hJ2
    refine get_ld_agg (ls := itL) x h rfl (by first | exact .head | exact (.tail .head) | exact (.tail (.tail .head)) | exact (.tail (.tail (.tail .head))) | exact (.tail (.tail (.tail (.tail .head)))) | exact (.tail (.tail (.tail (.tail (.tail .head))))) | exact (.tail (.tail (.tail (.tail (.tail (.tail .head)))))) | exact (.tail (.tail (.tail (.tail (.tail (.tail (.tail .head))))))) | exact (.tail (.tail (.tail (.tail (.tail (.tail (.tail (.tail .head))))))))) (by kernel_rfl) (by kernel_rfl) ?_
    refine hy _ x V2 _ _ h.drop hvj fun w h => ?_
    exact CondP.no rfl (hJ2 _ _ h)
end
end Go.Proofs.Ytoaalegieaocbaa
