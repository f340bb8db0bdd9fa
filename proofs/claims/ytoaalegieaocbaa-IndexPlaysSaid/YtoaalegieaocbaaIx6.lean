/- The index: Insert, Close and Delete. -/
import Derived.Test.YtoaalegieaocbaaIx5
namespace Go.Proofs.Ytoaalegieaocbaa
open Go.Sh
attribute [local irreducible] pto rob old ownS roS hstar hex hpure hemp mapB hro IxB

theorem flat_set {α : Type} (enc : α → List Value) (sz : Nat) (henc : ∀ x, (enc x).length = sz) {xs : List α} {i : Nat} (hi : i < xs.length) (y : α) :
    (xs.flatMap enc).take (i * sz) ++ enc y ++ (xs.flatMap enc).drop (i * sz + sz) = (xs.set i y).flatMap enc := by
  rw [flat_take enc sz henc, show i * sz + sz = (i + 1) * sz by rw [Nat.add_mul]; omega, flat_drop enc sz henc, List.set_eq_take_append_cons_drop, if_pos hi, List.flatMap_append, List.flatMap_cons, List.append_assoc]

theorem findB_lt {bs : List (List Item)} {k : ByteArray} {s : Int} (h : bs ≠ []) : findB bs k s < bs.length := by
  have h1 : findB bs k s ≤ (bs.drop 1).length := (List.takeWhile_sublist _).length_le
  have h2 : 0 < bs.length := List.length_pos_iff.2 h
  rw [List.length_drop] at h1; omega
theorem findM_in {bs : List (List Item)} {k : ByteArray} {s : Int} (h : bs ≠ []) : ∃ hn : (findM bs k s).1 < bs.length, (findM bs k s).2.1 ≤ bs[(findM bs k s).1].length := by
  have hlt := findB_lt (k := k) (s := s) h
  unfold findM
  generalize findB bs k s = n at *
  rw [List.getElem?_eq_getElem hlt]
  exact ⟨hlt, (List.takeWhile_sublist _).length_le⟩

def badI (i : Item) : Prop := i.2.1 < 0 ∨ i.2.2.1 ≤ i.2.1 ∨ 1099511627776 < i.2.2.1
instance (i : Item) : Decidable (badI i) := by unfold badI; infer_instance
def blk (bs : List (List Item)) (n : Nat) : List Item := bs[n]?.getD []
theorem blk_eq {bs : List (List Item)} {n : Nat} (h : n < bs.length) : blk bs n = bs[n] := by simp [blk, h]

def insM (W : Int) (bs : List (List Item)) (i : Item) : Int × List (List Item) :=
  if badI i then (1, bs) else if bs = [] then (0, [[i]]) else
  if (findM bs i.1 i.2.1).2.2 then (5, bs) else
  (0, splitM W (findM bs i.1 i.2.1).1 (bs.set (findM bs i.1 i.2.1).1 ((blk bs (findM bs i.1 i.2.1).1).take (findM bs i.1 i.2.1).2.1 ++ [i] ++ (blk bs (findM bs i.1 i.2.1).1).drop (findM bs i.1 i.2.1).2.1)))

def withEnd (i : Item) (e : Int) : Item := (i.1, i.2.1, e, i.2.2.2.1, ())
def closeM (bs : List (List Item)) (k : ByteArray) (s e : Int) : Int × List (List Item) :=
  if (getM bs k s).2 ≠ 0 then ((getM bs k s).2, bs) else
  if (getM bs k s).1.2.2.1 ≠ 1099511627776 then (6, bs) else
  if e ≤ s ∨ 1099511627776 ≤ e then (1, bs) else
  (0, bs.set (findM bs k s).1 ((blk bs (findM bs k s).1).take (findM bs k s).2.1 ++ [withEnd (getM bs k s).1 e] ++ (blk bs (findM bs k s).1).drop ((findM bs k s).2.1 + 1)))

def cutAt (l : List Item) (q : Nat) : List Item := l.take q ++ l.drop (q + 1)
def delM (W : Int) (bs : List (List Item)) (k : ByteArray) (s : Int) : Int × List (List Item) :=
  if (getM bs k s).2 ≠ 0 then ((getM bs k s).2, bs) else
  if cutAt (blk bs (findM bs k s).1) (findM bs k s).2.1 = [] then (0, mergeM W ((findM bs k s).1 - 1) (bs.take (findM bs k s).1 ++ bs.drop ((findM bs k s).1 + 1))) else
  (0, mergeM W ((findM bs k s).1 - 1) (mergeM W (findM bs k s).1 (bs.set (findM bs k s).1 (cutAt (blk bs (findM bs k s).1) (findM bs k s).2.1))))

section
variable {E w : World} {L L' : List HProp}

theorem IxB.closed_set {d n : Nat} {W : Int} {s s1 : Sl} {bl : Bl} {l1 : List Item} (hn : n < bl.length)
    (h : Holds E w (pto d (.cells (xcells W s) 68 (0, 0)) :: ownS 74 2 s ((bl.flatMap encB).take (n * 2) ++ [.slice s1.a s1.len s1.cap, .int .i64 (maxEnd l1)] ++ (bl.flatMap encB).drop (n * 2 + 2)) :: hro 4 (bl.map roP) :: ownS 31 4 s1 (l1.flatMap encI) :: L)) :
    Holds E w (IxB d W ((bl.map (·.2)).set n l1) :: L) := by
  have e := flat_set encB 2 encB_len hn (s1, l1)
  rw [show encB (s1, l1) = [.slice s1.a s1.len s1.cap, .int .i64 (maxEnd l1)] from rfl] at e
  rw [e] at h
  have h1 := ((h.sub (M := ownS 31 4 s1 (l1.flatMap encI) :: hro 4 (bl.map roP) :: pto d (.cells (xcells W s) 68 (0, 0)) :: ownS 74 2 s ((bl.set n (s1, l1)).flatMap encB) :: L) (by repeat (first | exact Sub.done | refine Sub.take (by first | exact .head | exact (.tail .head) | exact (.tail (.tail .head)) | exact (.tail (.tail (.tail .head))) | exact (.tail (.tail (.tail (.tail .head)))) | exact (.tail (.tail (.tail (.tail (.tail .head))))) | exact (.tail (.tail (.tail (.tail (.tail (.tail .head)))))) | exact (.tail (.tail (.tail (.tail (.tail (.tail (.tail .head))))))) | exact (.tail (.tail (.tail (.tail (.tail (.tail (.tail (.tail .head))))))))) ?_ | refine Sub.skip ?_))).hro_own).hro_weak
    (l' := (bl.set n (s1, l1)).map roP) (fun x hx p hp => by
      obtain ⟨q, hq, rfl⟩ := List.mem_map.1 hp
      rcases List.mem_or_eq_of_mem_set hq with hq | rfl
      · exact hx _ (List.mem_cons_of_mem _ (List.mem_map.2 ⟨q, hq, rfl⟩))
      · exact hx _ List.mem_cons_self)
  have h2 := IxB.closed (W := W) (h1.sub (M := pto d (.cells (xcells W s) 68 (0, 0)) :: ownS 74 2 s _ :: hro 4 _ :: L) (by repeat (first | exact Sub.done | refine Sub.take (by first | exact .head | exact (.tail .head) | exact (.tail (.tail .head)) | exact (.tail (.tail (.tail .head))) | exact (.tail (.tail (.tail (.tail .head)))) | exact (.tail (.tail (.tail (.tail (.tail .head))))) | exact (.tail (.tail (.tail (.tail (.tail (.tail .head)))))) | exact (.tail (.tail (.tail (.tail (.tail (.tail (.tail .head))))))) | exact (.tail (.tail (.tail (.tail (.tail (.tail (.tail (.tail .head))))))))) ?_ | refine Sub.skip ?_)))
  rw [List.map_set] at h2
  exact h2

set_option maxHeartbeats 1000000 in
theorem insert_spec {d : Nat} {W : Int} {bs : List (List Item)} {i : Item} {k : Int → Pr} (h : Holds E w (IxB d W bs :: L)) (hW : 0 < W) (hW1 : W ≤ 100) (hok : Okb bs)
    (hk : ∀ w', Holds E w' (IxB d W (insM W bs i).2 :: L) → k (insM W bs i).1 w') :
    CallP Try.prog 12 #[.pointer (some ⟨d, 0, none⟩), .agg #[.string i.1, .int .i64 i.2.1, .int .i64 i.2.2.1, .int .i64 i.2.2.2.1]] tInt k w := by
  replace h := IxB.opened h
  obtain ⟨s, bl, rfl, h⟩ := h
  refine rd12 _ _ _ _ ?_
  unfold sh12
  refine do_box h fun b3 w h => ?_
  refine there_spec h (.tail .head) rfl ?_
  refine CondP.no (by rw [decide_eq_true hW]; rfl) ?_
  refine get_ld h rfl (by first | exact .head | exact (.tail .head) | exact (.tail (.tail .head)) | exact (.tail (.tail (.tail .head))) | exact (.tail (.tail (.tail (.tail .head)))) | exact (.tail (.tail (.tail (.tail (.tail .head))))) | exact (.tail (.tail (.tail (.tail (.tail (.tail .head)))))) | exact (.tail (.tail (.tail (.tail (.tail (.tail (.tail .head))))))) | exact (.tail (.tail (.tail (.tail (.tail (.tail (.tail (.tail .head))))))))) (by kernel_rfl) (x := i.2.1) rfl ?_
  refine JoinP.via (fun b w => b = decide (i.2.1 < 0 ∨ i.2.2.1 ≤ i.2.1) ∧ Holds E w (pto b3 (.cells #[.string i.1, .int .i64 i.2.1, .int .i64 i.2.2.1, .int .i64 i.2.2.2.1] 31 (0, 0)) :: pto d (.cells (xcells W s) 68 (0, 0)) :: ownS 74 2 s (bl.flatMap encB) :: hro 4 (bl.map roP) :: L)) ?_ fun J hJ => CondP.mk' (fun hc => hJ _ _ ⟨(decide_eq_true (.inl (cT hc))).symm, h⟩) (fun hc => ?_)
  rotate_left
  · have hc := cF hc
    refine get_ld h rfl (by first | exact .head | exact (.tail .head) | exact (.tail (.tail .head)) | exact (.tail (.tail (.tail .head))) | exact (.tail (.tail (.tail (.tail .head)))) | exact (.tail (.tail (.tail (.tail (.tail .head))))) | exact (.tail (.tail (.tail (.tail (.tail (.tail .head)))))) | exact (.tail (.tail (.tail (.tail (.tail (.tail (.tail .head))))))) | exact (.tail (.tail (.tail (.tail (.tail (.tail (.tail (.tail .head))))))))) (by kernel_rfl) (x := i.2.2.1) rfl ?_
    refine get_ld h rfl (by first | exact .head | exact (.tail .head) | exact (.tail (.tail .head)) | exact (.tail (.tail (.tail .head))) | exact (.tail (.tail (.tail (.tail .head)))) | exact (.tail (.tail (.tail (.tail (.tail .head))))) | exact (.tail (.tail (.tail (.tail (.tail (.tail .head)))))) | exact (.tail (.tail (.tail (.tail (.tail (.tail (.tail .head))))))) | exact (.tail (.tail (.tail (.tail (.tail (.tail (.tail (.tail .head))))))))) (by kernel_rfl) (x := i.2.1) rfl ?_
    exact hJ _ _ ⟨decide_eq_decide.2 ⟨fun h => .inr h, fun h => h.resolve_left hc⟩, h⟩
  rintro _ w ⟨rfl, h⟩
  refine AnyP.go fun _ => JoinP.via (fun b w => b = decide (badI i) ∧ Holds E w (pto b3 (.cells #[.string i.1, .int .i64 i.2.1, .int .i64 i.2.2.1, .int .i64 i.2.2.2.1] 31 (0, 0)) :: pto d (.cells (xcells W s) 68 (0, 0)) :: ownS 74 2 s (bl.flatMap encB) :: hro 4 (bl.map roP) :: L)) ?_ fun J hJ => CondP.mk' (fun hc => hJ _ _ ⟨(decide_eq_true ?_).symm, h⟩) (fun hc => ?_)
  rotate_left
  · have hc : _ ∨ _ := cT hc
    exact hc.elim .inl fun h => .inr (.inl h)
  · have hc := cF hc
    refine get_ld h rfl (by first | exact .head | exact (.tail .head) | exact (.tail (.tail .head)) | exact (.tail (.tail (.tail .head))) | exact (.tail (.tail (.tail (.tail .head)))) | exact (.tail (.tail (.tail (.tail (.tail .head))))) | exact (.tail (.tail (.tail (.tail (.tail (.tail .head)))))) | exact (.tail (.tail (.tail (.tail (.tail (.tail (.tail .head))))))) | exact (.tail (.tail (.tail (.tail (.tail (.tail (.tail (.tail .head))))))))) (by kernel_rfl) (x := i.2.2.1) rfl ?_
    exact hJ _ _ ⟨decide_eq_decide.2 ⟨fun h => .inr (.inr h), fun h => (h.resolve_left fun h => hc (.inl h)).resolve_left fun h => hc (.inr h)⟩, h⟩
  rintro _ w ⟨rfl, h⟩
  refine AnyP.go fun _ => CondP.mk' (fun hc => ?_) (fun hc => ?_)
  · rw [insM, if_pos (cT hc)] at hk
    exact hk _ (IxB.closed (h.sub (by repeat (first | exact Sub.done | refine Sub.take (by first | exact .head | exact (.tail .head) | exact (.tail (.tail .head)) | exact (.tail (.tail (.tail .head))) | exact (.tail (.tail (.tail (.tail .head)))) | exact (.tail (.tail (.tail (.tail (.tail .head))))) | exact (.tail (.tail (.tail (.tail (.tail (.tail .head)))))) | exact (.tail (.tail (.tail (.tail (.tail (.tail (.tail .head))))))) | exact (.tail (.tail (.tail (.tail (.tail (.tail (.tail (.tail .head))))))))) ?_ | refine Sub.skip ?_))))
  rw [insM, if_neg (cF hc)] at hk
  clear hc
  have hsl := ((h.pick (.tail (.tail .head))).reads_own).len_eq encB_len (by omega)
  refine val_nil ?_
  refine get_ld h rfl (by first | exact .head | exact (.tail .head) | exact (.tail (.tail .head)) | exact (.tail (.tail (.tail .head))) | exact (.tail (.tail (.tail (.tail .head)))) | exact (.tail (.tail (.tail (.tail (.tail .head))))) | exact (.tail (.tail (.tail (.tail (.tail (.tail .head)))))) | exact (.tail (.tail (.tail (.tail (.tail (.tail (.tail .head))))))) | exact (.tail (.tail (.tail (.tail (.tail (.tail (.tail (.tail .head))))))))) (by kernel_rfl) (x := s) rfl ?_
  refine CondP.mk' (fun hc => ?_) (fun hc => ?_)
  · have hnil : bl = [] := List.eq_nil_of_length_eq_zero (by have := eqT hc; omega)
    subst hnil
    refine get_ld_agg (ls := itL) i h rfl (by first | exact .head | exact (.tail .head) | exact (.tail (.tail .head)) | exact (.tail (.tail (.tail .head))) | exact (.tail (.tail (.tail (.tail .head)))) | exact (.tail (.tail (.tail (.tail (.tail .head))))) | exact (.tail (.tail (.tail (.tail (.tail (.tail .head)))))) | exact (.tail (.tail (.tail (.tail (.tail (.tail (.tail .head))))))) | exact (.tail (.tail (.tail (.tail (.tail (.tail (.tail (.tail .head))))))))) (by kernel_rfl) (by kernel_rfl) ?_
    refine do_build (Te := 31) (sz := 4) (len := 1) ([i].flatMap encI) h (by kernel_rfl) rfl fun t w ht h => ?_
    refine of_spec (l := [i]) h (fun w h => h.reads_own) (by simp) fun w h => ?_
    refine do_build (Te := 74) (sz := 2) (len := 1) ([((t, [i]) : Sl × List Item)].flatMap encB) h (by kernel_rfl) rfl fun t2 w ht2 h => ?_
    refine val_nil ?_
    refine do_st h rfl (by first | exact .head | exact (.tail .head) | exact (.tail (.tail .head)) | exact (.tail (.tail (.tail .head))) | exact (.tail (.tail (.tail (.tail .head)))) | exact (.tail (.tail (.tail (.tail (.tail .head))))) | exact (.tail (.tail (.tail (.tail (.tail (.tail .head)))))) | exact (.tail (.tail (.tail (.tail (.tail (.tail (.tail .head))))))) | exact (.tail (.tail (.tail (.tail (.tail (.tail (.tail (.tail .head))))))))) (by kernel_rfl) rfl rfl fun w h => ?_
    have h1 := (h.sub (M := ownS 31 4 t ([i].flatMap encI) :: hro 4 _ :: pto d _ :: ownS 74 2 t2 _ :: L) (by repeat (first | exact Sub.done | refine Sub.take (by first | exact .head | exact (.tail .head) | exact (.tail (.tail .head)) | exact (.tail (.tail (.tail .head))) | exact (.tail (.tail (.tail (.tail .head)))) | exact (.tail (.tail (.tail (.tail (.tail .head))))) | exact (.tail (.tail (.tail (.tail (.tail (.tail .head)))))) | exact (.tail (.tail (.tail (.tail (.tail (.tail (.tail .head))))))) | exact (.tail (.tail (.tail (.tail (.tail (.tail (.tail (.tail .head))))))))) ?_ | refine Sub.skip ?_))).hro_own
    exact hk _ (IxB.closed (W := W) (s := t2) (bl := [(t, [i])]) (h1.sub (by repeat (first | exact Sub.done | refine Sub.take (by first | exact .head | exact (.tail .head) | exact (.tail (.tail .head)) | exact (.tail (.tail (.tail .head))) | exact (.tail (.tail (.tail (.tail .head)))) | exact (.tail (.tail (.tail (.tail (.tail .head))))) | exact (.tail (.tail (.tail (.tail (.tail (.tail .head)))))) | exact (.tail (.tail (.tail (.tail (.tail (.tail (.tail .head))))))) | exact (.tail (.tail (.tail (.tail (.tail (.tail (.tail (.tail .head))))))))) ?_ | refine Sub.skip ?_))))
  have hne : bl ≠ [] := by
    rintro rfl
    have := eqF hc
    exact this (by rw [hsl]; rfl)
  clear hc
  rw [if_neg (by simpa using hne)] at hk
  obtain ⟨hn, hq⟩ := findM_in (k := i.1) (s := i.2.1) (show bl.map (·.2) ≠ [] by simpa using hne)
  refine get_ld h rfl (by first | exact .head | exact (.tail .head) | exact (.tail (.tail .head)) | exact (.tail (.tail (.tail .head))) | exact (.tail (.tail (.tail (.tail .head)))) | exact (.tail (.tail (.tail (.tail (.tail .head))))) | exact (.tail (.tail (.tail (.tail (.tail (.tail .head)))))) | exact (.tail (.tail (.tail (.tail (.tail (.tail (.tail .head))))))) | exact (.tail (.tail (.tail (.tail (.tail (.tail (.tail (.tail .head))))))))) (by kernel_rfl) (x := i.1) rfl ?_
  refine get_ld h rfl (by first | exact .head | exact (.tail .head) | exact (.tail (.tail .head)) | exact (.tail (.tail (.tail .head))) | exact (.tail (.tail (.tail (.tail .head)))) | exact (.tail (.tail (.tail (.tail (.tail .head))))) | exact (.tail (.tail (.tail (.tail (.tail (.tail .head)))))) | exact (.tail (.tail (.tail (.tail (.tail (.tail (.tail .head))))))) | exact (.tail (.tail (.tail (.tail (.tail (.tail (.tail (.tail .head))))))))) (by kernel_rfl) (x := i.2.1) rfl ?_
  replace h := IxB.closed (h.sub (M := pto d (.cells (xcells W s) 68 (0, 0)) :: ownS 74 2 s (bl.flatMap encB) :: hro 4 (bl.map roP) :: pto b3 (.cells #[.string i.1, .int .i64 i.2.1, .int .i64 i.2.2.1, .int .i64 i.2.2.2.1] 31 (0, 0)) :: L) (by repeat (first | exact Sub.done | refine Sub.take (by first | exact .head | exact (.tail .head) | exact (.tail (.tail .head)) | exact (.tail (.tail (.tail .head))) | exact (.tail (.tail (.tail (.tail .head)))) | exact (.tail (.tail (.tail (.tail (.tail .head))))) | exact (.tail (.tail (.tail (.tail (.tail (.tail .head)))))) | exact (.tail (.tail (.tail (.tail (.tail (.tail (.tail .head))))))) | exact (.tail (.tail (.tail (.tail (.tail (.tail (.tail (.tail .head))))))))) ?_ | refine Sub.skip ?_)))
  clear hne hsl
  generalize hbs : bl.map (·.2) = bs at *
  refine find_spec (p := (i.1, i.2.1, ())) h hok.ne (by have := hok.len; omega) (fun b hb => by have := hok.one b hb; omega) fun w h => ?_
  dsimp only
  generalize (findM bs i.1 i.2.1).2.1 = q at *
  generalize (findM bs i.1 i.2.1).1 = n at *
  refine CondP.mk' (fun hc => ?_) (fun hc => ?_)
  · rw [if_pos hc] at hk
    exact hk _ (h.sub (by repeat (first | exact Sub.done | refine Sub.take (by first | exact .head | exact (.tail .head) | exact (.tail (.tail .head)) | exact (.tail (.tail (.tail .head))) | exact (.tail (.tail (.tail (.tail .head)))) | exact (.tail (.tail (.tail (.tail (.tail .head))))) | exact (.tail (.tail (.tail (.tail (.tail (.tail .head)))))) | exact (.tail (.tail (.tail (.tail (.tail (.tail (.tail .head))))))) | exact (.tail (.tail (.tail (.tail (.tail (.tail (.tail (.tail .head))))))))) ?_ | refine Sub.skip ?_)))
  rw [if_neg (by rw [hc]; simp)] at hk
  rw [blk_eq hn] at hk
  clear hc hbs
  have hlen := hok.len
  have hone := hok.one
  have hfl := hok.sz
  have hge : bs[n].length ≤ 536870912 := hone _ (List.getElem_mem hn)
  refine DrewP.go h fun w h => ?_
  replace h := IxB.opened h
  obtain ⟨s, bl, hbs, h⟩ := h
  have hn1 : n < bl.length := by rw [← hbs, List.length_map] at hn; exact hn
  have hel : bs[n] = bl[n].2 := by simp [← hbs]
  rw [hel] at hk hq hge
  have hB := fun w (h : Holds E w (pto d (.cells (xcells W s) 68 (0, 0)) :: ownS 74 2 s (bl.flatMap encB) :: hro 4 (bl.map roP) :: pto b3 (.cells #[.string i.1, .int .i64 i.2.1, .int .i64 i.2.2.1, .int .i64 i.2.2.2.1] 31 (0, 0)) :: L)) => (h.pick (.tail .head)).reads_own
  have hI := fun w (h : Holds E w (pto d (.cells (xcells W s) 68 (0, 0)) :: ownS 74 2 s (bl.flatMap encB) :: hro 4 (bl.map roP) :: pto b3 (.cells #[.string i.1, .int .i64 i.2.1, .int .i64 i.2.2.1, .int .i64 i.2.2.2.1] 31 (0, 0)) :: L)) => (hro_items (h.pick (.tail (.tail .head))) hn1).1
  have hcap := (hro_items (h.pick (.tail (.tail .head))) hn1).2
  refine val_nil ?_
  refine get_ld h rfl (by first | exact .head | exact (.tail .head) | exact (.tail (.tail .head)) | exact (.tail (.tail (.tail .head))) | exact (.tail (.tail (.tail (.tail .head)))) | exact (.tail (.tail (.tail (.tail (.tail .head))))) | exact (.tail (.tail (.tail (.tail (.tail (.tail .head)))))) | exact (.tail (.tail (.tail (.tail (.tail (.tail (.tail .head))))))) | exact (.tail (.tail (.tail (.tail (.tail (.tail (.tail (.tail .head))))))))) (by kernel_rfl) (x := s) rfl ?_
  refine val_nil ?_
  refine get_ld h rfl (by first | exact .head | exact (.tail .head) | exact (.tail (.tail .head)) | exact (.tail (.tail (.tail .head))) | exact (.tail (.tail (.tail (.tail .head)))) | exact (.tail (.tail (.tail (.tail (.tail .head))))) | exact (.tail (.tail (.tail (.tail (.tail (.tail .head)))))) | exact (.tail (.tail (.tail (.tail (.tail (.tail (.tail .head))))))) | exact (.tail (.tail (.tail (.tail (.tail (.tail (.tail (.tail .head))))))))) (by kernel_rfl) (x := s) rfl ?_
  refine val_idx (hB w h) encB_len (by omega) hn1 (T := 66) (Te := 74) (by kernel_rfl) (by kernel_rfl) fun a0 ha0 hs0 => ?_
  refine get_fld bl[n].1 (hB w h) encB_len ha0 hs0 hn1 (by omega) (by kernel_rfl) rfl ?_
  refine get_ld_agg (ls := itL) i h rfl (by first | exact .head | exact (.tail .head) | exact (.tail (.tail .head)) | exact (.tail (.tail (.tail .head))) | exact (.tail (.tail (.tail (.tail .head)))) | exact (.tail (.tail (.tail (.tail (.tail .head))))) | exact (.tail (.tail (.tail (.tail (.tail (.tail .head)))))) | exact (.tail (.tail (.tail (.tail (.tail (.tail (.tail .head))))))) | exact (.tail (.tail (.tail (.tail (.tail (.tail (.tail (.tail .head))))))))) (by kernel_rfl) (by kernel_rfl) ?_
  refine do_build (Te := 31) (sz := 4) (len := 1) ([i].flatMap encI) h (by kernel_rfl) rfl fun t w ht h => ?_
  refine chk_ld h rfl (by first | exact .head | exact (.tail .head) | exact (.tail (.tail .head)) | exact (.tail (.tail (.tail .head))) | exact (.tail (.tail (.tail (.tail .head)))) | exact (.tail (.tail (.tail (.tail (.tail .head))))) | exact (.tail (.tail (.tail (.tail (.tail (.tail .head)))))) | exact (.tail (.tail (.tail (.tail (.tail (.tail (.tail .head))))))) | exact (.tail (.tail (.tail (.tail (.tail (.tail (.tail (.tail .head))))))))) (by kernel_rfl) rfl ?_
  refine chk_ld h rfl (by first | exact .head | exact (.tail .head) | exact (.tail (.tail .head)) | exact (.tail (.tail (.tail .head))) | exact (.tail (.tail (.tail (.tail .head)))) | exact (.tail (.tail (.tail (.tail (.tail .head))))) | exact (.tail (.tail (.tail (.tail (.tail (.tail .head)))))) | exact (.tail (.tail (.tail (.tail (.tail (.tail (.tail .head))))))) | exact (.tail (.tail (.tail (.tail (.tail (.tail (.tail (.tail .head))))))))) (by kernel_rfl) rfl ?_
  refine chk_fld (hB w h.drop) encB_len ha0 hs0 hn1 (by omega) (by kernel_rfl) rfl ?_
  refine putI_spec (xs := bl[n].2) (ys := [i]) (n := q) h (fun w h => hI w h.drop) (fun w h => h.reads_own) hcap hq (by simp; omega) fun s1 w hs1 h => ?_
  refine chk_ld h rfl (by first | exact .head | exact (.tail .head) | exact (.tail (.tail .head)) | exact (.tail (.tail (.tail .head))) | exact (.tail (.tail (.tail (.tail .head)))) | exact (.tail (.tail (.tail (.tail (.tail .head))))) | exact (.tail (.tail (.tail (.tail (.tail (.tail .head)))))) | exact (.tail (.tail (.tail (.tail (.tail (.tail (.tail .head))))))) | exact (.tail (.tail (.tail (.tail (.tail (.tail (.tail (.tail .head))))))))) (by kernel_rfl) rfl ?_
  refine chk_ld h rfl (by first | exact .head | exact (.tail .head) | exact (.tail (.tail .head)) | exact (.tail (.tail (.tail .head))) | exact (.tail (.tail (.tail (.tail .head)))) | exact (.tail (.tail (.tail (.tail (.tail .head))))) | exact (.tail (.tail (.tail (.tail (.tail (.tail .head)))))) | exact (.tail (.tail (.tail (.tail (.tail (.tail (.tail .head))))))) | exact (.tail (.tail (.tail (.tail (.tail (.tail (.tail (.tail .head))))))))) (by kernel_rfl) rfl ?_
  refine of_spec h (fun w h => h.reads_own) (by simp; omega) fun w h => ?_
  refine chk_ld h rfl (by first | exact .head | exact (.tail .head) | exact (.tail (.tail .head)) | exact (.tail (.tail (.tail .head))) | exact (.tail (.tail (.tail (.tail .head)))) | exact (.tail (.tail (.tail (.tail (.tail .head))))) | exact (.tail (.tail (.tail (.tail (.tail (.tail .head)))))) | exact (.tail (.tail (.tail (.tail (.tail (.tail (.tail .head))))))) | exact (.tail (.tail (.tail (.tail (.tail (.tail (.tail (.tail .head))))))))) (by kernel_rfl) rfl ?_
  refine chk_ld h rfl (by first | exact .head | exact (.tail .head) | exact (.tail (.tail .head)) | exact (.tail (.tail (.tail .head))) | exact (.tail (.tail (.tail (.tail .head)))) | exact (.tail (.tail (.tail (.tail (.tail .head))))) | exact (.tail (.tail (.tail (.tail (.tail (.tail .head)))))) | exact (.tail (.tail (.tail (.tail (.tail (.tail (.tail .head))))))) | exact (.tail (.tail (.tail (.tail (.tail (.tail (.tail (.tail .head))))))))) (by kernel_rfl) rfl ?_
  refine val_idx (hB w h.drop.drop) encB_len (by omega) hn1 (T := 66) (Te := 74) (by kernel_rfl) (by kernel_rfl) fun a1 ha1 hs1 => ?_
  have hfl2 := flat_len encB 2 encB_len bl
  refine do_set_agg (i := n * 2) (vs := [.slice s1.a s1.len s1.cap, .int .i64 (maxEnd _)]) (sz := 2) (T := 74) h (.tail (.tail (.tail .head))) ha1 rfl (by rw [hfl2]; simp; omega) (by rw [hfl2]; omega) (by kernel_rfl) (by intro v hv; simp at hv; rcases hv with rfl | rfl <;> rfl) fun w h => ?_
  replace h := IxB.closed_set (W := W) (L := L) hn1 (h.sub (by repeat (first | exact Sub.done | refine Sub.take (by first | exact .head | exact (.tail .head) | exact (.tail (.tail .head)) | exact (.tail (.tail (.tail .head))) | exact (.tail (.tail (.tail (.tail .head)))) | exact (.tail (.tail (.tail (.tail (.tail .head))))) | exact (.tail (.tail (.tail (.tail (.tail (.tail .head)))))) | exact (.tail (.tail (.tail (.tail (.tail (.tail (.tail .head))))))) | exact (.tail (.tail (.tail (.tail (.tail (.tail (.tail (.tail .head))))))))) ?_ | refine Sub.skip ?_)))
  rw [hbs] at h
  refine split_spec h hW hW1 (by rw [List.length_set]; exact hn) (by rw [List.length_set]; exact hlen) (fun b hb => ?_) fun w h => hk _ h
  rcases List.mem_or_eq_of_mem_set hb with hb | rfl
  · have := hone b hb; omega
  · simp; omega
end
end Go.Proofs.Ytoaalegieaocbaa
