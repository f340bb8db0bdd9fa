/- The index: Get, split and merge. -/
import Derived.Test.YtoaalegieaocbaaIx3
namespace Go.Proofs.Ytoaalegieaocbaa
open Go.Sh
attribute [local irreducible] pto rob old ownS roS hstar hex hpure hemp mapB hro IxB

structure Okb (bs : List (List Item)) : Prop where
  ne : ∀ b ∈ bs, b ≠ []
  sz : bs.flatten.length ≤ 536870912

theorem flat_ge : ∀ {bs : List (List Item)} {b : List Item}, b ∈ bs → b.length ≤ bs.flatten.length
  | [], _, h => by simp at h
  | x :: bs, b, h => by
    rw [List.flatten_cons, List.length_append]
    rcases List.mem_cons.1 h with rfl | h
    · omega
    · have := flat_ge h; omega
theorem flat_many : ∀ {bs : List (List Item)}, (∀ b ∈ bs, b ≠ []) → bs.length ≤ bs.flatten.length
  | [], _ => by simp
  | x :: bs, h => by
    rw [List.flatten_cons, List.length_append, List.length_cons]
    have h1 : 0 < x.length := List.length_pos_iff.2 (h x List.mem_cons_self)
    have := flat_many fun b hb => h b (List.mem_cons_of_mem _ hb)
    omega
theorem Okb.len {bs : List (List Item)} (h : Okb bs) : bs.length ≤ 536870912 := Nat.le_trans (flat_many h.ne) h.sz
theorem Okb.one {bs : List (List Item)} (h : Okb bs) : ∀ b ∈ bs, b.length ≤ 536870912 := fun _ hb => Nat.le_trans (flat_ge hb) h.sz

def zeroI : Item := (⟨#[]⟩, 0, 0, 0, ())
def getM (bs : List (List Item)) (k : ByteArray) (s : Int) : Item × Int :=
  if (findM bs k s).2.2 then (((bs[(findM bs k s).1]?.bind fun l => l[(findM bs k s).2.1]?)).getD zeroI, 0) else (zeroI, 4)

theorem isAt_true {l : List Item} {n : Nat} {k : ByteArray} {s : Int} (h : isAt l n k s = true) : ∃ hn : n < l.length, l[n].1.toList = k.toList ∧ l[n].2.1 = s := by
  unfold isAt at h
  rcases Nat.lt_or_ge n l.length with hn | hn
  · rw [List.getElem?_eq_getElem hn] at h
    simp only [Bool.and_eq_true, beq_iff_eq] at h
    exact ⟨hn, h⟩
  · rw [List.getElem?_eq_none hn] at h; cases h
theorem findM_true {bs : List (List Item)} {k : ByteArray} {s : Int} (h : (findM bs k s).2.2 = true) :
    ∃ (hn : (findM bs k s).1 < bs.length) (hq : (findM bs k s).2.1 < bs[(findM bs k s).1].length), bs[(findM bs k s).1][(findM bs k s).2.1].1.toList = k.toList ∧ bs[(findM bs k s).1][(findM bs k s).2.1].2.1 = s := by
  unfold findM at h ⊢
  generalize findB bs k s = n at *
  cases hl : bs[n]? with
  | none => rw [hl] at h; cases h
  | some l =>
    rw [hl] at h
    obtain ⟨hn, rfl⟩ := List.getElem?_eq_some_iff.1 hl
    obtain ⟨hq, h1, h2⟩ := isAt_true h
    exact ⟨hn, hq, h1, h2⟩

def splitM (W : Int) (n : Nat) (bs : List (List Item)) : List (List Item) := match bs[n]? with
  | some l => if (l.length : Int) ≤ 2 * W then bs else bs.take n ++ [l.take (l.length / 2), l.drop (l.length / 2)] ++ bs.drop (n + 1)
  | none => bs
def mergeM (W n : Int) (bs : List (List Item)) : List (List Item) :=
  if n < 0 ∨ (bs.length : Int) ≤ n + 1 then bs else
  if W < (((bs[n.toNat]?.getD []).length + (bs[n.toNat + 1]?.getD []).length : Nat) : Int) then bs else
  bs.take n.toNat ++ [(bs[n.toNat]?.getD []) ++ (bs[n.toNat + 1]?.getD [])] ++ bs.drop (n.toNat + 2)

section
variable {E w : World} {L L' : List HProp}

theorem get_spec {d : Nat} {W : Int} {bs : List (List Item)} {key : ByteArray} {st : Int} {k : Item × Int × Unit → Pr} (h : Holds E w (IxB d W bs :: L)) (hW : 0 < W) (hok : Okb bs)
    (hk : ∀ w', Holds E w' (IxB d W bs :: L) → k ((getM bs key st).1, (getM bs key st).2, ()) w') :
    CallP Try.prog 24 #[.pointer (some ⟨d, 0, none⟩), .string key, .int .i64 st] (.tup [.agg itL, .leaf (.int .i64)]) k w := by
  replace h := IxB.opened h
  obtain ⟨s, bl, rfl, h⟩ := h
  refine rd24 _ _ _ _ _ ?_
  unfold sh24
  refine do_alloc (z := .agg #[.string ⟨#[]⟩, .int .i64 0, .int .i64 0, .int .i64 0]) h (by kernel_rfl) fun b6 w h => ?_
  refine there_spec h (.tail .head) rfl ?_
  refine CondP.no (by rw [decide_eq_true hW]; rfl) ?_
  replace h := IxB.closed (h.sub (M := pto d (.cells (xcells W s) 68 (0, 0)) :: ownS 74 2 s (bl.flatMap encB) :: hro 4 (bl.map roP) :: pto b6 _ :: L) (by repeat (first | exact Sub.done | refine Sub.take (by first | exact .head | exact (.tail .head) | exact (.tail (.tail .head)) | exact (.tail (.tail (.tail .head))) | exact (.tail (.tail (.tail (.tail .head)))) | exact (.tail (.tail (.tail (.tail (.tail .head))))) | exact (.tail (.tail (.tail (.tail (.tail (.tail .head)))))) | exact (.tail (.tail (.tail (.tail (.tail (.tail (.tail .head))))))) | exact (.tail (.tail (.tail (.tail (.tail (.tail (.tail (.tail .head))))))))) ?_ | refine Sub.skip ?_)))
  refine find_spec (p := (key, st, ())) h hok.ne (by have := hok.len; omega) (fun b hb => by have := hok.one b hb; omega) fun w h => ?_
  dsimp only
  unfold getM at hk
  cases hf : (findM (bl.map (·.2)) key st).2.2 with
  | false =>
    rw [hf] at hk
    refine CondP.yes rfl ?_
    refine do_st_all (n := 4) h rfl (by first | exact .head | exact (.tail .head) | exact (.tail (.tail .head)) | exact (.tail (.tail (.tail .head))) | exact (.tail (.tail (.tail (.tail .head)))) | exact (.tail (.tail (.tail (.tail (.tail .head))))) | exact (.tail (.tail (.tail (.tail (.tail (.tail .head)))))) | exact (.tail (.tail (.tail (.tail (.tail (.tail (.tail .head))))))) | exact (.tail (.tail (.tail (.tail (.tail (.tail (.tail (.tail .head))))))))) (by kernel_rfl) rfl rfl (by intro v hv; simp at hv; rcases hv with rfl | rfl | rfl <;> rfl) fun w h => ?_
    exact get_res2 (ls := itL) zeroI h (by first | exact .head | exact (.tail .head) | exact (.tail (.tail .head)) | exact (.tail (.tail (.tail .head))) | exact (.tail (.tail (.tail (.tail .head)))) | exact (.tail (.tail (.tail (.tail (.tail .head))))) | exact (.tail (.tail (.tail (.tail (.tail (.tail .head)))))) | exact (.tail (.tail (.tail (.tail (.tail (.tail (.tail .head))))))) | exact (.tail (.tail (.tail (.tail (.tail (.tail (.tail (.tail .head))))))))) (by kernel_rfl) (by kernel_rfl) (hk _ (h.sub (by repeat (first | exact Sub.done | refine Sub.take (by first | exact .head | exact (.tail .head) | exact (.tail (.tail .head)) | exact (.tail (.tail (.tail .head))) | exact (.tail (.tail (.tail (.tail .head)))) | exact (.tail (.tail (.tail (.tail (.tail .head))))) | exact (.tail (.tail (.tail (.tail (.tail (.tail .head)))))) | exact (.tail (.tail (.tail (.tail (.tail (.tail (.tail .head))))))) | exact (.tail (.tail (.tail (.tail (.tail (.tail (.tail (.tail .head))))))))) ?_ | refine Sub.skip ?_))))
  | true =>
    rw [hf] at hk
    obtain ⟨hn, hq, _⟩ := findM_true hf
    clear hf
    generalize (findM (bl.map (·.2)) key st).2.1 = q at *
    generalize (findM (bl.map (·.2)) key st).1 = n at *
    refine CondP.no rfl ?_
    replace h := IxB.opened h
    obtain ⟨s, bl1, hbl, h⟩ := h
    rw [← hbl] at hk
    have hn1 : n < bl1.length := by
      have := congrArg List.length hbl
      simp only [List.length_map] at this hn; omega
    have hel : ((bl.map (·.2))[n]'hn) = bl1[n].2 := by simp [← hbl]
    have hq1 : q < bl1[n].2.length := by rw [← hel]; exact hq
    have hg : ((bl1.map (·.2))[n]?.bind fun l => l[q]?).getD zeroI = bl1[n].2[q] := by simp [hn1, hq1]
    simp only [hg, if_true] at hk
    refine val_nil ?_
    refine get_ld h rfl (by first | exact .head | exact (.tail .head) | exact (.tail (.tail .head)) | exact (.tail (.tail (.tail .head))) | exact (.tail (.tail (.tail (.tail .head)))) | exact (.tail (.tail (.tail (.tail (.tail .head))))) | exact (.tail (.tail (.tail (.tail (.tail (.tail .head)))))) | exact (.tail (.tail (.tail (.tail (.tail (.tail (.tail .head))))))) | exact (.tail (.tail (.tail (.tail (.tail (.tail (.tail (.tail .head))))))))) (by kernel_rfl) (x := s) rfl ?_
    have hB := (h.pick (.tail .head)).reads_own
    refine val_idx hB encB_len (by omega) hn1 (T := 66) (Te := 74) (by kernel_rfl) (by kernel_rfl) fun a0 ha0 hs0 => ?_
    refine get_fld bl1[n].1 hB encB_len ha0 hs0 hn1 (by omega) (by kernel_rfl) rfl ?_
    have hI := (hro_items (h.pick (.tail (.tail .head))) hn1).1
    refine val_idx hI encI_len (by omega) hq1 (T := 72) (Te := 31) (by kernel_rfl) (by kernel_rfl) fun a1 ha1 hs1 => ?_
    refine get_elt bl1[n].2[q] hI encI_len ha1 hq1 (by kernel_rfl) (by kernel_rfl) rfl ?_
    refine do_st_all (n := 4) h rfl (by first | exact .head | exact (.tail .head) | exact (.tail (.tail .head)) | exact (.tail (.tail (.tail .head))) | exact (.tail (.tail (.tail (.tail .head)))) | exact (.tail (.tail (.tail (.tail (.tail .head))))) | exact (.tail (.tail (.tail (.tail (.tail (.tail .head)))))) | exact (.tail (.tail (.tail (.tail (.tail (.tail (.tail .head))))))) | exact (.tail (.tail (.tail (.tail (.tail (.tail (.tail (.tail .head))))))))) (by kernel_rfl) rfl rfl (by intro v hv; simp at hv; rcases hv with rfl | rfl | rfl | rfl <;> rfl) fun w h => ?_
    exact get_res2 (ls := itL) bl1[n].2[q] h (by first | exact .head | exact (.tail .head) | exact (.tail (.tail .head)) | exact (.tail (.tail (.tail .head))) | exact (.tail (.tail (.tail (.tail .head)))) | exact (.tail (.tail (.tail (.tail (.tail .head))))) | exact (.tail (.tail (.tail (.tail (.tail (.tail .head)))))) | exact (.tail (.tail (.tail (.tail (.tail (.tail (.tail .head))))))) | exact (.tail (.tail (.tail (.tail (.tail (.tail (.tail (.tail .head))))))))) (by kernel_rfl) (by kernel_rfl) (hk _ (IxB.closed (h.sub (by repeat (first | exact Sub.done | refine Sub.take (by first | exact .head | exact (.tail .head) | exact (.tail (.tail .head)) | exact (.tail (.tail (.tail .head))) | exact (.tail (.tail (.tail (.tail .head)))) | exact (.tail (.tail (.tail (.tail (.tail .head))))) | exact (.tail (.tail (.tail (.tail (.tail (.tail .head)))))) | exact (.tail (.tail (.tail (.tail (.tail (.tail (.tail .head))))))) | exact (.tail (.tail (.tail (.tail (.tail (.tail (.tail (.tail .head))))))))) ?_ | refine Sub.skip ?_)))))

/-- a part of the items of a block -/
theorem roP_part {x : Hp} {s : Sl} {l : List Item} (h : RdH x 4 (roP (s, l)).1 (roP (s, l)).2) {a u m : Nat} (h1 : a ≤ u) (h2 : u ≤ l.length) (h3 : u ≤ m) :
    RdH x 4 (roP (subS s a u m 4, (l.drop a).take (u - a))).1 (roP (subS s a u m 4, (l.drop a).take (u - a))).2 := by
  have hl : s.len = l.length := by
    have := h.1
    simp only [roP, flat_len encI 4 encI_len] at this
    omega
  have := h.sub (l := a) (u := u) (m := m) h1 (by simp only [roP]; omega) h3
  simp only [roP, flat_drop encI 4 encI_len, flat_take encI 4 encI_len] at this
  exact this

theorem split_spec {d n : Nat} {W : Int} {bs : List (List Item)} {k : Unit → Pr} (h : Holds E w (IxB d W bs :: L)) (hW : 0 < W) (hW1 : W ≤ 100) (hn : n < bs.length) (hb : bs.length ≤ 536870912) (hbl : ∀ b ∈ bs, b.length ≤ 1000000000)
    (hk : ∀ w', Holds E w' (IxB d W (splitM W n bs) :: L) → k () w') : CallP Try.prog 37 #[.pointer (some ⟨d, 0, none⟩), .int .i64 n] (.tup []) k w := by
  replace h := IxB.opened h
  obtain ⟨s, bl, rfl, h⟩ := h
  rw [List.length_map] at hb hn
  have hln := hbl bl[n].2 (List.mem_map.2 ⟨_, List.getElem_mem hn, rfl⟩)
  refine rd37 _ _ _ _ ?_
  unfold sh37
  have hB : Oracle E (pto d (.cells (xcells W s) 68 (0, 0)) :: ownS 74 2 s (bl.flatMap encB) :: hro 4 (bl.map roP) :: L) s 2 (bl.flatMap encB) := fun w h => (h.pick (.tail .head)).reads_own
  have hI : Oracle E (pto d (.cells (xcells W s) 68 (0, 0)) :: ownS 74 2 s (bl.flatMap encB) :: hro 4 (bl.map roP) :: L) bl[n].1 4 (bl[n].2.flatMap encI) := fun w h => (hro_items (h.pick (.tail (.tail .head))) hn).1
  have hcap := (hro_items (h.pick (.tail (.tail .head))) hn).2
  have hil := (hI w h).len_eq encI_len (by omega)
  have hscap := (h.pick (.tail .head)).own_len.2
  refine val_nil ?_
  refine get_ld h rfl (by first | exact .head | exact (.tail .head) | exact (.tail (.tail .head)) | exact (.tail (.tail (.tail .head))) | exact (.tail (.tail (.tail (.tail .head)))) | exact (.tail (.tail (.tail (.tail (.tail .head))))) | exact (.tail (.tail (.tail (.tail (.tail (.tail .head)))))) | exact (.tail (.tail (.tail (.tail (.tail (.tail (.tail .head))))))) | exact (.tail (.tail (.tail (.tail (.tail (.tail (.tail (.tail .head))))))))) (by kernel_rfl) (x := s) rfl ?_
  refine val_idx (hB w h) encB_len (by omega) hn (T := 66) (Te := 74) (by kernel_rfl) (by kernel_rfl) fun a0 ha0 hs0 => ?_
  refine get_fld bl[n].1 (hB w h) encB_len ha0 hs0 hn (by omega) (by kernel_rfl) rfl ?_
  refine val_nil ?_
  refine get_ld h rfl (by first | exact .head | exact (.tail .head) | exact (.tail (.tail .head)) | exact (.tail (.tail (.tail .head))) | exact (.tail (.tail (.tail (.tail .head)))) | exact (.tail (.tail (.tail (.tail (.tail .head))))) | exact (.tail (.tail (.tail (.tail (.tail (.tail .head)))))) | exact (.tail (.tail (.tail (.tail (.tail (.tail (.tail .head))))))) | exact (.tail (.tail (.tail (.tail (.tail (.tail (.tail (.tail .head))))))))) (by kernel_rfl) (x := W) rfl ?_
  rw [wrap_in (2 * W) (by omega)]
  have hsp : splitM W n (bl.map (·.2)) = if (bl[n].1.len : Int) ≤ 2 * W then bl.map (·.2) else (bl.map (·.2)).take n ++ [bl[n].2.take (bl[n].2.length / 2), bl[n].2.drop (bl[n].2.length / 2)] ++ (bl.map (·.2)).drop (n + 1) := by
    unfold splitM
    rw [List.getElem?_eq_getElem (by simpa using hn), hil]
    simp
  rw [hsp] at hk
  refine CondP.mk' (fun hc => ?_) (fun hc => ?_)
  · rw [if_pos (cT hc)] at hk
    exact hk _ (IxB.closed h)
  rw [if_neg (cF hc)] at hk
  refine DrewP.go h fun w h => ?_
  refine val_nil ?_
  refine get_ld h rfl (by first | exact .head | exact (.tail .head) | exact (.tail (.tail .head)) | exact (.tail (.tail (.tail .head))) | exact (.tail (.tail (.tail (.tail .head)))) | exact (.tail (.tail (.tail (.tail (.tail .head))))) | exact (.tail (.tail (.tail (.tail (.tail (.tail .head)))))) | exact (.tail (.tail (.tail (.tail (.tail (.tail (.tail .head))))))) | exact (.tail (.tail (.tail (.tail (.tail (.tail (.tail (.tail .head))))))))) (by kernel_rfl) (x := s) rfl ?_
  have hhalf : IntKind.i64.wrap (Int.tdiv (bl[n].1.len : Int) 2) = ((bl[n].2.length / 2 : Nat) : Int) := by
    rw [hil, show Int.tdiv (bl[n].2.length : Int) 2 = ((bl[n].2.length / 2 : Nat) : Int) from rfl, wrap_in _ (by omega)]
  rw [hhalf]
  generalize hH : bl[n].2.length / 2 = H at *
  have hH1 : H ≤ bl[n].2.length := by omega
  refine val_slice_three (Te := 31) (sz := 4) (by kernel_rfl) (by kernel_rfl) (by omega) (by omega) (by omega) ?_
  refine val_slice_from (Te := 31) (sz := 4) (by kernel_rfl) (by kernel_rfl) (by omega) (by omega) ?_
  rw [show ((H : Int).toNat) = H from rfl]
  refine cutB_spec (xs := bl) (m := 1) h hB hscap (by omega) (by omega) fun s1 w hs1 h => ?_
  refine of_spec (l := bl[n].2.take H) h (fun w h => ?_) (by rw [List.length_take]; omega) fun w h => ?_
  · have := (hI w h.drop).part encI_len (l := 0) (h := H) (m := H) (by omega) hH1 hil (by omega)
    rwa [List.drop_zero, Nat.sub_zero] at this
  refine of_spec (l := bl[n].2.drop H) h (fun w h => ?_) (by rw [List.length_drop]; omega) fun w h => ?_
  · exact (hI w h.drop).from_ encI_len (l := H) (m := bl[n].1.cap) hH1 hil hcap
  refine do_build (Te := 74) (sz := 2) (len := 2) ([((subS bl[n].1 0 H H 4, bl[n].2.take H) : Sl × List Item), (subS bl[n].1 H bl[n].1.len bl[n].1.cap 4, bl[n].2.drop H)].flatMap encB) h (by kernel_rfl) rfl fun t w ht h => ?_
  refine putB_spec (xs := bl.take n ++ bl.drop (n + 1)) (n := n) h (fun w h => (h.pick (.tail .head)).reads_own) (fun w h => h.reads_own) ((h.pick (.tail .head)).own_len.2) (by simp; omega) (by simp; omega) fun s2 w hs2 h => ?_
  refine val_nil ?_
  refine do_st h rfl (by first | exact .head | exact (.tail .head) | exact (.tail (.tail .head)) | exact (.tail (.tail (.tail .head))) | exact (.tail (.tail (.tail (.tail .head)))) | exact (.tail (.tail (.tail (.tail (.tail .head))))) | exact (.tail (.tail (.tail (.tail (.tail (.tail .head)))))) | exact (.tail (.tail (.tail (.tail (.tail (.tail (.tail .head))))))) | exact (.tail (.tail (.tail (.tail (.tail (.tail (.tail (.tail .head))))))))) (by kernel_rfl) rfl rfl fun w h => ?_
  have e1 : (bl.take n ++ bl.drop (n + 1)).take n = bl.take n := by
    rw [List.take_append_of_le_length (by simp; omega), List.take_take, Nat.min_self]
  have e2 : (bl.take n ++ bl.drop (n + 1)).drop n = bl.drop (n + 1) := by
    rw [List.drop_append_of_le_length (by simp; omega), List.drop_eq_nil_of_le (by simp; omega), List.nil_append]
  rw [e1, e2] at h
  have h1 := (h.sub (M := hro 4 (bl.map roP) :: pto d _ :: ownS 74 2 s2 _ :: L) (by repeat (first | exact Sub.done | refine Sub.take (by first | exact .head | exact (.tail .head) | exact (.tail (.tail .head)) | exact (.tail (.tail (.tail .head))) | exact (.tail (.tail (.tail (.tail .head)))) | exact (.tail (.tail (.tail (.tail (.tail .head))))) | exact (.tail (.tail (.tail (.tail (.tail (.tail .head)))))) | exact (.tail (.tail (.tail (.tail (.tail (.tail (.tail .head))))))) | exact (.tail (.tail (.tail (.tail (.tail (.tail (.tail (.tail .head))))))))) ?_ | refine Sub.skip ?_))).hro_weak
    (l' := (bl.take n ++ [((subS bl[n].1 0 H H 4, bl[n].2.take H) : Sl × List Item), (subS bl[n].1 H bl[n].1.len bl[n].1.cap 4, bl[n].2.drop H)] ++ bl.drop (n + 1)).map roP) (fun x hx p hp => by
      obtain ⟨q, hq, rfl⟩ := List.mem_map.1 hp
      have hbn : RdH x 4 (roP (bl[n].1, bl[n].2)).1 (roP (bl[n].1, bl[n].2)).2 := hx _ (List.mem_map.2 ⟨bl[n], List.getElem_mem hn, rfl⟩)
      rcases List.mem_append.1 hq with hq | hq
      · rcases List.mem_append.1 hq with hq | hq
        · exact hx _ (List.mem_map.2 ⟨q, List.mem_of_mem_take hq, rfl⟩)
        · simp only [List.mem_cons, List.not_mem_nil, or_false] at hq
          rcases hq with rfl | rfl
          · have := roP_part (s := bl[n].1) (l := bl[n].2) hbn (a := 0) (u := H) (m := H) (by omega) hH1 (by omega)
            rwa [List.drop_zero, Nat.sub_zero] at this
          · have := roP_part (s := bl[n].1) (l := bl[n].2) hbn (a := H) (u := bl[n].1.len) (m := bl[n].1.cap) (by omega) (by omega) hcap
            rwa [List.take_of_length_le (by rw [List.length_drop]; omega)] at this
      · exact hx _ (List.mem_map.2 ⟨q, List.mem_of_mem_drop hq, rfl⟩))
  have h2 := IxB.closed (W := W) (h1.sub (M := pto d (.cells (xcells W s2) 68 (0, 0)) :: ownS 74 2 s2 _ :: hro 4 _ :: L) (by repeat (first | exact Sub.done | refine Sub.take (by first | exact .head | exact (.tail .head) | exact (.tail (.tail .head)) | exact (.tail (.tail (.tail .head))) | exact (.tail (.tail (.tail (.tail .head)))) | exact (.tail (.tail (.tail (.tail (.tail .head))))) | exact (.tail (.tail (.tail (.tail (.tail (.tail .head)))))) | exact (.tail (.tail (.tail (.tail (.tail (.tail (.tail .head))))))) | exact (.tail (.tail (.tail (.tail (.tail (.tail (.tail (.tail .head))))))))) ?_ | refine Sub.skip ?_)))
  refine hk _ ?_
  simp only [List.map_append, List.map_take, List.map_drop, List.map_cons, List.map_nil] at h2
  exact h2
end
end Go.Proofs.Ytoaalegieaocbaa
