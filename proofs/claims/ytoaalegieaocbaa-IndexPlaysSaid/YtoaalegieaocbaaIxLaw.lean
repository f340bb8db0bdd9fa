/- The index, plain: the order of items, and what find comes to on the items in a row. -/
import Derived.Test.YtoaalegieaocbaaIx11
namespace Go.Proofs.Ytoaalegieaocbaa
open Go.Sh

/-! ### the order -/
theorem bl_irrefl : ∀ x : List UInt8, Op.bytesLess x x = false
  | [] => rfl
  | a :: x => by simp [Op.bytesLess, bl_irrefl x]
theorem bl_trans : ∀ {x y z : List UInt8}, Op.bytesLess x y = true → Op.bytesLess y z = true → Op.bytesLess x z = true
  | _, [], _, h, _ => by simp [Op.bytesLess] at h
  | _, _ :: _, [], _, h => by simp [Op.bytesLess] at h
  | [], _ :: _, _ :: _, _, _ => rfl
  | a :: x, b :: y, c :: z, h1, h2 => by
    simp only [Op.bytesLess, Bool.or_eq_true, Bool.and_eq_true, decide_eq_true_eq, beq_iff_eq] at h1 h2 ⊢
    rcases h1 with h1 | ⟨rfl, h1⟩
    · rcases h2 with h2 | ⟨rfl, h2⟩
      · exact .inl (UInt8.lt_trans h1 h2)
      · exact .inl h1
    · rcases h2 with h2 | ⟨rfl, h2⟩
      · exact .inl h2
      · exact .inr ⟨rfl, bl_trans h1 h2⟩
theorem bl_tri : ∀ x y : List UInt8, Op.bytesLess x y = true ∨ x = y ∨ Op.bytesLess y x = true
  | [], [] => .inr (.inl rfl)
  | [], _ :: _ => .inl rfl
  | _ :: _, [] => .inr (.inr rfl)
  | a :: x, b :: y => by
    simp only [Op.bytesLess, Bool.or_eq_true, Bool.and_eq_true, decide_eq_true_eq, beq_iff_eq]
    rcases Nat.lt_trichotomy a.toNat b.toNat with h | h | h
    · exact .inl (.inl (UInt8.lt_iff_toNat_lt.2 h))
    · obtain rfl := UInt8.toNat_inj.1 h
      rcases bl_tri x y with h | h | h
      · exact .inl (.inr ⟨rfl, h⟩)
      · subst h; exact .inr (.inl rfl)
      · exact .inr (.inr (.inr ⟨rfl, h⟩))
    · exact .inr (.inr (.inl (UInt8.lt_iff_toNat_lt.2 h)))

theorem lt_iff {i : Item} {k : ByteArray} {s : Int} : lt i k s = true ↔ Op.bytesLess i.1.toList k.toList = true ∨ (i.1.toList = k.toList ∧ i.2.1 < s) := by
  simp [lt]
def before (a b : Item) : Prop := lt a b.1 b.2.1 = true
theorem lt_le {a b : Item} {k : ByteArray} {s : Int} (h : before a b) (hb : lt b k (s + 1) = true) : lt a k s = true := by
  rw [before, lt_iff] at h
  rw [lt_iff] at hb ⊢
  rcases h with h | ⟨h, hs⟩
  · rcases hb with hb | ⟨hb, _⟩
    · exact .inl (bl_trans h hb)
    · rw [hb] at h; exact .inl h
  · rw [h]
    rcases hb with hb | ⟨hb, hs'⟩
    · exact .inl hb
    · exact .inr ⟨hb, by omega⟩
theorem lt_mono {a : Item} {k : ByteArray} {s t : Int} (hst : s ≤ t) (h : lt a k s = true) : lt a k t = true := by
  rw [lt_iff] at h ⊢
  rcases h with h | ⟨h, hs⟩
  · exact .inl h
  · exact .inr ⟨h, by omega⟩
theorem lt_trans' {a b : Item} {k : ByteArray} {s : Int} (h : before a b) (hb : lt b k s = true) : lt a k s = true := lt_le h (lt_mono (by omega) hb)
theorem before_trans {a b c : Item} (h : before a b) (h2 : before b c) : before a c := lt_trans' h h2
theorem before_irrefl (a : Item) : ¬ before a a := by
  rw [before, lt_iff]
  rintro (h | ⟨_, h⟩)
  · rw [bl_irrefl] at h; cases h
  · omega
def atP (x : Item) (k : ByteArray) (s : Int) : Prop := x.1.toList = k.toList ∧ x.2.1 = s
theorem at_lt {x : Item} {k : ByteArray} {s : Int} (h : atP x k s) : lt x k (s + 1) = true := lt_iff.2 (.inr ⟨h.1, by rw [h.2]; omega⟩)
theorem at_not {x : Item} {k : ByteArray} {s : Int} (h : atP x k s) : lt x k s = false := by
  rw [Bool.eq_false_iff]
  intro hh
  rcases lt_iff.1 hh with hh | ⟨_, hh⟩
  · rw [h.1, bl_irrefl] at hh; cases hh
  · have := h.2; omega
theorem lt_tri {x : Item} {k : ByteArray} {s : Int} (h1 : lt x k s = false) (h2 : ¬ atP x k s) : lt x k (s + 1) = false := by
  rw [Bool.eq_false_iff] at h1 ⊢
  intro hh
  rcases lt_iff.1 hh with hh | ⟨he, hh⟩
  · exact h1 (lt_iff.2 (.inl hh))
  · refine h2 ⟨he, ?_⟩
    have : ¬ x.2.1 < s := fun h => h1 (lt_iff.2 (.inr ⟨he, h⟩))
    omega

def Srt (L : List Item) : Prop := L.Pairwise before

/-! ### a place in a row -/
def posL (L : List Item) (k : ByteArray) (s : Int) : Nat := findK L k s
theorem twl_all {α : Type} {p : α → Bool} : ∀ {a b : List α}, (∀ x ∈ a, p x = true) → ((a ++ b).takeWhile p).length = a.length + (b.takeWhile p).length
  | [], b, _ => by simp
  | x :: a, b, h => by
    rw [List.cons_append, List.takeWhile_cons, if_pos (h x List.mem_cons_self), List.length_cons, twl_all fun y hy => h y (List.mem_cons_of_mem _ hy), List.length_cons]
    omega
theorem twl_none {α : Type} {p : α → Bool} {b : List α} (h : ∀ x ∈ b, p x = false) : b.takeWhile p = [] := by
  cases b with
  | nil => rfl
  | cons x b => rw [List.takeWhile_cons, if_neg (by rw [h x List.mem_cons_self]; simp)]
theorem twl_part {α : Type} {p : α → Bool} {a b : List α} (h : ∀ x ∈ b, p x = false) : ((a ++ b).takeWhile p).length = (a.takeWhile p).length := by
  induction a with
  | nil => rw [List.nil_append, twl_none h]; rfl
  | cons x a ih =>
    rw [List.cons_append, List.takeWhile_cons, List.takeWhile_cons]
    split
    · rw [List.length_cons, List.length_cons, ih]
    · rfl
theorem mem_twl {α : Type} {p : α → Bool} {x : α} : ∀ {l : List α}, x ∈ l.takeWhile p → p x = true
  | [], h => by simp at h
  | y :: l, h => by
    rw [List.takeWhile_cons] at h
    split at h
    · rename_i hy
      rcases List.mem_cons.1 h with rfl | h
      · exact hy
      · exact mem_twl h
    · simp at h
theorem mem_head_flat {Q : List (List Item)} {c : List Item} {x : Item} (hne : ∀ b ∈ c :: Q, b ≠ []) (hs : Srt (c :: Q).flatten) (hx : x ∈ (c :: Q).flatten) : ∃ i, c.head? = some i ∧ (x = i ∨ before i x) := by
  cases c with
  | nil => exact absurd rfl (hne [] List.mem_cons_self)
  | cons i c =>
    refine ⟨i, rfl, ?_⟩
    rw [List.flatten_cons, List.cons_append] at hx hs
    rcases List.mem_cons.1 hx with hx | hx
    · exact .inl hx
    · exact .inr ((List.pairwise_cons.1 hs).1 x hx)

theorem isAt_iff {l : List Item} {n : Nat} {k : ByteArray} {s : Int} : isAt l n k s = true ↔ ∃ hn : n < l.length, atP l[n] k s := by
  constructor
  · intro h
    obtain ⟨hn, h1, h2⟩ := isAt_true h
    exact ⟨hn, h1, h2⟩
  · rintro ⟨hn, h1, h2⟩
    unfold isAt
    rw [List.getElem?_eq_getElem hn]
    simp [h1, h2]

/-- where find goes: ahead of its block all stand ahead, behind it none -/
theorem findB_cut {bs : List (List Item)} {k : ByteArray} {s : Int} (hne : ∀ b ∈ bs, b ≠ []) (hs : Srt bs.flatten) (h0 : bs ≠ []) (hs1 : IntKind.i64.wrap (s + 1) = s + 1) :
    (∀ x ∈ (bs.take (findB bs k s)).flatten, lt x k s = true) ∧ (∀ x ∈ (bs.drop (findB bs k s + 1)).flatten, lt x k (s + 1) = false) := by
  have hbl := findB_lt (k := k) (s := s) h0
  have hget : ∀ j (hj : j < findB bs k s), ∃ i r, bs[j + 1]? = some (i :: r) ∧ lt i k (s + 1) = true := by
    intro j hj
    have hmem : hlt k s (bs[j + 1]'(by omega)) = true := by
      have hj' : j < ((bs.drop 1).takeWhile (hlt k s)).length := hj
      have h1 : ((bs.drop 1).takeWhile (hlt k s))[j] ∈ (bs.drop 1).takeWhile (hlt k s) := List.getElem_mem hj'
      have h2 := mem_twl h1
      have h3 : ((bs.drop 1).takeWhile (hlt k s))[j] = (bs.drop 1)[j]'(by simp; omega) := (List.takeWhile_prefix _).getElem hj'
      rw [h3] at h2
      simpa [Nat.add_comm] using h2
    cases hb : bs[j + 1]'(by omega) with
    | nil => exact absurd hb (hne _ (List.getElem_mem _))
    | cons i r =>
      rw [hb, hlt, hs1] at hmem
      exact ⟨i, r, by rw [List.getElem?_eq_getElem (by omega), hb], hmem⟩
  constructor
  · intro x hx
    generalize hn : findB bs k s = n at *
    cases n with
    | zero => simp at hx
    | succ n =>
      obtain ⟨i, r, hir, hi⟩ := hget n (by omega)
      have e : bs = bs.take (n + 1) ++ (i :: r) :: bs.drop (n + 2) := by
        obtain ⟨hl, he⟩ := List.getElem?_eq_some_iff.1 hir
        rw [← he, ← List.drop_eq_getElem_cons hl, List.take_append_drop]
      rw [e, List.flatten_append, List.flatten_cons] at hs
      have hb : before x i := (List.pairwise_append.1 hs).2.2 x (by simpa using hx) i (by simp)
      exact lt_le hb hi
  · intro x hx
    have hstop : ∀ c Q, bs.drop (findB bs k s + 1) = c :: Q → hlt k s c = false := by
      intro c Q hcQ
      rw [Bool.eq_false_iff]
      intro hc
      have e : (bs.drop 1).drop (findB bs k s) = c :: Q := by rw [List.drop_drop, Nat.add_comm]; exact hcQ
      have h1 : (bs.drop 1).take (findB bs k s) = (bs.drop 1).takeWhile (hlt k s) := by
        have := List.takeWhile_prefix (hlt k s) (l := bs.drop 1)
        rw [List.prefix_iff_eq_take] at this
        exact this.symm
      have h2 : bs.drop 1 = (bs.drop 1).takeWhile (hlt k s) ++ c :: Q := by rw [← h1, ← e, List.take_append_drop]
      have h3 : ((bs.drop 1).takeWhile (hlt k s)).length = ((bs.drop 1).takeWhile (hlt k s)).length + ((c :: Q).takeWhile (hlt k s)).length := by
        conv => lhs; rw [h2]
        exact twl_all fun y hy => mem_twl hy
      rw [List.takeWhile_cons, if_pos hc, List.length_cons] at h3
      omega
    cases hcQ : bs.drop (findB bs k s + 1) with
    | nil => rw [hcQ] at hx; simp at hx
    | cons c Q =>
      have hc := hstop c Q hcQ
      have hne' : ∀ b ∈ c :: Q, b ≠ [] := fun b hb => hne b (List.mem_of_mem_drop (hcQ ▸ hb))
      have hs' : Srt (c :: Q).flatten := by
        rw [← hcQ]
        rw [← List.take_append_drop (findB bs k s + 1) bs, List.flatten_append] at hs
        exact (List.pairwise_append.1 hs).2.1
      rw [hcQ] at hx
      obtain ⟨i, hi, hxi⟩ := mem_head_flat hne' hs' hx
      cases c with
      | nil => cases hi
      | cons i' r =>
        obtain rfl : i' = i := Option.some.inj hi
        rw [hlt, hs1] at hc
        rcases hxi with rfl | hxi
        · exact hc
        · rw [Bool.eq_false_iff]
          intro hh
          rw [lt_trans' hxi hh] at hc; cases hc

theorem split_at {α : Type} {bs : List α} {n : Nat} (h : n < bs.length) : bs = bs.take n ++ bs[n] :: bs.drop (n + 1) := by
  rw [← List.drop_eq_getElem_cons h, List.take_append_drop]

/-- find, in a row: the place and whether the item is there -/
theorem findM_flat {bs : List (List Item)} {k : ByteArray} {s : Int} (hne : ∀ b ∈ bs, b ≠ []) (hs : Srt bs.flatten) (h0 : bs ≠ []) (hs1 : IntKind.i64.wrap (s + 1) = s + 1) :
    (bs.take (findM bs k s).1).flatten.length + (findM bs k s).2.1 = posL bs.flatten k s ∧ (findM bs k s).2.2 = isAt bs.flatten (posL bs.flatten k s) k s := by
  have hbl := findB_lt (k := k) (s := s) h0
  obtain ⟨hpre, hpost⟩ := findB_cut hne hs h0 hs1 (k := k)
  have hM : findM bs k s = (findB bs k s, findK bs[findB bs k s] k s, isAt bs[findB bs k s] (findK bs[findB bs k s] k s) k s) := by
    unfold findM; rw [List.getElem?_eq_getElem hbl]
  rw [hM]
  generalize findB bs k s = n at *
  have e := split_at hbl
  have hf : bs.flatten = (bs.take n).flatten ++ (bs[n] ++ (bs.drop (n + 1)).flatten) := by
    conv => lhs; rw [e]
    rw [List.flatten_append, List.flatten_cons]
  have hpost' : ∀ x ∈ (bs.drop (n + 1)).flatten, lt x k s = false := fun x hx => by
    rw [Bool.eq_false_iff]; intro hh
    exact absurd (hpost x hx) (by rw [lt_mono (by omega) hh]; simp)
  have hpos : posL bs.flatten k s = (bs.take n).flatten.length + findK bs[n] k s := by
    unfold posL findK
    rw [hf, twl_all hpre, twl_part hpost']
  refine ⟨hpos.symm, ?_⟩
  simp only
  rw [hpos, Bool.eq_iff_iff, isAt_iff, isAt_iff]
  constructor
  · rintro ⟨hq, ha⟩
    refine ⟨by rw [hf]; simp; omega, ?_⟩
    have : bs.flatten[(bs.take n).flatten.length + findK bs[n] k s]'(by rw [hf]; simp; omega) = bs[n][findK bs[n] k s] := by
      simp only [hf]
      rw [List.getElem_append_right (by omega), List.getElem_append_left (by omega)]
      simp
    rw [this]; exact ha
  · rintro ⟨hq, ha⟩
    by_cases hlen : findK bs[n] k s < bs[n].length
    · refine ⟨hlen, ?_⟩
      have : bs.flatten[(bs.take n).flatten.length + findK bs[n] k s] = bs[n][findK bs[n] k s] := by
        simp only [hf]
        rw [List.getElem_append_right (by omega), List.getElem_append_left (by omega)]
        simp
      rw [← this]; exact ha
    · exfalso
      have hle : findK bs[n] k s ≤ bs[n].length := (List.takeWhile_sublist _).length_le
      have hmem : bs.flatten[(bs.take n).flatten.length + findK bs[n] k s] ∈ (bs.drop (n + 1)).flatten := by
        have : ∀ (j : Nat) (hj : j < ((bs.take n).flatten ++ (bs[n] ++ (bs.drop (n + 1)).flatten)).length), (bs.take n).flatten.length + bs[n].length ≤ j → ((bs.take n).flatten ++ (bs[n] ++ (bs.drop (n + 1)).flatten))[j] ∈ (bs.drop (n + 1)).flatten := by
          intro j hj hle
          rw [List.getElem_append_right (by omega), List.getElem_append_right (by omega)]
          exact List.getElem_mem _
        simp only [hf] at hq ⊢
        exact this _ hq (by omega)
      have := hpost _ hmem
      rw [at_lt ha] at this; cases this
end Go.Proofs.Ytoaalegieaocbaa
