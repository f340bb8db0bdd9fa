/- The index, plain: blocks that are neither too small nor too large; what split and merge keep. -/
import Derived.Test.YtoaalegieaocbaaIxLaw
namespace Go.Proofs.Ytoaalegieaocbaa
open Go.Sh

/-! ### neighbours -/
def adj (W : Int) : List Nat → Prop
  | a :: b :: r => W < ((a + b : Nat) : Int) ∧ adj W (b :: r)
  | _ => True

theorem adj_app {W : Int} : ∀ {x y : List Nat}, adj W (x ++ y) ↔ adj W x ∧ adj W y ∧ ∀ a b, x.getLast? = some a → y.head? = some b → W < ((a + b : Nat) : Int)
  | [], y => by simp [adj]
  | [a], [] => by simp [adj]
  | [a], b :: r => by
    simp only [List.cons_append, List.nil_append, adj, List.getLast?_singleton, List.head?_cons, Option.some.injEq, true_and]
    constructor
    · rintro ⟨h1, h2⟩
      exact ⟨h2, fun _ _ e1 e2 => by subst e1; subst e2; exact h1⟩
    · rintro ⟨h1, h2⟩
      exact ⟨h2 a b rfl rfl, h1⟩
  | a :: a' :: x, y => by
    have ih := adj_app (W := W) (x := a' :: x) (y := y)
    simp only [List.cons_append, adj] at ih ⊢
    rw [ih, List.getLast?_cons_cons, and_assoc]
theorem adj_mid {W : Int} {p q : List Nat} {a : Nat} : adj W (p ++ a :: q) ↔ adj W p ∧ adj W q ∧ (∀ c, p.getLast? = some c → W < ((c + a : Nat) : Int)) ∧ (∀ c, q.head? = some c → W < ((a + c : Nat) : Int)) := by
  rw [adj_app]
  have e : adj W (a :: q) ↔ adj W q ∧ ∀ c, q.head? = some c → W < ((a + c : Nat) : Int) := by
    cases q with
    | nil => simp [adj]
    | cons b r =>
      simp only [adj, List.head?_cons, Option.some.injEq]
      exact ⟨fun ⟨h1, h2⟩ => ⟨h2, fun c e => by subst e; exact h1⟩, fun ⟨h1, h2⟩ => ⟨h2 b rfl, h1⟩⟩
  rw [e]
  constructor
  · rintro ⟨h1, ⟨h2, h3⟩, h4⟩
    exact ⟨h1, h2, fun c hc => h4 c a hc rfl, h3⟩
  · rintro ⟨h1, h2, h3, h4⟩
    exact ⟨h1, ⟨h2, h4⟩, fun c b hc hb => by simp only [List.head?_cons, Option.some.injEq] at hb; subst hb; exact h3 c hc⟩

/-! ### good -/
def okI (x : Item) : Prop := 0 ≤ x.2.1 ∧ x.2.1 < x.2.2.1 ∧ x.2.2.1 ≤ 1099511627776
abbrev lens (bs : List (List Item)) : List Nat := bs.map (·.length)
/-- no block is empty, none too large, no two neighbours too small -/
structure Shp (W : Int) (bs : List (List Item)) : Prop where
  ne : ∀ b ∈ bs, b ≠ []
  wid : ∀ b ∈ bs, (b.length : Int) ≤ 2 * W
  adj : adj W (lens bs)
structure Good (W : Int) (bs : List (List Item)) : Prop extends Shp W bs where
  srt : Srt bs.flatten
  ok : ∀ x ∈ bs.flatten, okI x

theorem last_pos {P : List (List Item)} (h : ∀ b ∈ P, b ≠ []) {c : Nat} (hc : (lens P).getLast? = some c) : 0 < c := by
  obtain ⟨b, hb, rfl⟩ := List.mem_map.1 (List.mem_of_getLast? hc)
  exact List.length_pos_iff.2 (h b hb)
theorem head_pos {P : List (List Item)} (h : ∀ b ∈ P, b ≠ []) {c : Nat} (hc : (lens P).head? = some c) : 0 < c := by
  obtain ⟨b, hb, rfl⟩ := List.mem_map.1 (List.mem_of_head? hc)
  exact List.length_pos_iff.2 (h b hb)

theorem Shp.mid {W : Int} {P Q : List (List Item)} {l : List Item} (hP : ∀ b ∈ P, b ≠ [] ∧ (b.length : Int) ≤ 2 * W) (hQ : ∀ b ∈ Q, b ≠ [] ∧ (b.length : Int) ≤ 2 * W) (hl : l ≠ []) (hw : (l.length : Int) ≤ 2 * W)
    (aP : Proofs.Ytoaalegieaocbaa.adj W (lens P)) (aQ : Proofs.Ytoaalegieaocbaa.adj W (lens Q)) (gP : ∀ c, (lens P).getLast? = some c → W < ((c + l.length : Nat) : Int)) (gQ : ∀ c, (lens Q).head? = some c → W < ((l.length + c : Nat) : Int)) : Shp W (P ++ l :: Q) where
  ne := fun b hb => by
    rcases List.mem_append.1 hb with hb | hb
    · exact (hP b hb).1
    · rcases List.mem_cons.1 hb with rfl | hb
      · exact hl
      · exact (hQ b hb).1
  wid := fun b hb => by
    rcases List.mem_append.1 hb with hb | hb
    · exact (hP b hb).2
    · rcases List.mem_cons.1 hb with rfl | hb
      · exact hw
      · exact (hQ b hb).2
  adj := by
    rw [lens, List.map_append, List.map_cons]
    exact adj_mid.2 ⟨aP, aQ, gP, gQ⟩
theorem Shp.parts {W : Int} {P Q : List (List Item)} {l : List Item} (h : Shp W (P ++ l :: Q)) : (∀ b ∈ P, b ≠ [] ∧ (b.length : Int) ≤ 2 * W) ∧ (∀ b ∈ Q, b ≠ [] ∧ (b.length : Int) ≤ 2 * W) ∧ l ≠ [] ∧ (l.length : Int) ≤ 2 * W ∧
    Proofs.Ytoaalegieaocbaa.adj W (lens P) ∧ Proofs.Ytoaalegieaocbaa.adj W (lens Q) ∧ (∀ c, (lens P).getLast? = some c → W < ((c + l.length : Nat) : Int)) ∧ (∀ c, (lens Q).head? = some c → W < ((l.length + c : Nat) : Int)) := by
  have ha := h.adj
  rw [lens, List.map_append, List.map_cons, adj_mid] at ha
  have m1 : ∀ b ∈ P, b ∈ P ++ l :: Q := fun b hb => List.mem_append_left _ hb
  have m2 : ∀ b ∈ Q, b ∈ P ++ l :: Q := fun b hb => List.mem_append_right _ (List.mem_cons_of_mem _ hb)
  have m3 : l ∈ P ++ l :: Q := List.mem_append_right _ List.mem_cons_self
  exact ⟨fun b hb => ⟨h.ne b (m1 b hb), h.wid b (m1 b hb)⟩, fun b hb => ⟨h.ne b (m2 b hb), h.wid b (m2 b hb)⟩, h.ne l m3, h.wid l m3, ha.1, ha.2.1, ha.2.2.1, ha.2.2.2⟩

/-! ### split and merge, on three parts -/
theorem split_mid (W : Int) (P Q : List (List Item)) (l : List Item) : splitM W P.length (P ++ l :: Q) = if (l.length : Int) ≤ 2 * W then P ++ l :: Q else P ++ l.take (l.length / 2) :: l.drop (l.length / 2) :: Q := by
  unfold splitM
  rw [List.getElem?_append_right (Nat.le_refl _), Nat.sub_self]
  simp only [List.getElem?_cons_zero]
  split
  · rfl
  · rw [List.take_left, List.drop_append (l₁ := P), show P.drop (P.length + 1) = [] from List.drop_eq_nil_of_le (by omega), Nat.add_sub_cancel_left]
    simp
theorem merge_mid (W : Int) (P Q : List (List Item)) (a b : List Item) : mergeM W P.length (P ++ a :: b :: Q) = if W < ((a.length + b.length : Nat) : Int) then P ++ a :: b :: Q else P ++ (a ++ b) :: Q := by
  rw [merge_nat (by simp)]
  have e1 : (P ++ a :: b :: Q)[P.length]'(by simp) = a := by rw [List.getElem_append_right (Nat.le_refl _)]; simp
  have e2 : (P ++ a :: b :: Q)[P.length + 1]'(by simp) = b := by rw [List.getElem_append_right (by omega)]; simp
  rw [e1, e2, List.take_left, List.drop_append, List.drop_eq_nil_of_le (by omega), Nat.add_sub_cancel_left]
  simp
theorem merge_last (W : Int) (P : List (List Item)) (a : List Item) : mergeM W P.length (P ++ [a]) = P ++ [a] := by
  unfold mergeM; rw [if_pos (.inr (by simp))]
theorem merge_neg (W : Int) (bs : List (List Item)) : mergeM W (-1) bs = bs := by
  unfold mergeM; rw [if_pos (.inl (by omega))]

theorem nil_or_snoc {α : Type} (P : List α) : P = [] ∨ ∃ P' c, P = P' ++ [c] := by
  rcases List.eq_nil_or_concat P with h | ⟨P', c, h⟩
  · exact .inl h
  · exact .inr ⟨P', c, by rw [h, List.concat_eq_append]⟩

theorem split_good {W : Int} {P Q : List (List Item)} {l l' : List Item} (hW : 2 ≤ W) (h : Shp W (P ++ l :: Q)) (hl : l'.length = l.length + 1) : Shp W (splitM W P.length (P ++ l' :: Q)) ∧ (splitM W P.length (P ++ l' :: Q)).flatten = (P ++ l' :: Q).flatten := by
  obtain ⟨hP, hQ, hl0, hw, aP, aQ, gP, gQ⟩ := h.parts
  rw [split_mid]
  split
  · rename_i hc
    refine ⟨Shp.mid hP hQ (by rintro rfl; simp at hl) hc aP aQ (fun c h => ?_) (fun c h => ?_), rfl⟩
    · have := gP c h; omega
    · have := gQ c h; omega
  · rename_i hc
    have hpos := List.length_pos_iff.2 hl0
    have hlen : (l'.length : Int) = 2 * W + 1 := by omega
    refine ⟨?_, ?_⟩
    · have h1 : (l'.take (l'.length / 2)).length = l'.length / 2 := by rw [List.length_take]; omega
      have h2 : (l'.drop (l'.length / 2)).length = l'.length - l'.length / 2 := List.length_drop ..
      have n2 : l'.drop (l'.length / 2) ≠ [] := fun he => by rw [he] at h2; simp at h2; omega
      have w2 : ((l'.drop (l'.length / 2)).length : Int) ≤ 2 * W := by omega
      have hQ2 : ∀ b ∈ l'.drop (l'.length / 2) :: Q, b ≠ [] ∧ (b.length : Int) ≤ 2 * W := fun b hb => by
        rcases List.mem_cons.1 hb with rfl | hb
        · exact ⟨n2, w2⟩
        · exact hQ b hb
      refine Shp.mid hP hQ2 (fun he => by rw [he] at h1; simp at h1; omega) (by omega) aP ?_ (fun c h => ?_) (fun c h => ?_)
      · have := adj_mid (W := W) (p := []) (q := lens Q) (a := (l'.drop (l'.length / 2)).length)
        rw [lens, List.map_cons]
        refine this.2 ⟨trivial, aQ, fun c h => by simp at h, fun c h => ?_⟩
        have := head_pos (fun b hb => (hQ b hb).1) h
        omega
      · have := last_pos (fun b hb => (hP b hb).1) h
        omega
      · simp only [lens, List.map_cons, List.head?_cons, Option.some.injEq] at h
        omega
    · rw [List.flatten_append, List.flatten_append, List.flatten_cons, List.flatten_cons, List.flatten_cons, ← List.append_assoc (l'.take _), List.take_append_drop]

/-- behind a block that lost an item: two merges -/
theorem merge_good {W : Int} {P Q : List (List Item)} {m : List Item} (hW : 2 ≤ W) (hP : ∀ b ∈ P, b ≠ [] ∧ (b.length : Int) ≤ 2 * W) (hQ : ∀ b ∈ Q, b ≠ [] ∧ (b.length : Int) ≤ 2 * W) (hm : m ≠ []) (hmw : (m.length : Int) ≤ 2 * W)
    (aP : Proofs.Ytoaalegieaocbaa.adj W (lens P)) (aQ : Proofs.Ytoaalegieaocbaa.adj W (lens Q)) (gP : ∀ c, (lens P).getLast? = some c → W ≤ ((c + m.length : Nat) : Int)) (gQ : ∀ c, (lens Q).head? = some c → W ≤ ((m.length + c : Nat) : Int)) :
    Shp W (mergeM W ((P.length : Int) - 1) (mergeM W P.length (P ++ m :: Q))) ∧ (mergeM W ((P.length : Int) - 1) (mergeM W P.length (P ++ m :: Q))).flatten = (P ++ m :: Q).flatten := by
  -- the first merge
  obtain ⟨m', Q', e, hQ', hm', hmw', aQ', gP', gQ', hfl⟩ : ∃ (m' : List Item) (Q' : List (List Item)), mergeM W P.length (P ++ m :: Q) = P ++ m' :: Q' ∧ (∀ b ∈ Q', b ≠ [] ∧ (b.length : Int) ≤ 2 * W) ∧ m' ≠ [] ∧ (m'.length : Int) ≤ 2 * W ∧
      Proofs.Ytoaalegieaocbaa.adj W (lens Q') ∧ (∀ c, (lens P).getLast? = some c → W ≤ ((c + m'.length : Nat) : Int)) ∧ (∀ c, (lens Q').head? = some c → W < ((m'.length + c : Nat) : Int)) ∧ (P ++ m' :: Q').flatten = (P ++ m :: Q).flatten := by
    cases Q with
    | nil => exact ⟨m, [], merge_last W P m, hQ, hm, hmw, aQ, gP, fun c h => by simp at h, rfl⟩
    | cons b Q =>
      rw [merge_mid]
      split
      · rename_i hc
        exact ⟨m, b :: Q, rfl, hQ, hm, hmw, aQ, gP, fun c h => by simp only [lens, List.map_cons, List.head?_cons, Option.some.injEq] at h; subst h; exact hc, rfl⟩
      · rename_i hc
        have hb := gQ b.length rfl
        have hbp := List.length_pos_iff.2 (hQ b List.mem_cons_self).1
        have hlen : (m ++ b).length = m.length + b.length := List.length_append
        rw [lens, List.map_cons] at aQ
        have aQ2 := (adj_mid (W := W) (p := []) (q := lens Q) (a := b.length)).1 aQ
        refine ⟨m ++ b, Q, rfl, fun x hx => hQ x (List.mem_cons_of_mem _ hx), by simp [hm], by omega, aQ2.2.1, fun c h => by omega, fun c h => ?_, ?_⟩
        · have := head_pos (fun x hx => (hQ x (List.mem_cons_of_mem _ hx)).1) h
          omega
        · simp [List.flatten_append, List.flatten_cons, List.append_assoc]
  rw [e, ← hfl]
  clear e hfl gQ hm hmw gP aQ hQ
  rcases nil_or_snoc P with rfl | ⟨P', c, rfl⟩
  · rw [show ((([] : List (List Item)).length : Int) - 1) = -1 from rfl, merge_neg]
    exact ⟨Shp.mid hP hQ' hm' hmw' aP aQ' (fun c h => by simp at h) gQ', rfl⟩
  · rw [show (((P' ++ [c]).length : Int) - 1) = ((P'.length : Nat) : Int) by simp, List.append_assoc, List.singleton_append, merge_mid]
    rw [lens, List.map_append, List.map_cons, List.map_nil] at aP
    have hc := gP' c.length (by simp [lens])
    obtain ⟨aP', _, gc, _⟩ := (adj_mid (W := W) (p := lens P') (q := []) (a := c.length)).1 aP
    have hP' : ∀ b ∈ P', b ≠ [] ∧ (b.length : Int) ≤ 2 * W := fun b hb => hP b (List.mem_append_left _ hb)
    have hcc := hP c (List.mem_append_right _ List.mem_cons_self)
    have hcp := List.length_pos_iff.2 hcc.1
    split
    · rename_i hlt
      refine ⟨?_, rfl⟩
      have := Shp.mid (P := P' ++ [c]) (Q := Q') (l := m') hP hQ' hm' hmw' (by rw [lens, List.map_append, List.map_cons, List.map_nil]; exact aP) aQ' (fun d h => by simp [lens] at h; subst h; exact hlt) gQ'
      rw [List.append_assoc, List.singleton_append] at this
      exact this
    · rename_i hlt
      have hlen : (c ++ m').length = c.length + m'.length := List.length_append
      refine ⟨Shp.mid hP' hQ' (by simp [hm']) (by omega) aP' aQ' (fun d h => ?_) (fun d h => ?_), by simp [List.flatten_append, List.flatten_cons, List.append_assoc]⟩
      · have := last_pos (fun b hb => (hP' b hb).1) h
        omega
      · have := head_pos (fun b hb => (hQ' b hb).1) h
        omega

/-- a block of one item is taken out: its neighbours are large -/
theorem cut_good {W : Int} {P Q : List (List Item)} {l : List Item} (hW : 2 ≤ W) (h : Shp W (P ++ l :: Q)) (hl : l.length = 1) : Shp W (mergeM W ((P.length : Int) - 1) (P ++ Q)) ∧ (mergeM W ((P.length : Int) - 1) (P ++ Q)).flatten = (P ++ Q).flatten := by
  obtain ⟨hP, hQ, hl0, hw, aP, aQ, gP, gQ⟩ := h.parts
  have hs : Shp W (P ++ Q) := by
    refine ⟨fun b hb => ?_, fun b hb => ?_, ?_⟩
    · rcases List.mem_append.1 hb with hb | hb
      · exact (hP b hb).1
      · exact (hQ b hb).1
    · rcases List.mem_append.1 hb with hb | hb
      · exact (hP b hb).2
      · exact (hQ b hb).2
    · rw [lens, List.map_append, adj_app]
      refine ⟨aP, aQ, fun a b ha hb => ?_⟩
      have h1 := gP a ha
      have h2 := gQ b hb
      omega
  have e : mergeM W ((P.length : Int) - 1) (P ++ Q) = P ++ Q := by
    rcases nil_or_snoc P with rfl | ⟨P', c, rfl⟩
    · exact merge_neg _ _
    · cases Q with
      | nil =>
        rw [List.append_nil, show (((P' ++ [c]).length : Int) - 1) = ((P'.length : Nat) : Int) by simp, merge_last]
      | cons b Q =>
        rw [show (((P' ++ [c]).length : Int) - 1) = ((P'.length : Nat) : Int) by simp, List.append_assoc, List.singleton_append, merge_mid, if_pos]
        have h1 := gP c.length (by simp [lens])
        have h2 := gQ b.length rfl
        omega
  rw [e]
  exact ⟨hs, rfl⟩
end Go.Proofs.Ytoaalegieaocbaa
