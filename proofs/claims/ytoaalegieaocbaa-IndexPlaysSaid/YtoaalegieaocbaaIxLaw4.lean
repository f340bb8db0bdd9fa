/- The index, plain: what is asked, on the items in a row; scripts. -/
import Derived.Test.YtoaalegieaocbaaIxLaw3
namespace Go.Proofs.Ytoaalegieaocbaa
open Go.Sh

theorem maxEnd_nonneg (l : List Item) : 0 ≤ maxEnd l := maxEnd_from l 0
theorem maxEnd_cons (x : Item) (l : List Item) : maxEnd (x :: l) = mx (mx 0 x.2.2.1) (maxEnd l) := by
  rw [show x :: l = [x] ++ l from rfl, maxEnd_append]; rfl
theorem mx_spec (a b : Int) : a ≤ mx a b ∧ b ≤ mx a b ∧ (mx a b = a ∨ mx a b = b) := by
  unfold mx; split <;> omega
theorem le_maxEnd : ∀ {l : List Item} {x : Item}, x ∈ l → x.2.2.1 ≤ maxEnd l
  | [], _, h => by simp at h
  | y :: l, x, h => by
    rw [maxEnd_cons]
    have h0 := maxEnd_nonneg l
    have h1 := mx_spec 0 y.2.2.1
    have h2 := mx_spec (mx 0 y.2.2.1) (maxEnd l)
    rcases List.mem_cons.1 h with rfl | h
    · omega
    · have := le_maxEnd h
      omega
theorem maxEnd_mem : ∀ {l : List Item}, (∀ x ∈ l, 0 < x.2.2.1) → l ≠ [] → ∃ x ∈ l, x.2.2.1 = maxEnd l
  | [], _, h => absurd rfl h
  | y :: l, hp, _ => by
    rw [maxEnd_cons]
    have hy := hp y List.mem_cons_self
    have h1 := mx_spec 0 y.2.2.1
    have h2 := mx_spec (mx 0 y.2.2.1) (maxEnd l)
    by_cases hl : l = []
    · subst hl
      refine ⟨y, List.mem_cons_self, ?_⟩
      have : maxEnd [] = 0 := rfl
      omega
    · obtain ⟨x, hx, he⟩ := maxEnd_mem (fun x hx => hp x (List.mem_cons_of_mem _ hx)) hl
      have hx0 := hp x (List.mem_cons_of_mem _ hx)
      by_cases h : x.2.2.1 > y.2.2.1
      · exact ⟨x, List.mem_cons_of_mem _ hx, by omega⟩
      · exact ⟨y, List.mem_cons_self, by omega⟩

theorem visit_p {p : Item → Bool} {lo hi : ByteArray} {above : Int} (hp : ∀ x, p x = true → above < x.2.2.1) : ∀ bs : List (List Item), (visit lo hi above bs).filter p = (bs.flatten.filter (inr lo hi)).filter p
  | [] => rfl
  | b :: bs => by
    have ih := visit_p (lo := lo) (hi := hi) hp bs
    unfold visit at ih ⊢
    rw [List.flatten_cons, List.filter_append, List.filter_append, ← ih, List.filter_cons]
    split
    · rw [List.flatten_cons, List.filter_append, List.filter_append]
    · rename_i hb
      have hb : ¬ above < maxEnd b := by simpa using hb
      have : (b.filter (inr lo hi)).filter p = [] := by
        rw [List.filter_eq_nil_iff]
        intro x hx hpx
        have h1 := le_maxEnd (List.mem_filter.1 hx).1
        have h2 := hp x hpx
        omega
      rw [this, List.nil_append]
theorem inr_all (x : Item) : inr ⟨#[]⟩ ⟨#[]⟩ x = true := by
  have : ∀ l : List UInt8, Op.bytesLess l [] = false := fun l => by cases l <;> rfl
  unfold inr
  rw [show (⟨#[]⟩ : ByteArray).toList = [] from ByteArray.toList_mk [], this]
  rfl
def stabL (L : List Item) (lo hi : ByteArray) (t : Int) : List Item := (L.filter (inr lo hi)).filter (stabP t)
def overL (L : List Item) (lo hi : ByteArray) (s : Int × Int × Unit) : List Item := (L.filter (inr lo hi)).filter (overP s)
theorem stab_flat (bs : List (List Item)) (lo hi : ByteArray) (t : Int) : stabM bs lo hi t = stabL bs.flatten lo hi t :=
  visit_p (fun x h => by simp only [stabP, Bool.and_eq_true, decide_eq_true_eq] at h; exact h.2) bs
theorem over_flat (bs : List (List Item)) (lo hi : ByteArray) (s : Int × Int × Unit) : overM bs lo hi s = overL bs.flatten lo hi s :=
  visit_p (fun x h => by simp only [overP, Bool.and_eq_true, decide_eq_true_eq] at h; exact h.1.2) bs
theorem filter_inr_all (L : List Item) : L.filter (inr ⟨#[]⟩ ⟨#[]⟩) = L := List.filter_eq_self.2 fun x _ => inr_all x
theorem stab_all (L : List Item) (t : Int) : stabL L ⟨#[]⟩ ⟨#[]⟩ t = L.filter (stabP t) := by unfold stabL; rw [filter_inr_all]
theorem over_all (L : List Item) (s : Int × Int × Unit) : overL L ⟨#[]⟩ ⟨#[]⟩ s = L.filter (overP s) := by unfold overL; rw [filter_inr_all]
theorem all_flat {W : Int} {bs : List (List Item)} (hG : Good W bs) : allM bs = bs.flatten := by
  have h := visit_p (p := fun x => decide (0 < x.2.2.1)) (lo := ⟨#[]⟩) (hi := ⟨#[]⟩) (above := 0) (fun x h => by simpa using h) bs
  rw [filter_inr_all] at h
  have e1 : bs.flatten.filter (fun x => decide (0 < x.2.2.1)) = bs.flatten := List.filter_eq_self.2 fun x hx => by
    have := hG.ok x hx
    unfold okI at this
    simp only [decide_eq_true_eq]; omega
  have e2 : (visit ⟨#[]⟩ ⟨#[]⟩ 0 bs).filter (fun x => decide (0 < x.2.2.1)) = visit ⟨#[]⟩ ⟨#[]⟩ 0 bs := List.filter_eq_self.2 fun x hx => by
    unfold visit at hx
    have hx := (List.mem_filter.1 hx).1
    have := hG.ok x ((flat_sub (List.filter_sublist (l := bs))).mem hx)
    unfold okI at this
    simp only [decide_eq_true_eq]; omega
  rw [e1, e2] at h
  exact h

/-! ### scripts -/
/-- kind, key, start, end, number, hi, t, u -/
abbrev OpT := Int × ByteArray × Int × Int × Int × ByteArray × Int × Int × Unit
abbrev opLs : List Leaf := [.int .i64, .str, .int .i64, .int .i64, .int .i64, .str, .int .i64, .int .i64]
def encO (o : OpT) : List Value := [.int .i64 o.1, .string o.2.1, .int .i64 o.2.2.1, .int .i64 o.2.2.2.1, .int .i64 o.2.2.2.2.1, .string o.2.2.2.2.2.1, .int .i64 o.2.2.2.2.2.2.1, .int .i64 o.2.2.2.2.2.2.2.1]
theorem encO_len (o : OpT) : (encO o).length = 8 := rfl
def opItem (o : OpT) : Item := (o.2.1, o.2.2.1, o.2.2.2.1, o.2.2.2.2.1, ())
def OpOk (o : OpT) : Prop := i64r o.2.2.1

def stepM (W : Int) (bs : List (List Item)) (o : OpT) : List (List Item) :=
  if 100 < o.2.1.size then bs else if o.1 = 0 then (insM W bs (opItem o)).2 else if o.1 = 1 then (closeM bs o.2.1 o.2.2.1 o.2.2.2.1).2 else if o.1 = 2 then (delM W bs o.2.1 o.2.2.1).2 else bs
def buildM (W : Int) (bs : List (List Item)) (ops : List OpT) : List (List Item) := ops.foldl (stepM W) bs

section
variable {W : Int} {bs : List (List Item)}

theorem insL_len (L : List Item) (i : Item) : (insL L i).2.length ≤ L.length + 1 := by
  unfold insL
  split
  · simp
  split
  · simp
  have := pos_le L i.1 i.2.1
  simp; omega
theorem closeL_len (L : List Item) (k : ByteArray) (s e : Int) : (closeL L k s e).2.length ≤ L.length := by
  unfold closeL
  split
  · simp
  rename_i h
  split
  · simp
  split
  · simp
  have h1 : has L k s = true := by
    unfold getL at h
    cases hh : has L k s with
    | true => rfl
    | false => rw [hh] at h; exact absurd (by simp) h
  obtain ⟨hn, _⟩ := isAt_iff.1 h1
  simp; omega
theorem delL_len (L : List Item) (k : ByteArray) (s : Int) : (delL L k s).2.length ≤ L.length := by
  unfold delL
  split
  · simp
  simp; omega

theorem step_good (hW : 2 ≤ W) (hG : Good W bs) {o : OpT} (ho : OpOk o) : Good W (stepM W bs o) ∧ (stepM W bs o).flatten.length ≤ bs.flatten.length + 1 := by
  unfold stepM
  split
  · exact ⟨hG, by omega⟩
  split
  · obtain ⟨_, h1, h2⟩ := insM_flat (i := opItem o) hW hG ho
    exact ⟨h2, by rw [h1]; exact insL_len _ _⟩
  split
  · obtain ⟨_, h1, h2⟩ := closeM_flat (k := o.2.1) (e := o.2.2.2.1) hG ho
    exact ⟨h2, by rw [h1]; have := closeL_len bs.flatten o.2.1 o.2.2.1 o.2.2.2.1; omega⟩
  split
  · obtain ⟨_, h1, h2⟩ := delM_flat (k := o.2.1) hW hG ho
    exact ⟨h2, by rw [h1]; have := delL_len bs.flatten o.2.1 o.2.2.1; omega⟩
  exact ⟨hG, by omega⟩
theorem build_good (hW : 2 ≤ W) : ∀ (ops : List OpT) {bs : List (List Item)}, Good W bs → (∀ o ∈ ops, OpOk o) → Good W (buildM W bs ops) ∧ (buildM W bs ops).flatten.length ≤ bs.flatten.length + ops.length
  | [], _, hG, _ => ⟨hG, by simp [buildM]⟩
  | o :: ops, bs, hG, ho => by
    obtain ⟨h1, h2⟩ := step_good hW hG (ho o List.mem_cons_self)
    obtain ⟨h3, h4⟩ := build_good hW ops h1 fun o h => ho o (List.mem_cons_of_mem _ h)
    have e : buildM W bs (o :: ops) = buildM W (stepM W bs o) ops := rfl
    rw [e, List.length_cons]
    exact ⟨h3, by omega⟩
theorem good_nil : Good W [] := ⟨⟨fun b h => by simp at h, fun b h => by simp at h, trivial⟩, List.Pairwise.nil, fun x h => by simp at h⟩
theorem Good.okb (h : Good W bs) (hs : bs.flatten.length ≤ 536870912) : Okb bs := ⟨h.ne, hs⟩
end
end Go.Proofs.Ytoaalegieaocbaa
