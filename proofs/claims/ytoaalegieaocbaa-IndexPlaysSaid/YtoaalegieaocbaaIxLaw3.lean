/- The index, plain: each call, on the items in a row; what holds stays so. -/
import Derived.Test.YtoaalegieaocbaaIxLaw2
import Derived.Test.YtoaalegieaocbaaIx12
namespace Go.Proofs.Ytoaalegieaocbaa
open Go.Sh

def i64r (s : Int) : Prop := -9223372036854775808 ≤ s ∧ s ≤ 9223372036854775807
def has (L : List Item) (k : ByteArray) (s : Int) : Bool := isAt L (posL L k s) k s
def getL (L : List Item) (k : ByteArray) (s : Int) : Item × Int := if has L k s then (L[posL L k s]?.getD zeroI, 0) else (zeroI, 4)
def insL (L : List Item) (i : Item) : Int × List Item :=
  if badI i then (1, L) else if has L i.1 i.2.1 then (5, L) else (0, L.take (posL L i.1 i.2.1) ++ [i] ++ L.drop (posL L i.1 i.2.1))
def closeL (L : List Item) (k : ByteArray) (s e : Int) : Int × List Item :=
  if (getL L k s).2 ≠ 0 then ((getL L k s).2, L) else if (getL L k s).1.2.2.1 ≠ 1099511627776 then (6, L) else if e ≤ s ∨ 1099511627776 ≤ e then (1, L) else
  (0, L.take (posL L k s) ++ [withEnd (getL L k s).1 e] ++ L.drop (posL L k s + 1))
def delL (L : List Item) (k : ByteArray) (s : Int) : Int × List Item :=
  if (getL L k s).2 ≠ 0 then ((getL L k s).2, L) else (0, L.take (posL L k s) ++ L.drop (posL L k s + 1))

theorem pos_le (L : List Item) (k : ByteArray) (s : Int) : posL L k s ≤ L.length := (List.takeWhile_sublist _).length_le
theorem pos_take {L : List Item} {k : ByteArray} {s : Int} : ∀ x ∈ L.take (posL L k s), lt x k s = true := by
  intro x hx
  have : L.take (posL L k s) = L.takeWhile fun i => lt i k s := by
    have := List.takeWhile_prefix (fun i => lt i k s) (l := L)
    rw [List.prefix_iff_eq_take] at this
    exact this.symm
  rw [this] at hx
  exact mem_twl (p := fun i => lt i k s) hx
theorem pos_at {L : List Item} {k : ByteArray} {s : Int} (h : posL L k s < L.length) : lt L[posL L k s] k s = false := by
  rw [Bool.eq_false_iff]
  intro hh
  have e := split_at h
  have h1 : posL L k s = (((L.take (posL L k s)) ++ L[posL L k s] :: L.drop (posL L k s + 1)).takeWhile (fun i => lt i k s)).length := by
    rw [← e]; rfl
  rw [twl_all pos_take, List.takeWhile_cons, if_pos hh, List.length_cons, List.length_take] at h1
  omega
theorem pos_drop {L : List Item} {k : ByteArray} {s : Int} (hs : Srt L) : ∀ x ∈ L.drop (posL L k s), lt x k s = false := by
  intro x hx
  by_cases h : posL L k s < L.length
  · have h0 := pos_at h
    rw [List.drop_eq_getElem_cons h] at hx
    rcases List.mem_cons.1 hx with rfl | hx
    · exact h0
    · have hb : before L[posL L k s] x := by
        have e := split_at h
        rw [e] at hs
        have := (List.pairwise_append.1 hs).2.1
        simp only [List.pairwise_cons] at this
        exact this.1 x hx
      rw [Bool.eq_false_iff]
      intro hh
      rw [lt_trans' hb hh] at h0; cases h0
  · rw [List.drop_eq_nil_of_le (by omega)] at hx; simp at hx
theorem has_iff {L : List Item} {k : ByteArray} {s : Int} (hs : Srt L) : has L k s = true ↔ ∃ x ∈ L, atP x k s := by
  constructor
  · intro h
    obtain ⟨hn, ha⟩ := isAt_iff.1 h
    exact ⟨_, List.getElem_mem hn, ha⟩
  · rintro ⟨x, hx, ha⟩
    rw [← List.take_append_drop (posL L k s) L] at hx
    have hnl := at_not ha
    rcases List.mem_append.1 hx with hx | hx
    · rw [pos_take x hx] at hnl; cases hnl
    · by_cases h : posL L k s < L.length
      · rw [List.drop_eq_getElem_cons h] at hx
        rcases List.mem_cons.1 hx with rfl | hx
        · exact isAt_iff.2 ⟨h, ha⟩
        · exfalso
          have hb : before L[posL L k s] x := by
            have e := split_at h
            rw [e] at hs
            have := (List.pairwise_append.1 hs).2.1
            simp only [List.pairwise_cons] at this
            exact this.1 x hx
          have h0 := pos_at h
          rw [lt_le hb (at_lt ha)] at h0; cases h0
      · rw [List.drop_eq_nil_of_le (by omega)] at hx; simp at hx
theorem before_new {L : List Item} {i : Item} (hs : Srt L) (hn : has L i.1 i.2.1 = false) : ∀ y ∈ L.drop (posL L i.1 i.2.1), before i y := by
  intro y hy
  have h1 := pos_drop hs y hy
  have h2 : ¬ atP y i.1 i.2.1 := fun ha => by
    rw [(has_iff hs).2 ⟨y, List.mem_of_mem_drop hy, ha⟩] at hn; cases hn
  rw [before, lt_iff]
  rw [Bool.eq_false_iff] at h1
  rcases bl_tri i.1.toList y.1.toList with h | h | h
  · exact .inl h
  · refine .inr ⟨h, ?_⟩
    have : ¬ y.2.1 < i.2.1 := fun hh => h1 (lt_iff.2 (.inr ⟨h.symm, hh⟩))
    have : y.2.1 ≠ i.2.1 := fun hh => h2 ⟨h.symm, hh⟩
    omega
  · exact absurd (lt_iff.2 (.inl h)) h1

theorem ins_srt {L : List Item} {i : Item} (hs : Srt L) (hn : has L i.1 i.2.1 = false) : Srt (L.take (posL L i.1 i.2.1) ++ [i] ++ L.drop (posL L i.1 i.2.1)) := by
  have hs' := hs
  rw [← List.take_append_drop (posL L i.1 i.2.1) L] at hs'
  obtain ⟨h1, h2, h3⟩ := List.pairwise_append.1 hs'
  rw [Srt, List.append_assoc, List.pairwise_append]
  refine ⟨h1, ?_, ?_⟩
  · rw [List.singleton_append, List.pairwise_cons]
    exact ⟨before_new hs hn, h2⟩
  · intro a ha b hb
    rw [List.singleton_append] at hb
    rcases List.mem_cons.1 hb with rfl | hb
    · exact pos_take a ha
    · exact h3 a ha b hb
theorem cut_srt {L : List Item} (n : Nat) (hs : Srt L) : Srt (L.take n ++ L.drop (n + 1)) := by
  refine List.Pairwise.sublist ?_ hs
  conv => rhs; rw [← List.take_append_drop n L]
  refine (List.Sublist.refl _).append ?_
  rw [show L.drop (n + 1) = (L.drop n).drop 1 by rw [List.drop_drop]]
  exact List.drop_sublist _ _
theorem set_srt {L : List Item} {n : Nat} {y : Item} (h : n < L.length) (hs : Srt L) (hk : y.1 = L[n].1) (hst : y.2.1 = L[n].2.1) : Srt (L.take n ++ [y] ++ L.drop (n + 1)) := by
  have e := split_at h
  rw [e] at hs
  obtain ⟨h1, h2, h3⟩ := List.pairwise_append.1 hs
  obtain ⟨h4, h5⟩ := List.pairwise_cons.1 h2
  rw [Srt, List.append_assoc, List.pairwise_append]
  refine ⟨h1, ?_, ?_⟩
  · rw [List.singleton_append, List.pairwise_cons]
    refine ⟨fun b hb => ?_, h5⟩
    have := h4 b hb
    rw [before, lt_iff] at this ⊢
    rw [hk, hst]; exact this
  · intro a ha b hb
    rw [List.singleton_append] at hb
    rcases List.mem_cons.1 hb with rfl | hb
    · have := h3 a ha L[n] List.mem_cons_self
      rw [before] at this ⊢
      rw [hk, hst]; exact this
    · exact h3 a ha b (List.mem_cons_of_mem _ hb)

section
variable {W : Int} {bs : List (List Item)} {k : ByteArray} {s : Int}

theorem find_has (hG : Good W bs) (hs : i64r s) : (findM bs k s).2.2 = has bs.flatten k s ∧ (s < 9223372036854775807 → (bs.take (findM bs k s).1).flatten.length + (findM bs k s).2.1 = posL bs.flatten k s) := by
  by_cases h0 : bs = []
  · subst h0; exact ⟨rfl, fun _ => rfl⟩
  by_cases h1 : s < 9223372036854775807
  · have := findM_flat (k := k) hG.ne hG.srt h0 (wrap_in (s + 1) ⟨by have := hs.1; omega, by omega⟩)
    exact ⟨this.2, fun _ => this.1⟩
  · refine ⟨?_, fun h => absurd h h1⟩
    have hbig : ∀ x ∈ bs.flatten, ¬ atP x k s := fun x hx ha => by
      have := hG.ok x hx
      unfold okI at this
      have := ha.2
      omega
    have e1 : (findM bs k s).2.2 = false := by
      rw [Bool.eq_false_iff]
      intro h
      obtain ⟨hn, hq, h2, h3⟩ := findM_true h
      exact hbig _ (List.mem_flatten.2 ⟨_, List.getElem_mem hn, List.getElem_mem hq⟩) ⟨h2, h3⟩
    have e2 : has bs.flatten k s = false := by
      rw [Bool.eq_false_iff]
      intro h
      obtain ⟨x, hx, ha⟩ := (has_iff hG.srt).1 h
      exact hbig x hx ha
    rw [e1, e2]

theorem getM_flat (hG : Good W bs) (hs : i64r s) : getM bs k s = getL bs.flatten k s := by
  obtain ⟨h1, h2⟩ := find_has (k := k) hG hs
  unfold getM getL
  rw [← h1]
  cases hf : (findM bs k s).2.2 with
  | false => simp
  | true =>
    obtain ⟨hn, hq, ha⟩ := findM_true hf
    have hok := hG.ok _ (List.mem_flatten.2 ⟨_, List.getElem_mem hn, List.getElem_mem hq⟩)
    have hpos := h2 (by unfold okI at hok; have := ha.2; omega)
    simp only [if_true]
    rw [← hpos]
    have e := split_at hn
    have hfl : bs.flatten = (bs.take (findM bs k s).1).flatten ++ (bs[(findM bs k s).1] ++ (bs.drop ((findM bs k s).1 + 1)).flatten) := by
      conv => lhs; rw [e]
      rw [List.flatten_append, List.flatten_cons]
    rw [List.getElem?_eq_getElem hn, hfl, List.getElem?_append_right (by omega), Nat.add_sub_cancel_left, List.getElem?_append_left hq]
    rfl

theorem flat_edit {n q q' : Nat} (hn : n < bs.length) (hq : q ≤ bs[n].length) (hq' : q' ≤ bs[n].length) (ys : List Item) :
    (bs.take n ++ (bs[n].take q ++ ys ++ bs[n].drop q') :: bs.drop (n + 1)).flatten = bs.flatten.take ((bs.take n).flatten.length + q) ++ ys ++ bs.flatten.drop ((bs.take n).flatten.length + q') := by
  have e := split_at hn
  have hfl : bs.flatten = (bs.take n).flatten ++ (bs[n] ++ (bs.drop (n + 1)).flatten) := by
    conv => lhs; rw [e]
    rw [List.flatten_append, List.flatten_cons]
  rw [hfl, List.take_length_add_append, List.drop_length_add_append, List.take_append_of_le_length hq, List.drop_append_of_le_length hq']
  rw [List.flatten_append, List.flatten_cons]
  simp only [List.append_assoc]
theorem set_parts {α : Type} {l : List α} {n : Nat} (hn : n < l.length) (y : α) : l.set n y = l.take n ++ y :: l.drop (n + 1) := by
  rw [List.set_eq_take_append_cons_drop, if_pos hn]
theorem take_len {α : Type} {l : List α} {n : Nat} (hn : n < l.length) : (l.take n).length = n := by rw [List.length_take]; omega

theorem insM_flat {i : Item} (hW : 2 ≤ W) (hG : Good W bs) (hs : i64r i.2.1) : (insM W bs i).1 = (insL bs.flatten i).1 ∧ (insM W bs i).2.flatten = (insL bs.flatten i).2 ∧ Good W (insM W bs i).2 := by
  obtain ⟨h1, h2⟩ := find_has (k := i.1) hG hs
  unfold insM insL
  split
  · exact ⟨rfl, rfl, hG⟩
  rename_i hb
  have hok : okI i := by unfold badI at hb; unfold okI; omega
  by_cases h0 : bs = []
  · subst h0
    refine ⟨rfl, rfl, ⟨⟨fun b hb => by simp at hb; subst hb; simp, fun b hb => by simp at hb; subst hb; simp; omega, trivial⟩, ?_, fun x hx => ?_⟩⟩
    · show Srt [i]; exact List.pairwise_singleton ..
    · simp at hx; subst hx; exact hok
  rw [if_neg h0, ← h1]
  split
  · exact ⟨rfl, rfl, hG⟩
  rename_i hf
  have hf : (findM bs i.1 i.2.1).2.2 = false := by simpa using hf
  have hpos := h2 (by unfold okI at hok; omega)
  obtain ⟨hn, hq⟩ := findM_in (k := i.1) (s := i.2.1) h0
  rw [hf] at h1
  rw [blk_eq hn, set_parts hn, ← hpos]
  generalize (findM bs i.1 i.2.1).2.1 = q at *
  generalize (findM bs i.1 i.2.1).1 = n at *
  have hsp := split_good (P := bs.take n) (Q := bs.drop (n + 1)) (l := bs[n]) (l' := bs[n].take q ++ [i] ++ bs[n].drop q) hW (by rw [← split_at hn]; exact hG.toShp) (by simp; omega)
  rw [take_len hn, flat_edit hn hq hq] at hsp
  refine ⟨rfl, hsp.2, hsp.1, ?_, fun x hx => ?_⟩
  · rw [hsp.2, hpos]; exact ins_srt hG.srt h1.symm
  · rw [hsp.2] at hx
    rcases List.mem_append.1 hx with hx | hx
    · rcases List.mem_append.1 hx with hx | hx
      · exact hG.ok x (List.mem_of_mem_take hx)
      · simp at hx; subst hx; exact hok
    · exact hG.ok x (List.mem_of_mem_drop hx)

theorem closeM_flat {e : Int} (hG : Good W bs) (hs : i64r s) : (closeM bs k s e).1 = (closeL bs.flatten k s e).1 ∧ (closeM bs k s e).2.flatten = (closeL bs.flatten k s e).2 ∧ Good W (closeM bs k s e).2 := by
  obtain ⟨h1, h2⟩ := find_has (k := k) hG hs
  have hg := getM_flat (k := k) hG hs
  unfold closeM closeL
  rw [← hg]
  split
  · exact ⟨rfl, rfl, hG⟩
  rename_i her
  split
  · exact ⟨rfl, rfl, hG⟩
  rename_i hen
  split
  · exact ⟨rfl, rfl, hG⟩
  rename_i hc
  have hf := getM_err her
  obtain ⟨hn, hq, ha⟩ := findM_true hf
  have hok := hG.ok _ (List.mem_flatten.2 ⟨_, List.getElem_mem hn, List.getElem_mem hq⟩)
  have hpos := h2 (by unfold okI at hok; have := ha.2; omega)
  have hx : (getM bs k s).1 = bs[(findM bs k s).1][(findM bs k s).2.1] := by
    unfold getM
    rw [hf]; simp [hn, hq]
  rw [hx]
  rw [blk_eq hn, set_parts hn, ← hpos]
  generalize (findM bs k s).2.1 = q at *
  generalize (findM bs k s).1 = n at *
  rw [flat_edit hn (Nat.le_of_lt hq) hq]
  have hflat : bs.flatten[(bs.take n).flatten.length + q]? = some bs[n][q] := by
    have e := split_at hn
    have hfl : bs.flatten = (bs.take n).flatten ++ (bs[n] ++ (bs.drop (n + 1)).flatten) := by
      conv => lhs; rw [e]
      rw [List.flatten_append, List.flatten_cons]
    rw [hfl, List.getElem?_append_right (by omega), Nat.add_sub_cancel_left, List.getElem?_append_left hq, List.getElem?_eq_getElem hq]
  obtain ⟨hlt, hel⟩ := List.getElem?_eq_some_iff.1 hflat
  refine ⟨rfl, by rw [Nat.add_assoc], ?_, ?_, ?_⟩
  · have hp := Shp.parts (P := bs.take n) (Q := bs.drop (n + 1)) (l := bs[n]) (W := W) (by rw [← split_at hn]; exact hG.toShp)
    obtain ⟨a1, a2, a3, a4, a5, a6, a7, a8⟩ := hp
    have hlen : (bs[n].take q ++ [withEnd bs[n][q] e] ++ bs[n].drop (q + 1)).length = bs[n].length := by simp; omega
    exact Shp.mid a1 a2 (by simp) (by rw [hlen]; exact a4) a5 a6 (by rw [hlen]; exact a7) (by rw [hlen]; exact a8)
  · rw [flat_edit hn (Nat.le_of_lt hq) hq]
    exact set_srt hlt hG.srt (by rw [hel]; rfl) (by rw [hel]; rfl)
  · intro x hx
    rw [flat_edit hn (Nat.le_of_lt hq) hq] at hx
    rcases List.mem_append.1 hx with hx | hx
    · rcases List.mem_append.1 hx with hx | hx
      · exact hG.ok x (List.mem_of_mem_take hx)
      · simp only [List.mem_singleton] at hx
        subst hx
        unfold okI at hok ⊢
        have := ha.2
        simp only [withEnd]
        omega
    · exact hG.ok x (List.mem_of_mem_drop hx)

theorem delM_flat (hW : 2 ≤ W) (hG : Good W bs) (hs : i64r s) : (delM W bs k s).1 = (delL bs.flatten k s).1 ∧ (delM W bs k s).2.flatten = (delL bs.flatten k s).2 ∧ Good W (delM W bs k s).2 := by
  obtain ⟨h1, h2⟩ := find_has (k := k) hG hs
  have hg := getM_flat (k := k) hG hs
  unfold delM delL
  rw [← hg]
  split
  · exact ⟨rfl, rfl, hG⟩
  rename_i her
  have hf := getM_err her
  obtain ⟨hn, hq, ha⟩ := findM_true hf
  have hok := hG.ok _ (List.mem_flatten.2 ⟨_, List.getElem_mem hn, List.getElem_mem hq⟩)
  have hpos := h2 (by unfold okI at hok; have := ha.2; omega)
  rw [blk_eq hn, set_parts hn, ← hpos]
  generalize (findM bs k s).2.1 = q at *
  generalize (findM bs k s).1 = n at *
  have hcl : (cutAt bs[n] q).length = bs[n].length - 1 := by unfold cutAt; simp; omega
  have hfe := flat_edit hn (Nat.le_of_lt hq) (q' := q + 1) hq []
  rw [List.append_nil, List.append_nil, show bs[n].take q ++ bs[n].drop (q + 1) = cutAt bs[n] q from rfl, ← Nat.add_assoc] at hfe
  obtain ⟨a1, a2, a3, a4, a5, a6, a7, a8⟩ := Shp.parts (P := bs.take n) (Q := bs.drop (n + 1)) (l := bs[n]) (W := W) (by rw [← split_at hn]; exact hG.toShp)
  have fin : ∀ bs' : List (List Item), Shp W bs' → bs'.flatten = bs.flatten.take ((bs.take n).flatten.length + q) ++ bs.flatten.drop ((bs.take n).flatten.length + q + 1) → Good W bs' := fun bs' hsh hfl =>
    ⟨hsh, by rw [hfl]; exact cut_srt _ hG.srt, fun x hx => by
      rw [hfl] at hx
      rcases List.mem_append.1 hx with hx | hx
      · exact hG.ok x (List.mem_of_mem_take hx)
      · exact hG.ok x (List.mem_of_mem_drop hx)⟩
  split
  · rename_i hnil
    rw [hnil] at hfe hcl
    have hl1 : bs[n].length = 1 := by have := List.length_pos_iff.2 a3; simp at hcl; omega
    have hc := cut_good (P := bs.take n) (Q := bs.drop (n + 1)) (l := bs[n]) hW (by rw [← split_at hn]; exact hG.toShp) hl1
    rw [take_len hn] at hc
    have hfl : (bs.take n ++ bs.drop (n + 1)).flatten = (bs.take n ++ [] :: bs.drop (n + 1)).flatten := by simp
    rw [hfl, hfe] at hc
    exact ⟨rfl, hc.2, fin _ hc.1 hc.2⟩
  · rename_i hnil
    have hpos' := List.length_pos_iff.2 hnil
    have hm := merge_good (W := W) (P := bs.take n) (Q := bs.drop (n + 1)) (m := cutAt bs[n] q) hW a1 a2 hnil (by omega) a5 a6 (fun c h => by have := a7 c h; omega) (fun c h => by have := a8 c h; omega)
    rw [take_len hn, hfe] at hm
    exact ⟨rfl, hm.2, fin _ hm.1 hm.2⟩
end
end Go.Proofs.Ytoaalegieaocbaa
