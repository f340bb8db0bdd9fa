/- From what holds to the row: below the old heap nothing has turned; arguments that came in, opened. -/
import Derived.Test.YtoaalegieaocbaaShW
import Derived.ProofKit
import Derived.Below
import Derived.Carry
namespace Go.Sh
open Go.RowKit (Below)

theorem Holds.below {W w' : World} {L : List HProp} (h : Holds W w' (Sh.old W :: L)) : Below W.heap.size W w' where
  os := h.os
  tape := h.tape
  output := h.output
  size := by
    rcases Nat.eq_zero_or_pos W.heap.size with h0 | h0
    · omega
    · have hlt : W.heap.size - 1 < W.heap.size := by omega
      have := h.old (b := W.heap.size - 1) (o := W.heap[W.heap.size - 1]) (by simp [hlt])
      have := own_size_lt this
      omega
  block := fun k hk => by
    have := h.old (b := k) (o := W.heap[k]) (by simp [hk])
    rw [this]; simp [hk]

theorem reads_of_cells {w : World} {a : Addr} {len cap sz : Nat} {cs : List Value} (hl : cs.length = len * sz) (h : ∀ i, i < cs.length → w.cell? (a.add i) = cs[i]?) : Reads w ⟨some a, len, cap⟩ sz cs := by
  refine ⟨hl, fun hne => ?_⟩
  have hpos : 0 < cs.length := List.length_pos_iff.2 hne
  have h0 := h 0 hpos
  obtain ⟨b, off, spot⟩ := a
  have e0 : Addr.add ⟨b, off, spot⟩ 0 = ⟨b, off, spot⟩ := rfl
  rw [e0, List.getElem?_eq_getElem hpos] at h0
  have hspot : spot = none := by
    cases spot with
    | none => rfl
    | some s =>
      unfold World.cell? at h0
      cases hb : w.heap[b]? with
      | none => simp [hb] at h0
      | some o => cases o <;> simp [hb] at h0
  subst hspot
  unfold World.cell? at h0
  cases hb : w.heap[b]? with
  | none => simp [hb] at h0
  | some o =>
    cases o with
    | cells c T fr =>
      refine ⟨b, off, c, T, fr, rfl, hb, fun i hi => ?_⟩
      have := h i hi
      rw [Addr.add_mk, cell_of hb] at this
      exact this
    | _ => simp [hb] at h0

theorem list_choose {α : Type} {p : Nat → α → Prop} : ∀ (n : Nat), (∀ i, i < n → ∃ x, p i x) → ∃ l : List α, l.length = n ∧ ∀ i (h : i < l.length), p i l[i]
  | 0, _ => ⟨[], rfl, fun i h => by simp at h⟩
  | n + 1, h => by
    obtain ⟨l, hl, hp⟩ := list_choose n fun i hi => h i (by omega)
    obtain ⟨x, hx⟩ := h n (by omega)
    refine ⟨l ++ [x], by simp [hl], fun i hi => ?_⟩
    by_cases hin : i < l.length
    · rw [List.getElem_append_left hin]; exact hp i hin
    · have : i = n := by simp at hi; omega
      subst this
      rw [List.getElem_append_right (by omega)]
      simp only [hl, Nat.sub_self, List.getElem_cons_zero]
      exact hx

section
variable {H : Type} {enc : TypeId × Value → H} {P : Program} {w : World} {spare : Nat → Bool} {held : Bool}

/-- a slice that came in: what its elements are, element by element -/
theorem open_sl {α : Type} {t e : TypeId} {fuel sz : Nat} {v : Value} {x : DataW H × List MemPlace} {q : α → Prop} (encα : α → List Value) (hlen : ∀ a, (encα a).length = sz)
    (ht : P.underlying t = some (.slice e)) (hsz : P.cellsOf e = sz)
    (hel : ∀ (n : Nat) (cs : List Value) (y : DataW H × List MemPlace), DataW.trod enc P w 0 spare held n e cs = some y → ∃ a, cs = encα a ∧ q a)
    (h : DataW.trod enc P w 0 spare held fuel t v.cells.toList = some x) :
    ∃ (s : Sl) (l : List α), v.cells.toList = [.slice s.a s.len s.cap] ∧ Reads w s sz (l.flatMap encα) ∧ s.len = l.length ∧ s.len ≤ s.cap ∧ s.cap ≤ maxLen ∧ ∀ a ∈ l, q a := by
  rcases DataW.trod_slice ht h with ⟨hcs, _⟩ | ⟨a, len, cap, elems, rest, n, _, hcs, _, _, hle, hm, hl, hx, _⟩
  · exact ⟨⟨none, 0, 0⟩, [], hcs, ⟨by simp, fun h => absurd rfl h⟩, rfl, Nat.le_refl _, Nat.zero_le _, fun a h => by cases h⟩
  · obtain ⟨l, hll, hp⟩ := list_choose (p := fun i (b : α) => (∀ j, j < sz → w.cell? (a.add (i * sz + j)) = (encα b)[j]?) ∧ q b) len fun i hi => by
      have h1 := hx i hi
      rw [hsz] at h1
      have hsome : elems[i]? = some elems[i] := List.getElem?_eq_getElem (by omega)
      rw [hsome] at h1
      cases hc : w.cells? 0 (a.add (i * sz)) sz with
      | none => rw [hc] at h1; cases h1
      | some cs =>
        rw [hc] at h1
        obtain ⟨b, rfl, hq⟩ := hel n cs _ h1
        obtain ⟨_, _, hcell⟩ := World.cells?_some hc
        refine ⟨b, fun j hj => ?_, hq⟩
        rw [← hcell j hj]
        congr 1
        obtain ⟨bb, off, spot⟩ := a
        cases spot with
        | none => rw [Addr.add_mk, Addr.add_mk, Addr.add_mk, Nat.add_assoc]
        | some s =>
          -- an address within a byte reads as nothing
          have h0 := hcell 0 (by omega)
          by_cases hi0 : i * sz = 0
          · rw [hi0]; simp only [Nat.zero_add]; rfl
          · by_cases hj0 : j = 0
            · subst hj0; rfl
            · unfold Addr.add
              rw [if_neg (by omega), if_neg hi0]
              simp only []
              rw [if_neg hj0]
              simp only [Nat.add_assoc]
    refine ⟨⟨some a, len, cap⟩, l, hcs, reads_of_cells (by rw [flat_len encα sz hlen, hll]) (fun i hi => ?_), hll.symm, hle, hm, fun b hb => ?_⟩
    · rw [flat_len encα sz hlen] at hi
      rcases Nat.eq_zero_or_pos sz with h0 | h0
      · rw [h0] at hi; simp at hi
      · have hd : i / sz < l.length := by rw [Nat.div_lt_iff_lt_mul h0]; exact hi
        have hm' : i % sz < sz := Nat.mod_lt _ h0
        have e : i = i / sz * sz + i % sz := by rw [Nat.mul_comm]; exact (Nat.div_add_mod i sz).symm
        have h1 := (hp (i / sz) hd).1 (i % sz) hm'
        rw [← e] at h1
        rw [h1]
        have h2 := flat_get encα sz hlen l (i / sz) (i % sz) hm'
        rw [← e, List.getElem?_eq_getElem hd] at h2
        exact h2.symm
    · obtain ⟨i, hi, rfl⟩ := List.getElem_of_mem hb
      exact (hp i hi).2
end
end Go.Sh
