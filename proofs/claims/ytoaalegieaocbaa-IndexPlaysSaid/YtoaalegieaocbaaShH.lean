/- Assertions on the heap: blocks that are one's own, blocks that stay as they are, and the list of what holds. -/
import Derived.Test.YtoaalegieaocbaaShC
namespace Go.Sh

abbrev Hp := Nat → Option (Bool × Obj)
abbrev HProp := Hp → Prop

def compat (h1 h2 : Hp) : Prop := ∀ b, h1 b = none ∨ h2 b = none ∨ (h1 b = h2 b ∧ ∃ o, h1 b = some (true, o))
def hunion (h1 h2 : Hp) : Hp := fun b => (h1 b).or (h2 b)

theorem compat.symm {h1 h2 : Hp} (h : compat h1 h2) : compat h2 h1 := fun b => by
  rcases h b with h | h | ⟨h, o, ho⟩
  · exact .inr (.inl h)
  · exact .inl h
  · exact .inr (.inr ⟨h.symm, o, h ▸ ho⟩)
theorem hunion_comm {h1 h2 : Hp} (h : compat h1 h2) : hunion h1 h2 = hunion h2 h1 := by
  funext b
  simp only [hunion]
  rcases h b with h | h | ⟨h, o, ho⟩
  · rw [h]; simp
  · rw [h]; simp
  · rw [h]
theorem hunion_assoc (h1 h2 h3 : Hp) : hunion (hunion h1 h2) h3 = hunion h1 (hunion h2 h3) := by
  funext b; simp only [hunion]; cases h1 b <;> simp
theorem hunion_none_left {h1 h2 : Hp} {b : Nat} (h : h1 b = none) : hunion h1 h2 b = h2 b := by simp [hunion, h]
theorem hunion_some_left {h1 h2 : Hp} {b : Nat} {x : Bool × Obj} (h : h1 b = some x) : hunion h1 h2 b = some x := by simp [hunion, h]

def hstar (A B : HProp) : HProp := fun h => ∃ h1 h2, compat h1 h2 ∧ h = hunion h1 h2 ∧ A h1 ∧ B h2
def hemp : HProp := fun h => h = fun _ => none
def hpure (φ : Prop) : HProp := fun h => φ ∧ h = fun _ => none
def hex {α : Type} (A : α → HProp) : HProp := fun h => ∃ x, A x h
/-- a block of one's own -/
def pto (b : Nat) (o : Obj) : HProp := fun h => h = fun x => if x = b then some (false, o) else none
/-- a block that stays as it is -/
def rob (b : Nat) (o : Obj) : HProp := fun h => h = fun x => if x = b then some (true, o) else none
/-- all blocks of a world, as they are -/
def old (w0 : World) : HProp := fun h => h = fun b => (w0.heap[b]?).map fun o => (true, o)

def stars : List HProp → HProp
  | [] => hemp
  | A :: L => hstar A (stars L)

theorem compat_union_left {h1 h2 h3 : Hp} (h12 : compat h1 h2) (h : compat (hunion h1 h2) h3) : compat h1 h3 ∧ compat h2 h3 := by
  constructor
  · intro b
    rcases h b with h | h | ⟨h, o, ho⟩
    · left
      simp only [hunion] at h
      cases hb : h1 b with
      | none => rfl
      | some x => rw [hb] at h; simp at h
    · exact .inr (.inl h)
    · cases hb : h1 b with
      | none => exact .inl rfl
      | some x =>
        rw [hunion_some_left hb] at h ho
        exact .inr (.inr ⟨h, o, ho⟩)
  · intro b
    rcases h b with h | h | ⟨h, o, ho⟩
    · left
      simp only [hunion] at h
      cases hb : h1 b with
      | none => rw [hb] at h; simpa using h
      | some x => rw [hb] at h; simp at h
    · exact .inr (.inl h)
    · cases hb : h1 b with
      | none => rw [hunion_none_left hb] at h ho; exact .inr (.inr ⟨h, o, ho⟩)
      | some x =>
        rw [hunion_some_left hb] at h ho
        rcases h12 b with h' | h' | ⟨h', _⟩
        · rw [hb] at h'; cases h'
        · exact .inl h'
        · right; right
          rw [← h', hb]
          exact ⟨h, o, ho⟩

theorem compat_union_of {h1 h2 h3 : Hp} (h13 : compat h1 h3) (h23 : compat h2 h3) : compat (hunion h1 h2) h3 := by
  intro b
  cases hb : h1 b with
  | none => rw [hunion_none_left hb]; exact h23 b
  | some x =>
    rw [hunion_some_left hb]
    rcases h13 b with h | h | ⟨h, o, ho⟩
    · rw [hb] at h; cases h
    · exact .inr (.inl h)
    · rw [hb] at h ho; exact .inr (.inr ⟨h, o, ho⟩)

theorem hstar_comm {A B : HProp} {h : Hp} (hh : hstar A B h) : hstar B A h := by
  obtain ⟨h1, h2, hc, rfl, ha, hb⟩ := hh
  exact ⟨h2, h1, hc.symm, hunion_comm hc, hb, ha⟩
theorem hstar_assoc {A B C : HProp} {h : Hp} (hh : hstar (hstar A B) C h) : hstar A (hstar B C) h := by
  obtain ⟨_, h3, hc, rfl, ⟨h1, h2, hc12, rfl, ha, hb⟩, hcc⟩ := hh
  obtain ⟨h13, h23⟩ := compat_union_left hc12 hc
  exact ⟨h1, hunion h2 h3, (compat_union_of hc12.symm h13.symm).symm, hunion_assoc _ _ _, ha, h2, h3, h23, rfl, hb, hcc⟩
theorem hstar_assoc' {A B C : HProp} {h : Hp} (hh : hstar A (hstar B C) h) : hstar (hstar A B) C h := by
  have h1 := hstar_comm hh
  have h2 : hstar (hstar C B) A h := by
    obtain ⟨x, y, hc, he, hx, hy⟩ := h1
    exact ⟨x, y, hc, he, hstar_comm hx, hy⟩
  have h3 := hstar_comm (hstar_assoc h2)
  obtain ⟨x, y, hc, he, hx, hy⟩ := h3
  exact ⟨x, y, hc, he, hstar_comm hx, hy⟩
theorem hstar_mono {A A' B B' : HProp} (ha : ∀ h, A h → A' h) (hb : ∀ h, B h → B' h) {h : Hp} (hh : hstar A B h) : hstar A' B' h := by
  obtain ⟨h1, h2, hc, he, h3, h4⟩ := hh
  exact ⟨h1, h2, hc, he, ha _ h3, hb _ h4⟩
theorem hstar_swap {A B C : HProp} {h : Hp} (hh : hstar A (hstar B C) h) : hstar B (hstar A C) h :=
  hstar_assoc (hstar_mono (fun _ h => hstar_comm h) (fun _ h => h) (hstar_assoc' hh))

/-- A stands in L; L' is the rest -/
inductive Pick : List HProp → HProp → List HProp → Prop where
  | head {A : HProp} {L : List HProp} : Pick (A :: L) A L
  | tail {A B : HProp} {L L' : List HProp} (h : Pick L A L') : Pick (B :: L) A (B :: L')

theorem stars_pick : ∀ {L : List HProp} {A : HProp} {L' : List HProp}, Pick L A L' → ∀ {h : Hp}, stars L h → stars (A :: L') h
  | _, _, _, .head, _, hh => hh
  | _, _, _, .tail p, _, hh => hstar_swap (hstar_mono (fun _ h => h) (fun _ h => stars_pick p h) hh)
theorem stars_unpick : ∀ {L : List HProp} {A : HProp} {L' : List HProp}, Pick L A L' → ∀ {h : Hp}, stars (A :: L') h → stars L h
  | _, _, _, .head, _, hh => hh
  | _, _, _, .tail p, _, hh => hstar_mono (fun _ h => h) (fun _ h => stars_unpick p h) (hstar_swap hh)

structure Holds (E : World) (w : World) (L : List HProp) : Prop where
  tape : w.tape = E.tape
  os : w.os = E.os
  output : w.output = E.output
  heap : ∃ h : Hp, (∀ b x o, h b = some (x, o) → w.heap[b]? = some o) ∧ stars L h

section
variable {E w : World} {L L' : List HProp} {A B : HProp}

theorem Holds.imp (h : Holds E w L) (hi : ∀ h, stars L h → stars L' h) : Holds E w L' :=
  ⟨h.tape, h.os, h.output, let ⟨x, h1, h2⟩ := h.heap; ⟨x, h1, hi x h2⟩⟩
theorem Holds.pick (h : Holds E w L) (p : Pick L A L') : Holds E w (A :: L') := h.imp fun _ => stars_pick p
theorem Holds.unpick (h : Holds E w (A :: L')) (p : Pick L A L') : Holds E w L := h.imp fun _ => stars_unpick p
theorem Holds.mono (h : Holds E w (A :: L)) (hi : ∀ h, A h → B h) : Holds E w (B :: L) := h.imp fun _ => hstar_mono hi fun _ h => h
theorem Holds.swap {B : HProp} (h : Holds E w (A :: B :: L)) : Holds E w (B :: A :: L) := h.imp fun _ => hstar_swap
theorem Holds.drop (h : Holds E w (A :: L)) : Holds E w L :=
  ⟨h.tape, h.os, h.output, by
    obtain ⟨_, h1, h2, h3, hc, rfl, h5, h6⟩ := h.heap
    refine ⟨h3, fun b x o hb => h1 b x o ?_, h6⟩
    rcases hc b with h | h | ⟨h, _⟩
    · rw [hunion_none_left h]; exact hb
    · rw [h] at hb; cases hb
    · rw [hunion_some_left (h.trans hb)]⟩
theorem Holds.star_out (h : Holds E w (hstar A B :: L)) : Holds E w (A :: B :: L) := h.imp fun _ => hstar_assoc
theorem Holds.star_in (h : Holds E w (A :: B :: L)) : Holds E w (hstar A B :: L) := h.imp fun _ => hstar_assoc'
theorem Holds.star3_in {C : HProp} (h : Holds E w (A :: B :: C :: L)) : Holds E w (hstar A (hstar B C) :: L) :=
  h.imp fun _ hx => hstar_assoc' (hstar_mono (fun _ h => h) (fun _ h => hstar_assoc' h) hx)
theorem Holds.star3_out {C : HProp} (h : Holds E w (hstar A (hstar B C) :: L)) : Holds E w (A :: B :: C :: L) :=
  h.imp fun _ hx => hstar_mono (fun _ h => h) (fun _ h => hstar_assoc h) (hstar_assoc hx)
theorem Holds.ex_out {α : Type} {A : α → HProp} (h : Holds E w (hex A :: L)) : ∃ x, Holds E w (A x :: L) := by
  obtain ⟨_, h1, h2, h3, hc, rfl, ⟨x, hx⟩, h6⟩ := h.heap
  exact ⟨x, h.tape, h.os, h.output, _, h1, h2, h3, hc, rfl, hx, h6⟩
theorem Holds.ex_in {α : Type} {A : α → HProp} (x : α) (h : Holds E w (A x :: L)) : Holds E w (hex A :: L) := h.mono fun _ ha => ⟨x, ha⟩
theorem Holds.pure_out {φ : Prop} (h : Holds E w (hpure φ :: L)) : φ ∧ Holds E w L := by
  refine ⟨?_, h.drop⟩
  obtain ⟨_, _, _, _, _, _, hφ, _⟩ := h.heap
  exact hφ.1
theorem Holds.pure_in {φ : Prop} (hφ : φ) (h : Holds E w L) : Holds E w (hpure φ :: L) :=
  h.imp fun x hx => ⟨fun _ => none, x, fun _ => .inl rfl, by funext b; simp [hunion], ⟨hφ, rfl⟩, hx⟩
theorem Holds.emp_in (h : Holds E w L) : Holds E w (hemp :: L) :=
  h.imp fun x hx => ⟨fun _ => none, x, fun _ => .inl rfl, by funext b; simp [hunion], rfl, hx⟩

theorem Holds.own {b : Nat} {o : Obj} (h : Holds E w (pto b o :: L)) : w.heap[b]? = some o := by
  obtain ⟨_, h1, h2, h3, hc, rfl, rfl, h6⟩ := h.heap
  exact h1 b false o (hunion_some_left (by simp))
theorem Holds.ro {b : Nat} {o : Obj} (h : Holds E w (rob b o :: L)) : w.heap[b]? = some o := by
  obtain ⟨_, h1, h2, h3, hc, rfl, rfl, h6⟩ := h.heap
  exact h1 b true o (hunion_some_left (by simp))
theorem Holds.old {w0 : World} (h : Holds E w (Sh.old w0 :: L)) {b : Nat} {o : Obj} (hb : w0.heap[b]? = some o) : w.heap[b]? = some o := by
  obtain ⟨_, h1, h2, h3, hc, rfl, rfl, h6⟩ := h.heap
  exact h1 b true o (hunion_some_left (by simp [hb]))

theorem Holds.freeze {b : Nat} {o : Obj} (h : Holds E w (pto b o :: L)) : Holds E w (rob b o :: L) := by
  obtain ⟨_, h1, h2, h3, hc, rfl, rfl, h6⟩ := h.heap
  have hb : h3 b = none := by
    rcases hc b with h | h | ⟨_, o', h⟩
    · simp at h
    · exact h
    · simp at h
  refine ⟨h.tape, h.os, h.output, _, ?_, fun x => if x = b then some (true, o) else none, h3, ?_, rfl, rfl, h6⟩
  · intro x y o' hx
    by_cases he : x = b
    · subst he
      rw [hunion_some_left (x := (true, o)) (by simp)] at hx
      cases hx
      exact h1 x false o (hunion_some_left (by simp))
    · rw [hunion_none_left (by simp [he])] at hx
      exact h1 x y o' (by rw [hunion_none_left (by simp [he])]; exact hx)
  · intro x
    by_cases he : x = b
    · subst he; exact .inr (.inl hb)
    · exact .inl (by simp [he])

theorem Holds.dup {b : Nat} {o : Obj} (h : Holds E w (rob b o :: L)) : Holds E w (rob b o :: rob b o :: L) :=
  h.imp fun x hx => by
    obtain ⟨h1, h2, hc, rfl, rfl, h3⟩ := hx
    refine ⟨_, _, ?_, ?_, rfl, _, h2, hc, rfl, rfl, h3⟩
    · intro x
      by_cases he : x = b
      · subst he; exact .inr (.inr ⟨by rw [hunion_some_left (x := (true, o)) (by simp)]; simp, o, by simp⟩)
      · exact .inl (by simp [he])
    · funext x
      by_cases he : x = b
      · subst he; simp [hunion]
      · simp [hunion, he]
theorem Holds.dup_old {w0 : World} (h : Holds E w (Sh.old w0 :: L)) : Holds E w (Sh.old w0 :: Sh.old w0 :: L) :=
  h.imp fun x hx => by
    obtain ⟨h1, h2, hc, rfl, rfl, h3⟩ := hx
    refine ⟨_, _, ?_, ?_, rfl, _, h2, hc, rfl, rfl, h3⟩
    · intro x
      cases he : w0.heap[x]? with
      | none => exact .inl (by dsimp only; rw [he]; rfl)
      | some o => exact .inr (.inr ⟨by simp only [hunion]; rw [he]; rfl, o, by dsimp only; rw [he]; rfl⟩)
    · funext x
      cases he : w0.heap[x]? with
      | none => simp [hunion, he]
      | some o => simp [hunion, he]

/-- a block's content is turned -/
theorem Holds.set {b : Nat} {o o' : Obj} (h : Holds E w (pto b o :: L)) : Holds E { w with heap := w.heap.setIfInBounds b o' } (pto b o' :: L) := by
  obtain ⟨_, h1, h2, h3, hc, rfl, rfl, h6⟩ := h.heap
  have hown := h.own
  have hlt : b < w.heap.size := by
    rcases Nat.lt_or_ge b w.heap.size with h' | h'
    · exact h'
    · simp [Array.getElem?_eq_none h'] at hown
  have hb : h3 b = none := by
    rcases hc b with h | h | ⟨_, o', h⟩
    · simp at h
    · exact h
    · simp at h
  refine ⟨h.tape, h.os, h.output, _, ?_, fun x => if x = b then some (false, o') else none, h3, ?_, rfl, rfl, h6⟩
  · intro x y o'' hx
    simp only [Array.getElem?_setIfInBounds]
    by_cases he : x = b
    · subst he
      rw [hunion_some_left (x := (false, o')) (by simp)] at hx
      cases hx
      simp [hlt]
    · rw [hunion_none_left (by simp [he])] at hx
      rw [if_neg (Ne.symm he)]
      exact h1 x y o'' (by rw [hunion_none_left (by simp [he])]; exact hx)
  · intro x
    by_cases he : x = b
    · subst he; exact .inr (.inl hb)
    · exact .inl (by simp [he])

theorem Holds.new {o : Obj} (h : Holds E w L) : Holds E { w with heap := w.heap.push o } (pto w.heap.size o :: L) := by
  obtain ⟨h3, h1, h6⟩ := h.heap
  have hb : h3 w.heap.size = none := by
    cases hx : h3 w.heap.size with
    | none => rfl
    | some p =>
      have := h1 _ p.1 p.2 hx
      simp at this
  refine ⟨h.tape, h.os, h.output, _, ?_, fun x => if x = w.heap.size then some (false, o) else none, h3, ?_, rfl, rfl, h6⟩
  · intro x y o'' hx
    by_cases he : x = w.heap.size
    · subst he
      rw [hunion_some_left (x := (false, o)) (by simp)] at hx
      cases hx
      simp
    · rw [hunion_none_left (by simp [he])] at hx
      have := h1 x y o'' hx
      rw [Array.getElem?_push, if_neg he]
      exact this
  · intro x
    by_cases he : x = w.heap.size
    · subst he; exact .inr (.inl hb)
    · exact .inl (by simp [he])

theorem Holds.drew (h : Holds E w L) : Holds E { w with drawn := w.drawn + 1 } L := ⟨h.tape, h.os, h.output, h.heap⟩

theorem Holds.ne {b b' : Nat} {o o' : Obj} (h : Holds E w (pto b o :: pto b' o' :: L)) : b ≠ b' := by
  intro he
  subst he
  obtain ⟨_, h1, h2, h3, hc, rfl, rfl, h4, h5, hc', rfl, rfl, h7⟩ := h.heap
  rcases hc b with h | h | ⟨_, o', h⟩
  · simp at h
  · rw [hunion_some_left (x := (false, o')) (by simp)] at h; cases h
  · simp at h
end
end Go.Sh
