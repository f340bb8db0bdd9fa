/- Slices: those of one's own, those that stay as they are; index, reslice, append. -/
import Derived.Test.YtoaalegieaocbaaShO
namespace Go.Sh

/-- the cells of a slice's elements, as they lie -/
def Reads (w : World) (s : Sl) (sz : Nat) (cs : List Value) : Prop :=
  cs.length = s.len * sz ∧ (cs ≠ [] → ∃ b off c T fr, s.a = some ⟨b, off, none⟩ ∧ w.heap[b]? = some (.cells c T fr) ∧ ∀ i, i < cs.length → c[off + i]? = cs[i]?)

def ownS (T : TypeId) (sz : Nat) (s : Sl) (cs : List Value) : HProp := fun h =>
  (s.a = none ∧ s.len = 0 ∧ s.cap = 0 ∧ cs = [] ∧ h = fun _ => none) ∨
  (∃ b pre spare, s.a = some ⟨b, pre.length, none⟩ ∧ cs.length = s.len * sz ∧ s.len ≤ s.cap ∧ (s.cap - s.len) * sz ≤ spare.length ∧ pto b (.cells ⟨pre ++ (cs ++ spare)⟩ T (0, 0)) h)

def roS (sz : Nat) (s : Sl) (cs : List Value) : HProp := fun h =>
  (cs = [] ∧ s.len * sz = 0 ∧ s.len ≤ s.cap ∧ h = fun _ => none) ∨
  (∃ b off c T fr, s.a = some ⟨b, off, none⟩ ∧ cs.length = s.len * sz ∧ s.len ≤ s.cap ∧ (∀ i, i < cs.length → c[off + i]? = cs[i]?) ∧ rob b (.cells c T fr) h)

section
variable {P : Program} {E w : World} {L L' : List HProp}

theorem Holds.own_cases {T : TypeId} {sz : Nat} {s : Sl} {cs : List Value} (h : Holds E w (ownS T sz s cs :: L)) :
    (s = ⟨none, 0, 0⟩ ∧ cs = [] ∧ Holds E w L) ∨
    ∃ b pre spare, s.a = some ⟨b, pre.length, none⟩ ∧ cs.length = s.len * sz ∧ s.len ≤ s.cap ∧ (s.cap - s.len) * sz ≤ spare.length ∧ Holds E w (pto b (.cells ⟨pre ++ (cs ++ spare)⟩ T (0, 0)) :: L) := by
  obtain ⟨_, h1, h2, h3, hc, rfl, hs, h6⟩ := h.heap
  rcases hs with ⟨ha, hl, hcp, hcs, rfl⟩ | ⟨b, pre, spare, ha, hl, hle, hsp, hp⟩
  · left
    cases s with
    | mk a len cap =>
      simp only at ha hl hcp
      subst ha; subst hl; subst hcp
      exact ⟨rfl, hcs, h.drop⟩
  · exact .inr ⟨b, pre, spare, ha, hl, hle, hsp, h.tape, h.os, h.output, _, h1, h2, h3, hc, rfl, hp, h6⟩

theorem Holds.own_nil {T : TypeId} {sz : Nat} (h : Holds E w L) : Holds E w (ownS T sz ⟨none, 0, 0⟩ [] :: L) :=
  h.imp fun x hx => ⟨fun _ => none, x, fun _ => .inl rfl, by funext b; simp [hunion], .inl ⟨rfl, rfl, rfl, rfl, rfl⟩, hx⟩
theorem Holds.own_mk {T : TypeId} {sz : Nat} {s : Sl} {pre cs spare : List Value} {b : Nat} (h : Holds E w (pto b (.cells ⟨pre ++ (cs ++ spare)⟩ T (0, 0)) :: L)) (ha : s.a = some ⟨b, pre.length, none⟩)
    (hl : cs.length = s.len * sz) (hle : s.len ≤ s.cap) (hsp : (s.cap - s.len) * sz ≤ spare.length) : Holds E w (ownS T sz s cs :: L) :=
  h.mono fun _ hx => .inr ⟨b, pre, spare, ha, hl, hle, hsp, hx⟩

theorem Holds.reads_own {T : TypeId} {sz : Nat} {s : Sl} {cs : List Value} (h : Holds E w (ownS T sz s cs :: L)) : Reads w s sz cs := by
  rcases h.own_cases with ⟨rfl, rfl, _⟩ | ⟨b, pre, spare, ha, hl, hle, hsp, hh⟩
  · exact ⟨by simp, fun h => absurd rfl h⟩
  · refine ⟨hl, fun _ => ⟨b, pre.length, _, _, _, ha, hh.own, fun i hi => ?_⟩⟩
    simp [List.getElem?_append_right, List.getElem?_append_left hi]

theorem Holds.own_len {T : TypeId} {sz : Nat} {s : Sl} {cs : List Value} (h : Holds E w (ownS T sz s cs :: L)) : cs.length = s.len * sz ∧ s.len ≤ s.cap := by
  rcases h.own_cases with ⟨rfl, rfl, _⟩ | ⟨b, pre, spare, ha, hl, hle, hsp, hh⟩
  · exact ⟨by simp, Nat.le_refl _⟩
  · exact ⟨hl, hle⟩

theorem Holds.ro_cases {sz : Nat} {s : Sl} {cs : List Value} (h : Holds E w (roS sz s cs :: L)) : cs.length = s.len * sz ∧ s.len ≤ s.cap ∧ Reads w s sz cs := by
  obtain ⟨_, h1, h2, h3, hc, rfl, hs, h6⟩ := h.heap
  rcases hs with ⟨rfl, hl, hle, rfl⟩ | ⟨b, off, c, T, fr, ha, hl, hle, hcs, hp⟩
  · exact ⟨by simp [hl], hle, by simp [hl], fun h => absurd rfl h⟩
  · refine ⟨hl, hle, hl, fun _ => ⟨b, off, c, T, fr, ha, ?_, hcs⟩⟩
    have : Holds E w (rob b (.cells c T fr) :: L) := ⟨h.tape, h.os, h.output, _, h1, h2, h3, hc, rfl, hp, h6⟩
    exact this.ro

theorem Holds.own_freeze {T : TypeId} {sz : Nat} {s : Sl} {cs : List Value} (h : Holds E w (ownS T sz s cs :: L)) : Holds E w (roS sz s cs :: L) := by
  rcases h.own_cases with ⟨rfl, rfl, hh⟩ | ⟨b, pre, spare, ha, hl, hle, hsp, hh⟩
  · exact hh.imp fun x hx => ⟨fun _ => none, x, fun _ => .inl rfl, by funext b; simp [hunion], .inl ⟨rfl, by simp, Nat.le_refl _, rfl⟩, hx⟩
  · exact hh.freeze.mono fun x hx => .inr ⟨b, pre.length, _, T, (0, 0), ha, hl, hle, fun i hi => by simp [List.getElem?_append_right, List.getElem?_append_left hi], hx⟩

/-! ### what a slice reads as, cell by cell -/
theorem Reads.cell {s : Sl} {sz : Nat} {cs : List Value} (h : Reads w s sz cs) {a : Addr} (ha : s.a = some a) {i : Nat} (hi : i < cs.length) : w.cell? (a.add i) = cs[i]? := by
  obtain ⟨b, off, c, T, fr, ha', hb, hc⟩ := h.2 (by intro he; rw [he] at hi; simp at hi)
  rw [ha] at ha'
  cases ha'
  rw [Addr.add_mk, cell_of hb, hc i hi]
theorem Reads.addr {s : Sl} {sz : Nat} {cs : List Value} (h : Reads w s sz cs) (hne : cs ≠ []) : ∃ b off, s.a = some ⟨b, off, none⟩ := by
  obtain ⟨b, off, _, _, _, ha, _⟩ := h.2 hne
  exact ⟨b, off, ha⟩

theorem run_firstCells {s : Sl} {sz : Nat} {cs : List Value} (h : Reads w s sz cs) : (Builtin.firstCells sz s.len (.slice s.a s.len s.cap)).run P w = .ok cs.toArray w := by
  obtain ⟨a, len, cap⟩ := s
  cases a with
  | none =>
    have : cs = [] := by
      cases cs with
      | nil => rfl
      | cons v cs => obtain ⟨b, off, ha⟩ := h.addr (by simp); cases ha
    subst this
    rfl
  | some a =>
    simp only [Builtin.firstCells]
    rw [← h.1]
    exact run_loadCells fun j hj => by
      have := h.cell (a := a) rfl hj
      rw [this]; simp [hj]

/-! ### index and reslice -/
theorem run_indexAt {T Te : TypeId} {sz : Nat} {s : Sl} {i : Int} {a : Addr} (hT : pureRun P (underlying T) = some (.slice Te)) (hsz : pureRun P (sizeOf Te) = some sz)
    (ha : s.a = some a) (h0 : 0 ≤ i) (h1 : i < s.len) : (Instr.indexAt T (.slice s.a s.len s.cap) (.int .i64 i)).run P w = .ok (.pointer (some (a.add (i.toNat * sz)))) w := by
  have hT' := pureRun_sound _ hT w
  have hsz' := pureRun_sound _ hsz w
  unfold Instr.indexAt
  rw [run_ok (a := (IntKind.i64, i)) (w' := w) rfl]
  simp only [run_bind, hT', ha]
  simp only [Sem.run_pure, hT']
  rw [if_pos ⟨h0, h1⟩]
  simp only [run_bind, hsz']
  rfl

theorem val_index {T Te : TypeId} {sz : Nat} {s : Sl} {i : Int} {a : Addr} {k : Addr → Pr} (hT : pureRun P (underlying T) = some (.slice Te)) (hsz : pureRun P (sizeOf Te) = some sz)
    (ha : s.a = some a) (h0 : 0 ≤ i) (h1 : i < s.len) (hk : k (a.add (i.toNat * sz)) w) : ValP P (vN (Instr.indexAt T (.slice s.a s.len s.cap) (.int .i64 i))) tAddr k w :=
  ⟨_, fun _ => run_vN (run_indexAt hT hsz ha h0 h1), hk⟩

end
end Go.Sh
