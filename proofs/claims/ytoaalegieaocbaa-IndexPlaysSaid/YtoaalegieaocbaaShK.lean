/- A set of slices that stay as they are: they may share their arrays. -/
import Derived.Test.YtoaalegieaocbaaShN
namespace Go.Sh

/-- a slice reads so in a piece of the heap that stays as it is -/
def RdH (h : Hp) (sz : Nat) (s : Sl) (cs : List Value) : Prop :=
  cs.length = s.len * sz ∧ s.len ≤ s.cap ∧ (cs ≠ [] → ∃ b off c T fr, s.a = some ⟨b, off, none⟩ ∧ h b = some (true, .cells c T fr) ∧ ∀ i, i < cs.length → c[off + i]? = cs[i]?)

def hro (sz : Nat) (l : List (Sl × List Value)) : HProp := fun h => (∀ b x o, h b = some (x, o) → x = true) ∧ ∀ p ∈ l, RdH h sz p.1 p.2

section
variable {E w : World} {L L' : List HProp} {sz : Nat}

theorem Holds.hro_nil (h : Holds E w L) : Holds E w (hro sz [] :: L) :=
  h.imp fun x hx => ⟨fun _ => none, x, fun _ => .inl rfl, by funext b; simp [hunion], ⟨fun b y o hb => (by cases hb), fun p hp => (by cases hp)⟩, hx⟩

theorem Holds.hro_reads {l : List (Sl × List Value)} (h : Holds E w (hro sz l :: L)) {s : Sl} {cs : List Value} (hp : (s, cs) ∈ l) : Reads w s sz cs ∧ s.len ≤ s.cap := by
  obtain ⟨_, h1, h2, h3, hc, rfl, hs, h6⟩ := h.heap
  obtain ⟨hl, hle, hr⟩ := hs.2 _ hp
  refine ⟨⟨hl, fun hne => ?_⟩, hle⟩
  obtain ⟨b, off, c, T, fr, ha, hb, hi⟩ := hr hne
  exact ⟨b, off, c, T, fr, ha, h1 b true _ (hunion_some_left hb), hi⟩

theorem Holds.hro_weak {l l' : List (Sl × List Value)} (h : Holds E w (hro sz l :: L)) (hi : ∀ x : Hp, (∀ p ∈ l, RdH x sz p.1 p.2) → ∀ p ∈ l', RdH x sz p.1 p.2) : Holds E w (hro sz l' :: L) :=
  h.mono fun x hx => ⟨hx.1, hi x hx.2⟩

theorem Holds.hro_ro {l : List (Sl × List Value)} {s : Sl} {cs : List Value} (h : Holds E w (roS sz s cs :: hro sz l :: L)) : Holds E w (hro sz ((s, cs) :: l) :: L) := by
  refine h.imp fun x hx => ?_
  have hx' := hstar_assoc' hx
  refine hstar_mono (fun y hy => ?_) (fun _ h => h) hx'
  obtain ⟨h1, h2, hc, rfl, hr, ht, hs⟩ := hy
  have hle : ∀ b o, h2 b = some (true, o) → hunion h1 h2 b = some (true, o) := by
    intro b o hb
    rcases hc b with hn | hn | ⟨he, _⟩
    · rw [hunion_none_left hn]; exact hb
    · rw [hb] at hn; cases hn
    · exact hunion_some_left (he.trans hb)
  have htrue : ∀ b x o, hunion h1 h2 b = some (x, o) → x = true := by
    intro b x o hb
    cases h1b : h1 b with
    | none => rw [hunion_none_left h1b] at hb; exact ht b x o hb
    | some y =>
      rw [hunion_some_left h1b] at hb
      cases hb
      rcases hr with ⟨_, _, _, rfl⟩ | ⟨b0, off, c, T, fr, _, _, _, _, rfl⟩
      · cases h1b
      · by_cases he : b = b0
        · simp [he] at h1b; exact h1b.1
        · simp [he] at h1b
  refine ⟨htrue, fun p hp => ?_⟩
  rcases List.mem_cons.1 hp with rfl | hp
  · rcases hr with ⟨rfl, hz, hle', rfl⟩ | ⟨b0, off, c, T, fr, ha, hl, hle', hi, rfl⟩
    · exact ⟨by simp [hz], hle', fun hne => absurd rfl hne⟩
    · exact ⟨hl, hle', fun _ => ⟨b0, off, c, T, fr, ha, hunion_some_left (by simp), hi⟩⟩
  · obtain ⟨hl, hle', hr'⟩ := hs p hp
    refine ⟨hl, hle', fun hne => ?_⟩
    obtain ⟨b, off, c, T, fr, ha, hb, hi⟩ := hr' hne
    exact ⟨b, off, c, T, fr, ha, hle b _ hb, hi⟩

theorem Holds.hro_own {T : TypeId} {l : List (Sl × List Value)} {s : Sl} {cs : List Value} (h : Holds E w (ownS T sz s cs :: hro sz l :: L)) : Holds E w (hro sz ((s, cs) :: l) :: L) := h.own_freeze.hro_ro

/-- a part of a slice -/
theorem RdH.sub {x : Hp} {s : Sl} {cs : List Value} (h : RdH x sz s cs) {l u m : Nat} (h1 : l ≤ u) (h2 : u ≤ s.len) (h3 : u ≤ m) :
    RdH x sz (subS s l u m sz) ((cs.drop (l * sz)).take ((u - l) * sz)) := by
  obtain ⟨hl, hle, hr⟩ := h
  have hmul : u * sz ≤ s.len * sz := Nat.mul_le_mul_right _ h2
  have hsub : (u - l) * sz = u * sz - l * sz := Nat.sub_mul ..
  have hll : l * sz ≤ u * sz := Nat.mul_le_mul_right _ h1
  have hlen : ((cs.drop (l * sz)).take ((u - l) * sz)).length = (u - l) * sz := by
    rw [List.length_take, List.length_drop]; omega
  refine ⟨hlen, by simp only [subS]; omega, fun hne => ?_⟩
  have hne' : cs ≠ [] := by rintro rfl; simp at hne
  obtain ⟨b, off, c, T, fr, ha, hb, hi⟩ := hr hne'
  have hpos : 0 < (u - l) * sz := by rw [← hlen]; exact List.length_pos_iff.2 hne
  have hml : m ≠ l := by
    rintro rfl
    have : u - m = 0 := by omega
    rw [this, Nat.zero_mul] at hpos
    omega
  refine ⟨b, off + l * sz, c, T, fr, ?_, hb, fun i hi' => ?_⟩
  · simp only [subS]
    rw [if_neg hml, ha]
    exact congrArg some (Addr.add_mk ..)
  · rw [hlen] at hi'
    rw [List.getElem?_take_of_lt hi', List.getElem?_drop, Nat.add_assoc]
    exact hi _ (by omega)
end
end Go.Sh
