/- Maps: range over a map; what a map's stamps keep. -/
import Derived.Test.YtoaalegieaocbaaShW
import Derived.Maps.RangeRun
namespace Go.Sh

/-- a loop, by a relation that carries a number that goes down -/
theorem LoopP.num {S : Type} {F : (S → Pr) → S → Pr} {s : S} {w : World} (I : Nat → S → World → Prop) (n : Nat) (h0 : I n s w)
    (hF : ∀ (n : Nat) (next : S → Pr) (s : S) (w : World), I n s w → (∀ m s' w', m < n → I m s' w' → next s' w') → F next s w) : LoopP F s w := by
  refine ⟨n + 1, ?_⟩
  have main : ∀ N n s w, I n s w → n < N → iter F N s w := by
    intro N
    induction N with
    | zero => intro n s w _ h; omega
    | succ N ih =>
      intro n s w hI hlt
      exact hF n _ s w hI fun m s' w' hm hI' => ih m s' w' hI' (by omega)
  exact main _ n s w h0 (Nat.lt_succ_self _)

section
variable {P : Program} {E w : World} {L L' : List HProp} {kl : Leaf} {vl : Comp} {eqk : kl.den → kl.den → Bool}

/-- what a map's entries keep: no stamp twice, each below the clock -/
structure Stamped {K V : Type} (es : List (MEnt K V)) (clock : Nat) : Prop where
  lt : ∀ e ∈ es, e.born < clock
  nodup : (es.map (·.born)).Nodup

theorem Stamped.nil {K V : Type} {clock : Nat} : Stamped ([] : List (MEnt K V)) clock := ⟨fun e h => by simp at h, List.nodup_nil⟩

theorem mset_born {K V : Type} (eqk : K → K → Bool) (x : K) (v : V) : ∀ (es : List (MEnt K V)) (clock : Nat),
    (mset eqk x v es clock).map (·.born) = if (mlook eqk x es).isSome then es.map (·.born) else es.map (·.born) ++ [clock]
  | [], clock => by simp [mset, mlook]
  | e :: es, clock => by
    simp only [mset, mlook]
    by_cases h : eqk x e.key = true
    · simp [h]
    · simp only [h, if_false, List.map_cons, mset_born eqk x v es clock, Bool.false_eq_true]
      split <;> simp

theorem Stamped.of_born {K V : Type} {es : List (MEnt K V)} {clock : Nat} {bs : List Nat} (he : es.map (·.born) = bs) (hlt : ∀ b ∈ bs, b < clock) (hn : bs.Nodup) : Stamped es clock := by
  subst he
  exact ⟨fun e h => hlt _ (List.mem_map.2 ⟨e, h, rfl⟩), hn⟩
theorem Stamped.borns {K V : Type} {es : List (MEnt K V)} {clock : Nat} (h : Stamped es clock) : ∀ b ∈ es.map (·.born), b < clock := by
  intro b hb
  obtain ⟨e, he, rfl⟩ := List.mem_map.1 hb
  exact h.lt e he

theorem Stamped.set {K V : Type} {es : List (MEnt K V)} {clock : Nat} (h : Stamped es clock) (eqk : K → K → Bool) (x : K) (v : V) : Stamped (mset eqk x v es clock) (mclock eqk x es clock) := by
  have he := mset_born eqk x v es clock
  unfold mclock
  by_cases hs : (mlook eqk x es).isSome = true
  · rw [if_pos hs] at he ⊢
    exact Stamped.of_born he h.borns h.nodup
  · rw [if_neg hs] at he ⊢
    refine Stamped.of_born he (fun b hb => ?_) ?_
    · rcases List.mem_append.1 hb with hb | hb
      · have := h.borns b hb; omega
      · simp at hb; omega
    · rw [List.nodup_append]
      refine ⟨h.nodup, by simp, fun a ha b hb => ?_⟩
      simp at hb
      have := h.borns a ha
      omega

theorem mdel_sub {K V : Type} (eqk : K → K → Bool) (x : K) : ∀ es : List (MEnt K V), (mdel eqk x es).Sublist es
  | [] => .slnil
  | e :: es => by
    simp only [mdel]
    split
    · exact List.sublist_cons_self _ _
    · exact (mdel_sub eqk x es).cons_cons _
theorem Stamped.del {K V : Type} {es : List (MEnt K V)} {clock : Nat} (h : Stamped es clock) (eqk : K → K → Bool) (x : K) : Stamped (mdel eqk x es) clock :=
  ⟨fun e he => h.lt e ((mdel_sub eqk x es).mem he), ((mdel_sub eqk x es).map _).nodup h.nodup⟩

theorem mlook_mem {K V : Type} {eqk : K → K → Bool} (hiff : ∀ a b, eqk a b = true ↔ a = b) : ∀ {es : List (MEnt K V)}, (es.map (·.key)).Nodup → ∀ {e : MEnt K V}, e ∈ es → mlook eqk e.key es = some e.val
  | [], _, e, he => by simp at he
  | a :: es, hn, e, he => by
    simp only [List.map_cons, List.nodup_cons] at hn
    simp only [mlook]
    rcases List.mem_cons.1 he with rfl | he
    · rw [if_pos ((hiff _ _).2 rfl)]
    · rw [if_neg (fun hh => hn.1 (by rw [← (hiff _ _).1 hh]; exact List.mem_map.2 ⟨e, he, rfl⟩))]
      exact mlook_mem hiff hn.2 he
theorem mlook_some {K V : Type} {eqk : K → K → Bool} (hiff : ∀ a b, eqk a b = true ↔ a = b) {x : K} {v : V} : ∀ {es : List (MEnt K V)}, mlook eqk x es = some v → ∃ e ∈ es, e.key = x ∧ e.val = v
  | [], h => by simp [mlook] at h
  | a :: es, h => by
    simp only [mlook] at h
    split at h
    · rename_i hh
      exact ⟨a, List.mem_cons_self, ((hiff _ _).1 hh).symm, Option.some.inj h⟩
    · obtain ⟨e, he, h1, h2⟩ := mlook_some hiff h
      exact ⟨e, List.mem_cons_of_mem _ he, h1, h2⟩

theorem nodup_map_inj {α β : Type} {f : α → β} : ∀ {l : List α}, (l.map f).Nodup → ∀ {a b : α}, a ∈ l → b ∈ l → f a = f b → a = b
  | [], _, a, _, ha, _, _ => by simp at ha
  | x :: l, hn, a, b, ha, hb, e => by
    simp only [List.map_cons, List.nodup_cons] at hn
    rcases List.mem_cons.1 ha with rfl | ha
    · rcases List.mem_cons.1 hb with rfl | hb
      · rfl
      · exact absurd (List.mem_map.2 ⟨b, hb, e.symm⟩) hn.1
    · rcases List.mem_cons.1 hb with hx | hb
      · exact absurd (List.mem_map.2 ⟨a, ha, by rw [e, hx]⟩) hn.1
      · exact nodup_map_inj hn.2 ha hb e
theorem filter_lt {α : Type} {p q : α → Bool} (hpq : ∀ a, q a = true → p a = true) {e : α} : ∀ {l : List α}, e ∈ l → p e = true → q e = false → (l.filter q).length < (l.filter p).length
  | [], he, _, _ => by simp at he
  | a :: l, he, h1, h2 => by
    have hle : (l.filter q).length ≤ (l.filter p).length := by
      rw [← List.countP_eq_length_filter, ← List.countP_eq_length_filter]
      exact List.countP_mono_left fun x _ hx => hpq x hx
    rcases List.mem_cons.1 he with rfl | he
    · rw [List.filter_cons_of_pos h1, List.filter_cons_of_neg (by rw [h2]; simp), List.length_cons]; omega
    · have ih := filter_lt hpq he h1 h2
      by_cases hq : q a = true
      · rw [List.filter_cons_of_pos hq, List.filter_cons_of_pos (hpq a hq), List.length_cons, List.length_cons]; omega
      · rw [List.filter_cons_of_neg hq]
        by_cases hp : p a = true
        · rw [List.filter_cons_of_pos hp, List.length_cons]; omega
        · rw [List.filter_cons_of_neg hp]; exact ih
/-- what is still to come -/
def toCome {K V : Type} (es : List (MEnt K V)) (seen : Array Nat) : Nat := (es.filter fun e => !seen.contains e.born).length
theorem toCome_lt {K V : Type} {es : List (MEnt K V)} {seen : Array Nat} {e : MEnt K V} (he : e ∈ es) (hs : e.born ∉ seen) : toCome es (seen.push e.born) < toCome es seen :=
  filter_lt (by intro a; simp; exact fun h _ => h) he (by simpa using hs) (by simp)

/-- a store into an element of a slice -/
theorem do_set_el {t T : TypeId} {sz : Nat} {s : Sl} {cs : List Value} {a a0 : Addr} {i : Nat} {v : Value} {k : Pr} (h : Holds E w L) (p : Pick L (ownS T sz s cs) L') (ha0 : s.a = some a0) (ha : a = a0.add i)
    (hi : i < cs.length) (hn : pureRun P (sizeOf t) = some 1) (hv : notAgg v = true) (hk : ∀ w', Holds E w' (ownS T sz s (cs.set i v) :: L') → k w') : DoU P (uN (Instr.storeAt t (.pointer (some a)) v)) k w := by
  rcases (h.pick p).own_cases with ⟨_, rfl, _⟩ | ⟨b, pre, spare, hsa, hl, hle, hsp, h'⟩
  · simp at hi
  · rw [ha0] at hsa
    obtain rfl := Option.some.inj hsa
    have hlt : pre.length + i < (pre ++ (cs ++ spare)).length := by simp; omega
    refine do_st h' (off := pre.length + i) (by rw [ha]; exact Addr.add_mk ..) .head hn (by simpa [Nat.blt, Nat.succ_le_iff] using hlt) hv fun w' h'' => hk w' ?_
    have e : (⟨pre ++ (cs ++ spare)⟩ : Array Value).setIfInBounds (pre.length + i) v = ⟨pre ++ (cs.set i v ++ spare)⟩ := by
      simp only [List.setIfInBounds_toArray]
      congr 1
      rw [List.set_append_right _ _ (by omega), show pre.length + i - pre.length = i by omega, List.set_append_left _ _ hi]
    rw [e] at h''
    exact h''.own_mk ha0 (by rw [List.length_set]; exact hl) hle hsp

theorem mapB_nil (r : Nat) : mapB kl vl r [] 0 = pto r (.map #[] 0) := rfl

/-- 'range m' -/
theorem do_range {t K V : TypeId} {m : Nat} {es : List (MEnt kl.den vl.den)} {clock : Nat} {k : Addr → Pr} (h : Holds E w L) (p : Pick L (mapB kl vl m es clock) L') (ht : P.underlying t = some (.map K V))
    (hk : ∀ r w', Holds E w' (pto r (.mapIter (some m) clock #[] clock) :: L) → k ⟨r, 0, none⟩ w') : DoP P (vN (Instr.range t (.map (some m)))) tAddr k w :=
  do_new (l := .addr) (x := ⟨w.heap.size, 0, none⟩) (o := .mapIter (some m) clock #[] clock) h (run_range_map w t K V m _ clock ht (h.pick p).own) rfl (hk _)

/-- the next of a range over a map -/
theorem next_map {ty : TypeId} {r m : Nat} {es : List (MEnt kl.den vl.den)} {clock : Nat} {seen : Array Nat} {kn : Pr} {ks : (kl.den × vl.den × Unit) → Pr}
    (h : Holds E w (pto r (.mapIter (some m) clock seen clock) :: mapB kl vl m es clock :: L)) (hS : Stamped es clock)
    (hn : (∀ e ∈ es, e.born ∈ seen) → kn w)
    (hs : ∀ e ∈ es, e.born ∉ seen → ∀ w', Holds E w' (pto r (.mapIter (some m) clock (seen.push e.born) clock) :: mapB kl vl m es clock :: L) → ks (e.key, e.val, ()) w') :
    NextP P (vN (Instr.next (.pointer (some ⟨r, 0, none⟩)) false ty)) [.leaf kl, vl] kn ks w := by
  have hb := h.swap.own
  rcases run_next_at (P := P) w ty r m clock clock seen ⟨es.map (toEnt kl vl)⟩ clock h.own hb (by
    intro x hx
    obtain ⟨e, he, rfl⟩ := List.mem_map.1 hx
    exact hS.lt e he) (Nat.le_refl _) with ⟨h0, hr⟩ | ⟨e, he, w1, hw1, hr⟩
  · refine ⟨.inl ⟨w, run_vN hr, hn fun e he => ?_⟩⟩
    unfold leftOf at h0
    have : (⟨es.map (toEnt kl vl)⟩ : Array MapEntry).filter (fun e => !seen.contains e.born) = #[] := Array.eq_empty_of_size_eq_zero h0
    rw [Array.filter_eq_empty_iff] at this
    have := this (toEnt kl vl e) (by simp; exact ⟨e, he, rfl⟩)
    simpa [toEnt] using this
  · have he' : e ∈ es.map (toEnt kl vl) ∧ e.born ∉ seen := by
      have : e ∈ (leftOf ⟨es.map (toEnt kl vl)⟩ seen) := by simpa using he
      unfold leftOf at this
      rw [Array.mem_filter] at this
      exact ⟨by simpa using this.1, by simpa using this.2⟩
    obtain ⟨e0, he0, rfl⟩ := List.mem_map.1 he'.1
    refine ⟨.inr ⟨(e0.key, e0.val, ()), _, run_vN hr, hs e0 he0 he'.2 _ ?_⟩⟩
    rcases hw1 with rfl | rfl
    · exact h.set
    · exact h.drew.set

/-- the key and the value of the round -/
theorem get_entry {r m : Nat} {es : List (MEnt kl.den vl.den)} {clock : Nat} {seen : Array Nat} {e : MEnt kl.den vl.den} {k : (kl.den × vl.den × Unit) → Pr}
    (h : Holds E w (pto r (.mapIter (some m) clock (seen.push e.born) clock) :: mapB kl vl m es clock :: L)) (hS : Stamped es clock) (he : e ∈ es) (hk : k (e.key, e.val, ()) w) :
    GetP P (vN (Instr.entry (.pointer (some ⟨r, 0, none⟩)))) (.tup [.leaf kl, vl]) k w := by
  refine ⟨(e.key, e.val, ()), run_vN (run_entry_at (P := P) w r m clock seen ⟨es.map (toEnt kl vl)⟩ clock (toEnt kl vl e) h.own h.swap.own (List.mem_map.2 ⟨e, he, rfl⟩) ?_), hk⟩
  simp only [List.map_map]
  exact hS.nodup
end
end Go.Sh
