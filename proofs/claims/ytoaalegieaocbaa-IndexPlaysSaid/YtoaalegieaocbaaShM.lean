/- Maps: what a block of entries reads as; lookup, store, delete, range. -/
import Derived.Test.YtoaalegieaocbaaShU
namespace Go.Sh

structure MEnt (K V : Type) where
  key : K
  val : V
  born : Nat

/-- a key's kind: what the model's search needs of it -/
structure KeyOK (P : Program) (K : TypeId) (kl : Leaf) (eqk : kl.den → kl.den → Bool) : Prop where
  iff : ∀ x y, eqk x y = true ↔ x = y
  find : ∀ x, ∃ d, pureRun P (underlying K) = some d ∧ ∀ y, Instr.sameNow d (kl.val x) (kl.val y) = some (eqk x y)
  chk : ∀ x e, pureRun P (Instr.checkKey e 10000 K (kl.val x)) = some ()
  bits : ∀ x, Instr.sameBits 10000 (kl.val x) (kl.val x) = true

section
variable {P : Program} {E w : World} {L L' : List HProp} {kl : Leaf} {vl : Comp} {eqk : kl.den → kl.den → Bool}

def toEnt (kl : Leaf) (vl : Comp) (e : MEnt kl.den vl.den) : MapEntry := { key := kl.val e.key, val := vl.val e.val, born := e.born }
def mapB (kl : Leaf) (vl : Comp) (r : Nat) (es : List (MEnt kl.den vl.den)) (clock : Nat) : HProp := pto r (.map ⟨es.map (toEnt kl vl)⟩ clock)

def mfindAt {K V : Type} (eqk : K → K → Bool) (x : K) : List (MEnt K V) → Nat → Option (Nat × V)
  | [], _ => none
  | e :: es, i => if eqk x e.key then some (i, e.val) else mfindAt eqk x es (i + 1)
def mlook {K V : Type} (eqk : K → K → Bool) (x : K) : List (MEnt K V) → Option V
  | [] => none
  | e :: es => if eqk x e.key then some e.val else mlook eqk x es
/-- a store -/
def mset {K V : Type} (eqk : K → K → Bool) (x : K) (v : V) : List (MEnt K V) → Nat → List (MEnt K V)
  | [], clock => [⟨x, v, clock⟩]
  | e :: es, clock => if eqk x e.key then ⟨e.key, v, e.born⟩ :: es else e :: mset eqk x v es clock
def mclock {K V : Type} (eqk : K → K → Bool) (x : K) (es : List (MEnt K V)) (clock : Nat) : Nat := if (mlook eqk x es).isSome then clock else clock + 1
def mdel {K V : Type} (eqk : K → K → Bool) (x : K) : List (MEnt K V) → List (MEnt K V)
  | [] => []
  | e :: es => if eqk x e.key then es else e :: mdel eqk x es

theorem mfindAt_look {K V : Type} (eqk : K → K → Bool) (x : K) : ∀ (es : List (MEnt K V)) (i : Nat), (mfindAt eqk x es i).map (·.2) = mlook eqk x es
  | [], _ => rfl
  | e :: es, i => by
    simp only [mfindAt, mlook]
    split
    · rfl
    · exact mfindAt_look eqk x es (i + 1)

theorem findNow_eq {d : TypeDesc} {x : kl.den} (hs : ∀ y, Instr.sameNow d (kl.val x) (kl.val y) = some (eqk x y)) : ∀ (es : List (MEnt kl.den vl.den)) (i : Nat),
    Instr.findNow d (kl.val x) (es.map (toEnt kl vl)) i = some ((mfindAt eqk x es i).map fun p => (p.1, vl.val p.2))
  | [], _ => rfl
  | e :: es, i => by
    simp only [List.map_cons, Instr.findNow, mfindAt]
    rw [show (toEnt kl vl e).key = kl.val e.key from rfl, hs e.key]
    cases eqk x e.key with
    | true => simp [toEnt]
    | false => simpa using findNow_eq hs es (i + 1)

theorem run_findKey {K : TypeId} (hK : KeyOK P K kl eqk) (x : kl.den) (es : List (MEnt kl.den vl.den)) :
    (Instr.findKey K (kl.val x) (es.map (toEnt kl vl))).run P w = .ok ((mfindAt eqk x es 0).map fun p => (p.1, vl.val p.2)) w := by
  obtain ⟨d, hd, hs⟩ := hK.find x
  unfold Instr.findKey
  rw [run_ok (pureRun_sound _ hd w), findNow_eq hs]
  rfl

theorem run_getMap {r : Nat} {es : Array MapEntry} {clock : Nat} (h : w.heap[r]? = some (.map es clock)) : (getObj r).run P w = .ok (.map es clock) w := by
  simp [getObj, Sem.run, h]
theorem run_setMap {r : Nat} {es es' : Array MapEntry} {clock clock' : Nat} (h : w.heap[r]? = some (.map es clock)) :
    (setObj r (.map es' clock')).run P w = .ok () { w with heap := w.heap.setIfInBounds r (.map es' clock') } := by
  simp [setObj, Sem.run, h]

theorem get_lookup_ok {M K V : TypeId} {r : Nat} {es : List (MEnt kl.den vl.den)} {clock : Nat} {x : kl.den} {z : vl.den} {k : (vl.den × Bool × Unit) → Pr}
    (hM : pureRun P (underlying M) = some (.map K V)) (hK : KeyOK P K kl eqk) (hz : pureRun P (zeroValue V) = some (vl.val z)) (h : Holds E w L) (p : Pick L (mapB kl vl r es clock) L')
    (hk : k (match mlook eqk x es with | some v => (v, true, ()) | none => (z, false, ())) w) : GetP P (vN (Instr.lookup M (.map (some r)) (kl.val x) true)) (.tup [vl, .leaf .bool]) k w := by
  have hr := (h.pick p).own
  refine ⟨_, run_vN ?_, hk⟩
  unfold Instr.lookup
  rw [run_ok (pureRun_sound _ hM w)]
  simp only []
  rw [run_ok (run_getMap hr)]
  simp only []
  rw [run_ok (a := (⟨es.map (toEnt kl vl)⟩ : Array MapEntry)) (w' := w) rfl]
  rw [run_ok (pureRun_sound _ (hK.chk x _) w)]
  rw [run_ok (run_findKey hK x es)]
  have hl := mfindAt_look eqk x es 0
  cases hm : mfindAt eqk x es 0 with
  | none =>
    rw [hm] at hl
    rw [← hl]
    simp only [Option.map_none]
    rw [run_ok (pureRun_sound _ hz w)]
    rfl
  | some p =>
    rw [hm] at hl
    rw [← hl]
    rfl

theorem mset_spec (x : kl.den) (v : vl.den) : ∀ (es : List (MEnt kl.den vl.den)) (clock i : Nat), (∀ a b, eqk a b = true ↔ a = b) →
    match mfindAt eqk x es i with
    | some (j, _) => i ≤ j ∧ (es.map (toEnt kl vl)).modify (j - i) (fun e => { e with key := kl.val x, val := vl.val v }) = (mset eqk x v es clock).map (toEnt kl vl) ∧
        ((es.map (toEnt kl vl))[j - i]?).map (·.key) = some (kl.val x)
    | none => mset eqk x v es clock = es ++ [⟨x, v, clock⟩]
  | [], clock, i, _ => rfl
  | e :: es, clock, i, hiff => by
    simp only [mfindAt, mset]
    by_cases hx : eqk x e.key = true
    · rw [if_pos hx, if_pos hx]
      have := (hiff _ _).1 hx
      subst this
      refine ⟨Nat.le_refl _, ?_, ?_⟩ <;> simp [toEnt]
    · rw [if_neg hx, if_neg hx]
      have ih := mset_spec x v es clock (i + 1) hiff
      cases hm : mfindAt eqk x es (i + 1) with
      | none => rw [hm] at ih; simp only at ih ⊢; rw [ih]; rfl
      | some q =>
        obtain ⟨j, u⟩ := q
        rw [hm] at ih
        simp only at ih ⊢
        obtain ⟨h1, h2, h3⟩ := ih
        have e : j - i = (j - (i + 1)) + 1 := by omega
        refine ⟨by omega, ?_, ?_⟩
        · rw [e, List.map_cons, List.modify_succ_cons, h2]; rfl
        · rw [e, List.map_cons, List.getElem?_cons_succ, h3]

theorem do_mapUpdate {M K V : TypeId} {r : Nat} {es : List (MEnt kl.den vl.den)} {clock : Nat} {x : kl.den} {v : vl.den} {k : Pr}
    (hM : pureRun P (underlying M) = some (.map K V)) (hK : KeyOK P K kl eqk) (h : Holds E w L) (p : Pick L (mapB kl vl r es clock) L')
    (hk : ∀ w', Holds E w' (mapB kl vl r (mset eqk x v es clock) (mclock eqk x es clock) :: L') → k w') : DoU P (uN (Instr.mapUpdate M (.map (some r)) (kl.val x) (vl.val v))) k w := by
  have hp := h.pick p
  have hr := hp.own
  have hspec := mset_spec (vl := vl) x v es clock 0 hK.iff
  have hl := mfindAt_look eqk x es 0
  refine ⟨{ w with heap := w.heap.setIfInBounds r (.map ⟨(mset eqk x v es clock).map (toEnt kl vl)⟩ (mclock eqk x es clock)) }, run_uN ?_, hk _ hp.set⟩
  unfold Instr.mapUpdate
  rw [run_ok (pureRun_sound _ hM w)]
  simp only []
  rw [run_ok (run_getMap hr)]
  simp only []
  rw [run_ok (pureRun_sound _ (hK.chk x _) w), run_ok (run_findKey hK x es)]
  cases hm : mfindAt eqk x es 0 with
  | none =>
    rw [hm] at hspec hl
    simp only at hspec
    simp only [Option.map_none]
    rw [run_setMap hr]
    have hc : mclock eqk x es clock = clock + 1 := by simp [mclock, ← hl]
    rw [hc, hspec]
    congr 3
    simp [toEnt]
  | some q =>
    obtain ⟨j, u⟩ := q
    rw [hm] at hspec hl
    simp only [Nat.sub_zero] at hspec
    obtain ⟨_, h2, h3⟩ := hspec
    simp only [Option.map_some]
    have hold : (((⟨es.map (toEnt kl vl)⟩ : Array MapEntry)[j]?).map (·.key)).getD (kl.val x) = kl.val x := by
      simp only [List.getElem?_toArray]
      rw [h3]; rfl
    rw [hold]
    rw [run_ok (a := kl.val x) (w' := w) (by unfold Instr.keyThatStays; rw [hK.bits x]; rfl)]
    rw [run_setMap hr]
    have hc : mclock eqk x es clock = clock := by simp [mclock, ← hl]
    rw [hc, ← h2]
    congr 4
    apply Array.ext'
    simp

theorem mdel_spec (x : kl.den) : ∀ (es : List (MEnt kl.den vl.den)) (i : Nat),
    match mfindAt eqk x es i with
    | some (j, _) => i ≤ j ∧ (es.map (toEnt kl vl)).eraseIdx (j - i) = (mdel eqk x es).map (toEnt kl vl)
    | none => mdel eqk x es = es
  | [], i => rfl
  | e :: es, i => by
    simp only [mfindAt, mdel]
    by_cases hx : eqk x e.key = true
    · rw [if_pos hx, if_pos hx]
      simp
    · rw [if_neg hx, if_neg hx]
      have ih := mdel_spec x es (i + 1)
      cases hm : mfindAt eqk x es (i + 1) with
      | none => rw [hm] at ih; simp only at ih ⊢; rw [ih]
      | some q =>
        obtain ⟨j, u⟩ := q
        rw [hm] at ih
        simp only at ih ⊢
        obtain ⟨h1, h2⟩ := ih
        have e : j - i = (j - (i + 1)) + 1 := by omega
        refine ⟨by omega, ?_⟩
        rw [e, List.map_cons, List.eraseIdx_cons_succ, h2]; rfl

theorem do_delete {M K V K' R : TypeId} {r : Nat} {es : List (MEnt kl.den vl.den)} {clock : Nat} {x : kl.den} {k : Unit → Pr}
    (hM : pureRun P (underlying M) = some (.map K V)) (hK : KeyOK P K kl eqk) (h : Holds E w L) (p : Pick L (mapB kl vl r es clock) L')
    (hk : ∀ w', Holds E w' (mapB kl vl r (mdel eqk x es) clock :: L') → k () w') : DoP P (vN (Builtin.delete_ #[M, K'] R #[.map (some r), kl.val x])) (.tup []) k w := by
  have hp := h.pick p
  have hr := hp.own
  have hspec := mdel_spec (vl := vl) (eqk := eqk) x es 0
  refine ⟨(), { w with heap := w.heap.setIfInBounds r (.map ⟨(mdel eqk x es).map (toEnt kl vl)⟩ clock) }, run_vN ?_, hk _ hp.set⟩
  unfold Builtin.delete_
  simp only [List.getElem?_toArray, List.getElem?_cons_zero, List.getElem?_cons_succ]
  rw [run_ok (pureRun_sound _ hM w)]
  simp only []
  rw [run_ok (run_getMap hr)]
  simp only []
  rw [run_ok (pureRun_sound _ (hK.chk x _) w), run_ok (run_findKey hK x es)]
  cases hm : mfindAt eqk x es 0 with
  | none =>
    rw [hm] at hspec
    simp only at hspec
    simp only [Option.map_none]
    rw [run_ok (run_setMap hr), hspec]
    rfl
  | some q =>
    obtain ⟨j, u⟩ := q
    rw [hm] at hspec
    simp only [Nat.sub_zero] at hspec
    simp only [Option.map_some]
    rw [run_ok (run_setMap hr), ← hspec.2]
    have : (⟨es.map (toEnt kl vl)⟩ : Array MapEntry).eraseIdxIfInBounds j = ⟨(es.map (toEnt kl vl)).eraseIdx j⟩ := by
      apply Array.ext'
      simp
    rw [this]
    rfl

/-! ### the plain laws -/
theorem mlook_set {K V : Type} {eqk : K → K → Bool} (hiff : ∀ a b, eqk a b = true ↔ a = b) (x y : K) (v : V) : ∀ (es : List (MEnt K V)) (clock : Nat),
    mlook eqk y (mset eqk x v es clock) = if eqk y x then some v else mlook eqk y es
  | [], clock => by simp [mset, mlook]
  | e :: es, clock => by
    simp only [mset]
    by_cases hx : eqk x e.key = true
    · rw [if_pos hx]
      have := (hiff _ _).1 hx
      subst this
      simp only [mlook]
      by_cases hy : eqk y e.key = true <;> simp [hy]
    · rw [if_neg hx]
      simp only [mlook]
      rw [mlook_set hiff x y v es clock]
      by_cases hy : eqk y e.key = true
      · have h1 := (hiff _ _).1 hy
        have h2 : ¬ eqk y x = true := fun h => hx ((hiff _ _).2 (((hiff _ _).1 h).symm.trans h1))
        simp [hy, h2]
      · simp [hy]

theorem mlook_none {K V : Type} {eqk : K → K → Bool} (hiff : ∀ a b, eqk a b = true ↔ a = b) (x : K) : ∀ (es : List (MEnt K V)), x ∉ es.map (·.key) → mlook eqk x es = none
  | [], _ => rfl
  | e :: es, h => by
    simp only [List.map_cons, List.mem_cons, not_or] at h
    simp only [mlook]
    rw [if_neg (fun hh => h.1 ((hiff _ _).1 hh))]
    exact mlook_none hiff x es h.2

theorem mdel_keys {K V : Type} (eqk : K → K → Bool) (x : K) : ∀ (es : List (MEnt K V)), ∀ k ∈ (mdel eqk x es).map (·.key), k ∈ es.map (·.key)
  | [], _, h => h
  | e :: es, k, h => by
    simp only [mdel] at h
    split at h
    · exact List.mem_cons_of_mem _ h
    · rcases List.mem_cons.1 h with h | h
      · exact h ▸ List.mem_cons_self
      · exact List.mem_cons_of_mem _ (mdel_keys eqk x es k h)

theorem mlook_del {K V : Type} {eqk : K → K → Bool} (hiff : ∀ a b, eqk a b = true ↔ a = b) (x y : K) : ∀ (es : List (MEnt K V)), (es.map (·.key)).Nodup →
    mlook eqk y (mdel eqk x es) = if eqk y x then none else mlook eqk y es
  | [], _ => by simp [mdel, mlook]
  | e :: es, hn => by
    simp only [List.map_cons, List.nodup_cons] at hn
    simp only [mdel]
    by_cases hx : eqk x e.key = true
    · rw [if_pos hx]
      have := (hiff _ _).1 hx
      subst this
      by_cases hy : eqk y e.key = true
      · have h1 := (hiff _ _).1 hy
        subst h1
        rw [if_pos hy]
        exact mlook_none hiff _ es hn.1
      · simp [mlook, hy]
    · rw [if_neg hx]
      simp only [mlook]
      rw [mlook_del hiff x y es hn.2]
      by_cases hy : eqk y e.key = true
      · have h1 := (hiff _ _).1 hy
        have h2 : ¬ eqk y x = true := fun h => hx ((hiff _ _).2 (((hiff _ _).1 h).symm.trans h1))
        simp [hy, h2]
      · simp [hy]

theorem mdel_nodup {K V : Type} (eqk : K → K → Bool) (x : K) : ∀ (es : List (MEnt K V)), (es.map (·.key)).Nodup → ((mdel eqk x es).map (·.key)).Nodup
  | [], h => h
  | e :: es, hn => by
    simp only [List.map_cons, List.nodup_cons] at hn
    simp only [mdel]
    split
    · exact hn.2
    · simp only [List.map_cons, List.nodup_cons]
      exact ⟨fun h => hn.1 (mdel_keys eqk x es _ h), mdel_nodup eqk x es hn.2⟩

theorem mset_keys {K V : Type} {eqk : K → K → Bool} (hiff : ∀ a b, eqk a b = true ↔ a = b) (x : K) (v : V) : ∀ (es : List (MEnt K V)) (clock : Nat), ∀ k ∈ (mset eqk x v es clock).map (·.key), k = x ∨ k ∈ es.map (·.key)
  | [], _, k, h => by simp [mset] at h; exact .inl h
  | e :: es, clock, k, h => by
    simp only [mset] at h
    split at h
    · exact .inr h
    · rcases List.mem_cons.1 h with h | h
      · exact .inr (h ▸ List.mem_cons_self)
      · rcases mset_keys hiff x v es clock k h with h | h
        · exact .inl h
        · exact .inr (List.mem_cons_of_mem _ h)
theorem mset_nodup {K V : Type} {eqk : K → K → Bool} (hiff : ∀ a b, eqk a b = true ↔ a = b) (x : K) (v : V) : ∀ (es : List (MEnt K V)) (clock : Nat), (es.map (·.key)).Nodup → ((mset eqk x v es clock).map (·.key)).Nodup
  | [], _, _ => by simp [mset]
  | e :: es, clock, hn => by
    simp only [List.map_cons, List.nodup_cons] at hn
    simp only [mset]
    split
    · simp only [List.map_cons, List.nodup_cons]; exact hn
    · rename_i hx
      simp only [List.map_cons, List.nodup_cons]
      refine ⟨fun h => ?_, mset_nodup hiff x v es clock hn.2⟩
      rcases mset_keys hiff x v es clock _ h with h | h
      · exact hx ((hiff _ _).2 h.symm)
      · exact hn.1 h
end
end Go.Sh
