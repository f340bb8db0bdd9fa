/- The walk's own forms: each primitive by what holds. -/
import Derived.Test.YtoaalegieaocbaaShM
namespace Go.Sh
section
variable {P : Program} {E w : World} {L L' : List HProp}

theorem get_ld {t : TypeId} {l : Leaf} {a : Addr} {b off : Nat} {c : Array Value} {T : TypeId} {fr : Nat × Nat} {k : l.den → Pr} {x : l.den}
    (h : Holds E w L) (ha : a = ⟨b, off, none⟩) (p : Pick L (pto b (.cells c T fr)) L') (ht : pureRun P (isAgg t) = some false)
    (hc : (c[off]?).bind l.parse = some x) (hk : k x w) : GetP P (vN (Instr.loadAt t (.pointer (some a)))) (.one (.leaf l)) k w :=
  get_load' (h.pick p).own ht ha hc hk
theorem get_ld_ro {t : TypeId} {l : Leaf} {a : Addr} {b off : Nat} {c : Array Value} {T : TypeId} {fr : Nat × Nat} {k : l.den → Pr} {x : l.den}
    (h : Holds E w L) (ha : a = ⟨b, off, none⟩) (p : Pick L (rob b (.cells c T fr)) L') (ht : pureRun P (isAgg t) = some false)
    (hc : (c[off]?).bind l.parse = some x) (hk : k x w) : GetP P (vN (Instr.loadAt t (.pointer (some a)))) (.one (.leaf l)) k w :=
  get_load' (h.pick p).ro ht ha hc hk
theorem chk_ld {t : TypeId} {a : Addr} {b off : Nat} {c : Array Value} {T : TypeId} {fr : Nat × Nat} {k : Pr} {v : Value}
    (h : Holds E w L) (ha : a = ⟨b, off, none⟩) (p : Pick L (pto b (.cells c T fr)) L') (ht : pureRun P (isAgg t) = some false)
    (hc : c[off]? = some v) (hk : k w) : ChkP P (vN (Instr.loadAt t (.pointer (some a)))) v k w :=
  chk_load (h.pick p).own ht ha hc hk
theorem do_st {t : TypeId} {a : Addr} {b off : Nat} {c : Array Value} {T : TypeId} {v : Value} {k : Pr}
    (h : Holds E w L) (ha : a = ⟨b, off, none⟩) (p : Pick L (pto b (.cells c T (0, 0))) L') (hn : pureRun P (sizeOf t) = some 1) (hlt : Nat.blt off c.size = true) (hv : notAgg v = true)
    (hk : ∀ w', Holds E w' (pto b (.cells (c.setIfInBounds off v) T (0, 0)) :: L') → k w') : DoU P (uN (Instr.storeAt t (.pointer (some a)) v)) k w :=
  do_store h p hn ha hlt hv hk

/-- a cell of a slice's element -/
theorem get_el {t : TypeId} {l : Leaf} {a : Addr} {s : Sl} {sz : Nat} {cs : List Value} {a0 : Addr} {i : Nat} {k : l.den → Pr} (x : l.den)
    (hr : Reads w s sz cs) (ha0 : s.a = some a0) (ha : a = a0.add i) (ht : pureRun P (isAgg t) = some false)
    (hc : cs[i]? = some (l.val x)) (hk : k x w) : GetP P (vN (Instr.loadAt t (.pointer (some a)))) (.one (.leaf l)) k w := by
  subst ha
  have hi : i < cs.length := by
    rcases Nat.lt_or_ge i cs.length with h | h
    · exact h
    · rw [List.getElem?_eq_none h] at hc; cases hc
  exact get_cell x ht (by rw [hr.cell ha0 hi, hc]) hk

theorem get_el_agg {t : TypeId} {ls : List Leaf} {a : Addr} {s : Sl} {sz : Nat} {cs : List Value} {a0 : Addr} {i : Nat} {k : cellsDen ls → Pr} (x : cellsDen ls)
    (hr : Reads w s sz cs) (ha0 : s.a = some a0) (ha : a = a0.add i) (ht : pureRun P (isAgg t) = some true) (hn : pureRun P (sizeOf t) = some (cellsVal ls x).length)
    (hc : ∀ j, j < (cellsVal ls x).length → cs[i + j]? = (cellsVal ls x)[j]?) (hk : k x w) : GetP P (vN (Instr.loadAt t (.pointer (some a)))) (.one (.agg ls)) k w := by
  subst ha
  refine ⟨x, run_vN ?_, hk⟩
  unfold Instr.loadAt
  rw [run_ok (a := a0.add i) (w' := w) rfl]
  unfold loadVar
  rw [run_pureRun ht]
  simp only [if_true]
  rw [run_pureRun hn]
  rw [run_ok (run_loadCells (fun j hj => by
    have h1 := hc j hj
    have hi : i + j < cs.length := by
      rcases Nat.lt_or_ge (i + j) cs.length with h | h
      · exact h
      · rw [List.getElem?_eq_none h, List.getElem?_eq_getElem hj] at h1; cases h1
    have hspot : a0.spot = none := by
      obtain ⟨b, off, hb⟩ := hr.addr (by intro he; rw [he] at hi; simp at hi)
      rw [ha0] at hb; cases hb; rfl
    rw [Addr.add_add _ _ _ hspot, hr.cell ha0 hi, h1, List.getElem?_eq_getElem hj]))]
  rfl

/-- a whole struct is stored into its block -/
theorem do_st_all {t : TypeId} {a : Addr} {b n : Nat} {c : Array Value} {T : TypeId} {vs : Array Value} {k : Pr}
    (h : Holds E w L) (ha : a = ⟨b, 0, none⟩) (p : Pick L (pto b (.cells c T (0, 0))) L') (hn : pureRun P (sizeOf t) = some n) (hs : vs.size = n) (hc : c.size = n) (hv : ∀ v ∈ vs.toList, notAgg v = true)
    (hk : ∀ w', Holds E w' (pto b (.cells vs T (0, 0)) :: L') → k w') : DoU P (uN (Instr.storeAt t (.pointer (some a)) (.agg vs))) k w := by
  subst ha
  have hp := h.pick p
  obtain ⟨c', h1, h2, h3⟩ := run_storeCells (P := P) (T := T) (b := b) vs.toList 0 0 c w hp.own (by simp; omega) hv
  have hc' : c' = vs := by
    apply Array.ext_getElem?
    intro j
    rw [h3 j]
    by_cases hj : j < n
    · rw [if_pos ⟨by omega, by simp; omega⟩]; simp
    · rw [if_neg (by simp; omega), Array.getElem?_eq_none (by omega), Array.getElem?_eq_none (by omega)]
  subst hc'
  refine ⟨_, run_uN ?_, hk _ hp.set⟩
  unfold Instr.storeAt
  rw [run_ok (a := ⟨b, 0, none⟩) (w' := w) rfl]
  unfold storeVar
  rw [run_pureRun hn]
  simp only [Value.cells, hs, ne_eq, not_true_eq_false, if_false]
  exact h1

theorem Pick.two {A B : HProp} {L : List HProp} : Pick (A :: B :: L) B (A :: L) := .tail .head

/-- element i of a list of structs, cell j of it -/
theorem flat_get {α : Type} (enc : α → List Value) (sz : Nat) (henc : ∀ x, (enc x).length = sz) : ∀ (xs : List α) (i j : Nat), j < sz →
    (xs.flatMap enc)[i * sz + j]? = (xs[i]?).bind fun x => (enc x)[j]?
  | [], i, j, _ => by simp
  | x :: xs, 0, j, hj => by
    simp only [List.flatMap_cons, Nat.zero_mul, Nat.zero_add, List.getElem?_cons_zero, Option.bind_some]
    rw [List.getElem?_append_left (by rw [henc]; exact hj)]
  | x :: xs, i + 1, j, hj => by
    simp only [List.flatMap_cons, List.getElem?_cons_succ]
    rw [List.getElem?_append_right (by rw [henc, Nat.add_mul]; omega), henc]
    rw [show (i + 1) * sz + j - sz = i * sz + j from by rw [Nat.add_mul]; omega]
    exact flat_get enc sz henc xs i j hj
theorem flat_len {α : Type} (enc : α → List Value) (sz : Nat) (henc : ∀ x, (enc x).length = sz) (xs : List α) : (xs.flatMap enc).length = xs.length * sz := by
  induction xs with
  | nil => simp
  | cons x xs ih => simp only [List.flatMap_cons, List.length_append, henc, ih, List.length_cons, Nat.add_mul]; omega
end

/-! ### what is wanted of what holds -/
inductive Sub : List HProp → List HProp → Prop where
  | done {L : List HProp} : Sub L L
  | take {L L1 M : List HProp} {A : HProp} (p : Pick L A L1) (h : Sub L1 M) : Sub L (A :: M)
  | skip {L M : List HProp} {X : HProp} (h : Sub L M) : Sub (X :: L) M
theorem Sub.heap : ∀ {L M : List HProp}, Sub L M → ∀ h : Hp, stars L h → ∃ h1 : Hp, (∀ b y, h1 b = some y → h b = some y) ∧ stars M h1
  | _, _, .done, h, hs => ⟨h, fun _ _ h => h, hs⟩
  | _, _, .take p s, h, hs => by
    obtain ⟨ha, hb, hc, rfl, hA, hL⟩ := stars_pick p hs
    obtain ⟨m, hm, hM⟩ := Sub.heap s hb hL
    refine ⟨hunion ha m, fun b y hy => ?_, ha, m, fun b => ?_, rfl, hA, hM⟩
    · cases hx : ha b with
      | none => rw [hunion_none_left hx] at hy ⊢; exact hm b y hy
      | some z => rw [hunion_some_left hx] at hy ⊢; exact hy
    · cases hx : m b with
      | none => exact .inr (.inl rfl)
      | some z =>
        have := hm b z hx
        rcases hc b with h | h | ⟨h, o, ho⟩
        · exact .inl h
        · rw [this] at h; cases h
        · exact .inr (.inr ⟨by rw [h, this], o, ho⟩)
  | _, _, .skip s, h, hs => by
    obtain ⟨hx, hl, hc, rfl, _, hL⟩ := hs
    obtain ⟨m, hm, hM⟩ := Sub.heap s hl hL
    refine ⟨m, fun b y hy => ?_, hM⟩
    have := hm b y hy
    rcases hc b with h | h | ⟨h, _⟩
    · rw [hunion_none_left h]; exact this
    · rw [this] at h; cases h
    · rw [hunion_some_left (h.trans this)]
theorem Holds.sub {E w : World} {L M : List HProp} (h : Holds E w L) (s : Sub L M) : Holds E w M := by
  obtain ⟨x, hx, hs⟩ := h.heap
  obtain ⟨m, hm, hM⟩ := s.heap x hs
  exact ⟨h.tape, h.os, h.output, m, fun b y o hb => hx b y o (hm b _ hb), hM⟩

theorem Holds.reads_old {E w W : World} {L : List HProp} {s : Sl} {sz : Nat} {cs : List Value} (h : Holds E w (Sh.old W :: L)) (hr : Reads W s sz cs) : Reads w s sz cs := by
  refine ⟨hr.1, fun hne => ?_⟩
  obtain ⟨b, off, c, T, fr, ha, hb, hc⟩ := hr.2 hne
  exact ⟨b, off, c, T, fr, ha, h.old hb, hc⟩
theorem Holds.start (W : World) : Holds W W [Sh.old W] := by
  refine ⟨rfl, rfl, rfl, fun b => (W.heap[b]?).map fun o => (true, o), fun b x o h => ?_, _, fun _ => none, fun _ => .inr (.inl rfl), ?_, rfl, rfl⟩
  · cases hb : W.heap[b]? with
    | none => simp [hb] at h
    | some o' => simp [hb] at h; rw [h.2]
  · funext b
    simp only [hunion]
    cases W.heap[b]? <;> rfl

/-! ### tests -/
theorem cT {p : Prop} [Decidable p] (h : decide p = true) : p := of_decide_eq_true h
theorem cF {p : Prop} [Decidable p] (h : decide p = false) : ¬ p := of_decide_eq_false h
theorem eqT {a b : Int} (h : (a == b) = true) : a = b := eq_of_beq h
theorem eqF {a b : Int} (h : (a == b) = false) : a ≠ b := beq_eq_false_iff_ne.1 h
theorem neT {a b : Int} (h : (a != b) = true) : a ≠ b := bne_iff_ne.1 h
theorem neF {a b : Int} (h : (a != b) = false) : a = b := by simpa [bne] using h

/-! ### the two commonest keys -/
def eqInt : Int → Int → Bool := fun a b => a == b
theorem keyInt {P : Program} {K : TypeId} (h : pureRun P (underlying K) = some (.int .i64)) : KeyOK P K (.int .i64) eqInt where
  iff := fun x y => by simp [eqInt]
  find := fun x => ⟨_, h, fun y => by simp [Instr.sameNow, Leaf.val, eqInt]⟩
  chk := fun x e => by
    have key : ∀ (s : Sem TypeDesc) (d : TypeDesc) (f : TypeDesc → Sem Unit), pureRun P s = some d → pureRun P (s >>= f) = pureRun P (f d) := by
      intro s d f hs
      show pureRun P (Sem.bind s f) = _
      induction s with
      | pure a => simp [pureRun] at hs; subst hs; rfl
      | program k ih => simp only [pureRun] at hs; simp only [Sem.bind, pureRun]; exact ih _ hs
      | mark m k ih => simp only [pureRun] at hs; simp only [Sem.bind, pureRun]; exact ih hs
      | _ => simp [pureRun] at hs
    unfold Instr.checkKey
    rw [key _ _ _ h]
    rfl
  bits := fun x => by simp [Instr.sameBits, Leaf.val]
end Go.Sh
