/- What the primitives ask, and what they leave: pointers, cells, new blocks. -/
import Derived.Test.YtoaalegieaocbaaShH
import Derived.Laws.Sem
namespace Go.Sh
section
variable {P : Program} {E w : World} {L L' : List HProp}

/-! ### the run of a bind -/
theorem run_bind {α β : Type} (s : Sem α) (f : α → Sem β) (w : World) :
    (s >>= f).run P w = match s.run P w with | .ok a w' => (f a).run P w' | .halt h w' => .halt h w' := by
  rw [Sem.run_bind]
  cases s.run P w <;> rfl

theorem run_vN {s : Sem Value} {v : Value} {w w' : World} (h : s.run P w = .ok v w') : (vN s).run P w = .ok (.value v) w' := by
  unfold vN; rw [run_bind, h]; rfl
theorem run_uN {s : Sem Unit} {w w' : World} (h : s.run P w = .ok () w') : (uN s).run P w = .ok .skip w' := by
  unfold uN; rw [run_bind, h]; rfl
theorem run_ok {α β : Type} {s : Sem α} {f : α → Sem β} {a : α} {w w' : World} (h : s.run P w = .ok a w') : (s >>= f).run P w = (f a).run P w' := by
  rw [run_bind, h]
theorem run_pureRun {α β : Type} {s : Sem α} {f : α → Sem β} {a : α} {w : World} (h : pureRun P s = some a) : (s >>= f).run P w = (f a).run P w :=
  run_ok (pureRun_sound s h w)

/-! ### control -/
theorem CondP.mk' {b : Bool} {x y : Pr} {w : World} (hx : b = true → x w) (hy : b = false → y w) : CondP b x y w := ⟨⟨hx, hy⟩⟩
theorem CondP.yes {b : Bool} {x y : Pr} {w : World} (hb : b = true) (hx : x w) : CondP b x y w := ⟨⟨fun _ => hx, fun h => (by rw [hb] at h; cases h)⟩⟩
theorem CondP.no {b : Bool} {x y : Pr} {w : World} (hb : b = false) (hy : y w) : CondP b x y w := ⟨⟨fun h => (by rw [hb] at h; cases h), fun _ => hy⟩⟩
theorem JoinP.go {S : Type} {J : S → Pr} {body : (S → Pr) → Pr} {w : World} (h : body J w) : JoinP J body w := ⟨h⟩
/-- meet behind a join by an assertion -/
theorem JoinP.cut {S : Type} {J : S → Pr} {body : (S → Pr) → Pr} {w : World} (A : S → World → Prop) (hJ : ∀ s w, A s w → J s w)
    (hb : body A w) (hmono : ∀ J1 J2 : S → Pr, (∀ s w, J1 s w → J2 s w) → body J1 w → body J2 w) : JoinP J body w := ⟨hmono A J hJ hb⟩
theorem AnyP.go {k : List Value → Pr} {w : World} (h : ∀ us, k us w) : AnyP k w := ⟨h⟩

/-- a loop, by a relation and a number that goes down -/
theorem LoopP.inv {S : Type} {F : (S → Pr) → S → Pr} {s : S} {w : World} (I : S → World → Prop) (μ : S → World → Nat) (h0 : I s w)
    (hF : ∀ (next : S → Pr) (s : S) (w : World), I s w → (∀ s' w', I s' w' → μ s' w' < μ s w → next s' w') → F next s w) : LoopP F s w := by
  refine ⟨μ s w + 1, ?_⟩
  have main : ∀ n s w, I s w → μ s w < n → iter F n s w := by
    intro n
    induction n with
    | zero => intro s w _ h; omega
    | succ n ih =>
      intro s w hI hlt
      exact hF _ s w hI fun s' w' hI' hlt' => ih s' w' hI' (by omega)
  exact main _ s w h0 (Nat.lt_succ_self _)

theorem DrewP.go {k : Pr} {w : World} (h : Holds E w L) (hk : ∀ w', Holds E w' L → k w') : DrewP k w := ⟨hk _ h.drew⟩

/-! ### pointers and cells -/

theorem val_nil {a : Addr} {k : Addr → Pr} {w : World} (h : k a w) : ValP P (nilN (.pointer (some a))) tAddr k w := ⟨a, fun _ => rfl, h⟩

theorem cell_of {b off : Nat} {c : Array Value} {T : TypeId} {fr : Nat × Nat} (hb : w.heap[b]? = some (.cells c T fr)) : w.cell? ⟨b, off, none⟩ = c[off]? := by
  simp [World.cell?, hb]

theorem run_load_cell {a : Addr} {v : Value} (h : w.cell? a = some v) : (load a).run P w = .ok v w := by
  simp [load, Sem.run, h]

theorem run_loadVar {t : TypeId} {a : Addr} {v : Value} (ht : pureRun P (isAgg t) = some false) (h : w.cell? a = some v) : (loadVar t a).run P w = .ok v w := by
  unfold loadVar
  rw [run_pureRun ht]
  exact run_load_cell h

theorem get_cell {t : TypeId} {l : Leaf} {a : Addr} {k : l.den → Pr} (x : l.den) (ht : pureRun P (isAgg t) = some false)
    (hc : w.cell? a = some (l.val x)) (hk : k x w) : GetP P (vN (Instr.loadAt t (.pointer (some a)))) (.one (.leaf l)) k w :=
  ⟨x, run_vN (by unfold Instr.loadAt; rw [run_ok (a := a) (w' := w) rfl]; exact run_loadVar ht hc), hk⟩

/-- a field, or an element, of a block that is known -/
theorem get_load {t : TypeId} {l : Leaf} {a : Addr} {b off : Nat} {c : Array Value} {T : TypeId} {fr : Nat × Nat} {k : l.den → Pr} {x : l.den}
    (hb : w.heap[b]? = some (.cells c T fr)) (ht : pureRun P (isAgg t) = some false) (ha : a = ⟨b, off, none⟩)
    (hc : c[off]? = some (l.val x)) (hk : k x w) : GetP P (vN (Instr.loadAt t (.pointer (some a)))) (.one (.leaf l)) k w := by
  subst ha
  exact get_cell x ht (by rw [cell_of hb, hc]) hk
theorem get_load' {t : TypeId} {l : Leaf} {a : Addr} {b off : Nat} {c : Array Value} {T : TypeId} {fr : Nat × Nat} {k : l.den → Pr} {x : l.den}
    (hb : w.heap[b]? = some (.cells c T fr)) (ht : pureRun P (isAgg t) = some false) (ha : a = ⟨b, off, none⟩)
    (hc : (c[off]?).bind l.parse = some x) (hk : k x w) : GetP P (vN (Instr.loadAt t (.pointer (some a)))) (.one (.leaf l)) k w := by
  cases hv : c[off]? with
  | none => rw [hv] at hc; cases hc
  | some v =>
    rw [hv] at hc
    exact get_load hb ht ha (by rw [hv, Leaf.parse_val l v x hc]) hk
theorem chk_load {t : TypeId} {a : Addr} {b off : Nat} {c : Array Value} {T : TypeId} {fr : Nat × Nat} {k : Pr} {v : Value}
    (hb : w.heap[b]? = some (.cells c T fr)) (ht : pureRun P (isAgg t) = some false) (ha : a = ⟨b, off, none⟩)
    (hc : c[off]? = some v) (hk : k w) : ChkP P (vN (Instr.loadAt t (.pointer (some a)))) v k w := by
  subst ha
  exact ⟨run_vN (by unfold Instr.loadAt; rw [run_ok (a := ⟨b, off, none⟩) (w' := w) rfl]; exact run_loadVar ht (by rw [cell_of hb, hc])), hk⟩

theorem run_loadCellsFrom {a : Addr} : ∀ (vs : List Value) (i : Nat) (acc : Array Value),
    (∀ j (hj : j < vs.length), w.cell? (a.add (i + j)) = some vs[j]) → (loadCellsFrom a i vs.length acc).run P w = .ok (acc ++ vs.toArray) w
  | [], i, acc, _ => by simp [loadCellsFrom]
  | v :: vs, i, acc, h => by
    simp only [List.length_cons, loadCellsFrom]
    rw [run_ok (run_load_cell (v := v) (by have := h 0 (by simp); simpa using this))]
    rw [run_loadCellsFrom vs (i + 1) (acc.push v) (fun j hj => by have := h (j + 1) (by simpa using hj); simpa [Nat.add_assoc, Nat.add_comm 1 j] using this)]
    simp

theorem run_loadCells {a : Addr} {vs : List Value} (h : ∀ j (hj : j < vs.length), w.cell? (a.add j) = some vs[j]) : (loadCells a vs.length).run P w = .ok vs.toArray w := by
  have := run_loadCellsFrom (P := P) (w := w) (a := a) vs 0 #[] (by simpa using h)
  simpa [loadCells] using this

theorem Addr.add_mk (b o n : Nat) : Addr.add ⟨b, o, none⟩ n = ⟨b, o + n, none⟩ := by
  unfold Addr.add; split
  · rename_i h; subst h; rfl
  · rfl
theorem Addr.add_add (a : Addr) (m n : Nat) (h : a.spot = none) : Addr.add (Addr.add a m) n = Addr.add a (m + n) := by
  cases a with
  | mk b o s => simp only at h; subst h; rw [Addr.add_mk, Addr.add_mk, Addr.add_mk, Nat.add_assoc]

theorem get_agg {t : TypeId} {ls : List Leaf} {a : Addr} {b off : Nat} {c : Array Value} {T : TypeId} {fr : Nat × Nat} {k : cellsDen ls → Pr} (x : cellsDen ls)
    (hb : w.heap[b]? = some (.cells c T fr)) (ht : pureRun P (isAgg t) = some true) (hn : pureRun P (sizeOf t) = some (cellsVal ls x).length) (ha : a = ⟨b, off, none⟩)
    (hc : ∀ j (hj : j < (cellsVal ls x).length), c[off + j]? = some (cellsVal ls x)[j]) (hk : k x w) :
    GetP P (vN (Instr.loadAt t (.pointer (some a)))) (.one (.agg ls)) k w := by
  subst ha
  refine ⟨x, run_vN ?_, hk⟩
  unfold Instr.loadAt
  rw [run_ok (a := ⟨b, off, none⟩) (w' := w) rfl]
  unfold loadVar
  rw [run_pureRun ht]
  simp only [if_true]
  rw [run_pureRun hn]
  rw [run_ok (run_loadCells (fun j hj => by rw [Addr.add_mk, cell_of hb]; exact hc j hj))]
  rfl

/-! ### stores -/
def notAgg : Value → Bool
  | .agg _ => false
  | .tuple _ => false
  | _ => true

theorem run_store_cell {b off : Nat} {c : Array Value} {T : TypeId} {v : Value} (hb : w.heap[b]? = some (.cells c T (0, 0))) (hlt : off < c.size) (hv : notAgg v = true) :
    (store ⟨b, off, none⟩ v).run P w = .ok () { w with heap := w.heap.setIfInBounds b (.cells (c.setIfInBounds off v) T (0, 0)) } := by
  have hc : w.cell? ⟨b, off, none⟩ = some c[off] := by rw [cell_of hb]; simp [hlt]
  have hf : w.frozen? ⟨b, off, none⟩ = false := by simp [World.frozen?, hb]
  have hs : w.setCell ⟨b, off, none⟩ v = { w with heap := w.heap.setIfInBounds b (.cells (c.setIfInBounds off v) T (0, 0)) } := by
    unfold World.setCell
    congr 1
    refine Array.ext (by simp) fun i h1 h2 => ?_
    have hi : i < w.heap.size := by simpa using h2
    simp only [Array.getElem_modify]
    by_cases he : b = i
    · subst he
      have : w.heap[b] = .cells c T (0, 0) := by simpa [hi] using hb
      simp [this]
    · rw [if_neg he, Array.getElem_setIfInBounds_ne hi he]
  cases v <;> simp_all [store, Sem.run, notAgg]

theorem run_storeCells {b : Nat} {T : TypeId} : ∀ (vs : List Value) (off i : Nat) (c : Array Value) (w : World), w.heap[b]? = some (.cells c T (0, 0)) → off + i + vs.length ≤ c.size → (∀ v ∈ vs, notAgg v = true) →
    ∃ c', (storeCells ⟨b, off, none⟩ vs i).run P w = .ok () { w with heap := w.heap.setIfInBounds b (.cells c' T (0, 0)) } ∧ c'.size = c.size ∧
      ∀ j, c'[j]? = if off + i ≤ j ∧ j < off + i + vs.length then vs[j - (off + i)]? else c[j]?
  | [], off, i, c, w, hb, _, _ => by
    refine ⟨c, ?_, rfl, fun j => by simp; intro h1 h2; omega⟩
    have : w.heap.setIfInBounds b (.cells c T (0, 0)) = w.heap := by
      refine Array.ext (by simp) fun i h1 h2 => ?_
      by_cases he : b = i
      · subst he
        simpa [h2] using hb.symm
      · rw [Array.getElem_setIfInBounds_ne h2 he]
    rw [this]; rfl
  | v :: vs, off, i, c, w, hb, hlen, hv => by
    simp only [List.length_cons] at hlen
    simp only [storeCells, Addr.add_mk]
    rw [run_ok (run_store_cell hb (by omega) (hv v (by simp)))]
    have hlt : b < w.heap.size := by
      rcases Nat.lt_or_ge b w.heap.size with h' | h'
      · exact h'
      · simp [Array.getElem?_eq_none h'] at hb
    obtain ⟨c', h1, h2, h3⟩ := run_storeCells (T := T) (b := b) vs off (i + 1) (c.setIfInBounds (off + i) v) { w with heap := w.heap.setIfInBounds b (.cells (c.setIfInBounds (off + i) v) T (0, 0)) }
      (by simp [hlt]) (by simp; omega) (fun u hu => hv u (List.mem_cons_of_mem _ hu))
    refine ⟨c', ?_, by simpa using h2, fun j => ?_⟩
    · rw [h1]
      congr 2
      simp
    · rw [h3 j]
      simp only [List.length_cons]
      by_cases hj : j = off + i
      · subst hj
        rw [if_neg (by omega), if_pos (by omega)]
        simp [show off + i < c.size by omega]
      · by_cases hj2 : off + (i + 1) ≤ j ∧ j < off + (i + 1) + vs.length
        · rw [if_pos hj2, if_pos (by omega)]
          have : j - (off + i) = (j - (off + (i + 1))) + 1 := by omega
          rw [this]; simp
        · rw [if_neg hj2, if_neg (by omega)]
          rw [Array.getElem?_setIfInBounds, if_neg (by omega)]

theorem do_store {t : TypeId} {a : Addr} {b off : Nat} {c : Array Value} {T : TypeId} {v : Value} {k : Pr}
    (h : Holds E w L) (p : Pick L (pto b (.cells c T (0, 0))) L') (hn : pureRun P (sizeOf t) = some 1) (ha : a = ⟨b, off, none⟩) (hlt : Nat.blt off c.size = true) (hv : notAgg v = true)
    (hk : ∀ w', Holds E w' (pto b (.cells (c.setIfInBounds off v) T (0, 0)) :: L') → k w') : DoU P (uN (Instr.storeAt t (.pointer (some a)) v)) k w := by
  subst ha
  have hp := h.pick p
  have hlt : off < c.size := by simpa [Nat.blt, Nat.succ_le_iff] using hlt
  refine ⟨_, run_uN ?_, hk _ hp.set⟩
  unfold Instr.storeAt
  rw [run_ok (a := ⟨b, off, none⟩) (w' := w) rfl]
  unfold storeVar
  rw [run_pureRun hn]
  have hsz : v.cells.size = 1 := by cases v <;> first | rfl | cases hv
  have hcs : v.cells.toList = [v] := by cases v <;> first | rfl | cases hv
  simp only [hsz, ne_eq, not_true_eq_false, if_false]
  rw [hcs]
  simp only [storeCells]
  rw [Addr.add_mk, Nat.add_zero, run_ok (run_store_cell hp.own hlt hv)]
  rfl

/-! ### new blocks -/
theorem do_new {o : Obj} {b : Nat} {s : Sem Value} {l : Leaf} {x : l.den} {k : l.den → Pr} (h : Holds E w L)
    (hs : s.run P w = .ok (l.val x) { w with heap := w.heap.push o }) (hb : w.heap.size = b) (hk : ∀ w', Holds E w' (pto b o :: L) → k x w') :
    DoP P (vN s) (.one (.leaf l)) k w := by
  subst hb
  exact ⟨x, _, run_vN hs, hk _ h.new⟩

theorem do_alloc {t : TypeId} {z : Value} {k : Addr → Pr} (h : Holds E w L) (hz : pureRun P (zeroValue t) = some z)
    (hk : ∀ b w', Holds E w' (pto b (.cells z.cells t (0, 0)) :: L) → k ⟨b, 0, none⟩ w') : DoP P (vN (Instr.alloc t true (.tuple #[]))) tAddr k w := by
  refine do_new (l := .addr) (x := ⟨w.heap.size, 0, none⟩) (o := .cells z.cells t (0, 0)) h ?_ rfl (hk _)
  unfold Instr.alloc
  rw [run_pureRun hz]
  rfl
theorem do_box {t : TypeId} {v : Value} {k : Addr → Pr} (h : Holds E w L)
    (hk : ∀ b w', Holds E w' (pto b (.cells v.cells t (0, 0)) :: L) → k ⟨b, 0, none⟩ w') : DoP P (vN (Instr.box t v)) tAddr k w :=
  do_new (l := .addr) (x := ⟨w.heap.size, 0, none⟩) (o := .cells v.cells t (0, 0)) h rfl rfl (hk _)
theorem do_makeMap {t : TypeId} {k : Option Nat → Pr} (h : Holds E w L)
    (hk : ∀ b w', Holds E w' (pto b (.map #[] 0) :: L) → k (some b) w') : DoP P (vN (Instr.makeMap t none)) tMap k w :=
  do_new (l := .map) (x := some w.heap.size) (o := .map #[] 0) h rfl rfl (hk _)

/-! ### comparisons with nil -/
theorem get_pure {s : Sem Next} {t : Ty} {k : t.den → Pr} (x : t.den) (hs : pureRun P s = some (.value (t.val x))) (hk : k x w) : GetP P s t k w :=
  ⟨x, pureRun_sound s hs w, hk⟩
theorem val_pure {s : Sem Next} {t : Ty} {k : t.den → Pr} (x : t.den) (hs : pureRun P s = some (.value (t.val x))) (hk : k x w) : ValP P s t k w :=
  ⟨x, fun w => pureRun_sound s hs w, hk⟩
theorem do_pure {s : Sem Next} {t : Ty} {k : t.den → Pr} (x : t.den) (hs : pureRun P s = some (.value (t.val x))) (hk : k x w) : DoP P s t k w :=
  ⟨x, w, pureRun_sound s hs w, hk⟩
end
end Go.Sh
