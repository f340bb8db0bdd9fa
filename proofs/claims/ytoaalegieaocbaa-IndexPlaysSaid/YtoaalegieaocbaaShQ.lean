/- Parts of slices, whole structs as elements, results in cells, reads that must still hold. -/
import Derived.Test.YtoaalegieaocbaaShK
import Derived.Laws.StructEq
namespace Go.Sh
section
variable {P : Program} {E w : World} {L L' : List HProp}

theorem Reads.sub {s : Sl} {sz : Nat} {cs : List Value} (hr : Reads w s sz cs) {l h m : Nat} (h1 : l ≤ h) (h2 : h ≤ s.len) (h3 : h ≤ m) :
    Reads w (subS s l h m sz) sz ((cs.drop (l * sz)).take ((h - l) * sz)) := by
  have hmul : h * sz ≤ s.len * sz := Nat.mul_le_mul_right _ h2
  have hsub : (h - l) * sz = h * sz - l * sz := Nat.sub_mul ..
  have hll : l * sz ≤ h * sz := Nat.mul_le_mul_right _ h1
  have hl := hr.1
  have hlen : ((cs.drop (l * sz)).take ((h - l) * sz)).length = (h - l) * sz := by
    rw [List.length_take, List.length_drop]; omega
  refine ⟨hlen, fun hne => ?_⟩
  have hne' : cs ≠ [] := by rintro rfl; simp at hne
  obtain ⟨b, off, c, T, fr, ha, hb, hi⟩ := hr.2 hne'
  have hpos : 0 < (h - l) * sz := by rw [← hlen]; exact List.length_pos_iff.2 hne
  have hml : m ≠ l := by
    rintro rfl
    have : h - m = 0 := by omega
    rw [this, Nat.zero_mul] at hpos
    omega
  refine ⟨b, off + l * sz, c, T, fr, ?_, hb, fun i hi' => ?_⟩
  · simp only [subS]
    rw [if_neg hml, ha]
    exact congrArg some (Addr.add_mk ..)
  · rw [hlen] at hi'
    rw [List.getElem?_take_of_lt hi', List.getElem?_drop, Nat.add_assoc]
    exact hi _ (by omega)
theorem Reads.to {s : Sl} {sz : Nat} {α : Type} {enc : α → List Value} (henc : ∀ x, (enc x).length = sz) {xs : List α} (hr : Reads w s sz (xs.flatMap enc)) {n : Nat} (h2 : n ≤ xs.length) (hl : s.len = xs.length) (h3 : n ≤ s.cap) :
    Reads w (subS s 0 n s.cap sz) sz ((xs.take n).flatMap enc) := by
  have := hr.sub (l := 0) (h := n) (m := s.cap) (by omega) (by omega) h3
  rw [Nat.zero_mul, List.drop_zero, Nat.sub_zero] at this
  rwa [show (xs.flatMap enc).take (n * sz) = (xs.take n).flatMap enc from ?_] at this
  have e : xs.flatMap enc = (xs.take n).flatMap enc ++ (xs.drop n).flatMap enc := by rw [← List.flatMap_append, List.take_append_drop]
  rw [e, List.take_append_of_le_length (by rw [flat_len enc sz henc, List.length_take, Nat.min_eq_left h2]; exact Nat.le_refl _)]
  rw [List.take_of_length_le (by rw [flat_len enc sz henc, List.length_take, Nat.min_eq_left h2]; exact Nat.le_refl _)]
theorem flat_drop {α : Type} (enc : α → List Value) (sz : Nat) (henc : ∀ x, (enc x).length = sz) (xs : List α) (n : Nat) : (xs.flatMap enc).drop (n * sz) = (xs.drop n).flatMap enc := by
  induction n generalizing xs with
  | zero => simp
  | succ n ih =>
    cases xs with
    | nil => simp
    | cons x xs =>
      rw [List.flatMap_cons, List.drop_succ_cons, ← ih xs, show (n + 1) * sz = (enc x).length + n * sz by rw [henc, Nat.add_mul]; omega, List.drop_length_add_append]
theorem flat_take {α : Type} (enc : α → List Value) (sz : Nat) (henc : ∀ x, (enc x).length = sz) (xs : List α) (n : Nat) : (xs.flatMap enc).take (n * sz) = (xs.take n).flatMap enc := by
  induction n generalizing xs with
  | zero => simp
  | succ n ih =>
    cases xs with
    | nil => simp
    | cons x xs =>
      rw [List.flatMap_cons, List.take_succ_cons, List.flatMap_cons, ← ih xs, show (n + 1) * sz = (enc x).length + n * sz by rw [henc, Nat.add_mul]; omega, List.take_length_add_append]
theorem Reads.part {s : Sl} {sz : Nat} {α : Type} {enc : α → List Value} (henc : ∀ x, (enc x).length = sz) {xs : List α} (hr : Reads w s sz (xs.flatMap enc)) {l h m : Nat} (h1 : l ≤ h) (h2 : h ≤ xs.length) (hl : s.len = xs.length) (h3 : h ≤ m) :
    Reads w (subS s l h m sz) sz (((xs.drop l).take (h - l)).flatMap enc) := by
  have := hr.sub (l := l) (h := h) (m := m) h1 (by omega) h3
  rwa [flat_drop enc sz henc, flat_take enc sz henc] at this
theorem Reads.from_ {s : Sl} {sz : Nat} {α : Type} {enc : α → List Value} (henc : ∀ x, (enc x).length = sz) {xs : List α} (hr : Reads w s sz (xs.flatMap enc)) {l m : Nat} (h1 : l ≤ xs.length) (hl : s.len = xs.length) (h3 : s.len ≤ m) :
    Reads w (subS s l s.len m sz) sz ((xs.drop l).flatMap enc) := by
  have := hr.part henc (l := l) (h := s.len) (m := m) (by omega) (by omega) hl h3
  rwa [List.take_of_length_le (by rw [List.length_drop]; omega)] at this

/-! ### reads that must still hold -/
theorem chk_agg {t : TypeId} {a : Addr} {b off : Nat} {c : Array Value} {T : TypeId} {fr : Nat × Nat} {vs : List Value} {k : Pr}
    (hb : w.heap[b]? = some (.cells c T fr)) (ht : pureRun P (isAgg t) = some true) (hn : pureRun P (sizeOf t) = some vs.length) (ha : a = ⟨b, off, none⟩)
    (hc : ∀ j (hj : j < vs.length), c[off + j]? = some vs[j]) (hk : k w) : ChkP P (vN (Instr.loadAt t (.pointer (some a)))) (.agg vs.toArray) k w := by
  subst ha
  refine ⟨run_vN ?_, hk⟩
  unfold Instr.loadAt
  rw [run_ok (a := ⟨b, off, none⟩) (w' := w) rfl]
  unfold loadVar
  rw [run_pureRun ht]
  simp only [if_true]
  rw [run_pureRun hn]
  rw [run_ok (run_loadCells (fun j hj => by rw [Addr.add_mk, cell_of hb]; exact hc j hj))]
  rfl
theorem chk_el {t : TypeId} {a : Addr} {s : Sl} {sz : Nat} {cs : List Value} {a0 : Addr} {i : Nat} {v : Value} {k : Pr}
    (hr : Reads w s sz cs) (ha0 : s.a = some a0) (ha : a = a0.add i) (ht : pureRun P (isAgg t) = some false)
    (hc : cs[i]? = some v) (hk : k w) : ChkP P (vN (Instr.loadAt t (.pointer (some a)))) v k w := by
  subst ha
  have hi : i < cs.length := by
    rcases Nat.lt_or_ge i cs.length with h | h
    · exact h
    · rw [List.getElem?_eq_none h] at hc; cases hc
  exact ⟨run_vN (by unfold Instr.loadAt; rw [run_ok (a := a0.add i) (w' := w) rfl]; exact run_loadVar ht (by rw [hr.cell ha0 hi, hc])), hk⟩

/-! ### structs in blocks of their own -/
theorem get_ld_agg {t : TypeId} {ls : List Leaf} {a : Addr} {b : Nat} {T : TypeId} {fr : Nat × Nat} {k : cellsDen ls → Pr} (x : cellsDen ls)
    (h : Holds E w L) (ha : a = ⟨b, 0, none⟩) (p : Pick L (pto b (.cells ⟨cellsVal ls x⟩ T fr)) L') (ht : pureRun P (isAgg t) = some true) (hn : pureRun P (sizeOf t) = some (cellsVal ls x).length)
    (hk : k x w) : GetP P (vN (Instr.loadAt t (.pointer (some a)))) (.one (.agg ls)) k w :=
  get_agg x (h.pick p).own ht hn ha (fun j hj => by simp [hj]) hk
theorem chk_ld_agg {t : TypeId} {a : Addr} {b : Nat} {T : TypeId} {fr : Nat × Nat} {vs : List Value} {k : Pr}
    (h : Holds E w L) (ha : a = ⟨b, 0, none⟩) (p : Pick L (pto b (.cells ⟨vs⟩ T fr)) L') (ht : pureRun P (isAgg t) = some true) (hn : pureRun P (sizeOf t) = some vs.length)
    (hk : k w) : ChkP P (vN (Instr.loadAt t (.pointer (some a)))) (.agg ⟨vs⟩) k w :=
  chk_agg (h.pick p).own ht hn ha (fun j hj => by simp [hj]) hk

/-! ### results in cells -/
theorem run_loadVar_agg {t : TypeId} {b : Nat} {T : TypeId} {fr : Nat × Nat} {vs : List Value} (hb : w.heap[b]? = some (.cells ⟨vs⟩ T fr)) (ht : pureRun P (isAgg t) = some true) (hn : pureRun P (sizeOf t) = some vs.length) :
    (loadVar t ⟨b, 0, none⟩).run P w = .ok (.agg ⟨vs⟩) w := by
  unfold loadVar
  rw [run_pureRun ht]
  simp only [if_true]
  rw [run_pureRun hn]
  rw [run_ok (run_loadCells (vs := vs) (fun j hj => by rw [Addr.add_mk, cell_of hb]; simp [hj]))]
  rfl
theorem get_res1 {t : TypeId} {ls : List Leaf} {b : Nat} {T : TypeId} {fr : Nat × Nat} {k : cellsDen ls → Pr} (x : cellsDen ls)
    (h : Holds E w L) (p : Pick L (pto b (.cells ⟨cellsVal ls x⟩ T fr)) L') (ht : pureRun P (isAgg t) = some true) (hn : pureRun P (sizeOf t) = some (cellsVal ls x).length)
    (hk : k x w) : GetP P (vN (resSem [.cell (.pointer (some ⟨b, 0, none⟩)) t])) (.one (.agg ls)) k w := by
  refine ⟨x, run_vN ?_, hk⟩
  have hl := run_loadVar_agg (P := P) (h.pick p).own ht hn
  unfold resSem
  simp [resGet, asAddr, hl, Ty.val, Comp.val]
theorem get_res2 {t : TypeId} {ls : List Leaf} {b : Nat} {T : TypeId} {fr : Nat × Nat} {kd : IntKind} {n : Int} {k : cellsDen ls × Int × Unit → Pr} (x : cellsDen ls)
    (h : Holds E w L) (p : Pick L (pto b (.cells ⟨cellsVal ls x⟩ T fr)) L') (ht : pureRun P (isAgg t) = some true) (hn : pureRun P (sizeOf t) = some (cellsVal ls x).length)
    (hk : k (x, n, ()) w) : GetP P (vN (resSem [.cell (.pointer (some ⟨b, 0, none⟩)) t, .val (.int kd n)])) (.tup [.agg ls, .leaf (.int kd)]) k w := by
  refine ⟨(x, n, ()), run_vN ?_, hk⟩
  have hl := run_loadVar_agg (P := P) (h.pick p).own ht hn
  unfold resSem
  simp [resGet, asAddr, hl, Ty.val, Comp.val, tupVal, Leaf.val]

/-- a whole struct is stored into an element of a slice -/
theorem do_set_agg {t T : TypeId} {sz i : Nat} {s : Sl} {cs : List Value} {a a0 : Addr} {vs : List Value} {k : Pr} (h : Holds E w L) (p : Pick L (ownS T sz s cs) L') (ha0 : s.a = some a0) (ha : a = a0.add i)
    (hi : i + vs.length ≤ cs.length) (h0 : 0 < cs.length) (hn : pureRun P (sizeOf t) = some vs.length) (hv : ∀ v ∈ vs, notAgg v = true)
    (hk : ∀ w', Holds E w' (ownS T sz s (cs.take i ++ vs ++ cs.drop (i + vs.length)) :: L') → k w') : DoU P (uN (Instr.storeAt t (.pointer (some a)) (.agg ⟨vs⟩))) k w := by
  rcases (h.pick p).own_cases with ⟨_, rfl, _⟩ | ⟨b, pre, spare, hsa, hl, hle, hsp, h'⟩
  · simp at h0
  · rw [ha0] at hsa
    obtain rfl := Option.some.inj hsa
    obtain ⟨c', h1, h2, h3⟩ := run_storeCells (P := P) (T := T) (b := b) vs (pre.length + i) 0 _ w h'.own (by simp; omega) hv
    have hc' : c' = ⟨pre ++ ((cs.take i ++ vs ++ cs.drop (i + vs.length)) ++ spare)⟩ := by
      apply Array.ext_getElem?
      intro j
      rw [h3 j]
      simp only [List.getElem?_toArray, Nat.add_zero]
      by_cases hj0 : j < pre.length
      · rw [if_neg (by omega), List.getElem?_append_left hj0, List.getElem?_append_left hj0]
      · rw [List.getElem?_append_right (l₁ := pre) (by omega), List.getElem?_append_right (l₁ := pre) (by omega)]
        have htl : (cs.take i).length = i := by rw [List.length_take]; omega
        by_cases hj : j - pre.length < cs.length
        · rw [List.getElem?_append_left hj, List.getElem?_append_left (by simp [htl]; omega)]
          by_cases hj1 : j - pre.length < i
          · rw [if_neg (by omega), List.append_assoc, List.getElem?_append_left (by omega), List.getElem?_take_of_lt hj1]
          · rw [List.append_assoc, List.getElem?_append_right (by omega), htl]
            by_cases hj2 : j - pre.length < i + vs.length
            · rw [if_pos (by omega), List.getElem?_append_left (by omega)]
              congr 1; omega
            · rw [if_neg (by omega), List.getElem?_append_right (by omega), List.getElem?_drop]
              congr 1; omega
        · rw [if_neg (by omega), List.getElem?_append_right (by omega), List.getElem?_append_right (by simp [htl]; omega)]
          congr 1; simp [htl]; omega
    refine ⟨_, run_uN ?_, hk _ (Holds.own_mk (pre := pre) (spare := spare) (b := b) (by rw [← hc']; exact h'.set) ha0 ?_ hle hsp)⟩
    · unfold Instr.storeAt
      rw [ha, Addr.add_mk, run_ok (a := ⟨b, pre.length + i, none⟩) (w' := w) rfl]
      unfold storeVar
      rw [run_pureRun hn]
      simp only [Value.cells, List.size_toArray, ne_eq, not_true_eq_false, if_false]
      exact h1
    · simp only [List.length_append, List.length_take, List.length_drop]
      rw [← hl]; omega

/-! ### elements of a slice of things -/
variable {α : Type} {enc : α → List Value} {sz : Nat} {s : Sl} {xs : List α}

theorem Reads.len_eq (henc : ∀ x, (enc x).length = sz) (h0 : 0 < sz) (hr : Reads w s sz (xs.flatMap enc)) : s.len = xs.length := by
  have := hr.1
  rw [flat_len enc sz henc] at this
  exact (Nat.eq_of_mul_eq_mul_right h0 this).symm

theorem val_idx {T Te : TypeId} {i : Nat} {k : Addr → Pr} (hr : Reads w s sz (xs.flatMap enc)) (henc : ∀ x, (enc x).length = sz) (h0 : 0 < sz) (hi : i < xs.length)
    (hT : pureRun P (underlying T) = some (.slice Te)) (hsz : pureRun P (sizeOf Te) = some sz)
    (hk : ∀ a0, s.a = some a0 → a0.spot = none → k (a0.add (i * sz)) w) : ValP P (vN (Instr.indexAt T (.slice s.a s.len s.cap) (.int .i64 i))) tAddr k w := by
  have hl := hr.len_eq henc h0
  obtain ⟨b, off, ha⟩ := hr.addr (by
    intro he
    have := flat_len enc sz henc xs
    rw [he] at this
    have : 0 < xs.length * sz := Nat.mul_pos (by omega) h0
    simp_all)
  exact val_index hT hsz ha (by omega) (by omega) (hk _ ha rfl)

theorem fld_at (_ : Reads w s sz (xs.flatMap enc)) (henc : ∀ x, (enc x).length = sz) {i j : Nat} (hi : i < xs.length) (hj : j < sz) : (xs.flatMap enc)[i * sz + j]? = (enc xs[i])[j]? := by
  rw [flat_get enc sz henc xs i j hj, List.getElem?_eq_getElem hi]; rfl

theorem get_fld {t : TypeId} {l : Leaf} {a0 : Addr} {i j : Nat} {k : l.den → Pr} (x : l.den) (hr : Reads w s sz (xs.flatMap enc)) (henc : ∀ x, (enc x).length = sz) (ha0 : s.a = some a0) (hs : a0.spot = none)
    (hi : i < xs.length) (hj : j < sz) (ht : pureRun P (isAgg t) = some false) (hx : (enc xs[i])[j]? = some (l.val x)) (hk : k x w) :
    GetP P (vN (Instr.loadAt t (.pointer (some (Addr.add (Addr.add a0 (i * sz)) j))))) (.one (.leaf l)) k w :=
  get_el x hr ha0 (Addr.add_add _ _ _ hs) ht (by rw [fld_at hr henc hi hj]; exact hx) hk
theorem get_one {t : TypeId} {l : Leaf} {a0 : Addr} {i : Nat} {k : l.den → Pr} (x : l.den) (hr : Reads w s 1 (xs.flatMap enc)) (henc : ∀ x, (enc x).length = 1) (ha0 : s.a = some a0)
    (hi : i < xs.length) (ht : pureRun P (isAgg t) = some false) (hx : (enc xs[i])[0]? = some (l.val x)) (hk : k x w) :
    GetP P (vN (Instr.loadAt t (.pointer (some (Addr.add a0 (i * 1)))))) (.one (.leaf l)) k w :=
  get_el x hr ha0 rfl ht (by have := fld_at hr henc hi (j := 0) (by omega); rw [Nat.add_zero] at this; rw [this]; exact hx) hk
theorem chk_fld {t : TypeId} {a0 : Addr} {i j : Nat} {v : Value} {k : Pr} (hr : Reads w s sz (xs.flatMap enc)) (henc : ∀ x, (enc x).length = sz) (ha0 : s.a = some a0) (hs : a0.spot = none)
    (hi : i < xs.length) (hj : j < sz) (ht : pureRun P (isAgg t) = some false) (hx : (enc xs[i])[j]? = some v) (hk : k w) :
    ChkP P (vN (Instr.loadAt t (.pointer (some (Addr.add (Addr.add a0 (i * sz)) j))))) v k w :=
  chk_el hr ha0 (Addr.add_add _ _ _ hs) ht (by rw [fld_at hr henc hi hj]; exact hx) hk
theorem get_elt {t : TypeId} {ls : List Leaf} {a0 : Addr} {i : Nat} {k : cellsDen ls → Pr} (x : cellsDen ls) (hr : Reads w s sz (xs.flatMap enc)) (henc : ∀ x, (enc x).length = sz) (ha0 : s.a = some a0)
    (hi : i < xs.length) (ht : pureRun P (isAgg t) = some true) (hn : pureRun P (sizeOf t) = some sz) (hx : enc xs[i] = cellsVal ls x) (hk : k x w) :
    GetP P (vN (Instr.loadAt t (.pointer (some (Addr.add a0 (i * sz)))))) (.one (.agg ls)) k w := by
  have hsz : (cellsVal ls x).length = sz := by rw [← hx, henc]
  exact get_el_agg x hr ha0 rfl ht (by rw [hsz]; exact hn) (fun j hj => by rw [fld_at hr henc hi (by omega), hx]) hk

theorem JoinP.via {S : Type} {J : S → Pr} {body : (S → Pr) → Pr} {w : World} (A : S → World → Prop) (hJ : ∀ s w, A s w → J s w)
    (hb : ∀ J' : S → Pr, (∀ s w, A s w → J' s w) → body J' w) : JoinP J body w := ⟨hb J hJ⟩
theorem Holds.own_le {T : TypeId} {cs : List Value} (h : Holds E w (ownS T sz s cs :: L)) : s.len ≤ s.cap := h.own_len.2

/-- reading that lasts: whatever world in which L holds -/
abbrev Oracle (E : World) (L : List HProp) (s : Sl) (sz : Nat) (cs : List Value) : Prop := ∀ w, Holds E w L → Reads w s sz cs
end
end Go.Sh
