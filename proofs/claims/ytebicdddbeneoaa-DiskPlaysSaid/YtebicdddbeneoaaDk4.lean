/- The disk: plain laws. -/
import Derived.Test.YtebicdddbeneoaaDk3
namespace Go.Proofs.Ytebicdddbeneoaa
open Go.Sh

/-- what the laws keep of a disk -/
structure Fine (D : DSt) (i : Nat) : Prop where
  n : D.n = 8
  fused : D.fused = false
  len : D.cache.length ≤ i
  cache : ∀ c ∈ D.cache, c.2.size = 128
  stays : ∀ e ∈ D.m.1, e.val.size = 128

theorem mset_vals {x : Int} {v : ByteArray} {P : ByteArray → Prop} (hv : P v) : ∀ (es : List (MEnt Int ByteArray)) (clock : Nat), (∀ e ∈ es, P e.val) → ∀ e ∈ mset eqInt x v es clock, P e.val
  | [], clock, _, e, he => by simp [mset] at he; subst he; exact hv
  | a :: es, clock, h, e, he => by
    simp only [mset] at he
    split at he
    · rcases List.mem_cons.1 he with rfl | he
      · exact hv
      · exact h e (List.mem_cons_of_mem _ he)
    · rcases List.mem_cons.1 he with rfl | he
      · exact h _ List.mem_cons_self
      · exact mset_vals hv es clock (fun e he => h e (List.mem_cons_of_mem _ he)) e he
theorem mdel_vals {x : Int} : ∀ (es : List (MEnt Int ByteArray)), ∀ e ∈ mdel eqInt x es, e ∈ es
  | [], e, he => he
  | a :: es, e, he => by
    simp only [mdel] at he
    split at he
    · exact List.mem_cons_of_mem _ he
    · rcases List.mem_cons.1 he with rfl | he
      · exact List.mem_cons_self
      · exact List.mem_cons_of_mem _ (mdel_vals es e he)
theorem mlook_mem {x : Int} {v : ByteArray} : ∀ (es : List (MEnt Int ByteArray)), mlook eqInt x es = some v → ∃ e ∈ es, e.val = v
  | [], h => by cases h
  | a :: es, h => by
    simp only [mlook] at h
    split at h
    · cases h; exact ⟨a, List.mem_cons_self, rfl⟩
    · obtain ⟨e, he, hv⟩ := mlook_mem es h
      exact ⟨e, List.mem_cons_of_mem _ he, hv⟩

theorem layM_vals {m : MS} {c : Int × ByteArray} (hc : c.2.size = 128) (hm : ∀ e ∈ m.1, e.val.size = 128) : ∀ e ∈ (layM m c).1, e.val.size = 128 := by
  unfold layM
  split
  · exact fun e he => hm e (mdel_vals _ e he)
  · exact mset_vals (P := fun v => v.size = 128) hc _ _ hm
theorem fold_vals : ∀ (l : List (Int × ByteArray)) (m : MS), (∀ c ∈ l, c.2.size = 128) → (∀ e ∈ m.1, e.val.size = 128) → ∀ e ∈ (l.foldl layM m).1, e.val.size = 128
  | [], _, _, hm => hm
  | c :: l, m, hl, hm => fold_vals l (layM m c) (fun c hc => hl c (List.mem_cons_of_mem _ hc)) (layM_vals (hl c List.mem_cons_self) hm)

theorem wr_fine {D : DSt} {i : Nat} (h : Fine D i) (x : Int) (s : ByteArray) : Fine (wr D x s).2 (i + 1) := by
  unfold wr
  split
  · exact { h with len := Nat.le_succ_of_le h.len }
  · split
    · exact { h with len := Nat.le_succ_of_le h.len }
    · split
      · exact { h with len := Nat.le_succ_of_le h.len }
      · rename_i hs _
        refine { n := h.n, fused := h.fused, len := by have := h.len; simp; omega, cache := fun c hc => ?_, stays := h.stays }
        rcases List.mem_append.1 hc with hc | hc
        · exact h.cache c hc
        · simp at hc; subst hc; exact pad_size s (by omega)
theorem fl_fine {D : DSt} {i : Nat} (h : Fine D i) : Fine (fl D).2 i := by
  unfold fl
  split
  · exact h
  · exact { n := h.n, fused := h.fused, len := Nat.zero_le _, cache := fun c hc => by simp at hc, stays := fold_vals _ _ h.cache h.stays }
theorem Fine.mono {D : DSt} {i j : Nat} (h : Fine D i) (hij : i ≤ j) : Fine D j := { h with len := by have := h.len; omega }
theorem D0_fine : Fine (D0 8) 0 := ⟨rfl, rfl, Nat.le_refl _, fun c hc => by simp [D0] at hc, fun e he => by simp [D0] at he⟩

theorem lastW_mem {x : Int} {v : ByteArray} : ∀ (l : List (Int × ByteArray)), lastW l x = some v → (x, v) ∈ l
  | [], h => by cases h
  | c :: l, h => by
    simp only [lastW] at h
    split at h
    · rename_i s hs
      cases h
      exact List.mem_cons_of_mem _ (lastW_mem l hs)
    · split at h
      · rename_i hc
        cases h
        subst hc
        exact List.mem_cons_self
      · cases h
theorem rdD_size {D : DSt} {i : Nat} (h : Fine D i) (x : Int) : (rdD D x).size = 128 := by
  unfold rdD
  cases hl : lastW D.cache x with
  | some v => exact h.cache _ (lastW_mem _ hl)
  | none =>
    cases hm : mlook eqInt x D.m.1 with
    | some v => obtain ⟨e, he, hv⟩ := mlook_mem _ hm; rw [← hv]; exact h.stays e he
    | none => exact zeros_size

theorem wr_ok {D : DSt} {x : Int} {s : ByteArray} (h : (wr D x s).1 = 0) : (wr D x s).2 = { D with left := IntKind.i64.wrap (D.left - 1), cache := D.cache ++ [(x, pad s)], writes := IntKind.i64.wrap (D.writes + 1) } := by
  unfold wr at h ⊢
  split
  · rename_i h1; rw [if_pos h1] at h; exact absurd h h1
  · rename_i h1; rw [if_neg h1] at h
    split
    · rename_i h2; rw [if_pos h2] at h; simp at h
    · rename_i h2; rw [if_neg h2] at h
      split
      · rename_i h3; rw [if_pos h3] at h; simp at h
      · rfl
theorem wr_no {D : DSt} {x : Int} {s : ByteArray} (h : (wr D x s).1 ≠ 0) : (wr D x s).2 = D := by
  unfold wr at h ⊢
  split
  · rfl
  · rename_i h1; rw [if_neg h1] at h
    split
    · rfl
    · rename_i h2; rw [if_neg h2] at h
      split
      · rfl
      · rename_i h3; rw [if_neg h3] at h; exact absurd rfl h
theorem wr_rd {D : DSt} {x y : Int} {s : ByteArray} (h : (wr D x s).1 = 0) : rdD (wr D x s).2 y = if y = x then pad s else rdD D y := by
  rw [wr_ok h]
  unfold rdD
  simp only [lastW_append, lastW]
  by_cases hy : y = x
  · subst hy; simp
  · rw [if_neg (Ne.symm hy), if_neg hy]; simp
theorem wr_zero {D : DSt} {i : Nat} (hD : Fine D i) {x : Int} (h0 : 0 ≤ x) (h8 : x < 8) (s : ByteArray) : ((wr D x s).1 = 0) ↔ s.size ≤ 128 := by
  have hr : ¬ rightM D.n x ≠ 0 := by
    rw [rightM, hD.n, if_neg (by omega)]; simp
  unfold wr
  rw [if_neg hr]
  split
  · simp; omega
  · rw [if_neg (by rw [hD.fused]; simp)]
    simp; omega
theorem rightM_in {n x : Int} (h0 : 0 ≤ x) (h1 : x < n) : rightM n x = 0 := by rw [rightM, if_neg (by omega)]

/-! ### operations that came in -/
structure OpV where
  kind : Int
  at_ : Int
  s : ByteArray
  keep : Sl
def encOp (o : OpV) : List Value := [.int .i64 o.kind, .int .i64 o.at_, .string o.s, .slice o.keep.a o.keep.len o.keep.cap]
theorem encOp_len (o : OpV) : (encOp o).length = 4 := rfl

theorem script_len {W : World} {script : Sl} {ops : List OpV} (hs : Reads W script 4 (ops.flatMap encOp)) : script.len = ops.length := by
  have := hs.1
  rw [flat_len encOp 4 encOp_len] at this
  omega
theorem script_addr {W : World} {script : Sl} {ops : List OpV} (hs : Reads W script 4 (ops.flatMap encOp)) {i : Nat} (hi : i < ops.length) : ∃ b off, script.a = some ⟨b, off, none⟩ :=
  hs.addr (by intro he; have := flat_len encOp 4 encOp_len ops; rw [he] at this; simp at this; omega)
theorem script_cell {W : World} {script : Sl} {ops : List OpV} (_hs : Reads W script 4 (ops.flatMap encOp)) {i : Nat} (hi : i < ops.length) (j : Nat) (hj : j < 4) : (ops.flatMap encOp)[i * 4 + j]? = (encOp ops[i])[j]? := by
  rw [flat_get encOp 4 encOp_len _ _ _ hj, List.getElem?_eq_getElem hi]; rfl
end Go.Proofs.Ytebicdddbeneoaa
