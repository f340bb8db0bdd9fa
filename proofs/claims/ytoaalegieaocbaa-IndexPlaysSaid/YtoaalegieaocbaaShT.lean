/- Append, and new slices. -/
import Derived.Test.YtoaalegieaocbaaShS
import Derived.Laws.Strings3
import Derived.Laws.BytesString
namespace Go.Sh
section
variable {P : Program} {E w : World} {L L' : List HProp}

theorem growBy_le (n : Nat) : ∀ (r c : Nat), c ≤ 2 * n + 192 → Builtin.growBy n r c ≤ 2 * n + 192
  | 0, c, h => h
  | r + 1, c, h => by
    unfold Builtin.growBy
    split
    · exact h
    · refine growBy_le n r _ ?_
      omega
theorem nextslicecap_le (need old : Nat) (h : old ≤ need) : Builtin.nextslicecap need old ≤ 2 * need + 192 := by
  unfold Builtin.nextslicecap
  split
  · omega
  · split
    · omega
    · exact growBy_le need 4 old (by omega)

theorem run_mark {m : Mark} {w : World} : (mark m).run P w = .ok () w := rfl
theorem run_askRoom {n : Nat} {w : World} : (askRoom n).run P w = .ok () w := by unfold askRoom; split <;> rfl

theorem size_zeroCells (z : Array Value) (n : Nat) : (Builtin.zeroCells z n).size = n * z.size := by simp [Builtin.zeroCells]

/-- what an element's type is -/
structure ElemT (P : Program) (Te : TypeId) (sz by_ : Nat) : Prop where
  size : pureRun P (sizeOf Te) = some sz
  bytes : ((pureRun P (typeInfo Te)).map (·.bytes)) = some by_
  zero : ((pureRun P (zeroValue Te)).map (·.cells.size)) = some sz

theorem ElemT.info {Te : TypeId} {sz by_ : Nat} (h : ElemT P Te sz by_) : ∃ i, pureRun P (typeInfo Te) = some i ∧ i.bytes = by_ := by
  have := h.bytes
  cases hi : pureRun P (typeInfo Te) with
  | none => rw [hi] at this; cases this
  | some i => rw [hi] at this; simp at this; exact ⟨i, rfl, this⟩
theorem ElemT.zeros {Te : TypeId} {sz by_ : Nat} (h : ElemT P Te sz by_) : ∃ z, pureRun P (zeroValue Te) = some z ∧ z.cells.size = sz := by
  have := h.zero
  cases hi : pureRun P (zeroValue Te) with
  | none => rw [hi] at this; cases this
  | some i => rw [hi] at this; simp at this; exact ⟨i, rfl, this⟩

theorem own_size_lt {b : Nat} {o : Obj} {w : World} (h : w.heap[b]? = some o) : b < w.heap.size := by
  rcases Nat.lt_or_ge b w.heap.size with h' | h'
  · exact h'
  · simp [Array.getElem?_eq_none h'] at h

theorem do_append {T1 T2 R Te Te2 : TypeId} {sz by_ : Nat} {s t : Sl} {cs ds : List Value} {k : Sl → Pr}
    (h : Holds E w L) (p : Pick L (ownS Te sz s cs) L') (hT1 : pureRun P (underlying T1) = some (.slice Te)) (hT2 : pureRun P (underlying T2) = some (.slice Te2)) (hE : ElemT P Te sz by_)
    (ht : Reads w t sz ds) (hds : ∀ v ∈ ds, notAgg v = true) (hneed : s.len + t.len ≤ 2 ^ 40) (hbytes : (2 * (s.len + t.len) + 192) * by_ ≤ 2 ^ 48)
    (hk : ∀ s' w', s'.len = s.len + t.len → Holds E w' (ownS Te sz s' (cs ++ ds) :: L') → k s' w') :
    DoP P (vN (Builtin.append_ #[T1, T2] R #[.slice s.a s.len s.cap, .slice t.a t.len t.cap])) tSl k w := by
  have hp := h.pick p
  have hT1' := fun w => pureRun_sound _ hT1 w
  have hT2' := fun w => pureRun_sound _ hT2 w
  have hsz := fun w => pureRun_sound _ hE.size w
  obtain ⟨inf, hinf, hby⟩ := hE.info
  obtain ⟨z, hz, hzs⟩ := hE.zeros
  have hinf' := fun w => pureRun_sound _ hinf w
  have hz' := fun w => pureRun_sound _ hz w
  have hcl := hp.own_len
  have hread := hp.reads_own
  by_cases hfit : s.len + t.len ≤ s.cap
  · -- there is room
    rcases hp.own_cases with ⟨rfl, rfl, hh⟩ | ⟨b, pre, spare, ha, hl, hle, hsp, hh⟩
    · have ht0 : t.len = 0 := by simpa using hfit
      have hd0 : ds = [] := by
        have := ht.1
        rw [ht0] at this
        simpa using this
      subst hd0
      have hf := run_firstCells (P := P) ht
      rw [ht0] at hf
      refine ⟨⟨none, 0, 0⟩, w, run_vN ?_, hk _ _ (by simp [ht0]) (by simpa using hp)⟩
      simp [Builtin.append_, hT1', hsz, hT2', Builtin.lenOf, ht0, hf, Ty.val, Comp.val, Leaf.val]
    · have hf := run_firstCells (P := P) ht
      obtain ⟨c', h1, h2, h3⟩ := run_storeCells (P := P) (T := Te) (b := b) ds pre.length (s.len * sz) ⟨pre ++ (cs ++ spare)⟩ w hh.own
        (by simp [hl, ht.1]
            have : t.len * sz ≤ (s.cap - s.len) * sz := Nat.mul_le_mul_right _ (by omega)
            omega) hds
      have hc' : c' = ⟨pre ++ ((cs ++ ds) ++ (spare.drop ds.length))⟩ := by
        apply Array.ext_getElem?
        intro j
        rw [h3 j]
        simp only [List.getElem?_toArray, List.append_assoc, ← hl]
        by_cases hj0 : j < pre.length
        · rw [if_neg (by omega), List.getElem?_append_left hj0, List.getElem?_append_left hj0]
        · rw [List.getElem?_append_right (l₁ := pre) (by omega), List.getElem?_append_right (l₁ := pre) (by omega)]
          by_cases hj : j - pre.length < cs.length
          · rw [if_neg (by omega), List.getElem?_append_left hj, List.getElem?_append_left hj]
          · rw [List.getElem?_append_right (l₁ := cs) (by omega), List.getElem?_append_right (l₁ := cs) (by omega)]
            by_cases hj2 : j - pre.length < cs.length + ds.length
            · rw [if_pos (by omega), List.getElem?_append_left (by omega)]
              congr 1; omega
            · rw [if_neg (by omega), List.getElem?_append_right (l₁ := ds) (by omega), List.getElem?_drop]
              congr 1; omega
      refine ⟨⟨s.a, s.len + t.len, s.cap⟩, { w with heap := w.heap.setIfInBounds b (.cells c' Te (0, 0)) }, run_vN ?_, hk _ _ rfl ?_⟩
      · have hst : (storeCells ((⟨b, pre.length, none⟩ : Addr).add (s.len * sz)) ds).run P w = .ok () { w with heap := w.heap.setIfInBounds b (.cells c' Te (0, 0)) } := by
          have : ∀ (vs : List Value) (i n : Nat) (w : World), (storeCells ((⟨b, pre.length, none⟩ : Addr).add n) vs i).run P w = (storeCells ⟨b, pre.length, none⟩ vs (n + i)).run P w := by
            intro vs
            induction vs with
            | nil => intro i n w; rfl
            | cons v vs ih =>
              intro i n w
              simp only [storeCells]
              rw [run_bind, run_bind, Addr.add_add _ _ _ rfl]
              cases (store ((⟨b, pre.length, none⟩ : Addr).add (n + i)) v).run P w with
              | ok u w' => simpa [Nat.add_assoc] using ih (i + 1) n w'
              | halt x w' => rfl
          rw [this ds 0 (s.len * sz) w]; exact h1
        simp [Builtin.append_, hT1', hsz, hT2', Builtin.lenOf, hfit, hf, ha, hst, Ty.val, Comp.val, Leaf.val]
      · rw [hc']
        have hlen : (s.cap - (s.len + t.len)) * sz ≤ (spare.drop ds.length).length := by
          have e : s.cap - (s.len + t.len) = (s.cap - s.len) - t.len := by omega
          rw [List.length_drop, ht.1, e, Nat.sub_mul]; omega
        refine Holds.own_mk (pre := pre) (spare := spare.drop ds.length) (b := b) ?_ ha (by simp [hl, ht.1, Nat.add_mul]) hfit hlen
        exact hh.set
  · -- a new block
    have hcap : ¬ ((s.len + t.len : Nat) : Int) > IntKind.i64.max := by
      have : IntKind.i64.max = 9223372036854775807 := by rfl
      rw [this]
      have : (2 : Nat) ^ 40 = 1099511627776 := by decide
      omega
    have hnext : ¬ Builtin.nextslicecap (s.len + t.len) s.cap * inf.bytes > 2 ^ 48 := by
      have h1 := nextslicecap_le (s.len + t.len) s.cap (by omega)
      have h2 : Builtin.nextslicecap (s.len + t.len) s.cap * inf.bytes ≤ (2 * (s.len + t.len) + 192) * by_ := by rw [hby]; exact Nat.mul_le_mul_right _ h1
      omega
    have hL : Holds E { w with drawn := w.drawn + 1 } (ownS Te sz s cs :: L') := hp.drew
    obtain ⟨newCap, hnc, hle⟩ : ∃ n, (Question.appendCap (s.len + t.len) s.cap Te).cut (w.tape w.drawn (.appendCap (s.len + t.len) s.cap Te)) = n ∧ s.len + t.len ≤ n := ⟨_, rfl, Nat.le_add_right _ _⟩
    have hf1 : (Builtin.firstCells sz s.len (.slice s.a s.len s.cap)).run P w.drew = .ok cs.toArray w.drew := run_firstCells hL.reads_own
    have hf2 : (Builtin.firstCells sz t.len (.slice t.a t.len t.cap)).run P w.drew = .ok ds.toArray w.drew := run_firstCells ⟨ht.1, ht.2⟩
    refine ⟨⟨some ⟨w.heap.size, 0, none⟩, s.len + t.len, newCap⟩,
      { w with drawn := w.drawn + 1, heap := w.heap.push (.cells (cs.toArray ++ ds.toArray ++ Builtin.zeroCells z.cells (newCap - (s.len + t.len))) Te (0, 0)) }, run_vN ?_, hk _ _ rfl ?_⟩
    · have hcap' : ¬ (9223372036854775807 < ((s.len : Int) + (t.len : Int))) := by omega
      have hnext' : ¬ (281474976710656 < Builtin.nextslicecap (s.len + t.len) s.cap * inf.bytes) := by omega
      simp [Builtin.append_, hT1', hsz, hT2', Builtin.lenOf, hfit, hinf', hcap', hnext', Question.forced, hnc, hf1, hf2, hz', newRow, Ty.val, Comp.val, Leaf.val]
      rw [← Array.append_assoc, show cs.toArray ++ ds.toArray = (cs ++ ds).toArray from by simp]
      rfl
    · have hnew := (hL.drop).new (o := .cells (cs.toArray ++ ds.toArray ++ Builtin.zeroCells z.cells (newCap - (s.len + t.len))) Te (0, 0))
      have e : cs.toArray ++ ds.toArray ++ Builtin.zeroCells z.cells (newCap - (s.len + t.len)) = ⟨(cs ++ ds) ++ (Builtin.zeroCells z.cells (newCap - (s.len + t.len))).toList⟩ := by
        apply Array.ext'
        simp
      rw [e] at hnew ⊢
      refine Holds.own_mk (pre := []) hnew rfl (by simp [hcl.1, ht.1, Nat.add_mul]) hle ?_
      simp only [Array.length_toList]
      rw [size_zeroCells, hzs]
      exact Nat.le_refl _
end
end Go.Sh
