/- The index: New, Blocks, Len and Max; and the index that is not there. -/
import Derived.Test.YtoaalegieaocbaaIx9
namespace Go.Proofs.Ytoaalegieaocbaa
open Go.Sh
attribute [local irreducible] pto rob old ownS roS hstar hex hpure hemp mapB hro IxB

def encN (n : Nat) : List Value := [.int .i64 n]
theorem encN_len (n : Nat) : (encN n).length = 1 := rfl
theorem encN_na (n : Nat) : ∀ v ∈ encN n, notAgg v = true := by intro v hv; simp [encN] at hv; subst hv; rfl

def mx (a b : Int) : Int := if b > a then b else a
theorem maxEnd_from (l : List Item) : ∀ m : Int, m ≤ l.foldl (fun m i => if i.2.2.1 > m then i.2.2.1 else m) m := by
  induction l with
  | nil => intro m; exact Int.le_refl _
  | cons x l ih =>
    intro m
    simp only [List.foldl_cons]
    refine Int.le_trans ?_ (ih _)
    split <;> omega
theorem maxEnd_mono (l : List Item) : ∀ m n : Int, l.foldl (fun m i => if i.2.2.1 > m then i.2.2.1 else m) (mx m n) = mx m (l.foldl (fun m i => if i.2.2.1 > m then i.2.2.1 else m) n) := by
  induction l with
  | nil => intro m n; rfl
  | cons x l ih =>
    intro m n
    simp only [List.foldl_cons]
    rw [← ih]
    have : (if x.2.2.1 > mx m n then x.2.2.1 else mx m n) = mx m (if x.2.2.1 > n then x.2.2.1 else n) := by
      unfold mx
      generalize x.2.2.1 = y
      by_cases h1 : n > m <;> by_cases h2 : y > n <;> by_cases h3 : y > m <;> simp [h1, h2, h3] <;> omega
    rw [this]
theorem maxEnd_append (a b : List Item) : maxEnd (a ++ b) = mx (maxEnd a) (maxEnd b) := by
  have h0 : 0 ≤ maxEnd a := maxEnd_from a 0
  unfold maxEnd at *
  rw [List.foldl_append, ← maxEnd_mono]
  congr 1
  unfold mx; split <;> omega

section
variable {E w : World} {L L' : List HProp}

theorem new_spec {W : Int} {k : Option Addr × Int × Unit → Pr} (h : Holds E w L) (hbad : ¬ (2 ≤ W ∧ W ≤ 100) → k (none, 1, ()) w)
    (hok : 2 ≤ W → W ≤ 100 → ∀ d w', Holds E w' (IxB d W [] :: L) → k (some ⟨d, 0, none⟩, 0, ()) w') :
    CallP Try.prog 10 #[.int .i64 W] (.tup [.leaf .ptr, .leaf (.int .i64)]) k w := by
  refine rd10 _ _ _ ?_
  unfold sh10
  refine JoinP.go (CondP.mk' (fun hc => AnyP.go fun _ => CondP.yes rfl (hbad fun hh => by have := cT hc; omega)) (fun hc => AnyP.go fun _ => CondP.mk' (fun hc2 => hbad fun hh => by have := cT hc2; omega) (fun hc2 => ?_)))
  have hc := cF hc
  have hc2 := cF hc2
  refine do_box h fun d w h => ?_
  have h1 := (h.own_nil (T := 74) (sz := 2)).hro_nil (sz := 4)
  exact hok (by omega) (by omega) d _ (IxB.closed (s := ⟨none, 0, 0⟩) (bl := []) (h1.sub (Sub.take (by first | exact .head | exact (.tail .head) | exact (.tail (.tail .head)) | exact (.tail (.tail (.tail .head))) | exact (.tail (.tail (.tail (.tail .head)))) | exact (.tail (.tail (.tail (.tail (.tail .head))))) | exact (.tail (.tail (.tail (.tail (.tail (.tail .head)))))) | exact (.tail (.tail (.tail (.tail (.tail (.tail (.tail .head))))))) | exact (.tail (.tail (.tail (.tail (.tail (.tail (.tail (.tail .head))))))))) (Sub.take (by first | exact .head | exact (.tail .head) | exact (.tail (.tail .head)) | exact (.tail (.tail (.tail .head))) | exact (.tail (.tail (.tail (.tail .head)))) | exact (.tail (.tail (.tail (.tail (.tail .head))))) | exact (.tail (.tail (.tail (.tail (.tail (.tail .head)))))) | exact (.tail (.tail (.tail (.tail (.tail (.tail (.tail .head))))))) | exact (.tail (.tail (.tail (.tail (.tail (.tail (.tail (.tail .head))))))))) (Sub.take (by first | exact .head | exact (.tail .head) | exact (.tail (.tail .head)) | exact (.tail (.tail (.tail .head))) | exact (.tail (.tail (.tail (.tail .head)))) | exact (.tail (.tail (.tail (.tail (.tail .head))))) | exact (.tail (.tail (.tail (.tail (.tail (.tail .head)))))) | exact (.tail (.tail (.tail (.tail (.tail (.tail (.tail .head))))))) | exact (.tail (.tail (.tail (.tail (.tail (.tail (.tail (.tail .head))))))))) Sub.done)))))

theorem blocks_spec {d : Nat} {W : Int} {bs : List (List Item)} {k : Sl → Pr} (h : Holds E w (IxB d W bs :: L)) (hW : 0 < W) (hok : Okb bs)
    (hk : ∀ s w', Holds E w' (ownS 3 1 s ((bs.map (·.length)).flatMap encN) :: IxB d W bs :: L) → k s w') :
    CallP Try.prog 32 #[.pointer (some ⟨d, 0, none⟩)] tSl k w := by
  replace h := IxB.opened h
  obtain ⟨s, bl, rfl, h⟩ := h
  have hlen : bl.length ≤ 536870912 := by have := hok.len; rwa [List.length_map] at this
  have hB : ∀ w, Holds E w (pto d (.cells (xcells W s) 68 (0, 0)) :: ownS 74 2 s (bl.flatMap encB) :: hro 4 (bl.map roP) :: L) → Reads w s 2 (bl.flatMap encB) := fun w h => (h.pick .two).reads_own
  have hI := fun w (h : Holds E w (pto d (.cells (xcells W s) 68 (0, 0)) :: ownS 74 2 s (bl.flatMap encB) :: hro 4 (bl.map roP) :: L)) i (hi : i < bl.length) => (hro_items (h.pick (.tail (.tail .head))) hi).1
  have hsl := (hB w h).len_eq encB_len (by omega)
  refine rd32 _ _ _ ?_
  unfold sh32
  refine there_spec h .head rfl ?_
  refine CondP.no (by rw [decide_eq_true hW]; rfl) ?_
  refine val_nil ?_
  refine get_ld h rfl (by first | exact .head | exact (.tail .head) | exact (.tail (.tail .head)) | exact (.tail (.tail (.tail .head))) | exact (.tail (.tail (.tail (.tail .head)))) | exact (.tail (.tail (.tail (.tail (.tail .head))))) | exact (.tail (.tail (.tail (.tail (.tail (.tail .head)))))) | exact (.tail (.tail (.tail (.tail (.tail (.tail (.tail .head))))))) | exact (.tail (.tail (.tail (.tail (.tail (.tail (.tail (.tail .head))))))))) (by kernel_rfl) (x := s) rfl ?_
  refine LoopP.inv (fun q w => ∃ (t : Sl) (i : Nat), q = (t, (i : Int)) ∧ i ≤ bl.length ∧ Holds E w (ownS 3 1 t (((bl.take i).map (·.2.length)).flatMap encN) :: pto d (.cells (xcells W s) 68 (0, 0)) :: ownS 74 2 s (bl.flatMap encB) :: hro 4 (bl.map roP) :: L)) (fun q _ => bl.length - q.2.toNat)
    ⟨⟨none, 0, 0⟩, 0, rfl, by omega, by simpa using h.own_nil⟩ ?_
  rintro next q w ⟨t, i, rfl, hi, h⟩ hnext
  refine AnyP.go fun _ => CondP.mk' (fun hc => ?_) (fun hc => ?_)
  · have hc : i < bl.length := by have : (i : Int) < s.len := cT hc; omega
    refine val_idx (hB w h.drop) encB_len (by omega) hc (T := 66) (Te := 74) (by kernel_rfl) (by kernel_rfl) fun a0 ha0 hs0 => ?_
    refine get_elt (ls := [.slice, .int .i64]) (bl[i].1, maxEnd bl[i].2, ()) (hB w h.drop) encB_len ha0 hc (by kernel_rfl) (by kernel_rfl) rfl ?_
    refine do_alloc (z := .agg #[.slice none 0 0, .int .i64 0]) h (by kernel_rfl) fun bb w h => ?_
    refine do_st_all (n := 2) h rfl (by first | exact .head | exact (.tail .head) | exact (.tail (.tail .head)) | exact (.tail (.tail (.tail .head))) | exact (.tail (.tail (.tail (.tail .head)))) | exact (.tail (.tail (.tail (.tail (.tail .head))))) | exact (.tail (.tail (.tail (.tail (.tail (.tail .head)))))) | exact (.tail (.tail (.tail (.tail (.tail (.tail (.tail .head))))))) | exact (.tail (.tail (.tail (.tail (.tail (.tail (.tail (.tail .head))))))))) (by kernel_rfl) rfl rfl (by intro v hv; simp at hv; rcases hv with rfl | rfl <;> rfl) fun w h => ?_
    refine get_ld h rfl (by first | exact .head | exact (.tail .head) | exact (.tail (.tail .head)) | exact (.tail (.tail (.tail .head))) | exact (.tail (.tail (.tail (.tail .head)))) | exact (.tail (.tail (.tail (.tail (.tail .head))))) | exact (.tail (.tail (.tail (.tail (.tail (.tail .head)))))) | exact (.tail (.tail (.tail (.tail (.tail (.tail (.tail .head))))))) | exact (.tail (.tail (.tail (.tail (.tail (.tail (.tail (.tail .head))))))))) (by kernel_rfl) (x := bl[i].1) rfl ?_
    have hil := (hI w h.drop.drop i hc).len_eq encI_len (by omega)
    rw [hil]
    refine do_build (Te := 3) (sz := 1) (len := 1) ([bl[i].2.length].flatMap encN) h (by kernel_rfl) rfl fun t2 w ht2 h => ?_
    replace h := h.sub (M := ownS 3 1 t (((bl.take i).map (·.2.length)).flatMap encN) :: ownS 3 1 t2 ([bl[i].2.length].flatMap encN) :: pto d (.cells (xcells W s) 68 (0, 0)) :: ownS 74 2 s (bl.flatMap encB) :: hro 4 (bl.map roP) :: L) (by repeat (first | exact Sub.done | refine Sub.take (by first | exact .head | exact (.tail .head) | exact (.tail (.tail .head)) | exact (.tail (.tail (.tail .head))) | exact (.tail (.tail (.tail (.tail .head)))) | exact (.tail (.tail (.tail (.tail (.tail .head))))) | exact (.tail (.tail (.tail (.tail (.tail (.tail .head)))))) | exact (.tail (.tail (.tail (.tail (.tail (.tail (.tail .head))))))) | exact (.tail (.tail (.tail (.tail (.tail (.tail (.tail (.tail .head))))))))) ?_ | refine Sub.skip ?_))
    refine append_part (Te := 3) (Te2 := 3) h encN_len encN_na (by omega) (by kernel_rfl) (by kernel_rfl) elemN (by omega) h.drop.reads_own (by simp; omega) fun s1 w hs1 h => ?_
    rw [show IntKind.i64.wrap ((i : Int) + 1) = ((i + 1 : Nat) : Int) by rw [wrap_in _ (by omega)]; omega]
    refine hnext _ _ ⟨s1, i + 1, rfl, by omega, ?_⟩ (by simp only; omega)
    rw [← List.take_append_getElem hc, List.map_append]
    exact h.sub (by repeat (first | exact Sub.done | refine Sub.take (by first | exact .head | exact (.tail .head) | exact (.tail (.tail .head)) | exact (.tail (.tail (.tail .head))) | exact (.tail (.tail (.tail (.tail .head)))) | exact (.tail (.tail (.tail (.tail (.tail .head))))) | exact (.tail (.tail (.tail (.tail (.tail (.tail .head)))))) | exact (.tail (.tail (.tail (.tail (.tail (.tail (.tail .head))))))) | exact (.tail (.tail (.tail (.tail (.tail (.tail (.tail (.tail .head))))))))) ?_ | refine Sub.skip ?_))
  · have hc : i = bl.length := by have : ¬ (i : Int) < s.len := cF hc; omega
    rw [hc, List.take_length] at h
    refine hk _ _ ?_
    rw [List.map_map]
    exact (IxB.closed (W := W) (h.sub (M := pto d (.cells (xcells W s) 68 (0, 0)) :: ownS 74 2 s (bl.flatMap encB) :: hro 4 (bl.map roP) :: ownS 3 1 t ((bl.map (·.2.length)).flatMap encN) :: L) (by repeat (first | exact Sub.done | refine Sub.take (by first | exact .head | exact (.tail .head) | exact (.tail (.tail .head)) | exact (.tail (.tail (.tail .head))) | exact (.tail (.tail (.tail (.tail .head)))) | exact (.tail (.tail (.tail (.tail (.tail .head))))) | exact (.tail (.tail (.tail (.tail (.tail (.tail .head)))))) | exact (.tail (.tail (.tail (.tail (.tail (.tail (.tail .head))))))) | exact (.tail (.tail (.tail (.tail (.tail (.tail (.tail (.tail .head))))))))) ?_ | refine Sub.skip ?_)))).swap

theorem len_spec {d : Nat} {W : Int} {bs : List (List Item)} {k : Int → Pr} (h : Holds E w (IxB d W bs :: L)) (hW : 0 < W) (hok : Okb bs)
    (hk : ∀ w', Holds E w' (IxB d W bs :: L) → k bs.flatten.length w') :
    CallP Try.prog 26 #[.pointer (some ⟨d, 0, none⟩)] tInt k w := by
  refine rd26 _ _ _ ?_
  unfold sh26
  refine blocks_spec h hW hok fun t w h => ?_
  have hN := fun w (h : Holds E w (ownS 3 1 t ((bs.map (·.length)).flatMap encN) :: IxB d W bs :: L)) => h.reads_own
  have htl := (hN w h).len_eq encN_len (by omega)
  rw [List.length_map] at htl
  have hlen := hok.len
  have hsz := hok.sz
  refine LoopP.inv (fun q w => ∃ i : Nat, q = ((((bs.take i).flatten.length : Nat) : Int), (i : Int)) ∧ i ≤ bs.length ∧ Holds E w (ownS 3 1 t ((bs.map (·.length)).flatMap encN) :: IxB d W bs :: L)) (fun q _ => bs.length - q.2.toNat)
    ⟨0, rfl, by omega, h⟩ ?_
  rintro next q w ⟨i, rfl, hi, h⟩ hnext
  refine AnyP.go fun _ => CondP.mk' (fun hc => ?_) (fun hc => ?_)
  · have hc : i < bs.length := by have : (i : Int) < t.len := cT hc; omega
    refine val_idx (hN w h) encN_len (by omega) (i := i) (by rw [List.length_map]; exact hc) (T := 60) (Te := 3) (by kernel_rfl) (by kernel_rfl) fun a0 ha0 hs0 => ?_
    refine get_one (l := .int .i64) ((bs[i].length : Nat) : Int) (hN w h) encN_len ha0 (by rw [List.length_map]; exact hc) (by kernel_rfl) (by rw [List.getElem_map]; rfl) ?_
    have h1 := flat_ge (List.getElem_mem hc)
    have h2 : (bs.take i).flatten.length ≤ bs.flatten.length := (flat_sub (List.take_sublist i bs)).length_le
    rw [show IntKind.i64.wrap ((i : Int) + 1) = ((i + 1 : Nat) : Int) by rw [wrap_in _ (by omega)]; omega]
    rw [show IntKind.i64.wrap ((((bs.take i).flatten.length : Nat) : Int) + ((bs[i].length : Nat) : Int)) = (((bs.take (i + 1)).flatten.length : Nat) : Int) by
      rw [wrap_in _ (by omega), ← List.take_append_getElem hc, List.flatten_append, List.length_append]; simp]
    exact hnext _ _ ⟨i + 1, rfl, by omega, h⟩ (by simp only; omega)
  · have hc : i = bs.length := by have : ¬ (i : Int) < t.len := cF hc; omega
    rw [hc, List.take_length]
    exact hk _ h.drop

theorem max_spec {d : Nat} {W : Int} {bs : List (List Item)} {k : Int → Pr} (h : Holds E w (IxB d W bs :: L)) (hW : 0 < W) (hok : Okb bs)
    (hk : ∀ w', Holds E w' (IxB d W bs :: L) → k (maxEnd bs.flatten) w') :
    CallP Try.prog 27 #[.pointer (some ⟨d, 0, none⟩)] tInt k w := by
  replace h := IxB.opened h
  obtain ⟨s, bl, rfl, h⟩ := h
  have hlen : bl.length ≤ 536870912 := by have := hok.len; rwa [List.length_map] at this
  have hB : ∀ w, Holds E w (pto d (.cells (xcells W s) 68 (0, 0)) :: ownS 74 2 s (bl.flatMap encB) :: hro 4 (bl.map roP) :: L) → Reads w s 2 (bl.flatMap encB) := fun w h => (h.pick .two).reads_own
  have hsl := (hB w h).len_eq encB_len (by omega)
  refine rd27 _ _ _ ?_
  unfold sh27
  refine there_spec h .head rfl ?_
  refine CondP.no (by rw [decide_eq_true hW]; rfl) ?_
  refine val_nil ?_
  refine get_ld h rfl (by first | exact .head | exact (.tail .head) | exact (.tail (.tail .head)) | exact (.tail (.tail (.tail .head))) | exact (.tail (.tail (.tail (.tail .head)))) | exact (.tail (.tail (.tail (.tail (.tail .head))))) | exact (.tail (.tail (.tail (.tail (.tail (.tail .head)))))) | exact (.tail (.tail (.tail (.tail (.tail (.tail (.tail .head))))))) | exact (.tail (.tail (.tail (.tail (.tail (.tail (.tail (.tail .head))))))))) (by kernel_rfl) (x := s) rfl ?_
  refine LoopP.inv (fun q w => ∃ i : Nat, q = (maxEnd ((bl.take i).map (·.2)).flatten, (i : Int)) ∧ i ≤ bl.length ∧ Holds E w (pto d (.cells (xcells W s) 68 (0, 0)) :: ownS 74 2 s (bl.flatMap encB) :: hro 4 (bl.map roP) :: L)) (fun q _ => bl.length - q.2.toNat)
    ⟨0, rfl, by omega, h⟩ ?_
  rintro next q w ⟨i, rfl, hi, h⟩ hnext
  refine AnyP.go fun _ => CondP.mk' (fun hc => ?_) (fun hc => ?_)
  · have hc : i < bl.length := by have : (i : Int) < s.len := cT hc; omega
    refine val_idx (hB w h) encB_len (by omega) hc (T := 66) (Te := 74) (by kernel_rfl) (by kernel_rfl) fun a0 ha0 hs0 => ?_
    refine get_elt (ls := [.slice, .int .i64]) (bl[i].1, maxEnd bl[i].2, ()) (hB w h) encB_len ha0 hc (by kernel_rfl) (by kernel_rfl) rfl ?_
    refine do_alloc (z := .agg #[.slice none 0 0, .int .i64 0]) h (by kernel_rfl) fun bb w h => ?_
    refine do_st_all (n := 2) h rfl (by first | exact .head | exact (.tail .head) | exact (.tail (.tail .head)) | exact (.tail (.tail (.tail .head))) | exact (.tail (.tail (.tail (.tail .head)))) | exact (.tail (.tail (.tail (.tail (.tail .head))))) | exact (.tail (.tail (.tail (.tail (.tail (.tail .head)))))) | exact (.tail (.tail (.tail (.tail (.tail (.tail (.tail .head))))))) | exact (.tail (.tail (.tail (.tail (.tail (.tail (.tail (.tail .head))))))))) (by kernel_rfl) rfl rfl (by intro v hv; simp at hv; rcases hv with rfl | rfl <;> rfl) fun w h => ?_
    refine get_ld h rfl (by first | exact .head | exact (.tail .head) | exact (.tail (.tail .head)) | exact (.tail (.tail (.tail .head))) | exact (.tail (.tail (.tail (.tail .head)))) | exact (.tail (.tail (.tail (.tail (.tail .head))))) | exact (.tail (.tail (.tail (.tail (.tail (.tail .head)))))) | exact (.tail (.tail (.tail (.tail (.tail (.tail (.tail .head))))))) | exact (.tail (.tail (.tail (.tail (.tail (.tail (.tail (.tail .head))))))))) (by kernel_rfl) (x := maxEnd bl[i].2) rfl ?_
    rw [show IntKind.i64.wrap ((i : Int) + 1) = ((i + 1 : Nat) : Int) by rw [wrap_in _ (by omega)]; omega]
    refine hnext _ _ ⟨i + 1, ?_, by omega, h.drop⟩ (by simp only; omega)
    rw [← List.take_append_getElem hc, List.map_append, List.flatten_append, maxEnd_append]
    simp [mx]
  · have hc : i = bl.length := by have : ¬ (i : Int) < s.len := cF hc; omega
    rw [hc, List.take_length]
    exact hk _ (IxB.closed h)
end
end Go.Proofs.Ytoaalegieaocbaa
