/- The disk: what a sector may have behind a crash, plain. -/
import Derived.Test.YtebicdddbeneoaaDk4
namespace Go.Proofs.Ytebicdddbeneoaa
open Go.Sh

def keysOk (m : MS) : Prop := (m.1.map (·.key)).Nodup
def base (m : MS) (x : Int) : ByteArray := (mlook eqInt x m.1).getD zeros
def wrote (l : List (Int × ByteArray)) (x : Int) : List ByteArray := (l.filter fun c => c.1 == x).map (·.2)
def mayOf (D : DSt) (x : Int) : List ByteArray := base D.m x :: wrote D.cache x

theorem eqInt_iff (a b : Int) : eqInt a b = true ↔ a = b := by simp [eqInt]
theorem toList_inj {a b : ByteArray} (h : a.toList = b.toList) : a = b := by
  rw [ByteArray.toList_eq, ByteArray.toList_eq] at h
  exact ByteArray.ext (Array.ext' h)

theorem lay_keys {m : MS} (c : Int × ByteArray) (h : keysOk m) : keysOk (layM m c) := by
  unfold layM
  split
  · exact mdel_nodup eqInt _ _ h
  · exact mset_nodup eqInt_iff _ _ _ _ h
theorem lay_base {m : MS} (c : Int × ByteArray) (x : Int) (h : keysOk m) : base (layM m c) x = if c.1 = x then c.2 else base m x := by
  unfold layM base
  split
  · rename_i hz
    have hz : c.2 = zeros := toList_inj (eq_of_beq hz)
    simp only
    rw [mlook_del eqInt_iff _ _ _ h]
    by_cases hx : c.1 = x
    · rw [if_pos ((eqInt_iff _ _).2 hx.symm), if_pos hx, hz]; rfl
    · rw [if_neg (fun hh => hx ((eqInt_iff _ _).1 hh).symm), if_neg hx]
  · simp only
    rw [mlook_set eqInt_iff]
    by_cases hx : c.1 = x
    · rw [if_pos ((eqInt_iff _ _).2 hx.symm), if_pos hx]; rfl
    · rw [if_neg (fun hh => hx ((eqInt_iff _ _).1 hh).symm), if_neg hx]

theorem wrote_cons (c : Int × ByteArray) (l : List (Int × ByteArray)) (x : Int) : wrote (c :: l) x = if c.1 = x then c.2 :: wrote l x else wrote l x := by
  unfold wrote
  by_cases h : c.1 = x <;> simp [h]
theorem wrote_append (a b : List (Int × ByteArray)) (x : Int) : wrote (a ++ b) x = wrote a x ++ wrote b x := by simp [wrote]

theorem fold_keys : ∀ (l : List (Int × ByteArray)) (m : MS), keysOk m → keysOk (l.foldl layM m)
  | [], _, h => h
  | c :: l, _, h => fold_keys l _ (lay_keys c h)
theorem fold_base (x : Int) : ∀ (l : List (Int × ByteArray)) (m : MS), keysOk m → base (l.foldl layM m) x = (base m x :: wrote l x).getLast (by simp)
  | [], _, _ => rfl
  | c :: l, m, h => by
    rw [List.foldl_cons, fold_base x l _ (lay_keys c h)]
    simp only [lay_base c x h, wrote_cons]
    by_cases hx : c.1 = x
    · simp only [hx, if_true]
      exact (List.getLast_cons (List.cons_ne_nil _ _)).symm
    · simp only [hx, if_false]

theorem crash_keys : ∀ (l : List (Bool × (Int × ByteArray))) (m : MS), keysOk m → keysOk (l.foldl crM m)
  | [], _, h => h
  | c :: l, m, h => crash_keys l _ (by unfold crM; split; exact lay_keys _ h; exact h)
theorem crash_base (x : Int) : ∀ (l : List (Bool × (Int × ByteArray))) (m : MS), keysOk m → base (l.foldl crM m) x ∈ base m x :: wrote (l.map (·.2)) x
  | [], _, _ => List.mem_cons_self
  | c :: l, m, h => by
    have hk : keysOk (crM m c) := by unfold crM; split; exact lay_keys _ h; exact h
    have ih := crash_base x l _ hk
    rw [List.foldl_cons, List.map_cons, wrote_cons]
    rcases List.mem_cons.1 ih with ih | ih
    · rw [ih]
      by_cases hb : c.1 = true
      · rw [crM, if_pos hb, lay_base _ _ h]
        by_cases hx : c.2.1 = x
        · rw [if_pos hx, if_pos hx]; exact List.mem_cons_of_mem _ List.mem_cons_self
        · rw [if_neg hx, if_neg hx]; exact List.mem_cons_self
      · rw [crM, if_neg hb]; exact List.mem_cons_self
    · refine List.mem_cons_of_mem _ ?_
      split
      · exact List.mem_cons_of_mem _ ih
      · exact ih
theorem zip_snd {α β : Type} : ∀ (a : List α) (b : List β), (a.zip b).map (·.2) = b.take a.length
  | [], b => by simp
  | x :: a, [] => by simp
  | x :: a, y :: b => by simp [zip_snd a b]
theorem wrote_take (l : List (Int × ByteArray)) (n : Nat) (x : Int) : ∀ v ∈ wrote (l.take n) x, v ∈ wrote l x := by
  intro v hv
  have : wrote l x = wrote (l.take n) x ++ wrote (l.drop n) x := by rw [← wrote_append, List.take_append_drop]
  rw [this]; exact List.mem_append_left _ hv

/-- behind a crash that went well a sector has what it may have -/
theorem crash_may {D : DSt} {ks : List Bool} (hk : keysOk D.m) (hl : ks.length ≤ D.cache.length) (x : Int) : rdD (cr D ks).2 x ∈ mayOf D x := by
  have e : cr D ks = (0, { D with m := (ks.zip D.cache).foldl crM D.m, cache := [], fused := false }) := by rw [cr, if_neg (by omega)]
  rw [e]
  have h1 : rdD { D with m := (ks.zip D.cache).foldl crM D.m, cache := [], fused := false } x = base ((ks.zip D.cache).foldl crM D.m) x := rfl
  simp only
  rw [h1]
  have h2 := crash_base x (ks.zip D.cache) D.m hk
  rw [zip_snd] at h2
  rcases List.mem_cons.1 h2 with h | h
  · rw [h]; exact List.mem_cons_self
  · exact List.mem_cons_of_mem _ (wrote_take _ _ _ _ h)

theorem cr_fine {D : DSt} {i : Nat} (h : Fine D i) (ks : List Bool) : Fine (cr D ks).2 i := by
  unfold cr
  split
  · exact h
  · refine { n := h.n, fused := rfl, len := Nat.zero_le _, cache := fun c hc => by simp at hc, stays := ?_ }
    have main : ∀ (l : List (Bool × (Int × ByteArray))) (m : MS), (∀ c ∈ l, c.2.2.size = 128) → (∀ e ∈ m.1, e.val.size = 128) → ∀ e ∈ (l.foldl crM m).1, e.val.size = 128 := by
      intro l
      induction l with
      | nil => intro m _ hm; exact hm
      | cons c l ih =>
        intro m hl hm
        rw [List.foldl_cons]
        refine ih _ (fun c hc => hl c (List.mem_cons_of_mem _ hc)) ?_
        unfold crM
        split
        · exact layM_vals (hl c List.mem_cons_self) hm
        · exact hm
    refine main _ _ (fun c hc => ?_) h.stays
    exact h.cache _ (List.of_mem_zip hc).2

theorem wr_keys {D : DSt} (h : keysOk D.m) (x : Int) (s : ByteArray) : keysOk (wr D x s).2.m := by
  by_cases hf : (wr D x s).1 = 0
  · rw [wr_ok hf]; exact h
  · rw [wr_no hf]; exact h
theorem fl_keys {D : DSt} (h : keysOk D.m) : keysOk (fl D).2.m := by
  unfold fl
  split
  · exact h
  · exact fold_keys _ _ h
theorem fl_may {D : DSt} (h : keysOk D.m) (hf : D.fused = false) (x : Int) : mayOf (fl D).2 x = [(mayOf D x).getLast (by simp [mayOf])] := by
  unfold fl
  rw [if_neg (by rw [hf]; simp)]
  simp only [mayOf]
  rw [fold_base x _ _ h]
  rfl
theorem wr_may {D : DSt} {y : Int} {s : ByteArray} (h : (wr D y s).1 = 0) (x : Int) : mayOf (wr D y s).2 x = if y = x then mayOf D x ++ [pad s] else mayOf D x := by
  rw [wr_ok h]
  simp only [mayOf, wrote_append, wrote_cons]
  by_cases hx : y = x <;> simp [hx, wrote]
theorem wr_may_no {D : DSt} {y : Int} {s : ByteArray} (h : (wr D y s).1 ≠ 0) (x : Int) : mayOf (wr D y s).2 x = mayOf D x := by rw [wr_no h]
theorem may_len {D : DSt} {i : Nat} (h : Fine D i) (x : Int) : (mayOf D x).length ≤ i + 1 := by
  have h1 : (wrote D.cache x).length ≤ D.cache.length := by unfold wrote; rw [List.length_map]; exact List.length_filter_le ..
  have := h.len
  simp only [mayOf, List.length_cons]; omega
end Go.Proofs.Ytebicdddbeneoaa
