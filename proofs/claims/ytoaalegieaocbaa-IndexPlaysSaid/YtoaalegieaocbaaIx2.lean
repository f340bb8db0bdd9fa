/- The index: items and blocks; what the small functions come to. -/
import Derived.Test.YtoaalegieaocbaaIx
namespace Go.Proofs.Ytoaalegieaocbaa
open Go.Sh
attribute [local irreducible] pto rob old ownS roS hstar hex hpure hemp mapB hro

/-! ### items and blocks -/
/-- key, start, end, number -/
abbrev Item := ByteArray × Int × Int × Int × Unit
abbrev itL : List Leaf := [.str, .int .i64, .int .i64, .int .i64]
def encI (x : Item) : List Value := [.string x.1, .int .i64 x.2.1, .int .i64 x.2.2.1, .int .i64 x.2.2.2.1]
theorem encI_len (x : Item) : (encI x).length = 4 := rfl
theorem encI_na (x : Item) : ∀ v ∈ encI x, notAgg v = true := by
  intro v hv; simp [encI] at hv; rcases hv with rfl | rfl | rfl | rfl <;> rfl
theorem encI_cells (x : Item) : encI x = cellsVal itL x := rfl
def maxEnd (l : List Item) : Int := l.foldl (fun m i => if i.2.2.1 > m then i.2.2.1 else m) 0
def encB (p : Sl × List Item) : List Value := [.slice p.1.a p.1.len p.1.cap, .int .i64 (maxEnd p.2)]
theorem encB_len (p : Sl × List Item) : (encB p).length = 2 := rfl
theorem encB_na (x : Sl × List Item) : ∀ v ∈ encB x, notAgg v = true := by
  intro v hv; simp [encB] at hv; rcases hv with rfl | rfl <;> rfl

theorem elemI : ElemT Try.prog 31 4 40 := ⟨(by kernel_rfl), (by kernel_rfl), (by kernel_rfl)⟩
theorem elemB : ElemT Try.prog 74 2 32 := ⟨(by kernel_rfl), (by kernel_rfl), (by kernel_rfl)⟩
theorem elemR : ElemT Try.prog 36 4 40 := ⟨(by kernel_rfl), (by kernel_rfl), (by kernel_rfl)⟩
theorem elemN : ElemT Try.prog 3 1 8 := ⟨(by kernel_rfl), (by kernel_rfl), (by kernel_rfl)⟩

section
variable {E w : World} {L L' : List HProp}

theorem there_spec {d : Nat} {c : Array Value} {n : Int} {k : Bool → Pr} (h : Holds E w L) (p : Pick L (pto d (.cells c 68 (0, 0))) L')
    (hc : c[0]? = some (.int .i64 n)) (hk : k (decide (n > 0)) w) : CallP Try.prog 33 #[.pointer (some ⟨d, 0, none⟩)] tBool k w := by
  refine rd33 _ _ _ ?_
  unfold sh33
  refine get_pure true (by kernel_rfl) ?_
  refine JoinP.go (CondP.yes rfl ?_)
  refine val_nil ?_
  refine get_ld h rfl p (by kernel_rfl) (x := n) (by rw [show (0 : Nat) = 0 from rfl, hc]; rfl) ?_
  exact AnyP.go fun _ => hk
theorem there_nil {k : Bool → Pr} (hk : k false w) : CallP Try.prog 33 #[.pointer none] tBool k w := by
  refine rd33 _ _ _ ?_
  unfold sh33
  refine get_pure false (by kernel_rfl) ?_
  exact JoinP.go (CondP.no rfl (AnyP.go fun _ => hk))

/-- ahead of a place -/
def lt (i : Item) (k : ByteArray) (s : Int) : Bool := Op.bytesLess i.1.toList k.toList || (i.1.toList == k.toList && decide (i.2.1 < s))

theorem ahead_spec {x : Item} {p : ByteArray × Int × Unit} {k : Bool → Pr} (h : Holds E w L) (hk : ∀ w', Holds E w' L → k (lt x p.1 p.2.1) w') :
    CallP Try.prog 44 #[.agg #[.string x.1, .int .i64 x.2.1, .int .i64 x.2.2.1, .int .i64 x.2.2.2.1], .agg #[.string p.1, .int .i64 p.2.1]] tBool k w := by
  refine rd44 _ _ _ _ ?_
  unfold sh44
  refine do_box h fun b1 w h => do_box h fun b2 w h => ?_
  refine get_ld h rfl (by first | exact .head | exact (.tail .head) | exact (.tail (.tail .head)) | exact (.tail (.tail (.tail .head))) | exact (.tail (.tail (.tail (.tail .head)))) | exact (.tail (.tail (.tail (.tail (.tail .head))))) | exact (.tail (.tail (.tail (.tail (.tail (.tail .head)))))) | exact (.tail (.tail (.tail (.tail (.tail (.tail (.tail .head))))))) | exact (.tail (.tail (.tail (.tail (.tail (.tail (.tail (.tail .head))))))))) (by kernel_rfl) (x := x.1) rfl ?_
  refine get_ld h rfl (by first | exact .head | exact (.tail .head) | exact (.tail (.tail .head)) | exact (.tail (.tail (.tail .head))) | exact (.tail (.tail (.tail (.tail .head)))) | exact (.tail (.tail (.tail (.tail (.tail .head))))) | exact (.tail (.tail (.tail (.tail (.tail (.tail .head)))))) | exact (.tail (.tail (.tail (.tail (.tail (.tail (.tail .head))))))) | exact (.tail (.tail (.tail (.tail (.tail (.tail (.tail (.tail .head))))))))) (by kernel_rfl) (x := p.1) rfl ?_
  have hk := hk w h.drop.drop
  refine JoinP.go (CondP.mk' (fun hb => AnyP.go fun _ => ?_) (fun hb => ?_))
  · rw [lt, hb] at hk; exact hk
  refine get_ld h rfl (by first | exact .head | exact (.tail .head) | exact (.tail (.tail .head)) | exact (.tail (.tail (.tail .head))) | exact (.tail (.tail (.tail (.tail .head)))) | exact (.tail (.tail (.tail (.tail (.tail .head))))) | exact (.tail (.tail (.tail (.tail (.tail (.tail .head)))))) | exact (.tail (.tail (.tail (.tail (.tail (.tail (.tail .head))))))) | exact (.tail (.tail (.tail (.tail (.tail (.tail (.tail (.tail .head))))))))) (by kernel_rfl) (x := x.1) rfl ?_
  refine get_ld h rfl (by first | exact .head | exact (.tail .head) | exact (.tail (.tail .head)) | exact (.tail (.tail (.tail .head))) | exact (.tail (.tail (.tail (.tail .head)))) | exact (.tail (.tail (.tail (.tail (.tail .head))))) | exact (.tail (.tail (.tail (.tail (.tail (.tail .head)))))) | exact (.tail (.tail (.tail (.tail (.tail (.tail (.tail .head))))))) | exact (.tail (.tail (.tail (.tail (.tail (.tail (.tail (.tail .head))))))))) (by kernel_rfl) (x := p.1) rfl ?_
  rw [lt, hb, Bool.false_or] at hk
  refine JoinP.go (CondP.mk' (fun hb => ?_) (fun hb => AnyP.go fun _ => AnyP.go fun _ => ?_))
  · refine get_ld h rfl (by first | exact .head | exact (.tail .head) | exact (.tail (.tail .head)) | exact (.tail (.tail (.tail .head))) | exact (.tail (.tail (.tail (.tail .head)))) | exact (.tail (.tail (.tail (.tail (.tail .head))))) | exact (.tail (.tail (.tail (.tail (.tail (.tail .head)))))) | exact (.tail (.tail (.tail (.tail (.tail (.tail (.tail .head))))))) | exact (.tail (.tail (.tail (.tail (.tail (.tail (.tail (.tail .head))))))))) (by kernel_rfl) (x := x.2.1) rfl ?_
    refine get_ld h rfl (by first | exact .head | exact (.tail .head) | exact (.tail (.tail .head)) | exact (.tail (.tail (.tail .head))) | exact (.tail (.tail (.tail (.tail .head)))) | exact (.tail (.tail (.tail (.tail (.tail .head))))) | exact (.tail (.tail (.tail (.tail (.tail (.tail .head)))))) | exact (.tail (.tail (.tail (.tail (.tail (.tail (.tail .head))))))) | exact (.tail (.tail (.tail (.tail (.tail (.tail (.tail (.tail .head))))))))) (by kernel_rfl) (x := p.2.1) rfl ?_
    rw [hb, Bool.true_and] at hk
    exact AnyP.go fun _ => AnyP.go fun _ => hk
  · rw [hb, Bool.false_and] at hk; exact hk

theorem maxEnd_snoc (l : List Item) (x : Item) : maxEnd (l ++ [x]) = if x.2.2.1 > maxEnd l then x.2.2.1 else maxEnd l := by
  unfold maxEnd; rw [List.foldl_append]; rfl

theorem of_spec {s : Sl} {l : List Item} {k : Sl × Int × Unit → Pr} (h : Holds E w L) (hr : Oracle E L s 4 (l.flatMap encI)) (hb : l.length ≤ 1073741824) (hk : ∀ w', Holds E w' L → k (s, maxEnd l, ()) w') :
    CallP Try.prog 34 #[.slice s.a s.len s.cap] (.one (.agg [.slice, .int .i64])) k w := by
  have hl := (hr w h).len_eq encI_len (by omega)
  refine rd34 _ _ _ ?_
  unfold sh34
  refine do_alloc (z := .agg #[.slice none 0 0, .int .i64 0]) h (by kernel_rfl) fun b2 w h => ?_
  refine do_alloc (z := .agg #[.slice none 0 0, .int .i64 0]) h (by kernel_rfl) fun b3 w h => ?_
  refine do_st_all (n := 2) h rfl (by first | exact .head | exact (.tail .head) | exact (.tail (.tail .head)) | exact (.tail (.tail (.tail .head))) | exact (.tail (.tail (.tail (.tail .head)))) | exact (.tail (.tail (.tail (.tail (.tail .head))))) | exact (.tail (.tail (.tail (.tail (.tail (.tail .head)))))) | exact (.tail (.tail (.tail (.tail (.tail (.tail (.tail .head))))))) | exact (.tail (.tail (.tail (.tail (.tail (.tail (.tail (.tail .head))))))))) (by kernel_rfl) rfl rfl (by intro v hv; simp at hv; rcases hv with rfl | rfl <;> rfl) fun w h => ?_
  refine LoopP.inv (fun t w => ∃ i : Nat, t = i ∧ i ≤ l.length ∧ Holds E w (pto b3 (.cells #[.slice s.a s.len s.cap, .int .i64 (maxEnd (l.take i))] 74 (0, 0)) :: pto b2 (.cells #[.slice none 0 0, .int .i64 0] 74 (0, 0)) :: L)) (fun t _ => l.length - t.toNat)
    ⟨0, rfl, by omega, h⟩ ?_
  rintro next t w ⟨i, rfl, hi, h⟩ hnext
  refine AnyP.go fun _ => CondP.mk' (fun hc => ?_) (fun hc => ?_)
  · have hc : i < l.length := by have := cT hc; omega
    have hR := hr w h.drop.drop
    refine val_idx hR encI_len (by omega) hc (T := 72) (Te := 31) (by kernel_rfl) (by kernel_rfl) fun a0 ha0 hs0 => ?_
    refine get_elt l[i] hR encI_len ha0 hc (by kernel_rfl) (by kernel_rfl) rfl ?_
    refine do_alloc (z := .agg #[.string ⟨#[]⟩, .int .i64 0, .int .i64 0, .int .i64 0]) h (by kernel_rfl) fun b5 w h => ?_
    refine do_st_all (n := 4) h rfl (by first | exact .head | exact (.tail .head) | exact (.tail (.tail .head)) | exact (.tail (.tail (.tail .head))) | exact (.tail (.tail (.tail (.tail .head)))) | exact (.tail (.tail (.tail (.tail (.tail .head))))) | exact (.tail (.tail (.tail (.tail (.tail (.tail .head)))))) | exact (.tail (.tail (.tail (.tail (.tail (.tail (.tail .head))))))) | exact (.tail (.tail (.tail (.tail (.tail (.tail (.tail (.tail .head))))))))) (by kernel_rfl) rfl rfl (by intro v hv; simp at hv; rcases hv with rfl | rfl | rfl | rfl <;> rfl) fun w h => ?_
    refine get_ld h rfl (by first | exact .head | exact (.tail .head) | exact (.tail (.tail .head)) | exact (.tail (.tail (.tail .head))) | exact (.tail (.tail (.tail (.tail .head)))) | exact (.tail (.tail (.tail (.tail (.tail .head))))) | exact (.tail (.tail (.tail (.tail (.tail (.tail .head)))))) | exact (.tail (.tail (.tail (.tail (.tail (.tail (.tail .head))))))) | exact (.tail (.tail (.tail (.tail (.tail (.tail (.tail (.tail .head))))))))) (by kernel_rfl) (x := maxEnd (l.take i)) rfl ?_
    refine get_ld h rfl (by first | exact .head | exact (.tail .head) | exact (.tail (.tail .head)) | exact (.tail (.tail (.tail .head))) | exact (.tail (.tail (.tail (.tail .head)))) | exact (.tail (.tail (.tail (.tail (.tail .head))))) | exact (.tail (.tail (.tail (.tail (.tail (.tail .head)))))) | exact (.tail (.tail (.tail (.tail (.tail (.tail (.tail .head))))))) | exact (.tail (.tail (.tail (.tail (.tail (.tail (.tail (.tail .head))))))))) (by kernel_rfl) (x := l[i].2.2.1) rfl ?_
    refine do_st h rfl (by first | exact .head | exact (.tail .head) | exact (.tail (.tail .head)) | exact (.tail (.tail (.tail .head))) | exact (.tail (.tail (.tail (.tail .head)))) | exact (.tail (.tail (.tail (.tail (.tail .head))))) | exact (.tail (.tail (.tail (.tail (.tail (.tail .head)))))) | exact (.tail (.tail (.tail (.tail (.tail (.tail (.tail .head))))))) | exact (.tail (.tail (.tail (.tail (.tail (.tail (.tail (.tail .head))))))))) (by kernel_rfl) rfl rfl fun w h => ?_
    rw [wrap_in _ (by omega)]
    refine hnext _ _ ⟨i + 1, by omega, by omega, ?_⟩ (by omega)
    have e : l.take (i + 1) = l.take i ++ [l[i]] := (List.take_append_getElem hc).symm
    rw [e, maxEnd_snoc]
    exact h.sub (by repeat (first | exact Sub.done | refine Sub.take (by first | exact .head | exact (.tail .head) | exact (.tail (.tail .head)) | exact (.tail (.tail (.tail .head))) | exact (.tail (.tail (.tail (.tail .head)))) | exact (.tail (.tail (.tail (.tail (.tail .head))))) | exact (.tail (.tail (.tail (.tail (.tail (.tail .head)))))) | exact (.tail (.tail (.tail (.tail (.tail (.tail (.tail .head))))))) | exact (.tail (.tail (.tail (.tail (.tail (.tail (.tail (.tail .head))))))))) ?_ | refine Sub.skip ?_))
  · have hc : i = l.length := by have := cF hc; omega
    rw [hc, List.take_length] at h
    refine get_ld_agg (ls := [.slice, .int .i64]) (s, maxEnd l, ()) h rfl (by first | exact .head | exact (.tail .head) | exact (.tail (.tail .head)) | exact (.tail (.tail (.tail .head))) | exact (.tail (.tail (.tail (.tail .head)))) | exact (.tail (.tail (.tail (.tail (.tail .head))))) | exact (.tail (.tail (.tail (.tail (.tail (.tail .head)))))) | exact (.tail (.tail (.tail (.tail (.tail (.tail (.tail .head))))))) | exact (.tail (.tail (.tail (.tail (.tail (.tail (.tail (.tail .head))))))))) (by kernel_rfl) (by kernel_rfl) ?_
    refine do_st_all (n := 2) h rfl (by first | exact .head | exact (.tail .head) | exact (.tail (.tail .head)) | exact (.tail (.tail (.tail .head))) | exact (.tail (.tail (.tail (.tail .head)))) | exact (.tail (.tail (.tail (.tail (.tail .head))))) | exact (.tail (.tail (.tail (.tail (.tail (.tail .head)))))) | exact (.tail (.tail (.tail (.tail (.tail (.tail (.tail .head))))))) | exact (.tail (.tail (.tail (.tail (.tail (.tail (.tail (.tail .head))))))))) (by kernel_rfl) rfl rfl (by intro v hv; simp at hv; rcases hv with rfl | rfl <;> rfl) fun w h => ?_
    exact get_res1 (ls := [.slice, .int .i64]) (s, maxEnd l, ()) h (by first | exact .head | exact (.tail .head) | exact (.tail (.tail .head)) | exact (.tail (.tail (.tail .head))) | exact (.tail (.tail (.tail (.tail .head)))) | exact (.tail (.tail (.tail (.tail (.tail .head))))) | exact (.tail (.tail (.tail (.tail (.tail (.tail .head)))))) | exact (.tail (.tail (.tail (.tail (.tail (.tail (.tail .head))))))) | exact (.tail (.tail (.tail (.tail (.tail (.tail (.tail (.tail .head))))))))) (by kernel_rfl) (by kernel_rfl) (hk _ (h.sub (by repeat (first | exact Sub.done | refine Sub.take (by first | exact .head | exact (.tail .head) | exact (.tail (.tail .head)) | exact (.tail (.tail (.tail .head))) | exact (.tail (.tail (.tail (.tail .head)))) | exact (.tail (.tail (.tail (.tail (.tail .head))))) | exact (.tail (.tail (.tail (.tail (.tail (.tail .head)))))) | exact (.tail (.tail (.tail (.tail (.tail (.tail (.tail .head))))))) | exact (.tail (.tail (.tail (.tail (.tail (.tail (.tail (.tail .head))))))))) ?_ | refine Sub.skip ?_))))

theorem putI_spec {s t : Sl} {xs ys : List Item} {n : Nat} {k : Sl → Pr} (h : Holds E w L) (hr : Oracle E L s 4 (xs.flatMap encI)) (ht : Oracle E L t 4 (ys.flatMap encI)) (hle : s.len ≤ s.cap)
    (hn : n ≤ xs.length) (hb : xs.length + ys.length ≤ 1073741824) (hk : ∀ s1 w', s1.len = xs.length + ys.length → Holds E w' (ownS 31 4 s1 ((xs.take n ++ ys ++ xs.drop n).flatMap encI) :: L) → k s1 w') :
    CallP Try.prog 36 #[.slice s.a s.len s.cap, .int .i64 n, .slice t.a t.len t.cap] tSl k w := by
  refine rd36 _ _ _ _ _ ?_
  exact put_walk (Te := 31) (Te2 := 31) h encI_len encI_na (by omega) (by kernel_rfl) (by kernel_rfl) elemI (by omega) hr ht hle hn hb hk
theorem putB_spec {s t : Sl} {xs ys : List (Sl × List Item)} {n : Nat} {k : Sl → Pr} (h : Holds E w L) (hr : Oracle E L s 2 (xs.flatMap encB)) (ht : Oracle E L t 2 (ys.flatMap encB)) (hle : s.len ≤ s.cap)
    (hn : n ≤ xs.length) (hb : xs.length + ys.length ≤ 1073741824) (hk : ∀ s1 w', s1.len = xs.length + ys.length → Holds E w' (ownS 74 2 s1 ((xs.take n ++ ys ++ xs.drop n).flatMap encB) :: L) → k s1 w') :
    CallP Try.prog 45 #[.slice s.a s.len s.cap, .int .i64 n, .slice t.a t.len t.cap] tSl k w := by
  refine rd45 _ _ _ _ _ ?_
  exact put_walk (Te := 74) (Te2 := 74) h encB_len encB_na (by omega) (by kernel_rfl) (by kernel_rfl) elemB (by omega) hr ht hle hn hb hk
theorem cutI_spec {s : Sl} {xs : List Item} {n m : Nat} {k : Sl → Pr} (h : Holds E w L) (hr : Oracle E L s 4 (xs.flatMap encI)) (hle : s.len ≤ s.cap)
    (hn : n + m ≤ xs.length) (hb : xs.length ≤ 1073741824) (hk : ∀ s1 w', s1.len = xs.length - m → Holds E w' (ownS 31 4 s1 ((xs.take n ++ xs.drop (n + m)).flatMap encI) :: L) → k s1 w') :
    CallP Try.prog 39 #[.slice s.a s.len s.cap, .int .i64 n, .int .i64 m] tSl k w := by
  refine rd39 _ _ _ _ _ ?_
  exact cut_walk (Te := 31) h encI_len encI_na (by omega) (by kernel_rfl) elemI (by omega) hr hle hn hb hk
theorem cutB_spec {s : Sl} {xs : List (Sl × List Item)} {n m : Nat} {k : Sl → Pr} (h : Holds E w L) (hr : Oracle E L s 2 (xs.flatMap encB)) (hle : s.len ≤ s.cap)
    (hn : n + m ≤ xs.length) (hb : xs.length ≤ 1073741824) (hk : ∀ s1 w', s1.len = xs.length - m → Holds E w' (ownS 74 2 s1 ((xs.take n ++ xs.drop (n + m)).flatMap encB) :: L) → k s1 w') :
    CallP Try.prog 40 #[.slice s.a s.len s.cap, .int .i64 n, .int .i64 m] tSl k w := by
  refine rd40 _ _ _ _ _ ?_
  exact cut_walk (Te := 74) h encB_len encB_na (by omega) (by kernel_rfl) elemB (by omega) hr hle hn hb hk
end
end Go.Proofs.Ytoaalegieaocbaa
