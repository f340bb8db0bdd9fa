/- The index: Close and Delete. -/
import Derived.Test.YtoaalegieaocbaaIx6
namespace Go.Proofs.Ytoaalegieaocbaa
open Go.Sh
attribute [local irreducible] pto rob old ownS roS hstar hex hpure hemp mapB hro IxB

theorem getM_err {bs : List (List Item)} {k : ByteArray} {s : Int} (h : ¬ (getM bs k s).2 ≠ 0) : (findM bs k s).2.2 = true := by
  unfold getM at h
  cases hf : (findM bs k s).2.2 with
  | true => rfl
  | false => rw [hf] at h; exact absurd (by simp) h

theorem merge_len (W n : Int) (bs : List (List Item)) : (mergeM W n bs).length ≤ bs.length := by
  unfold mergeM
  split
  · exact Nat.le_refl _
  split
  · exact Nat.le_refl _
  simp; omega
theorem merge_one {W n : Int} {bs : List (List Item)} {N : Nat} (hW : W ≤ N) (h : ∀ b ∈ bs, b.length ≤ N) : ∀ b ∈ mergeM W n bs, b.length ≤ N := by
  unfold mergeM
  split
  · exact h
  split
  · exact h
  intro b hb
  rcases List.mem_append.1 hb with hb | hb
  · rcases List.mem_append.1 hb with hb | hb
    · exact h _ (List.mem_of_mem_take hb)
    · simp only [List.mem_cons, List.not_mem_nil, or_false] at hb
      subst hb
      rw [List.length_append]; omega
  · exact h _ (List.mem_of_mem_drop hb)

section
variable {E w : World} {L L' : List HProp}

abbrev Xo (d b : Nat) (W : Int) (s : Sl) (bl : Bl) (x : Item) (L : List HProp) : List HProp :=
  pto d (.cells (xcells W s) 68 (0, 0)) :: ownS 74 2 s (bl.flatMap encB) :: hro 4 (bl.map roP) :: pto b (.cells #[.string x.1, .int .i64 x.2.1, .int .i64 x.2.2.1, .int .i64 x.2.2.2.1] 31 (0, 0)) :: L

set_option maxHeartbeats 1000000 in
theorem close_spec {d : Nat} {W : Int} {bs : List (List Item)} {key : ByteArray} {st e : Int} {k : Int → Pr} (h : Holds E w (IxB d W bs :: L)) (hW : 0 < W) (hok : Okb bs)
    (hk : ∀ w', Holds E w' (IxB d W (closeM bs key st e).2 :: L) → k (closeM bs key st e).1 w') :
    CallP Try.prog 14 #[.pointer (some ⟨d, 0, none⟩), .string key, .int .i64 st, .int .i64 e] tInt k w := by
  refine rd14 _ _ _ _ _ _ ?_
  unfold sh14
  refine get_spec h hW hok fun w h => ?_
  dsimp only
  unfold closeM at hk
  have herr := getM_err (bs := bs) (k := key) (s := st)
  generalize (getM bs key st).1 = x at *
  generalize (getM bs key st).2 = er at *
  refine do_alloc (z := .agg #[.string ⟨#[]⟩, .int .i64 0, .int .i64 0, .int .i64 0]) h (by kernel_rfl) fun b9 w h => ?_
  refine do_st_all (n := 4) h rfl (by first | exact .head | exact (.tail .head) | exact (.tail (.tail .head)) | exact (.tail (.tail (.tail .head))) | exact (.tail (.tail (.tail (.tail .head)))) | exact (.tail (.tail (.tail (.tail (.tail .head))))) | exact (.tail (.tail (.tail (.tail (.tail (.tail .head)))))) | exact (.tail (.tail (.tail (.tail (.tail (.tail (.tail .head))))))) | exact (.tail (.tail (.tail (.tail (.tail (.tail (.tail (.tail .head))))))))) (by kernel_rfl) rfl rfl (by intro v hv; simp at hv; rcases hv with rfl | rfl | rfl | rfl <;> rfl) fun w h => ?_
  refine CondP.mk' (fun hc => ?_) (fun hc => ?_)
  · rw [if_pos (neT hc)] at hk
    exact hk _ (h.sub (by repeat (first | exact Sub.done | refine Sub.take (by first | exact .head | exact (.tail .head) | exact (.tail (.tail .head)) | exact (.tail (.tail (.tail .head))) | exact (.tail (.tail (.tail (.tail .head)))) | exact (.tail (.tail (.tail (.tail (.tail .head))))) | exact (.tail (.tail (.tail (.tail (.tail (.tail .head)))))) | exact (.tail (.tail (.tail (.tail (.tail (.tail (.tail .head))))))) | exact (.tail (.tail (.tail (.tail (.tail (.tail (.tail (.tail .head))))))))) ?_ | refine Sub.skip ?_)))
  have hc : ¬ er ≠ 0 := fun h => h (neF hc)
  rw [if_neg hc] at hk
  have hf := herr hc
  clear herr hc
  refine get_ld h rfl (by first | exact .head | exact (.tail .head) | exact (.tail (.tail .head)) | exact (.tail (.tail (.tail .head))) | exact (.tail (.tail (.tail (.tail .head)))) | exact (.tail (.tail (.tail (.tail (.tail .head))))) | exact (.tail (.tail (.tail (.tail (.tail (.tail .head)))))) | exact (.tail (.tail (.tail (.tail (.tail (.tail (.tail .head))))))) | exact (.tail (.tail (.tail (.tail (.tail (.tail (.tail (.tail .head))))))))) (by kernel_rfl) (x := x.2.2.1) rfl ?_
  refine CondP.mk' (fun hc => ?_) (fun hc => ?_)
  · rw [if_pos (neT hc)] at hk
    exact hk _ (h.sub (by repeat (first | exact Sub.done | refine Sub.take (by first | exact .head | exact (.tail .head) | exact (.tail (.tail .head)) | exact (.tail (.tail (.tail .head))) | exact (.tail (.tail (.tail (.tail .head)))) | exact (.tail (.tail (.tail (.tail (.tail .head))))) | exact (.tail (.tail (.tail (.tail (.tail (.tail .head)))))) | exact (.tail (.tail (.tail (.tail (.tail (.tail (.tail .head))))))) | exact (.tail (.tail (.tail (.tail (.tail (.tail (.tail (.tail .head))))))))) ?_ | refine Sub.skip ?_)))
  have hc : ¬ x.2.2.1 ≠ 1099511627776 := fun h => h (neF hc)
  rw [if_neg hc] at hk
  clear hc
  refine JoinP.via (fun b w => b = decide (e ≤ st ∨ 1099511627776 ≤ e) ∧ Holds E w (pto b9 (.cells #[.string x.1, .int .i64 x.2.1, .int .i64 x.2.2.1, .int .i64 x.2.2.2.1] 31 (0, 0)) :: IxB d W bs :: L)) ?_ fun J hJ => CondP.mk' (fun hc => hJ _ _ ⟨(decide_eq_true (.inl (cT hc))).symm, h⟩) (fun hc => hJ _ _ ⟨?_, h⟩)
  rotate_left
  · have hc := cF hc
    exact decide_eq_decide.2 ⟨fun h => .inr h, fun h => h.resolve_left hc⟩
  rintro _ w ⟨rfl, h⟩
  refine AnyP.go fun _ => CondP.mk' (fun hc => ?_) (fun hc => ?_)
  · rw [if_pos (cT hc)] at hk
    exact hk _ (h.sub (by repeat (first | exact Sub.done | refine Sub.take (by first | exact .head | exact (.tail .head) | exact (.tail (.tail .head)) | exact (.tail (.tail (.tail .head))) | exact (.tail (.tail (.tail (.tail .head)))) | exact (.tail (.tail (.tail (.tail (.tail .head))))) | exact (.tail (.tail (.tail (.tail (.tail (.tail .head)))))) | exact (.tail (.tail (.tail (.tail (.tail (.tail (.tail .head))))))) | exact (.tail (.tail (.tail (.tail (.tail (.tail (.tail (.tail .head))))))))) ?_ | refine Sub.skip ?_)))
  rw [if_neg (cF hc)] at hk
  clear hc
  obtain ⟨hn, hq, _⟩ := findM_true hf
  clear hf
  refine find_spec (p := (key, st, ())) (h.pick .two) hok.ne (by have := hok.len; omega) (fun b hb => by have := hok.one b hb; omega) fun w h => ?_
  dsimp only
  generalize (findM bs key st).2.1 = q at *
  generalize (findM bs key st).1 = n at *
  rw [blk_eq hn] at hk
  refine do_st h rfl (by first | exact .head | exact (.tail .head) | exact (.tail (.tail .head)) | exact (.tail (.tail (.tail .head))) | exact (.tail (.tail (.tail (.tail .head)))) | exact (.tail (.tail (.tail (.tail (.tail .head))))) | exact (.tail (.tail (.tail (.tail (.tail (.tail .head)))))) | exact (.tail (.tail (.tail (.tail (.tail (.tail (.tail .head))))))) | exact (.tail (.tail (.tail (.tail (.tail (.tail (.tail (.tail .head))))))))) (by kernel_rfl) rfl rfl fun w h => ?_
  refine DrewP.go h fun w h => ?_
  have hge : bs[n].length ≤ 536870912 := hok.one _ (List.getElem_mem hn)
  replace h := IxB.opened (h.pick .two)
  obtain ⟨s, bl, hbs, h⟩ := h
  have hn1 : n < bl.length := by rw [← hbs, List.length_map] at hn; exact hn
  have hel : bs[n] = bl[n].2 := by simp [← hbs]
  rw [hel] at hk hq hge
  rw [← hbs] at hk
  have hw : withEnd x e = (x.1, x.2.1, e, x.2.2.2.1, ()) := rfl
  generalize hy : withEnd x e = y at *
  replace h : Holds E w (Xo d b9 W s bl y L) := by rw [hw]; exact h
  clear hw hy
  have hB := fun w (h : Holds E w (Xo d b9 W s bl y L)) => (h.pick (.tail .head)).reads_own
  have hI := fun w (h : Holds E w (Xo d b9 W s bl y L)) => (hro_items (h.pick (.tail (.tail .head))) hn1).1
  have hcap := (hro_items (h.pick (.tail (.tail .head))) hn1).2
  have hfl2 := flat_len encB 2 encB_len bl
  have ecut : ∀ l : List Item, q < l.length → ((l.take q ++ l.drop (q + 1)).take q ++ [y] ++ (l.take q ++ l.drop (q + 1)).drop q) = l.take q ++ [y] ++ l.drop (q + 1) := by
    intro l hl
    rw [List.take_append_of_le_length (by simp; omega), List.take_take, Nat.min_self, List.drop_append_of_le_length (by simp; omega), List.drop_eq_nil_of_le (by simp; omega), List.nil_append]
  refine val_nil ?_
  refine get_ld h rfl (by first | exact .head | exact (.tail .head) | exact (.tail (.tail .head)) | exact (.tail (.tail (.tail .head))) | exact (.tail (.tail (.tail (.tail .head)))) | exact (.tail (.tail (.tail (.tail (.tail .head))))) | exact (.tail (.tail (.tail (.tail (.tail (.tail .head)))))) | exact (.tail (.tail (.tail (.tail (.tail (.tail (.tail .head))))))) | exact (.tail (.tail (.tail (.tail (.tail (.tail (.tail (.tail .head))))))))) (by kernel_rfl) (x := s) rfl ?_
  refine val_nil ?_
  refine get_ld h rfl (by first | exact .head | exact (.tail .head) | exact (.tail (.tail .head)) | exact (.tail (.tail (.tail .head))) | exact (.tail (.tail (.tail (.tail .head)))) | exact (.tail (.tail (.tail (.tail (.tail .head))))) | exact (.tail (.tail (.tail (.tail (.tail (.tail .head)))))) | exact (.tail (.tail (.tail (.tail (.tail (.tail (.tail .head))))))) | exact (.tail (.tail (.tail (.tail (.tail (.tail (.tail (.tail .head))))))))) (by kernel_rfl) (x := s) rfl ?_
  refine val_idx (hB w h) encB_len (by omega) hn1 (T := 66) (Te := 74) (by kernel_rfl) (by kernel_rfl) fun a0 ha0 hs0 => ?_
  refine get_fld bl[n].1 (hB w h) encB_len ha0 hs0 hn1 (by omega) (by kernel_rfl) rfl ?_
  refine get_ld_agg (ls := itL) y h rfl (by first | exact .head | exact (.tail .head) | exact (.tail (.tail .head)) | exact (.tail (.tail (.tail .head))) | exact (.tail (.tail (.tail (.tail .head)))) | exact (.tail (.tail (.tail (.tail (.tail .head))))) | exact (.tail (.tail (.tail (.tail (.tail (.tail .head)))))) | exact (.tail (.tail (.tail (.tail (.tail (.tail (.tail .head))))))) | exact (.tail (.tail (.tail (.tail (.tail (.tail (.tail (.tail .head))))))))) (by kernel_rfl) (by kernel_rfl) ?_
  have tail : ∀ (t1 t2 : Sl) (w : World), Holds E w (ownS 31 4 t1 ((bl[n].2.take q ++ bl[n].2.drop (q + 1)).flatMap encI) :: ownS 31 4 t2 ([y].flatMap encI) :: Xo d b9 W s bl y L) →
      CallP Try.prog 36 #[.slice t1.a t1.len t1.cap, .int .i64 q, .slice t2.a t2.len t2.cap] tSl (fun t66 =>
        ChkP Try.prog (vN (Instr.loadAt 66 (.pointer (some (Addr.add ⟨d, 0, none⟩ 1))))) (.slice s.a s.len s.cap) <|
        ChkP Try.prog (vN (Instr.loadAt 66 (.pointer (some (Addr.add ⟨d, 0, none⟩ 1))))) (.slice s.a s.len s.cap) <|
        CallP Try.prog 34 #[.slice t66.a t66.len t66.cap] (.one (.agg [.slice, .int .i64])) fun t67 =>
        ChkP Try.prog (vN (Instr.loadAt 66 (.pointer (some (Addr.add ⟨d, 0, none⟩ 1))))) (.slice s.a s.len s.cap) <|
        ChkP Try.prog (vN (Instr.loadAt 66 (.pointer (some (Addr.add ⟨d, 0, none⟩ 1))))) (.slice s.a s.len s.cap) <|
        ValP Try.prog (vN (Instr.indexAt 66 (.slice s.a s.len s.cap) (.int .i64 n))) tAddr fun t68 =>
        DoU Try.prog (uN (Instr.storeAt 74 (.pointer (some t68)) (.agg #[.slice t67.1.a t67.1.len t67.1.cap, .int .i64 t67.2.1]))) <|
        k 0) w := by
    intro t1 t2 w h
    refine putI_spec (xs := bl[n].2.take q ++ bl[n].2.drop (q + 1)) (ys := [y]) (n := q) h (fun w h => h.reads_own) (fun w h => h.drop.reads_own) h.own_le (by simp; omega) (by simp; omega) fun s1 w hs1 h => ?_
    rw [ecut _ hq] at h
    refine chk_ld h rfl (by first | exact .head | exact (.tail .head) | exact (.tail (.tail .head)) | exact (.tail (.tail (.tail .head))) | exact (.tail (.tail (.tail (.tail .head)))) | exact (.tail (.tail (.tail (.tail (.tail .head))))) | exact (.tail (.tail (.tail (.tail (.tail (.tail .head)))))) | exact (.tail (.tail (.tail (.tail (.tail (.tail (.tail .head))))))) | exact (.tail (.tail (.tail (.tail (.tail (.tail (.tail (.tail .head))))))))) (by kernel_rfl) rfl ?_
    refine chk_ld h rfl (by first | exact .head | exact (.tail .head) | exact (.tail (.tail .head)) | exact (.tail (.tail (.tail .head))) | exact (.tail (.tail (.tail (.tail .head)))) | exact (.tail (.tail (.tail (.tail (.tail .head))))) | exact (.tail (.tail (.tail (.tail (.tail (.tail .head)))))) | exact (.tail (.tail (.tail (.tail (.tail (.tail (.tail .head))))))) | exact (.tail (.tail (.tail (.tail (.tail (.tail (.tail (.tail .head))))))))) (by kernel_rfl) rfl ?_
    refine of_spec h (fun w h => h.reads_own) (by simp; omega) fun w h => ?_
    refine chk_ld h rfl (by first | exact .head | exact (.tail .head) | exact (.tail (.tail .head)) | exact (.tail (.tail (.tail .head))) | exact (.tail (.tail (.tail (.tail .head)))) | exact (.tail (.tail (.tail (.tail (.tail .head))))) | exact (.tail (.tail (.tail (.tail (.tail (.tail .head)))))) | exact (.tail (.tail (.tail (.tail (.tail (.tail (.tail .head))))))) | exact (.tail (.tail (.tail (.tail (.tail (.tail (.tail (.tail .head))))))))) (by kernel_rfl) rfl ?_
    refine chk_ld h rfl (by first | exact .head | exact (.tail .head) | exact (.tail (.tail .head)) | exact (.tail (.tail (.tail .head))) | exact (.tail (.tail (.tail (.tail .head)))) | exact (.tail (.tail (.tail (.tail (.tail .head))))) | exact (.tail (.tail (.tail (.tail (.tail (.tail .head)))))) | exact (.tail (.tail (.tail (.tail (.tail (.tail (.tail .head))))))) | exact (.tail (.tail (.tail (.tail (.tail (.tail (.tail (.tail .head))))))))) (by kernel_rfl) rfl ?_
    refine val_idx (hB w h.drop.drop.drop) encB_len (by omega) hn1 (T := 66) (Te := 74) (by kernel_rfl) (by kernel_rfl) fun a1 ha1 hs1 => ?_
    refine do_set_agg (i := n * 2) (vs := [.slice s1.a s1.len s1.cap, .int .i64 (maxEnd _)]) (sz := 2) (T := 74) h (.tail (.tail (.tail (.tail .head)))) ha1 rfl (by rw [hfl2]; simp; omega) (by rw [hfl2]; omega) (by kernel_rfl) (by intro v hv; simp at hv; rcases hv with rfl | rfl <;> rfl) fun w h => ?_
    exact hk _ (IxB.closed_set (W := W) (L := L) hn1 (h.sub (by repeat (first | exact Sub.done | refine Sub.take (by first | exact .head | exact (.tail .head) | exact (.tail (.tail .head)) | exact (.tail (.tail (.tail .head))) | exact (.tail (.tail (.tail (.tail .head)))) | exact (.tail (.tail (.tail (.tail (.tail .head))))) | exact (.tail (.tail (.tail (.tail (.tail (.tail .head)))))) | exact (.tail (.tail (.tail (.tail (.tail (.tail (.tail .head))))))) | exact (.tail (.tail (.tail (.tail (.tail (.tail (.tail (.tail .head))))))))) ?_ | refine Sub.skip ?_))))
  refine ⟨⟨?_, ?_⟩⟩
  · refine cutI_spec (xs := bl[n].2) (n := q) (m := 1) h hI hcap (by omega) (by omega) fun t1 w ht1 h => ?_
    refine chk_ld h rfl (by first | exact .head | exact (.tail .head) | exact (.tail (.tail .head)) | exact (.tail (.tail (.tail .head))) | exact (.tail (.tail (.tail (.tail .head)))) | exact (.tail (.tail (.tail (.tail (.tail .head))))) | exact (.tail (.tail (.tail (.tail (.tail (.tail .head)))))) | exact (.tail (.tail (.tail (.tail (.tail (.tail (.tail .head))))))) | exact (.tail (.tail (.tail (.tail (.tail (.tail (.tail (.tail .head))))))))) (by kernel_rfl) rfl ?_
    refine chk_ld h rfl (by first | exact .head | exact (.tail .head) | exact (.tail (.tail .head)) | exact (.tail (.tail (.tail .head))) | exact (.tail (.tail (.tail (.tail .head)))) | exact (.tail (.tail (.tail (.tail (.tail .head))))) | exact (.tail (.tail (.tail (.tail (.tail (.tail .head)))))) | exact (.tail (.tail (.tail (.tail (.tail (.tail (.tail .head))))))) | exact (.tail (.tail (.tail (.tail (.tail (.tail (.tail (.tail .head))))))))) (by kernel_rfl) rfl ?_
    refine chk_ld_agg (vs := cellsVal itL y) h rfl (by first | exact .head | exact (.tail .head) | exact (.tail (.tail .head)) | exact (.tail (.tail (.tail .head))) | exact (.tail (.tail (.tail (.tail .head)))) | exact (.tail (.tail (.tail (.tail (.tail .head))))) | exact (.tail (.tail (.tail (.tail (.tail (.tail .head)))))) | exact (.tail (.tail (.tail (.tail (.tail (.tail (.tail .head))))))) | exact (.tail (.tail (.tail (.tail (.tail (.tail (.tail (.tail .head))))))))) (by kernel_rfl) (by kernel_rfl) ?_
    refine do_build (Te := 31) (sz := 4) (len := 1) ([y].flatMap encI) h (by kernel_rfl) rfl fun t2 w ht2 h => ?_
    refine chk_ld h rfl (by first | exact .head | exact (.tail .head) | exact (.tail (.tail .head)) | exact (.tail (.tail (.tail .head))) | exact (.tail (.tail (.tail (.tail .head)))) | exact (.tail (.tail (.tail (.tail (.tail .head))))) | exact (.tail (.tail (.tail (.tail (.tail (.tail .head)))))) | exact (.tail (.tail (.tail (.tail (.tail (.tail (.tail .head))))))) | exact (.tail (.tail (.tail (.tail (.tail (.tail (.tail (.tail .head))))))))) (by kernel_rfl) rfl ?_
    refine chk_ld h rfl (by first | exact .head | exact (.tail .head) | exact (.tail (.tail .head)) | exact (.tail (.tail (.tail .head))) | exact (.tail (.tail (.tail (.tail .head)))) | exact (.tail (.tail (.tail (.tail (.tail .head))))) | exact (.tail (.tail (.tail (.tail (.tail (.tail .head)))))) | exact (.tail (.tail (.tail (.tail (.tail (.tail (.tail .head))))))) | exact (.tail (.tail (.tail (.tail (.tail (.tail (.tail (.tail .head))))))))) (by kernel_rfl) rfl ?_
    exact tail _ _ _ (h.sub (by repeat (first | exact Sub.done | refine Sub.take (by first | exact .head | exact (.tail .head) | exact (.tail (.tail .head)) | exact (.tail (.tail (.tail .head))) | exact (.tail (.tail (.tail (.tail .head)))) | exact (.tail (.tail (.tail (.tail (.tail .head))))) | exact (.tail (.tail (.tail (.tail (.tail (.tail .head)))))) | exact (.tail (.tail (.tail (.tail (.tail (.tail (.tail .head))))))) | exact (.tail (.tail (.tail (.tail (.tail (.tail (.tail (.tail .head))))))))) ?_ | refine Sub.skip ?_)))
  · refine do_build (Te := 31) (sz := 4) (len := 1) ([y].flatMap encI) h (by kernel_rfl) rfl fun t2 w ht2 h => ?_
    refine chk_ld h rfl (by first | exact .head | exact (.tail .head) | exact (.tail (.tail .head)) | exact (.tail (.tail (.tail .head))) | exact (.tail (.tail (.tail (.tail .head)))) | exact (.tail (.tail (.tail (.tail (.tail .head))))) | exact (.tail (.tail (.tail (.tail (.tail (.tail .head)))))) | exact (.tail (.tail (.tail (.tail (.tail (.tail (.tail .head))))))) | exact (.tail (.tail (.tail (.tail (.tail (.tail (.tail (.tail .head))))))))) (by kernel_rfl) rfl ?_
    refine chk_ld h rfl (by first | exact .head | exact (.tail .head) | exact (.tail (.tail .head)) | exact (.tail (.tail (.tail .head))) | exact (.tail (.tail (.tail (.tail .head)))) | exact (.tail (.tail (.tail (.tail (.tail .head))))) | exact (.tail (.tail (.tail (.tail (.tail (.tail .head)))))) | exact (.tail (.tail (.tail (.tail (.tail (.tail (.tail .head))))))) | exact (.tail (.tail (.tail (.tail (.tail (.tail (.tail (.tail .head))))))))) (by kernel_rfl) rfl ?_
    refine chk_fld (hB w h.drop) encB_len ha0 hs0 hn1 (by omega) (by kernel_rfl) rfl ?_
    refine cutI_spec (xs := bl[n].2) (n := q) (m := 1) h (fun w h => hI w h.drop) hcap (by omega) (by omega) fun t1 w ht1 h => ?_
    refine chk_ld h rfl (by first | exact .head | exact (.tail .head) | exact (.tail (.tail .head)) | exact (.tail (.tail (.tail .head))) | exact (.tail (.tail (.tail (.tail .head)))) | exact (.tail (.tail (.tail (.tail (.tail .head))))) | exact (.tail (.tail (.tail (.tail (.tail (.tail .head)))))) | exact (.tail (.tail (.tail (.tail (.tail (.tail (.tail .head))))))) | exact (.tail (.tail (.tail (.tail (.tail (.tail (.tail (.tail .head))))))))) (by kernel_rfl) rfl ?_
    refine chk_ld h rfl (by first | exact .head | exact (.tail .head) | exact (.tail (.tail .head)) | exact (.tail (.tail (.tail .head))) | exact (.tail (.tail (.tail (.tail .head)))) | exact (.tail (.tail (.tail (.tail (.tail .head))))) | exact (.tail (.tail (.tail (.tail (.tail (.tail .head)))))) | exact (.tail (.tail (.tail (.tail (.tail (.tail (.tail .head))))))) | exact (.tail (.tail (.tail (.tail (.tail (.tail (.tail (.tail .head))))))))) (by kernel_rfl) rfl ?_
    exact tail _ _ _ h

set_option maxHeartbeats 1000000 in
theorem delete_spec {d : Nat} {W : Int} {bs : List (List Item)} {key : ByteArray} {st : Int} {k : Int → Pr} (h : Holds E w (IxB d W bs :: L)) (hW : 0 < W) (hW1 : W ≤ 100) (hok : Okb bs)
    (hk : ∀ w', Holds E w' (IxB d W (delM W bs key st).2 :: L) → k (delM W bs key st).1 w') :
    CallP Try.prog 16 #[.pointer (some ⟨d, 0, none⟩), .string key, .int .i64 st] tInt k w := by
  refine rd16 _ _ _ _ _ ?_
  unfold sh16
  refine get_spec h hW hok fun w h => ?_
  dsimp only
  unfold delM at hk
  have herr := getM_err (bs := bs) (k := key) (s := st)
  generalize (getM bs key st).1 = x at *
  generalize (getM bs key st).2 = er at *
  refine do_alloc (z := .agg #[.string ⟨#[]⟩, .int .i64 0, .int .i64 0, .int .i64 0]) h (by kernel_rfl) fun b9 w h => ?_
  refine do_st_all (n := 4) h rfl (by first | exact .head | exact (.tail .head) | exact (.tail (.tail .head)) | exact (.tail (.tail (.tail .head))) | exact (.tail (.tail (.tail (.tail .head)))) | exact (.tail (.tail (.tail (.tail (.tail .head))))) | exact (.tail (.tail (.tail (.tail (.tail (.tail .head)))))) | exact (.tail (.tail (.tail (.tail (.tail (.tail (.tail .head))))))) | exact (.tail (.tail (.tail (.tail (.tail (.tail (.tail (.tail .head))))))))) (by kernel_rfl) rfl rfl (by intro v hv; simp at hv; rcases hv with rfl | rfl | rfl | rfl <;> rfl) fun w h => ?_
  refine CondP.mk' (fun hc => ?_) (fun hc => ?_)
  · rw [if_pos (neT hc)] at hk
    exact hk _ (h.sub (by repeat (first | exact Sub.done | refine Sub.take (by first | exact .head | exact (.tail .head) | exact (.tail (.tail .head)) | exact (.tail (.tail (.tail .head))) | exact (.tail (.tail (.tail (.tail .head)))) | exact (.tail (.tail (.tail (.tail (.tail .head))))) | exact (.tail (.tail (.tail (.tail (.tail (.tail .head)))))) | exact (.tail (.tail (.tail (.tail (.tail (.tail (.tail .head))))))) | exact (.tail (.tail (.tail (.tail (.tail (.tail (.tail (.tail .head))))))))) ?_ | refine Sub.skip ?_)))
  have hc : ¬ er ≠ 0 := fun h => h (neF hc)
  rw [if_neg hc] at hk
  have hf := herr hc
  clear herr hc
  obtain ⟨hn, hq, _⟩ := findM_true hf
  clear hf
  refine find_spec (p := (key, st, ())) (h.pick .two) hok.ne (by have := hok.len; omega) (fun b hb => by have := hok.one b hb; omega) fun w h => ?_
  dsimp only
  generalize (findM bs key st).2.1 = q at *
  generalize (findM bs key st).1 = n at *
  rw [blk_eq hn] at hk
  have hlen := hok.len
  have hone := hok.one
  have hge : bs[n].length ≤ 536870912 := hone _ (List.getElem_mem hn)
  replace h := IxB.opened h
  obtain ⟨s, bl, hbs, h⟩ := h
  have hn1 : n < bl.length := by rw [← hbs, List.length_map] at hn; exact hn
  have hel : bs[n] = bl[n].2 := by simp [← hbs]
  have hbn : bl.length ≤ 536870912 := by rw [← hbs, List.length_map] at hlen; exact hlen
  rw [hel] at hk hq hge
  rw [← hbs] at hk
  replace h : Holds E w (Xo d b9 W s bl x L) := h
  have hB := fun w (h : Holds E w (Xo d b9 W s bl x L)) => (h.pick (.tail .head)).reads_own
  have hI := fun w (h : Holds E w (Xo d b9 W s bl x L)) => (hro_items (h.pick (.tail (.tail .head))) hn1).1
  have hcap := (hro_items (h.pick (.tail (.tail .head))) hn1).2
  have hscap := (h.pick (.tail .head)).own_le
  have hfl2 := flat_len encB 2 encB_len bl
  refine val_nil ?_
  refine get_ld h rfl (by first | exact .head | exact (.tail .head) | exact (.tail (.tail .head)) | exact (.tail (.tail (.tail .head))) | exact (.tail (.tail (.tail (.tail .head)))) | exact (.tail (.tail (.tail (.tail (.tail .head))))) | exact (.tail (.tail (.tail (.tail (.tail (.tail .head)))))) | exact (.tail (.tail (.tail (.tail (.tail (.tail (.tail .head))))))) | exact (.tail (.tail (.tail (.tail (.tail (.tail (.tail (.tail .head))))))))) (by kernel_rfl) (x := s) rfl ?_
  refine val_idx (hB w h) encB_len (by omega) hn1 (T := 66) (Te := 74) (by kernel_rfl) (by kernel_rfl) fun a0 ha0 hs0 => ?_
  refine get_fld bl[n].1 (hB w h) encB_len ha0 hs0 hn1 (by omega) (by kernel_rfl) rfl ?_
  refine cutI_spec (xs := bl[n].2) (n := q) (m := 1) h hI hcap (by omega) (by omega) fun t1 w ht1 h => ?_
  replace h : Holds E w (ownS 31 4 t1 ((cutAt bl[n].2 q).flatMap encI) :: Xo d b9 W s bl x L) := h
  have hcl : (cutAt bl[n].2 q).length = bl[n].2.length - 1 := by unfold cutAt; simp; omega
  have hw1 : IntKind.i64.wrap ((n : Int) - 1) = (n : Int) - 1 := wrap_in _ (by omega)
  generalize cutAt bl[n].2 q = l1 at *
  have ht1' : t1.len = l1.length := by omega
  refine CondP.mk' (fun hc => ?_) (fun hc => ?_)
  · have hl1 : l1 = [] := List.eq_nil_of_length_eq_zero (by have := eqT hc; omega)
    rw [if_pos hl1] at hk
    refine val_nil ?_
    refine get_ld h rfl (by first | exact .head | exact (.tail .head) | exact (.tail (.tail .head)) | exact (.tail (.tail (.tail .head))) | exact (.tail (.tail (.tail (.tail .head)))) | exact (.tail (.tail (.tail (.tail (.tail .head))))) | exact (.tail (.tail (.tail (.tail (.tail (.tail .head)))))) | exact (.tail (.tail (.tail (.tail (.tail (.tail (.tail .head))))))) | exact (.tail (.tail (.tail (.tail (.tail (.tail (.tail (.tail .head))))))))) (by kernel_rfl) (x := s) rfl ?_
    refine cutB_spec (xs := bl) (n := n) (m := 1) h (fun w h => hB w h.drop) hscap (by omega) (by omega) fun s1 w hs1 h => ?_
    refine val_nil ?_
    refine do_st h rfl (by first | exact .head | exact (.tail .head) | exact (.tail (.tail .head)) | exact (.tail (.tail (.tail .head))) | exact (.tail (.tail (.tail (.tail .head)))) | exact (.tail (.tail (.tail (.tail (.tail .head))))) | exact (.tail (.tail (.tail (.tail (.tail (.tail .head)))))) | exact (.tail (.tail (.tail (.tail (.tail (.tail (.tail .head))))))) | exact (.tail (.tail (.tail (.tail (.tail (.tail (.tail (.tail .head))))))))) (by kernel_rfl) rfl rfl fun w h => ?_
    have h1 := (h.sub (M := hro 4 (bl.map roP) :: pto d _ :: ownS 74 2 s1 _ :: L) (by repeat (first | exact Sub.done | refine Sub.take (by first | exact .head | exact (.tail .head) | exact (.tail (.tail .head)) | exact (.tail (.tail (.tail .head))) | exact (.tail (.tail (.tail (.tail .head)))) | exact (.tail (.tail (.tail (.tail (.tail .head))))) | exact (.tail (.tail (.tail (.tail (.tail (.tail .head)))))) | exact (.tail (.tail (.tail (.tail (.tail (.tail (.tail .head))))))) | exact (.tail (.tail (.tail (.tail (.tail (.tail (.tail (.tail .head))))))))) ?_ | refine Sub.skip ?_))).hro_weak (l' := (bl.take n ++ bl.drop (n + 1)).map roP) (fun x hx p hp => by
      obtain ⟨q, hq, rfl⟩ := List.mem_map.1 hp
      rcases List.mem_append.1 hq with hq | hq
      · exact hx _ (List.mem_map.2 ⟨q, List.mem_of_mem_take hq, rfl⟩)
      · exact hx _ (List.mem_map.2 ⟨q, List.mem_of_mem_drop hq, rfl⟩))
    have h2 := IxB.closed (W := W) (h1.sub (M := pto d (.cells (xcells W s1) 68 (0, 0)) :: ownS 74 2 s1 _ :: hro 4 _ :: L) (by repeat (first | exact Sub.done | refine Sub.take (by first | exact .head | exact (.tail .head) | exact (.tail (.tail .head)) | exact (.tail (.tail (.tail .head))) | exact (.tail (.tail (.tail (.tail .head)))) | exact (.tail (.tail (.tail (.tail (.tail .head))))) | exact (.tail (.tail (.tail (.tail (.tail (.tail .head)))))) | exact (.tail (.tail (.tail (.tail (.tail (.tail (.tail .head))))))) | exact (.tail (.tail (.tail (.tail (.tail (.tail (.tail (.tail .head))))))))) ?_ | refine Sub.skip ?_)))
    rw [hw1]
    refine merge_spec h2 (by omega) (by omega) (by simp; omega) (fun b hb => ?_) fun w h => ?_
    · obtain ⟨q, hq, rfl⟩ := List.mem_map.1 hb
      have hqm : q ∈ bl := by
        rcases List.mem_append.1 hq with hq | hq
        · exact List.mem_of_mem_take hq
        · exact List.mem_of_mem_drop hq
      exact hone _ (by rw [← hbs]; exact List.mem_map.2 ⟨q, hqm, rfl⟩)
    · refine hk _ ?_
      simp only [List.map_append, List.map_take, List.map_drop] at h
      exact h
  have hl1 : l1 ≠ [] := by
    rintro rfl
    have := eqF hc
    exact this (by rw [ht1']; rfl)
  rw [if_neg hl1] at hk
  clear hc
  refine DrewP.go h fun w h => ?_
  refine val_nil ?_
  refine get_ld h rfl (by first | exact .head | exact (.tail .head) | exact (.tail (.tail .head)) | exact (.tail (.tail (.tail .head))) | exact (.tail (.tail (.tail (.tail .head)))) | exact (.tail (.tail (.tail (.tail (.tail .head))))) | exact (.tail (.tail (.tail (.tail (.tail (.tail .head)))))) | exact (.tail (.tail (.tail (.tail (.tail (.tail (.tail .head))))))) | exact (.tail (.tail (.tail (.tail (.tail (.tail (.tail (.tail .head))))))))) (by kernel_rfl) (x := s) rfl ?_
  refine of_spec h (fun w h => h.reads_own) (by omega) fun w h => ?_
  refine chk_ld h rfl (by first | exact .head | exact (.tail .head) | exact (.tail (.tail .head)) | exact (.tail (.tail (.tail .head))) | exact (.tail (.tail (.tail (.tail .head)))) | exact (.tail (.tail (.tail (.tail (.tail .head))))) | exact (.tail (.tail (.tail (.tail (.tail (.tail .head)))))) | exact (.tail (.tail (.tail (.tail (.tail (.tail (.tail .head))))))) | exact (.tail (.tail (.tail (.tail (.tail (.tail (.tail (.tail .head))))))))) (by kernel_rfl) rfl ?_
  refine val_idx (hB w h.drop) encB_len (by omega) hn1 (T := 66) (Te := 74) (by kernel_rfl) (by kernel_rfl) fun a1 ha1 hs1 => ?_
  refine do_set_agg (i := n * 2) (vs := [.slice t1.a t1.len t1.cap, .int .i64 (maxEnd _)]) (sz := 2) (T := 74) h (.tail (.tail .head)) ha1 rfl (by rw [hfl2]; simp; omega) (by rw [hfl2]; omega) (by kernel_rfl) (by intro v hv; simp at hv; rcases hv with rfl | rfl <;> rfl) fun w h => ?_
  replace h := IxB.closed_set (W := W) (L := L) hn1 (h.sub (by repeat (first | exact Sub.done | refine Sub.take (by first | exact .head | exact (.tail .head) | exact (.tail (.tail .head)) | exact (.tail (.tail (.tail .head))) | exact (.tail (.tail (.tail (.tail .head)))) | exact (.tail (.tail (.tail (.tail (.tail .head))))) | exact (.tail (.tail (.tail (.tail (.tail (.tail .head)))))) | exact (.tail (.tail (.tail (.tail (.tail (.tail (.tail .head))))))) | exact (.tail (.tail (.tail (.tail (.tail (.tail (.tail (.tail .head))))))))) ?_ | refine Sub.skip ?_)))
  have hset : ∀ b ∈ (bl.map (·.2)).set n l1, b.length ≤ 536870912 := fun b hb => by
    rcases List.mem_or_eq_of_mem_set hb with hb | rfl
    · exact hone b (by rw [← hbs]; exact hb)
    · omega
  have hsl : ((bl.map (·.2)).set n l1).length ≤ 536870912 := by rw [List.length_set, List.length_map]; exact hbn
  generalize (bl.map (·.2)).set n l1 = bs2 at *
  refine merge_spec h (by omega) (by omega) hsl hset fun w h => ?_
  rw [hw1]
  exact merge_spec h (by omega) (by omega) (Nat.le_trans (merge_len _ _ _) hsl) (merge_one (by omega) hset) fun w h => hk _ h
end
end Go.Proofs.Ytoaalegieaocbaa
