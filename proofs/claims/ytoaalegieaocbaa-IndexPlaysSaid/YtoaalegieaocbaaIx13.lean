/- The index's laws: a script is built. -/
import Derived.Test.YtoaalegieaocbaaIxLaw4
namespace Go.Proofs.Ytoaalegieaocbaa
open Go.Sh
attribute [local irreducible] pto rob old ownS roS hstar hex hpure hemp mapB hro IxB

section
variable {E w : World} {L L' : List HProp}

theorem get_sub {t : TypeId} {ls : List Leaf} {a : Addr} {b off : Nat} {cs : List Value} {T : TypeId} {fr : Nat × Nat} {k : cellsDen ls → Pr} (x : cellsDen ls)
    (h : Holds E w L) (ha : a = ⟨b, off, none⟩) (p : Pick L (pto b (.cells ⟨cs⟩ T fr)) L') (ht : pureRun Try.prog (isAgg t) = some true) (hn : pureRun Try.prog (sizeOf t) = some (cellsVal ls x).length)
    (hc : (cs.drop off).take (cellsVal ls x).length = cellsVal ls x) (hk : k x w) : GetP Try.prog (vN (Instr.loadAt t (.pointer (some a)))) (.one (.agg ls)) k w := by
  refine get_agg x (h.pick p).own ht hn ha (fun j hj => ?_) hk
  have h1 : ((cs.drop off).take (cellsVal ls x).length)[j]? = some (cellsVal ls x)[j] := by rw [hc]; simp [hj]
  rw [List.getElem?_take_of_lt hj, List.getElem?_drop] at h1
  simpa using h1

abbrev opStored (o : OpT) : Obj := .cells #[.int .i64 o.1, .string o.2.1, .int .i64 o.2.2.1, .int .i64 o.2.2.2.1, .int .i64 o.2.2.2.2.1, .string o.2.2.2.2.2.1, .int .i64 o.2.2.2.2.2.2.1, .int .i64 o.2.2.2.2.2.2.2.1] 33 (0, 0)

set_option maxHeartbeats 1000000 in
theorem build_spec {d : Nat} {W : Int} {bs : List (List Item)} {s : Sl} {ops : List OpT} {k : Unit → Pr} (h : Holds E w (IxB d W bs :: L)) (hr : Oracle E L s 8 (ops.flatMap encO)) (hlen : s.len ≤ 9223372036854775807) (hW : 2 ≤ W) (hW1 : W ≤ 100) (hG : Good W bs)
    (hsz : bs.flatten.length ≤ 100000000) (hops : ∀ o ∈ ops, OpOk o) (hk : ∀ w', Holds E w' (IxB d W (buildM W bs (ops.take 200)) :: L) → k () w') :
    CallP Try.prog 31 #[.pointer (some ⟨d, 0, none⟩), .slice s.a s.len s.cap] (.tup []) k w := by
  have hl := (hr w h.drop).len_eq encO_len (by omega)
  refine rd31 _ _ _ _ ?_
  unfold sh31
  refine LoopP.inv (fun t w => ∃ i : Nat, t = i ∧ i ≤ ops.length ∧ i ≤ 200 ∧ Holds E w (IxB d W (buildM W bs (ops.take i)) :: L)) (fun t _ => 200 - t.toNat) ⟨0, rfl, by omega, by omega, h⟩ ?_
  rintro next t w ⟨i, rfl, hi, hi2, h⟩ hnext
  refine AnyP.go fun _ => JoinP.via (fun b w => b = decide (i < ops.length ∧ i < 200) ∧ Holds E w (IxB d W (buildM W bs (ops.take i)) :: L)) ?_ fun J hJ => CondP.mk' (fun hc => hJ _ _ ⟨?_, h⟩) (fun hc => hJ _ _ ⟨?_, h⟩)
  rotate_left
  · have hc := cT hc
    exact decide_eq_decide.2 ⟨fun h => ⟨by omega, by omega⟩, fun h => by omega⟩
  · have hc := cF hc
    exact (decide_eq_false (fun h => by omega)).symm
  rintro _ w ⟨rfl, h⟩
  refine AnyP.go fun _ => CondP.mk' (fun hc => ?_) (fun hc => ?_)
  rotate_left
  · have hc : ¬ (i < ops.length ∧ i < 200) := cF hc
    have e : ops.take i = ops.take 200 := by
      by_cases h : i < 200
      · rw [List.take_of_length_le (by omega), List.take_of_length_le (by omega)]
      · rw [show i = 200 by omega]
    rw [e] at h
    exact hk _ h
  obtain ⟨hc, hc2⟩ : i < ops.length ∧ i < 200 := cT hc
  have hw1 : IntKind.i64.wrap ((i : Int) + 1) = ((i + 1 : Nat) : Int) := by rw [wrap_in _ (by omega)]; omega
  have hst : buildM W bs (ops.take (i + 1)) = stepM W (buildM W bs (ops.take i)) ops[i] := by
    rw [← List.take_append_getElem hc]; unfold buildM; rw [List.foldl_append]; rfl
  have hB := build_good hW (ops.take i) hG fun o ho => hops o (List.mem_of_mem_take ho)
  have hok : Okb (buildM W bs (ops.take i)) := hB.1.okb (by have := hB.2; rw [List.length_take] at this; omega)
  generalize buildM W bs (ops.take i) = bs' at *
  refine JoinP.via (fun _ w => Holds E w (IxB d W (stepM W bs' ops[i]) :: L)) (fun _ w h => AnyP.go fun _ => by rw [hw1]; exact hnext _ _ ⟨i + 1, rfl, by omega, by omega, by rw [hst]; exact h⟩ (by omega)) fun J2 hJ2 => ?_
  clear hnext
  refine val_idx (hr w h.drop) encO_len (by omega) hc (T := 22) (Te := 33) (by kernel_rfl) (by kernel_rfl) fun a0 ha0 hs0 => ?_
  refine get_elt ops[i] (hr w h.drop) encO_len ha0 hc (by kernel_rfl) (by kernel_rfl) rfl ?_
  generalize ops[i] = o at *
  refine do_alloc (z := .agg #[.int .i64 0, .string ⟨#[]⟩, .int .i64 0, .int .i64 0, .int .i64 0, .string ⟨#[]⟩, .int .i64 0, .int .i64 0]) h (by kernel_rfl) fun b5 w h => ?_
  refine do_st_all (n := 8) h rfl (by first | exact .head | exact (.tail .head) | exact (.tail (.tail .head)) | exact (.tail (.tail (.tail .head))) | exact (.tail (.tail (.tail (.tail .head)))) | exact (.tail (.tail (.tail (.tail (.tail .head))))) | exact (.tail (.tail (.tail (.tail (.tail (.tail .head)))))) | exact (.tail (.tail (.tail (.tail (.tail (.tail (.tail .head))))))) | exact (.tail (.tail (.tail (.tail (.tail (.tail (.tail (.tail .head))))))))) (by kernel_rfl) rfl rfl (by intro v hv; simp at hv; rcases hv with rfl | rfl | rfl | rfl | rfl | rfl | rfl | rfl <;> rfl) fun w h => ?_
  replace h : Holds E w (pto b5 (opStored o) :: IxB d W bs' :: L) := h
  refine get_ld h rfl .head (by kernel_rfl) (x := o.2.1) rfl ?_
  unfold stepM at hJ2
  refine CondP.mk' (fun hb => ?_) (fun hb => ?_)
  · rw [if_pos (by have := cT hb; omega)] at hJ2
    exact hJ2 _ _ h.drop
  rw [if_neg (by have := cF hb; omega)] at hJ2
  clear hb
  by_cases k0 : o.1 = 0
  · rw [if_pos k0] at hJ2
    refine JoinP.go (get_ld h rfl .head (by kernel_rfl) (x := o.1) rfl (CondP.yes (beq_iff_eq.2 k0) ?_))
    refine get_sub (ls := itL) (opItem o) h rfl .head (by kernel_rfl) (by kernel_rfl) rfl ?_
    refine insert_spec (i := opItem o) h.swap (by omega) hW1 hok fun w h => AnyP.go fun _ => ?_
    replace h := h.swap
    have n1 : o.1 ≠ 1 := by omega
    have n2 : o.1 ≠ 2 := by omega
    refine JoinP.go (get_ld h rfl .head (by kernel_rfl) (x := o.1) rfl (CondP.no (beq_eq_false_iff_ne.2 n1) (AnyP.go fun _ => ?_)))
    exact get_ld h rfl .head (by kernel_rfl) (x := o.1) rfl (CondP.no (beq_eq_false_iff_ne.2 n2) (hJ2 _ _ h.drop))
  rw [if_neg k0] at hJ2
  refine JoinP.go (get_ld h rfl .head (by kernel_rfl) (x := o.1) rfl (CondP.no (beq_eq_false_iff_ne.2 k0) (AnyP.go fun _ => ?_)))
  by_cases k1 : o.1 = 1
  · rw [if_pos k1] at hJ2
    refine JoinP.go (get_ld h rfl .head (by kernel_rfl) (x := o.1) rfl (CondP.yes (beq_iff_eq.2 k1) ?_))
    refine get_ld h rfl .head (by kernel_rfl) (x := o.2.1) rfl ?_
    refine get_ld h rfl .head (by kernel_rfl) (x := o.2.2.1) rfl ?_
    refine get_ld h rfl .head (by kernel_rfl) (x := o.2.2.2.1) rfl ?_
    refine close_spec h.swap (by omega) hok fun w h => AnyP.go fun _ => ?_
    replace h := h.swap
    have n2 : o.1 ≠ 2 := by omega
    exact get_ld h rfl .head (by kernel_rfl) (x := o.1) rfl (CondP.no (beq_eq_false_iff_ne.2 n2) (hJ2 _ _ h.drop))
  rw [if_neg k1] at hJ2
  refine JoinP.go (get_ld h rfl .head (by kernel_rfl) (x := o.1) rfl (CondP.no (beq_eq_false_iff_ne.2 k1) (AnyP.go fun _ => ?_)))
  by_cases k2 : o.1 = 2
  · rw [if_pos k2] at hJ2
    refine get_ld h rfl .head (by kernel_rfl) (x := o.1) rfl (CondP.yes (beq_iff_eq.2 k2) ?_)
    refine get_ld h rfl .head (by kernel_rfl) (x := o.2.1) rfl ?_
    refine get_ld h rfl .head (by kernel_rfl) (x := o.2.2.1) rfl ?_
    exact delete_spec h.swap (by omega) hW1 hok fun w h => hJ2 _ _ h.swap.drop
  rw [if_neg k2] at hJ2
  exact get_ld h rfl .head (by kernel_rfl) (x := o.1) rfl (CondP.no (beq_eq_false_iff_ne.2 k2) (hJ2 _ _ h.drop))
end
end Go.Proofs.Ytoaalegieaocbaa
