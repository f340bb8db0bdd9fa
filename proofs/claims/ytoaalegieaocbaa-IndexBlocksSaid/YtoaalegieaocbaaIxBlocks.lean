/- The law IndexBlocks: the walk. -/
import Derived.Test.YtoaalegieaocbaaIxMax
namespace Go.Proofs.Ytoaalegieaocbaa
open Go.Sh
attribute [local irreducible] pto rob old ownS roS hstar hex hpure hemp mapB hro IxB

theorem adj_get {W : Int} : ∀ {l : List Nat}, adj W l → ∀ i (h : i + 1 < l.length), W < ((l[i] + l[i + 1] : Nat) : Int)
  | [], _, i, h => by simp at h
  | [_], _, i, h => by simp at h
  | a :: b :: r, hl, 0, _ => hl.1
  | a :: b :: r, hl, i + 1, h => adj_get (l := b :: r) hl.2 i (by simpa using h)

set_option maxHeartbeats 1000000 in
theorem blocks_walk {W : World} {script : Sl} {ops : List OpT} (hs : Reads W script 8 (ops.flatMap encO)) (hle : script.len ≤ script.cap) (hops : ∀ o ∈ ops, OpOk o) {width : Int} (hm0 : 0 ≤ width) (hm1 : width ≤ 255) {k : Bool → Pr}
    (hk : ∀ w', Holds W w' [old W] → k true w') : CallP Try.prog 4 #[.int .u8 width, .slice script.a script.len script.cap] tBool k W := by
  have hsl := hs.len_eq encO_len (by omega)
  refine rd4 _ _ _ _ ?_
  unfold sh4
  have hWd : IntKind.i64.wrap (2 + Int.tmod (IntKind.i64.wrap width) 99) = 2 + width % 99 := by
    rw [wrap_in width (by omega), Int.tmod_eq_emod_of_nonneg hm0, wrap_in _ (by omega)]
  rw [hWd]
  have hW2 : 2 ≤ 2 + width % 99 := by omega
  have hW3 : 2 + width % 99 ≤ 100 := by omega
  clear hWd
  generalize 2 + width % 99 = Wd at *
  refine new_spec (Holds.start W) (fun hb => absurd ⟨by omega, by omega⟩ hb) fun _ _ d w h => ?_
  refine JoinP.go (CondP.no rfl ?_)
  refine get_pure false (by kernel_rfl) ?_
  refine AnyP.go fun _ => CondP.no rfl ?_
  refine LoopP.inv (fun t w => ∃ (i : Nat) (bs : List (List Item)), t = i ∧ i ≤ ops.length ∧ i ≤ 120 ∧ Good Wd bs ∧ bs.flatten.length ≤ i ∧ Holds W w (IxB d Wd bs :: [old W])) (fun t _ => 120 - t.toNat)
    ⟨0, [], rfl, by omega, by omega, good_nil, by simp, h⟩ ?_
  rintro next t w ⟨i, bs, rfl, hi, hi2, hG, hlen, h⟩ hnext
  refine AnyP.go fun _ => JoinP.via (fun b w => b = decide (i < ops.length ∧ i < 120) ∧ Holds W w (IxB d Wd bs :: [old W])) ?_ fun J hJ => CondP.mk' (fun hc => hJ _ _ ⟨?_, h⟩) (fun hc => hJ _ _ ⟨?_, h⟩)
  rotate_left
  · have hc := cT hc
    exact decide_eq_decide.2 ⟨fun h => ⟨by omega, by omega⟩, fun h => by omega⟩
  · have hc := cF hc
    exact (decide_eq_false (fun h => by omega)).symm
  rintro _ w ⟨rfl, h⟩
  refine AnyP.go fun _ => CondP.mk' (fun hc => ?_) (fun _ => known_spec h fun w h => hk _ (h.sub (by repeat (first | exact Sub.done | refine Sub.take (by first | exact .head | exact (.tail .head) | exact (.tail (.tail .head)) | exact (.tail (.tail (.tail .head))) | exact (.tail (.tail (.tail (.tail .head)))) | exact (.tail (.tail (.tail (.tail (.tail .head))))) | exact (.tail (.tail (.tail (.tail (.tail (.tail .head)))))) | exact (.tail (.tail (.tail (.tail (.tail (.tail (.tail .head))))))) | exact (.tail (.tail (.tail (.tail (.tail (.tail (.tail (.tail .head))))))))) ?_ | refine Sub.skip ?_))))
  obtain ⟨hc, hc2⟩ : i < ops.length ∧ i < 120 := cT hc
  have hw1 : IntKind.i64.wrap ((i : Int) + 1) = ((i + 1 : Nat) : Int) := by rw [wrap_in _ (by omega)]; omega
  rw [hw1]
  refine val_slice_both (Te := 33) (sz := 8) (by kernel_rfl) (by kernel_rfl) (by omega) (by omega) (by omega) ?_
  rw [show ((i : Int).toNat) = i from rfl, show (((i + 1 : Nat) : Int).toNat) = i + 1 from rfl]
  have hone : ops[i] :: [] = (ops.drop i).take (i + 1 - i) := by
    rw [List.drop_eq_getElem_cons hc, Nat.add_sub_cancel_left]; rfl
  refine build_spec (ops := [ops[i]]) h (fun w h => ?_) (by simp only [subS]; omega) hW2 hW3 hG (by omega) (fun o ho => hops o ?_) fun w h => ?_
  · rw [hone]
    exact (script_oracle hs w h).part encO_len (by omega) (by omega) hsl (by omega)
  · simp at ho; subst ho; exact List.getElem_mem hc
  have hst := step_good hW2 hG (hops _ (List.getElem_mem hc))
  rw [show buildM Wd bs ([ops[i]].take 200) = stepM Wd bs ops[i] from rfl] at h
  generalize stepM Wd bs ops[i] = bs2 at *
  obtain ⟨hG2, hlen2⟩ := hst
  replace hlen2 : bs2.flatten.length ≤ i + 1 := by omega
  clear hlen hG
  have hok := hG2.okb (by omega)
  refine blocks_spec h (by omega) hok fun t w h => ?_
  have hsum : (lens bs2).sum = bs2.flatten.length := by rw [List.length_flatten]
  have hN1 : ∀ j (hj : j < (lens bs2).length), 1 ≤ (lens bs2)[j] ∧ ((lens bs2)[j] : Int) ≤ 2 * Wd := fun j hj => by
    simp only [lens, List.getElem_map]
    have hj' : j < bs2.length := by simpa [lens] using hj
    exact ⟨List.length_pos_iff.2 (hG2.ne _ (List.getElem_mem hj')), hG2.wid _ (List.getElem_mem hj')⟩
  have hadj := fun j hj => adj_get hG2.adj j hj
  have hsle : ∀ j, ((lens bs2).take j).sum ≤ 121 := fun j => by
    have e : (lens bs2).sum = ((lens bs2).take j).sum + ((lens bs2).drop j).sum := by rw [← List.sum_append, List.take_append_drop]
    omega
  replace h : Holds W w (ownS 3 1 t ((lens bs2).flatMap encN) :: IxB d Wd bs2 :: [old W]) := h
  have hNr : Oracle W (ownS 3 1 t ((lens bs2).flatMap encN) :: IxB d Wd bs2 :: [old W]) t 1 ((lens bs2).flatMap encN) := fun w h => h.reads_own
  have htl := (hNr w h).len_eq encN_len (by omega)
  have hll : (lens bs2).length ≤ 536870912 := by rw [lens, List.length_map]; exact hok.len
  generalize lens bs2 = N at *
  refine LoopP.inv (fun q w => ∃ j : Nat, q = ((((N.take j).sum : Nat) : Int), (j : Int)) ∧ j ≤ N.length ∧ Holds W w (ownS 3 1 t (N.flatMap encN) :: IxB d Wd bs2 :: [old W])) (fun q _ => N.length - q.2.toNat) ⟨0, rfl, by omega, h⟩ ?_
  rintro next2 q w ⟨j, rfl, hj, h⟩ hnext2
  refine AnyP.go fun _ => CondP.mk' (fun hd => ?_) (fun hd => ?_)
  rotate_left
  · have hd : j = N.length := by have : ¬ (j : Int) < t.len := cF hd; omega
    refine len_spec h.drop (by omega) hok fun w h => ?_
    refine CondP.no ?_ (hnext _ _ ⟨i + 1, bs2, rfl, by omega, by omega, hG2, hlen2, h⟩ (by omega))
    rw [hd, List.take_length, hsum]; simp
  have hd : j < N.length := by have : (j : Int) < t.len := cT hd; omega
  clear hnext
  have hw2 : IntKind.i64.wrap ((j : Int) + 1) = ((j + 1 : Nat) : Int) := by rw [wrap_in _ (by omega)]; omega
  obtain ⟨n1, n2⟩ := hN1 j hd
  have hsj := hsle j
  have hws : IntKind.i64.wrap ((((N.take j).sum : Nat) : Int) + ((N[j] : Nat) : Int)) = (((N.take (j + 1)).sum : Nat) : Int) := by
    rw [wrap_in _ (by omega), ← List.take_append_getElem hd, List.sum_append]
    simp
  have fin : ∀ w, Holds W w (ownS 3 1 t (N.flatMap encN) :: IxB d Wd bs2 :: [old W]) → next2 (IntKind.i64.wrap ((((N.take j).sum : Nat) : Int) + ((N[j] : Nat) : Int)), IntKind.i64.wrap ((j : Int) + 1)) w := fun w h => by
    rw [hws, hw2]
    exact hnext2 _ _ ⟨j + 1, rfl, by omega, h⟩ (by simp only; omega)
  refine val_idx (hNr w h) encN_len (by omega) hd (T := 60) (Te := 3) (by kernel_rfl) (by kernel_rfl) fun a0 ha0 hs0 => ?_
  refine get_one (l := .int .i64) ((N[j] : Nat) : Int) (hNr w h) encN_len ha0 hd (by kernel_rfl) rfl ?_
  refine DrewP.go h fun w h => ?_
  refine val_idx (hNr w h) encN_len (by omega) hd (T := 60) (Te := 3) (by kernel_rfl) (by kernel_rfl) fun a1 ha1 hs1 => ?_
  refine get_one (l := .int .i64) ((N[j] : Nat) : Int) (hNr w h) encN_len ha1 hd (by kernel_rfl) rfl ?_
  refine CondP.no (decide_eq_false (show ¬ ((N[j] : Nat) : Int) < 1 by omega)) ?_
  refine val_idx (hNr w h) encN_len (by omega) hd (T := 60) (Te := 3) (by kernel_rfl) (by kernel_rfl) fun a2 ha2 hs2 => ?_
  refine get_one (l := .int .i64) ((N[j] : Nat) : Int) (hNr w h) encN_len ha2 hd (by kernel_rfl) rfl ?_
  rw [wrap_in (2 * Wd) (by omega)]
  refine CondP.no (decide_eq_false (show ¬ ((N[j] : Nat) : Int) > 2 * Wd by omega)) ?_
  refine CondP.mk' (fun hz => ?_) (fun hz => CondP.no rfl (fin _ h))
  obtain ⟨m, rfl⟩ : ∃ m, j = m + 1 := ⟨j - 1, by have : ((j : Nat) : Int) > 0 := cT hz; omega⟩
  have hm : m < N.length := by omega
  rw [show IntKind.i64.wrap (((m + 1 : Nat) : Int) - 1) = (m : Int) by rw [wrap_in _ (by omega)]; omega]
  refine val_idx (hNr w h) encN_len (by omega) hm (T := 60) (Te := 3) (by kernel_rfl) (by kernel_rfl) fun a3 ha3 hs3 => ?_
  refine get_one (l := .int .i64) ((N[m] : Nat) : Int) (hNr w h) encN_len ha3 hm (by kernel_rfl) rfl ?_
  refine val_idx (hNr w h) encN_len (by omega) hd (T := 60) (Te := 3) (by kernel_rfl) (by kernel_rfl) fun a4 ha4 hs4 => ?_
  refine get_one (l := .int .i64) ((N[m + 1] : Nat) : Int) (hNr w h) encN_len ha4 hd (by kernel_rfl) rfl ?_
  have ha := hadj m hd
  obtain ⟨n3, n4⟩ := hN1 m hm
  rw [wrap_in (((N[m] : Nat) : Int) + ((N[m + 1] : Nat) : Int)) (by omega)]
  exact CondP.no (decide_eq_false (show ¬ ((N[m] : Nat) : Int) + ((N[m + 1] : Nat) : Int) ≤ Wd by omega)) (fin _ h)
end Go.Proofs.Ytoaalegieaocbaa
