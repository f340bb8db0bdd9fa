/- The law IndexMax: the walk. -/
import Derived.Test.YtoaalegieaocbaaIx13
namespace Go.Proofs.Ytoaalegieaocbaa
open Go.Sh
attribute [local irreducible] pto rob old ownS roS hstar hex hpure hemp mapB hro IxB

theorem script_oracle {W : World} {s : Sl} {cs : List Value} (hs : Reads W s 8 cs) : Oracle W [old W] s 8 cs := fun _ h => h.reads_old hs

theorem max_walk {W : World} {script : Sl} {ops : List OpT} (hs : Reads W script 8 (ops.flatMap encO)) (hcap : script.len ≤ 9223372036854775807) (hops : ∀ o ∈ ops, OpOk o) {more : Int} (hm0 : 0 ≤ more) (hm1 : more ≤ 255) {k : Bool → Pr}
    (hk : ∀ w', Holds W w' [old W] → k true w') : CallP Try.prog 9 #[.slice script.a script.len script.cap, .int .u8 more] tBool k W := by
  refine rd9 _ _ _ _ ?_
  unfold sh9
  refine new_spec (Holds.start W) (fun hb => absurd ⟨by omega, by omega⟩ hb) fun _ _ d w h => ?_
  refine JoinP.go (CondP.no rfl ?_)
  refine get_pure false (by kernel_rfl) ?_
  refine AnyP.go fun _ => CondP.no rfl ?_
  refine build_spec h (script_oracle hs) hcap (by omega) (by omega) good_nil (by simp) hops fun w h => ?_
  obtain ⟨hG, hlen⟩ := build_good (W := 3) (by omega) (ops.take 200) good_nil fun o ho => hops o (List.mem_of_mem_take ho)
  have hlen : (buildM 3 [] (ops.take 200)).flatten.length ≤ 200 := by rw [List.length_take, show ([] : List (List Item)).flatten.length = 0 from rfl] at hlen; omega
  generalize buildM 3 [] (ops.take 200) = bs at *
  have hok := hG.okb (by omega)
  refine all_spec h (by omega) hok fun t w h => ?_
  refine max_spec h.swap (by omega) hok fun w h => ?_
  rw [all_flat hG] at h
  have hT : Oracle W (IxB d 3 bs :: ownS 31 4 t (bs.flatten.flatMap encI) :: [old W]) t 4 (bs.flatten.flatMap encI) := fun w h => (h.pick .two).reads_own
  have htl := (hT w h).len_eq encI_len (by omega)
  have hpos : ∀ x ∈ bs.flatten, 0 < x.2.2.1 := fun x hx => by have := hG.ok x hx; unfold okI at this; omega
  have hle : ∀ x ∈ bs.flatten, x.2.2.1 ≤ 1099511627776 := fun x hx => by have := hG.ok x hx; unfold okI at this; omega
  have hmx0 := maxEnd_nonneg bs.flatten
  have hmx1 : maxEnd bs.flatten ≤ 1099511627776 := by
    by_cases hn : bs.flatten = []
    · rw [hn]; show (0 : Int) ≤ _; omega
    · obtain ⟨x, hx, he⟩ := maxEnd_mem hpos hn
      rw [← he]; exact hle x hx
  have hmem := @maxEnd_mem bs.flatten hpos
  have hlem : ∀ x ∈ bs.flatten, x.2.2.1 ≤ maxEnd bs.flatten := fun x hx => le_maxEnd hx
  have hnil : bs.flatten = [] → maxEnd bs.flatten = 0 := fun h => by rw [h]; rfl
  generalize hm : maxEnd bs.flatten = m at *
  refine JoinP.via (fun b w => b = decide (bs.flatten = []) ∧ Holds W w (IxB d 3 bs :: ownS 31 4 t (bs.flatten.flatMap encI) :: [old W])) ?_ fun J hJ => CondP.mk' (fun hc => hJ _ _ ⟨?_, h⟩) (fun hc => hJ _ _ ⟨?_, h⟩)
  rotate_left
  · have h0 : bs.flatten = [] := List.eq_nil_of_length_eq_zero (by have := eqT hc; omega)
    rw [decide_eq_true h0, hnil h0]; rfl
  · have h0 : bs.flatten ≠ [] := fun h0 => eqF hc (by rw [htl, h0]; rfl)
    rw [decide_eq_false h0]
  rintro _ w ⟨rfl, h⟩
  refine AnyP.go fun _ => ?_
  refine LoopP.inv (fun q w => ∃ i : Nat, q.2 = i ∧ i ≤ bs.flatten.length ∧ q.1 = (decide (bs.flatten = []) || (bs.flatten.take i).any fun x => x.2.2.1 == m) ∧ Holds W w (IxB d 3 bs :: ownS 31 4 t (bs.flatten.flatMap encI) :: [old W])) (fun q _ => bs.flatten.length - q.2.toNat)
    ⟨0, rfl, by omega, by simp, h⟩ ?_
  rintro next ⟨q1, q2⟩ w ⟨i, hq2, hi, hq1, h⟩ hnext
  simp only at hq1 hq2
  subst hq2
  subst hq1
  refine AnyP.go fun _ => CondP.mk' (fun hc => ?_) (fun hc => ?_)
  · have hc : i < bs.flatten.length := by have : (i : Int) < t.len := cT hc; omega
    have hw1 : IntKind.i64.wrap ((i : Int) + 1) = ((i + 1 : Nat) : Int) := by rw [wrap_in _ (by omega)]; omega
    have hany : (decide (bs.flatten = []) || (bs.flatten.take (i + 1)).any fun x => x.2.2.1 == m) = ((decide (bs.flatten = []) || (bs.flatten.take i).any fun x => x.2.2.1 == m) || bs.flatten[i].2.2.1 == m) := by
      rw [← List.take_append_getElem hc, List.any_append]
      simp [Bool.or_assoc]
    refine JoinP.via (fun b w => b = (decide (bs.flatten = []) || (bs.flatten.take (i + 1)).any fun x => x.2.2.1 == m) ∧ Holds W w (IxB d 3 bs :: ownS 31 4 t (bs.flatten.flatMap encI) :: [old W])) ?_ fun J hJ => CondP.mk' (fun hb => hJ _ _ ⟨by rw [hany]; simp only at hb; rw [hb, Bool.true_or], h⟩) (fun hb => ?_)
    rotate_left
    · refine val_idx (hT w h) encI_len (by omega) hc (T := 42) (Te := 31) (by kernel_rfl) (by kernel_rfl) fun a0 ha0 hs0 => ?_
      refine get_fld bs.flatten[i].2.2.1 (hT w h) encI_len ha0 hs0 hc (by omega) (by kernel_rfl) rfl ?_
      exact hJ _ _ ⟨by rw [hany]; simp only at hb; rw [hb, Bool.false_or], h⟩
    rintro b w ⟨hb, h⟩
    refine AnyP.go fun _ => ?_
    refine val_idx (hT w h) encI_len (by omega) hc (T := 42) (Te := 31) (by kernel_rfl) (by kernel_rfl) fun a0 ha0 hs0 => ?_
    refine get_fld bs.flatten[i].2.2.1 (hT w h) encI_len ha0 hs0 hc (by omega) (by kernel_rfl) rfl ?_
    have := hlem _ (List.getElem_mem hc)
    refine CondP.no (decide_eq_false (show ¬ bs.flatten[i].2.2.1 > m by omega)) ?_
    rw [hw1]
    exact hnext _ _ ⟨i + 1, rfl, by omega, hb, h⟩ (by simp only; omega)
  have hc : i = bs.flatten.length := by have : ¬ (i : Int) < t.len := cF hc; omega
  subst hc
  have htrue : (decide (bs.flatten = []) || (bs.flatten.take bs.flatten.length).any fun x => x.2.2.1 == m) = true := by
    rw [List.take_length]
    by_cases hn : bs.flatten = []
    · rw [decide_eq_true hn]; rfl
    · obtain ⟨x, hx, he⟩ := hmem hn
      rw [decide_eq_false hn, Bool.false_or, List.any_eq_true]
      exact ⟨x, hx, by rw [he]; simp⟩
  clear hnext
  refine JoinP.go (CondP.yes htrue ?_)
  refine len_spec h (by omega) hok fun w h => ?_
  refine AnyP.go fun _ => JoinP.go (CondP.yes (by rw [htl]; simp) ?_)
  refine stab_spec h (by omega) hok fun t2 w h => ?_
  have hst : stabM bs ⟨#[]⟩ ⟨#[]⟩ (IntKind.i64.wrap (m + IntKind.i64.wrap more)) = [] := by
    rw [stab_flat, stab_all, wrap_in more (by omega), wrap_in _ (by omega), List.filter_eq_nil_iff]
    intro x hx hp
    have := hlem x hx
    simp only [stabP, Bool.and_eq_true, decide_eq_true_eq] at hp
    omega
  rw [hst] at h
  have ht2 := h.reads_own.len_eq (xs := []) encI_len (by omega)
  refine AnyP.go fun _ => JoinP.go (CondP.yes (by rw [ht2]; rfl) ?_)
  exact known_spec h fun w h => AnyP.go fun _ => hk _ (h.sub (by repeat (first | exact Sub.done | refine Sub.take (by first | exact .head | exact (.tail .head) | exact (.tail (.tail .head)) | exact (.tail (.tail (.tail .head))) | exact (.tail (.tail (.tail (.tail .head)))) | exact (.tail (.tail (.tail (.tail (.tail .head))))) | exact (.tail (.tail (.tail (.tail (.tail (.tail .head)))))) | exact (.tail (.tail (.tail (.tail (.tail (.tail (.tail .head))))))) | exact (.tail (.tail (.tail (.tail (.tail (.tail (.tail (.tail .head))))))))) ?_ | refine Sub.skip ?_)))
end Go.Proofs.Ytoaalegieaocbaa
