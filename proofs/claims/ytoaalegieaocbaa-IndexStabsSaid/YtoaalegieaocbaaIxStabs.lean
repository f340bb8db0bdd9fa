/- The law IndexStabs: the walk. -/
import Derived.Test.YtoaalegieaocbaaIxMax
namespace Go.Proofs.Ytoaalegieaocbaa
open Go.Sh
attribute [local irreducible] pto rob old ownS roS hstar hex hpure hemp mapB hro IxB

theorem filter_at {α : Type} {p : α → Bool} {L : List α} {i : Nat} (hi : i < L.length) (hp : p L[i] = true) : (L.filter p)[((L.take i).filter p).length]? = some L[i] := by
  have e := split_at hi
  have : L.filter p = (L.take i).filter p ++ L[i] :: (L.drop (i + 1)).filter p := by
    conv => lhs; rw [e]
    rw [List.filter_append, List.filter_cons_of_pos hp]
  rw [this, List.getElem?_append_right (Nat.le_refl _), Nat.sub_self]; rfl
theorem filter_snoc {α : Type} {p : α → Bool} {L : List α} {i : Nat} (hi : i < L.length) : (L.take (i + 1)).filter p = (L.take i).filter p ++ [L[i]].filter p := by
  rw [← List.take_append_getElem hi, List.filter_append]

set_option maxHeartbeats 2000000 in
theorem stabs_walk {W : World} {script : Sl} {ops : List OpT} (hs : Reads W script 8 (ops.flatMap encO)) (hcap : script.len ≤ 9223372036854775807) (hops : ∀ o ∈ ops, OpOk o) {t : Int} {k : Bool → Pr}
    (hk : ∀ w', Holds W w' [old W] → k true w') : CallP Try.prog 5 #[.slice script.a script.len script.cap, .int .i64 t] tBool k W := by
  refine rd5 _ _ _ _ ?_
  unfold sh5
  refine new_spec (Holds.start W) (fun hb => absurd ⟨by omega, by omega⟩ hb) fun _ _ d w h => ?_
  refine JoinP.go (CondP.no rfl ?_)
  refine get_pure false (by kernel_rfl) ?_
  refine AnyP.go fun _ => CondP.no rfl ?_
  refine build_spec h (script_oracle hs) hcap (by omega) (by omega) good_nil (by simp) hops fun w h => ?_
  obtain ⟨hG, hlen⟩ := build_good (W := 3) (by omega) (ops.take 200) good_nil fun o ho => hops o (List.mem_of_mem_take ho)
  have hlen : (buildM 3 [] (ops.take 200)).flatten.length ≤ 200 := by rw [List.length_take, show ([] : List (List Item)).flatten.length = 0 from rfl] at hlen; omega
  generalize buildM 3 [] (ops.take 200) = bs at *
  have hok := hG.okb (by omega)
  refine all_spec h (by omega) hok fun sa w h => ?_
  refine stab_spec h.swap (by omega) hok fun sl w h => ?_
  rw [all_flat hG, stab_flat, stab_all] at h
  have hsrt := hG.srt
  have hitem := hG.ok
  generalize hL : bs.flatten = L at *
  have hA : Oracle W (ownS 31 4 sl ((L.filter (stabP t)).flatMap encI) :: IxB d 3 bs :: ownS 31 4 sa (L.flatMap encI) :: [old W]) sa 4 (L.flatMap encI) := fun w h => (h.pick (.tail (.tail .head))).reads_own
  have hB : Oracle W (ownS 31 4 sl ((L.filter (stabP t)).flatMap encI) :: IxB d 3 bs :: ownS 31 4 sa (L.flatMap encI) :: [old W]) sl 4 ((L.filter (stabP t)).flatMap encI) := fun w h => h.reads_own
  have hal := (hA w h).len_eq encI_len (by omega)
  have hbl := (hB w h).len_eq encI_len (by omega)
  have hfle : ∀ i, ((L.take i).filter (stabP t)).length ≤ 200 := fun i => by
    have h1 := List.length_filter_le (stabP t) (L.take i)
    have h2 : (L.take i).length ≤ L.length := by rw [List.length_take]; omega
    omega
  refine LoopP.inv (fun q w => ∃ i : Nat, q = (((((L.take i).filter (stabP t)).length : Nat) : Int), (i : Int)) ∧ i ≤ L.length ∧ Holds W w (ownS 31 4 sl ((L.filter (stabP t)).flatMap encI) :: IxB d 3 bs :: ownS 31 4 sa (L.flatMap encI) :: [old W])) (fun q _ => L.length - q.2.toNat)
    ⟨0, rfl, by omega, h⟩ ?_
  rintro next q w ⟨i, rfl, hi, h⟩ hnext
  refine AnyP.go fun _ => CondP.mk' (fun hc0 => ?_) (fun hc => ?_)
  · have hc : i < L.length := by have : (i : Int) < sa.len := cT hc0; omega
    clear hc0
    have hw1 : IntKind.i64.wrap ((i : Int) + 1) = ((i + 1 : Nat) : Int) := by rw [wrap_in _ (by omega)]; omega
    have hf := hfle i
    have hpos : stabP t L[i] = true → ((L.take i).filter (stabP t)).length < (L.filter (stabP t)).length ∧ (L.filter (stabP t))[((L.take i).filter (stabP t)).length]? = some L[i] := fun hp => by
      have := filter_at hc hp
      exact ⟨(List.getElem?_eq_some_iff.1 this).1, this⟩
    have hsn := filter_snoc (p := stabP t) hc
    have hst : stabP t L[i] = (decide (L[i].2.1 ≤ t) && decide (t < L[i].2.2.1)) := rfl
    generalize hn : ((L.take i).filter (stabP t)).length = n at *
    refine JoinP.via (fun q w => q = ((((L.take (i + 1)).filter (stabP t)).length : Nat) : Int) ∧ Holds W w (ownS 31 4 sl ((L.filter (stabP t)).flatMap encI) :: IxB d 3 bs :: ownS 31 4 sa (L.flatMap encI) :: [old W])) ?_ fun J2 hJ2 => ?_
    · rintro q w ⟨rfl, h⟩
      refine AnyP.go fun _ => ?_
      rw [hw1]
      exact hnext _ _ ⟨i + 1, rfl, by omega, h⟩ (by simp only; omega)
    clear hnext
    have hbig : ∀ (w : World) (b : Bool), b = stabP t L[i] → Holds W w (ownS 31 4 sl ((L.filter (stabP t)).flatMap encI) :: IxB d 3 bs :: ownS 31 4 sa (L.flatMap encI) :: [old W]) →
        CondP b (
          DrewP <|
          CondP (decide ((n : Int) ≥ sl.len)) (
          CondP true (
          k false) (
          J2 (IntKind.i64.wrap ((n : Int) + 1)))) (
          ValP Try.prog (vN (Instr.indexAt 42 (.slice sl.a sl.len sl.cap) (.int .i64 n))) tAddr fun t103 =>
          GetP Try.prog (vN (Instr.loadAt 31 (.pointer (some t103)))) (.one (.agg [.str, .int .i64, .int .i64, .int .i64])) fun t104 =>
          ValP Try.prog (vN (Instr.indexAt 42 (.slice sa.a sa.len sa.cap) (.int .i64 i))) tAddr fun t107 =>
          GetP Try.prog (vN (Instr.loadAt 31 (.pointer (some t107)))) (.one (.agg [.str, .int .i64, .int .i64, .int .i64])) fun t108 =>
          ValP Try.prog (cmpN .neq 31 (.tmp 104) (.tmp 108) (.agg #[.string t104.1, .int .i64 t104.2.1, .int .i64 t104.2.2.1, .int .i64 t104.2.2.2.1]) (.agg #[.string t108.1, .int .i64 t108.2.1, .int .i64 t108.2.2.1, .int .i64 t108.2.2.2.1])) tBool fun t109 =>
          CondP t109 (
          k false) (
          J2 (IntKind.i64.wrap ((n : Int) + 1))))) (
          J2 n) w := by
      rintro w b rfl h
      refine CondP.mk' (fun hp => ?_) (fun hp => ?_)
      · obtain ⟨hlt, hel⟩ := hpos hp
        refine DrewP.go h fun w h => ?_
        refine CondP.no (decide_eq_false (show ¬ (n : Int) ≥ sl.len by omega)) ?_
        refine val_idx (hB w h) encI_len (by omega) hlt (T := 42) (Te := 31) (by kernel_rfl) (by kernel_rfl) fun a0 ha0 hs0 => ?_
        refine get_elt (L.filter (stabP t))[n] (hB w h) encI_len ha0 hlt (by kernel_rfl) (by kernel_rfl) rfl ?_
        refine val_idx (hA w h) encI_len (by omega) hc (T := 42) (Te := 31) (by kernel_rfl) (by kernel_rfl) fun a1 ha1 hs1 => ?_
        refine get_elt L[i] (hA w h) encI_len ha1 hc (by kernel_rfl) (by kernel_rfl) rfl ?_
        refine val_neq31 ?_
        have heq : (L.filter (stabP t))[n] = L[i] := (List.getElem?_eq_some_iff.1 hel).2
        refine CondP.no (by rw [heq]; simp) ?_
        refine hJ2 _ _ ⟨?_, h⟩
        rw [hsn, List.length_append, hn, List.filter_cons_of_pos hp, wrap_in _ (by omega)]; simp
      · refine hJ2 _ _ ⟨?_, h⟩
        rw [hsn, List.length_append, hn, List.filter_cons_of_neg (by rw [hp]; simp)]; simp
    have hA' : ∀ w, Holds W w (ownS 31 4 sl ((L.filter (stabP t)).flatMap encI) :: IxB d 3 bs :: ownS 31 4 sa (L.flatMap encI) :: [old W]) →
        (ValP Try.prog (vN (Instr.indexAt 42 (.slice sa.a sa.len sa.cap) (.int .i64 i))) tAddr fun t82 =>
          GetP Try.prog (vN (Instr.loadAt 3 (.pointer (some (Addr.add t82 1))))) tInt fun t84 =>
          JoinP (S := Bool) (fun b95 => AnyP fun _ =>
          CondP b95 (
          DrewP <|
          CondP (decide ((n : Int) ≥ sl.len)) (
          CondP true (
          k false) (
          J2 (IntKind.i64.wrap ((n : Int) + 1)))) (
          ValP Try.prog (vN (Instr.indexAt 42 (.slice sl.a sl.len sl.cap) (.int .i64 n))) tAddr fun t103 =>
          GetP Try.prog (vN (Instr.loadAt 31 (.pointer (some t103)))) (.one (.agg [.str, .int .i64, .int .i64, .int .i64])) fun t104 =>
          ValP Try.prog (vN (Instr.indexAt 42 (.slice sa.a sa.len sa.cap) (.int .i64 i))) tAddr fun t107 =>
          GetP Try.prog (vN (Instr.loadAt 31 (.pointer (some t107)))) (.one (.agg [.str, .int .i64, .int .i64, .int .i64])) fun t108 =>
          ValP Try.prog (cmpN .neq 31 (.tmp 104) (.tmp 108) (.agg #[.string t104.1, .int .i64 t104.2.1, .int .i64 t104.2.2.1, .int .i64 t104.2.2.2.1]) (.agg #[.string t108.1, .int .i64 t108.2.1, .int .i64 t108.2.2.1, .int .i64 t108.2.2.2.1])) tBool fun t109 =>
          CondP t109 (
          k false) (
          J2 (IntKind.i64.wrap ((n : Int) + 1))))) (
          J2 n)) fun J_3 =>
          CondP (decide ((t84 : Int) ≤ t)) (
          ValP Try.prog (vN (Instr.indexAt 42 (.slice sa.a sa.len sa.cap) (.int .i64 i))) tAddr fun t91 =>
          GetP Try.prog (vN (Instr.loadAt 3 (.pointer (some (Addr.add t91 2))))) tInt fun t93 =>
          J_3 (decide ((t : Int) < t93))) (
          J_3 false)) w := by
      intro w h
      refine val_idx (hA w h) encI_len (by omega) hc (T := 42) (Te := 31) (by kernel_rfl) (by kernel_rfl) fun a0 ha0 hs0 => ?_
      refine get_fld L[i].2.1 (hA w h) encI_len ha0 hs0 hc (by omega) (by kernel_rfl) rfl ?_
      refine JoinP.via (fun b w => b = stabP t L[i] ∧ Holds W w (ownS 31 4 sl ((L.filter (stabP t)).flatMap encI) :: IxB d 3 bs :: ownS 31 4 sa (L.flatMap encI) :: [old W])) (fun b w hh => AnyP.go fun _ => hbig w b hh.1 hh.2) fun J hJ => CondP.mk' (fun hb => ?_) (fun hb => hJ _ _ ⟨by rw [hst, hb, Bool.false_and], h⟩)
      refine val_idx (hA w h) encI_len (by omega) hc (T := 42) (Te := 31) (by kernel_rfl) (by kernel_rfl) fun a1 ha1 hs1 => ?_
      refine get_fld L[i].2.2.1 (hA w h) encI_len ha1 hs1 hc (by omega) (by kernel_rfl) rfl ?_
      exact hJ _ _ ⟨by rw [hst, hb, Bool.true_and], h⟩
    refine DrewP.go h fun w h => ?_
    refine CondP.mk' (fun hz => ?_) (fun hz => CondP.no rfl (hA' w h))
    obtain ⟨m, rfl⟩ : ∃ m, i = m + 1 := ⟨i - 1, by have : ((i : Nat) : Int) > 0 := cT hz; omega⟩
    have hm : m < L.length := by omega
    have hw2 : IntKind.i64.wrap (((m + 1 : Nat) : Int) - 1) = (m : Int) := by rw [wrap_in _ (by omega)]; omega
    rw [hw2]
    have hbf : before L[m] L[m + 1] := List.pairwise_iff_getElem.1 hsrt m (m + 1) hm hc (by omega)
    rw [before, lt_iff] at hbf
    refine val_idx (hA w h) encI_len (by omega) hm (T := 42) (Te := 31) (by kernel_rfl) (by kernel_rfl) fun a0 ha0 hs0 => ?_
    refine get_fld L[m].1 (hA w h) encI_len ha0 hs0 hm (by omega) (by kernel_rfl) rfl ?_
    refine val_idx (hA w h) encI_len (by omega) hc (T := 42) (Te := 31) (by kernel_rfl) (by kernel_rfl) fun a1 ha1 hs1 => ?_
    refine get_fld L[m + 1].1 (hA w h) encI_len ha1 hs1 hc (by omega) (by kernel_rfl) rfl ?_
    refine CondP.no ?_ ?_
    · rcases hbf with hbf | ⟨hbf, _⟩
      · rw [hbf]; rfl
      · rw [hbf]; simp
    refine val_idx (hA w h) encI_len (by omega) hm (T := 42) (Te := 31) (by kernel_rfl) (by kernel_rfl) fun a2 ha2 hs2 => ?_
    refine get_fld L[m].1 (hA w h) encI_len ha2 hs2 hm (by omega) (by kernel_rfl) rfl ?_
    refine val_idx (hA w h) encI_len (by omega) hc (T := 42) (Te := 31) (by kernel_rfl) (by kernel_rfl) fun a3 ha3 hs3 => ?_
    refine get_fld L[m + 1].1 (hA w h) encI_len ha3 hs3 hc (by omega) (by kernel_rfl) rfl ?_
    refine CondP.mk' (fun he => ?_) (fun he => CondP.no rfl (hA' w h))
    refine val_idx (hA w h) encI_len (by omega) hm (T := 42) (Te := 31) (by kernel_rfl) (by kernel_rfl) fun a4 ha4 hs4 => ?_
    refine get_fld L[m].2.1 (hA w h) encI_len ha4 hs4 hm (by omega) (by kernel_rfl) rfl ?_
    refine val_idx (hA w h) encI_len (by omega) hc (T := 42) (Te := 31) (by kernel_rfl) (by kernel_rfl) fun a5 ha5 hs5 => ?_
    refine get_fld L[m + 1].2.1 (hA w h) encI_len ha5 hs5 hc (by omega) (by kernel_rfl) rfl ?_
    have he : L[m].1.toList = L[m + 1].1.toList := by simpa using he
    have hlt : L[m].2.1 < L[m + 1].2.1 := by
      rcases hbf with hbf | ⟨_, hbf⟩
      · rw [he, bl_irrefl] at hbf; cases hbf
      · exact hbf
    exact CondP.no (decide_eq_false (show ¬ L[m].2.1 ≥ L[m + 1].2.1 by omega)) (hA' w h)
  · have hc : i = L.length := by have : ¬ (i : Int) < sa.len := cF hc; omega
    subst hc
    clear hnext
    rw [List.take_length]
    refine JoinP.via (fun b w => b = decide (t < 0 ∨ 1099511627776 ≤ t) ∧ Holds W w (ownS 31 4 sl ((L.filter (stabP t)).flatMap encI) :: IxB d 3 bs :: ownS 31 4 sa (L.flatMap encI) :: [old W])) ?_ fun J hJ => CondP.mk' (fun hc => hJ _ _ ⟨(decide_eq_true (.inl (cT hc))).symm, h⟩) (fun hc => hJ _ _ ⟨?_, h⟩)
    rotate_left
    · have hc := cF hc
      exact decide_eq_decide.2 ⟨fun h => .inr h, fun h => h.resolve_left hc⟩
    rintro _ w ⟨rfl, h⟩
    refine AnyP.go fun _ => CondP.mk' (fun hc => ?_) (fun hc => ?_)
    · have hc : t < 0 ∨ 1099511627776 ≤ t := cT hc
      have hnil : L.filter (stabP t) = [] := by
        rw [List.filter_eq_nil_iff]
        intro x hx hp
        have := hitem x hx
        unfold okI at this
        simp only [stabP, Bool.and_eq_true, decide_eq_true_eq] at hp
        omega
      rw [hnil] at hbl ⊢
      refine JoinP.go (CondP.yes rfl (AnyP.go fun _ => JoinP.go (CondP.yes (by rw [hbl]; rfl) ?_)))
      exact known_spec h fun w h => AnyP.go fun _ => hk _ (h.sub (by repeat (first | exact Sub.done | refine Sub.take (by first | exact .head | exact (.tail .head) | exact (.tail (.tail .head)) | exact (.tail (.tail (.tail .head))) | exact (.tail (.tail (.tail (.tail .head)))) | exact (.tail (.tail (.tail (.tail (.tail .head))))) | exact (.tail (.tail (.tail (.tail (.tail (.tail .head)))))) | exact (.tail (.tail (.tail (.tail (.tail (.tail (.tail .head))))))) | exact (.tail (.tail (.tail (.tail (.tail (.tail (.tail (.tail .head))))))))) ?_ | refine Sub.skip ?_)))
    · have hc : ¬ (t < 0 ∨ 1099511627776 ≤ t) := cF hc
      refine over_spec (t := (t, IntKind.i64.wrap (t + 1), ())) (h.pick .two) (by omega) hok fun so w h => ?_
      have hov : overM bs ⟨#[]⟩ ⟨#[]⟩ (t, IntKind.i64.wrap (t + 1), ()) = L.filter (stabP t) := by
        rw [over_flat, over_all, hL, wrap_in _ (by omega)]
        refine List.filter_congr fun x _ => ?_
        rw [Bool.eq_iff_iff]
        simp only [overP, stabP, Bool.and_eq_true, decide_eq_true_eq]
        omega
      rw [hov] at h
      refine JoinP.go (CondP.yes (by rw [hbl]; simp) ?_)
      refine plain_spec (l := L.filter (stabP t)) h (fun w h => h.reads_own) (by have := List.length_filter_le (stabP t) L; omega) fun t1 w h => ?_
      refine plain_spec (l := L.filter (stabP t)) h (fun w h => (h.pick (.tail (.tail (.tail .head)))).reads_own) (by have := List.length_filter_le (stabP t) L; omega) fun t2 w h => ?_
      refine same_spec h (fun w h => (h.pick .two).reads_own) (fun w h => h.reads_own) (by have := List.length_filter_le (stabP t) L; omega) fun w h => ?_
      refine AnyP.go fun _ => JoinP.go (CondP.yes (decide_eq_true rfl) ?_)
      exact known_spec h fun w h => AnyP.go fun _ => hk _ (h.sub (by repeat (first | exact Sub.done | refine Sub.take (by first | exact .head | exact (.tail .head) | exact (.tail (.tail .head)) | exact (.tail (.tail (.tail .head))) | exact (.tail (.tail (.tail (.tail .head)))) | exact (.tail (.tail (.tail (.tail (.tail .head))))) | exact (.tail (.tail (.tail (.tail (.tail (.tail .head)))))) | exact (.tail (.tail (.tail (.tail (.tail (.tail (.tail .head))))))) | exact (.tail (.tail (.tail (.tail (.tail (.tail (.tail (.tail .head))))))))) ?_ | refine Sub.skip ?_)))
end Go.Proofs.Ytoaalegieaocbaa
