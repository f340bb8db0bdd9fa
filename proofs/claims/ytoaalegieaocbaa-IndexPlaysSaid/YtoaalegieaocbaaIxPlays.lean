/- The law IndexPlays: the walk. -/
import Derived.Test.YtoaalegieaocbaaIxRef3
import Derived.Test.YtoaalegieaocbaaIxMax
namespace Go.Proofs.Ytoaalegieaocbaa
open Go.Sh
attribute [local irreducible] pto rob old ownS roS hstar hex hpure hemp mapB hro IxB RfB

abbrev PS (W : World) (b10 d r : Nat) (o : OpT) (Wd : Int) (bs : List (List Item)) : List HProp := pto b10 (opStored o) :: IxB d Wd bs :: RfB r bs.flatten :: [old W]

theorem decide_mono {p q : Prop} [Decidable p] [Decidable q] (h : p ↔ q) : decide p = decide q := decide_eq_decide.2 h

set_option maxHeartbeats 4000000 in
theorem plays_walk {W : World} {script : Sl} {ops : List OpT} (hs : Reads W script 8 (ops.flatMap encO)) (hcap : script.len ≤ 9223372036854775807) (hops : ∀ o ∈ ops, OpOk o) {Wd : Int} {k : Bool → Pr}
    (hk : ∀ w', Holds W w' [old W] → k true w') : CallP Try.prog 3 #[.int .i64 Wd, .slice script.a script.len script.cap] tBool k W := by
  have hsl := hs.len_eq encO_len (by omega)
  refine rd3 _ _ _ _ ?_
  unfold sh3
  refine new_spec (Holds.start W) (fun hbad => ?_) (fun hW2 hW3 d w h => ?_)
  · -- the width is refused
    refine rnew_spec (Holds.start W) (fun _ r w h => ?_) (fun h1 h2 => absurd ⟨h1, h2⟩ hbad)
    refine JoinP.go (CondP.no rfl ?_)
    refine get_pure false (by kernel_rfl) ?_
    refine AnyP.go fun _ => CondP.no rfl ?_
    refine LoopP.inv (fun s w => Holds W w [old W]) (fun _ _ => 0) h.drop ?_
    intro next s w h hnext
    refine AnyP.go fun _ => JoinP.via (fun b w => Holds W w [old W]) (fun b w h => ?_) fun J hJ => CondP.mk' (fun _ => hJ _ _ h) (fun _ => hJ _ _ h)
    refine AnyP.go fun _ => JoinP.via (fun b w => b = false ∧ Holds W w [old W]) ?_ fun J hJ => CondP.mk' (fun _ => get_pure false (by kernel_rfl) (hJ _ _ ⟨rfl, h⟩)) (fun _ => hJ _ _ ⟨rfl, h⟩)
    rintro _ w ⟨rfl, h⟩
    exact AnyP.go fun _ => CondP.no rfl (known_spec h fun w h => hk _ h)
  refine rnew_spec h (fun hbad => absurd ⟨hW2, hW3⟩ hbad) (fun _ _ r w h => ?_)
  refine JoinP.go (CondP.no rfl ?_)
  refine get_pure true (by kernel_rfl) ?_
  refine AnyP.go fun _ => CondP.no rfl ?_
  refine LoopP.inv (fun t w => ∃ (i : Nat) (bs : List (List Item)), t = i ∧ i ≤ ops.length ∧ i ≤ 200 ∧ Good Wd bs ∧ bs.flatten.length ≤ i ∧ Holds W w (IxB d Wd bs :: RfB r bs.flatten :: [old W])) (fun t _ => 200 - t.toNat)
    ⟨0, [], rfl, by omega, by omega, good_nil, by simp, h.swap⟩ ?_
  rintro next t w ⟨i, bs, rfl, hi, hi2, hG, hlen, h⟩ hnext
  refine AnyP.go fun _ => JoinP.via (fun b w => b = decide (i < ops.length ∧ i < 200) ∧ Holds W w (IxB d Wd bs :: RfB r bs.flatten :: [old W])) ?_ fun J hJ => CondP.mk' (fun hc => hJ _ _ ⟨?_, h⟩) (fun hc => hJ _ _ ⟨?_, h⟩)
  rotate_left
  · have hc := cT hc
    exact decide_eq_decide.2 ⟨fun h => ⟨by omega, by omega⟩, fun h => by omega⟩
  · have hc := cF hc
    exact (decide_eq_false (fun h => by omega)).symm
  rintro _ w ⟨rfl, h⟩
  refine AnyP.go fun _ => JoinP.via (fun b w => b = decide (i < ops.length ∧ i < 200) ∧ Holds W w (IxB d Wd bs :: RfB r bs.flatten :: [old W])) ?_ fun J hJ => CondP.mk' (fun hc => get_pure true (by kernel_rfl) (hJ _ _ ⟨hc.symm, h⟩)) (fun hc => hJ _ _ ⟨hc.symm, h⟩)
  rintro _ w ⟨rfl, h⟩
  refine AnyP.go fun _ => CondP.mk' (fun hc => ?_) (fun _ => known_spec h fun w h => hk _ (h.sub (by repeat (first | exact Sub.done | refine Sub.take (by first | exact .head | exact (.tail .head) | exact (.tail (.tail .head)) | exact (.tail (.tail (.tail .head))) | exact (.tail (.tail (.tail (.tail .head)))) | exact (.tail (.tail (.tail (.tail (.tail .head))))) | exact (.tail (.tail (.tail (.tail (.tail (.tail .head)))))) | exact (.tail (.tail (.tail (.tail (.tail (.tail (.tail .head))))))) | exact (.tail (.tail (.tail (.tail (.tail (.tail (.tail (.tail .head))))))))) ?_ | refine Sub.skip ?_))))
  obtain ⟨hc, hc2⟩ : i < ops.length ∧ i < 200 := cT hc
  have hw1 : IntKind.i64.wrap ((i : Int) + 1) = ((i + 1 : Nat) : Int) := by rw [wrap_in _ (by omega)]; omega
  refine JoinP.via (fun _ w => ∃ bs2, Good Wd bs2 ∧ bs2.flatten.length ≤ i + 1 ∧ Holds W w (IxB d Wd bs2 :: RfB r bs2.flatten :: [old W])) ?_ fun J4 hJ4 => ?_
  · rintro _ w ⟨bs2, hG2, hl2, h⟩
    refine AnyP.go fun _ => ?_
    rw [hw1]
    exact hnext _ _ ⟨i + 1, bs2, rfl, by omega, by omega, hG2, hl2, h⟩ (by omega)
  clear hnext
  have hS := h.drop.drop.reads_old hs
  refine val_idx hS encO_len (by omega) hc (T := 22) (Te := 33) (by kernel_rfl) (by kernel_rfl) fun a0 ha0 hs0 => ?_
  refine get_elt ops[i] hS encO_len ha0 hc (by kernel_rfl) (by kernel_rfl) rfl ?_
  have ho := hops _ (List.getElem_mem hc)
  generalize ops[i] = o at *
  refine do_alloc (z := .agg #[.int .i64 0, .string ⟨#[]⟩, .int .i64 0, .int .i64 0, .int .i64 0, .string ⟨#[]⟩, .int .i64 0, .int .i64 0]) h (by kernel_rfl) fun b10 w h => ?_
  refine do_st_all (n := 8) h rfl .head (by kernel_rfl) rfl rfl (by intro v hv; simp at hv; rcases hv with rfl | rfl | rfl | rfl | rfl | rfl | rfl | rfl <;> rfl) fun w h => ?_
  replace h : Holds W w (PS W b10 d r o Wd bs) := h
  refine get_ld h rfl .head (by kernel_rfl) (x := o.2.1) rfl ?_
  refine JoinP.via (fun b w => (b = false → o.2.1.size ≤ 100 ∧ o.2.2.2.2.2.1.size ≤ 100) ∧ Holds W w (PS W b10 d r o Wd bs)) ?_ fun J hJ => CondP.mk' (fun hb => hJ _ _ ⟨fun h => (by cases h), h⟩) (fun hb => ?_)
  rotate_left
  · refine get_ld h rfl .head (by kernel_rfl) (x := o.2.2.2.2.2.1) rfl ?_
    exact hJ _ _ ⟨fun hb2 => ⟨by have := cF hb; omega, by have := cF hb2; omega⟩, h⟩
  rintro b w ⟨hbig, h⟩
  refine AnyP.go fun _ => CondP.mk' (fun hb => hJ4 _ _ ⟨bs, hG, by omega, h.drop⟩) (fun hb => ?_)
  obtain ⟨hk1, hk2⟩ := hbig hb
  clear hbig hb
  have hok := hG.okb (by omega)
  refine JoinP.via (fun _ w => ∃ bs2, Good Wd bs2 ∧ bs2.flatten.length ≤ i + 1 ∧ Holds W w (PS W b10 d r o Wd bs2)) ?_ fun J6 hJ6 => ?_
  · -- what both are asked behind each call
    rintro _ w ⟨bs2, hG2, hl2, h⟩
    have hok2 := hG2.okb (by omega)
    refine AnyP.go fun _ => DrewP.go h fun w h => ?_
    replace h := RfB.opened (h.pick (.tail (.tail .head)))
    obtain ⟨s, h⟩ := h
    have hsl2 := (h.drop.reads_own).len_eq encI_len (by omega)
    refine val_nil ?_
    refine get_ld h rfl .head (by kernel_rfl) (x := s) rfl ?_
    refine len_spec (h.pick (.tail (.tail (.tail .head)))) (by omega) hok2 fun w h => ?_
    refine chk_ld h rfl .two (by kernel_rfl) rfl ?_
    refine CondP.no (by rw [hsl2]; simp) ?_
    refine max_spec h (by omega) hok2 fun w h => ?_
    refine chk_ld h rfl .two (by kernel_rfl) rfl ?_
    refine rmax_spec (s := s) (h.sub (M := Ro r s bs2.flatten (IxB d Wd bs2 :: [old W])) (by repeat (first | exact Sub.done | refine Sub.take (by first | exact .head | exact (.tail .head) | exact (.tail (.tail .head)) | exact (.tail (.tail (.tail .head))) | exact (.tail (.tail (.tail (.tail .head)))) | exact (.tail (.tail (.tail (.tail (.tail .head))))) | exact (.tail (.tail (.tail (.tail (.tail (.tail .head)))))) | exact (.tail (.tail (.tail (.tail (.tail (.tail (.tail .head))))))) | exact (.tail (.tail (.tail (.tail (.tail (.tail (.tail (.tail .head))))))))) ?_ | refine Sub.skip ?_))) (by omega) fun w h => ?_
    refine chk_ld h rfl .head (by kernel_rfl) rfl ?_
    refine CondP.no (by simp) ?_
    refine val_nil ?_
    refine get_ld h rfl .head (by kernel_rfl) (x := s) rfl ?_
    refine all_spec (h.pick (.tail (.tail .head))) (by omega) hok2 fun t w h => ?_
    rw [all_flat hG2] at h
    refine chk_ld h rfl (.tail (.tail .head)) (by kernel_rfl) rfl ?_
    refine chk_ld h rfl (.tail (.tail .head)) (by kernel_rfl) rfl ?_
    refine plain_spec h (fun w h => h.reads_own) (by omega) fun t2 w h => ?_
    refine chk_ld h rfl (.tail (.tail (.tail .head))) (by kernel_rfl) rfl ?_
    refine chk_ld h rfl (.tail (.tail (.tail .head))) (by kernel_rfl) rfl ?_
    refine same_spec h (fun w h => h.reads_own) (fun w h => (h.pick (.tail (.tail (.tail (.tail .head))))).reads_own) (by omega) fun w h => ?_
    refine chk_ld h rfl (.tail (.tail (.tail .head))) (by kernel_rfl) rfl ?_
    refine CondP.no (by rw [decide_eq_true rfl]; rfl) ?_
    exact hJ4 _ _ ⟨bs2, hG2, hl2, (RfB.closed (s := s) (h.sub (M := pto r _ :: ownS 36 4 s _ :: IxB d Wd bs2 :: [old W]) (by repeat (first | exact Sub.done | refine Sub.take (by first | exact .head | exact (.tail .head) | exact (.tail (.tail .head)) | exact (.tail (.tail (.tail .head))) | exact (.tail (.tail (.tail (.tail .head)))) | exact (.tail (.tail (.tail (.tail (.tail .head))))) | exact (.tail (.tail (.tail (.tail (.tail (.tail .head)))))) | exact (.tail (.tail (.tail (.tail (.tail (.tail (.tail .head))))))) | exact (.tail (.tail (.tail (.tail (.tail (.tail (.tail (.tail .head))))))))) ?_ | refine Sub.skip ?_)))).swap⟩
  clear hJ4
  refine get_ld h rfl .head (by kernel_rfl) (x := o.1) rfl ?_
  refine CondP.mk' (fun h0 => ?_) (fun h0 => ?_)
  · -- Insert
    refine DrewP.go h fun w h => ?_
    refine get_sub (ls := itL) (opItem o) h rfl .head (by kernel_rfl) (by kernel_rfl) rfl ?_
    refine get_ld h rfl .head (by kernel_rfl) (x := o.2.1) rfl ?_
    refine get_ld h rfl .head (by kernel_rfl) (x := o.2.2.1) rfl ?_
    refine get_ld h rfl .head (by kernel_rfl) (x := o.2.2.2.1) rfl ?_
    refine get_ld h rfl .head (by kernel_rfl) (x := o.2.2.2.2.1) rfl ?_
    obtain ⟨c1, c2, hG2⟩ := insM_flat (i := opItem o) hW2 hG ho
    have hle := insL_len bs.flatten (opItem o)
    refine insert_spec (i := opItem o) h.swap (by omega) hW3 hok fun w h => ?_
    rw [c1]
    generalize (insM Wd bs (opItem o)).2 = bs2 at *
    refine chk_ld h rfl .two (by kernel_rfl) rfl ?_
    refine chk_ld h rfl .two (by kernel_rfl) rfl ?_
    refine chk_ld h rfl .two (by kernel_rfl) rfl ?_
    refine chk_ld h rfl .two (by kernel_rfl) rfl ?_
    refine rinsert_spec (i := opItem o) (h.pick (.tail (.tail .head))) (by omega) (by show o.2.1.size ≤ _; omega) fun w h => ?_
    rw [← c2] at h
    refine chk_ld h rfl (.tail (.tail .head)) (by kernel_rfl) rfl ?_
    refine chk_ld h rfl (.tail (.tail .head)) (by kernel_rfl) rfl ?_
    refine chk_ld h rfl (.tail (.tail .head)) (by kernel_rfl) rfl ?_
    refine chk_ld h rfl (.tail (.tail .head)) (by kernel_rfl) rfl ?_
    refine CondP.no (by simp) (hJ6 _ _ ⟨bs2, hG2, by rw [c2]; omega, h.sub (by repeat (first | exact Sub.done | refine Sub.take (by first | exact .head | exact (.tail .head) | exact (.tail (.tail .head)) | exact (.tail (.tail (.tail .head))) | exact (.tail (.tail (.tail (.tail .head)))) | exact (.tail (.tail (.tail (.tail (.tail .head))))) | exact (.tail (.tail (.tail (.tail (.tail (.tail .head)))))) | exact (.tail (.tail (.tail (.tail (.tail (.tail (.tail .head))))))) | exact (.tail (.tail (.tail (.tail (.tail (.tail (.tail (.tail .head))))))))) ?_ | refine Sub.skip ?_))⟩)
  refine CondP.mk' (fun h1 => ?_) (fun h1 => ?_)
  · -- Close
    refine DrewP.go h fun w h => ?_
    refine get_ld h rfl .head (by kernel_rfl) (x := o.2.1) rfl ?_
    refine get_ld h rfl .head (by kernel_rfl) (x := o.2.2.1) rfl ?_
    refine get_ld h rfl .head (by kernel_rfl) (x := o.2.2.2.1) rfl ?_
    refine get_ld h rfl .head (by kernel_rfl) (x := o.2.1) rfl ?_
    refine get_ld h rfl .head (by kernel_rfl) (x := o.2.2.1) rfl ?_
    refine get_ld h rfl .head (by kernel_rfl) (x := o.2.2.2.1) rfl ?_
    obtain ⟨c1, c2, hG2⟩ := closeM_flat (k := o.2.1) (e := o.2.2.2.1) hG ho
    have hle := closeL_len bs.flatten o.2.1 o.2.2.1 o.2.2.2.1
    refine close_spec h.swap (by omega) hok fun w h => ?_
    rw [c1]
    generalize (closeM bs o.2.1 o.2.2.1 o.2.2.2.1).2 = bs2 at *
    refine chk_ld h rfl .two (by kernel_rfl) rfl ?_
    refine chk_ld h rfl .two (by kernel_rfl) rfl ?_
    refine chk_ld h rfl .two (by kernel_rfl) rfl ?_
    refine rclose_spec (h.pick (.tail (.tail .head))) (by omega) (by omega) fun w h => ?_
    rw [← c2] at h
    refine CondP.no (by simp) (hJ6 _ _ ⟨bs2, hG2, by rw [c2]; omega, h.sub (by repeat (first | exact Sub.done | refine Sub.take (by first | exact .head | exact (.tail .head) | exact (.tail (.tail .head)) | exact (.tail (.tail (.tail .head))) | exact (.tail (.tail (.tail (.tail .head)))) | exact (.tail (.tail (.tail (.tail (.tail .head))))) | exact (.tail (.tail (.tail (.tail (.tail (.tail .head)))))) | exact (.tail (.tail (.tail (.tail (.tail (.tail (.tail .head))))))) | exact (.tail (.tail (.tail (.tail (.tail (.tail (.tail (.tail .head))))))))) ?_ | refine Sub.skip ?_))⟩)
  refine CondP.mk' (fun h2 => ?_) (fun h2 => ?_)
  · -- Delete
    refine DrewP.go h fun w h => ?_
    refine get_ld h rfl .head (by kernel_rfl) (x := o.2.1) rfl ?_
    refine get_ld h rfl .head (by kernel_rfl) (x := o.2.2.1) rfl ?_
    refine get_ld h rfl .head (by kernel_rfl) (x := o.2.1) rfl ?_
    refine get_ld h rfl .head (by kernel_rfl) (x := o.2.2.1) rfl ?_
    obtain ⟨c1, c2, hG2⟩ := delM_flat (k := o.2.1) hW2 hG ho
    have hle := delL_len bs.flatten o.2.1 o.2.2.1
    refine delete_spec h.swap (by omega) hW3 hok fun w h => ?_
    rw [c1]
    generalize (delM Wd bs o.2.1 o.2.2.1).2 = bs2 at *
    refine chk_ld h rfl .two (by kernel_rfl) rfl ?_
    refine chk_ld h rfl .two (by kernel_rfl) rfl ?_
    refine rdelete_spec (h.pick (.tail (.tail .head))) (by omega) (by omega) fun w h => ?_
    rw [← c2] at h
    refine CondP.no (by simp) (hJ6 _ _ ⟨bs2, hG2, by rw [c2]; omega, h.sub (by repeat (first | exact Sub.done | refine Sub.take (by first | exact .head | exact (.tail .head) | exact (.tail (.tail .head)) | exact (.tail (.tail (.tail .head))) | exact (.tail (.tail (.tail (.tail .head)))) | exact (.tail (.tail (.tail (.tail (.tail .head))))) | exact (.tail (.tail (.tail (.tail (.tail (.tail .head)))))) | exact (.tail (.tail (.tail (.tail (.tail (.tail (.tail .head))))))) | exact (.tail (.tail (.tail (.tail (.tail (.tail (.tail (.tail .head))))))))) ?_ | refine Sub.skip ?_))⟩)
  refine CondP.mk' (fun h3 => ?_) (fun h3 => ?_)
  · -- Stab
    refine DrewP.go h fun w h => ?_
    refine get_ld h rfl .head (by kernel_rfl) (x := o.2.1) rfl ?_
    refine get_ld h rfl .head (by kernel_rfl) (x := o.2.2.2.2.2.1) rfl ?_
    refine get_ld h rfl .head (by kernel_rfl) (x := o.2.2.2.2.2.2.1) rfl ?_
    refine get_ld h rfl .head (by kernel_rfl) (x := o.2.1) rfl ?_
    refine get_ld h rfl .head (by kernel_rfl) (x := o.2.2.2.2.2.1) rfl ?_
    refine get_ld h rfl .head (by kernel_rfl) (x := o.2.2.2.2.2.2.1) rfl ?_
    have hle : ∀ lo hi t, (stabL bs.flatten lo hi t).length ≤ 200 := fun lo hi t => by
      have e1 := List.length_filter_le (stabP t) (bs.flatten.filter (inr lo hi))
      have e2 := List.length_filter_le (inr lo hi) bs.flatten
      unfold stabL; omega
    refine stab_spec h.swap (by omega) hok fun t1 w h => ?_
    rw [stab_flat] at h
    refine chk_ld h rfl (.tail (.tail .head)) (by kernel_rfl) rfl ?_
    refine chk_ld h rfl (.tail (.tail .head)) (by kernel_rfl) rfl ?_
    refine chk_ld h rfl (.tail (.tail .head)) (by kernel_rfl) rfl ?_
    refine plain_spec h (fun w h => h.reads_own) (by have := hle o.2.1 o.2.2.2.2.2.1 o.2.2.2.2.2.2.1; omega) fun t2 w h => ?_
    refine chk_ld h rfl (.tail (.tail (.tail .head))) (by kernel_rfl) rfl ?_
    refine chk_ld h rfl (.tail (.tail (.tail .head))) (by kernel_rfl) rfl ?_
    refine chk_ld h rfl (.tail (.tail (.tail .head))) (by kernel_rfl) rfl ?_
    refine rstab_spec (h.pick (.tail (.tail (.tail (.tail .head))))) (by omega) (by omega) (by omega) fun t3 w h => ?_
    refine same_spec h (fun w h => (h.pick (.tail (.tail .head))).reads_own) (fun w h => h.reads_own) (by have := hle o.2.1 o.2.2.2.2.2.1 o.2.2.2.2.2.2.1; omega) fun w h => ?_
    exact CondP.no (by rw [decide_eq_true rfl]; rfl) (hJ6 _ _ ⟨bs, hG, by omega, h.sub (by repeat (first | exact Sub.done | refine Sub.take (by first | exact .head | exact (.tail .head) | exact (.tail (.tail .head)) | exact (.tail (.tail (.tail .head))) | exact (.tail (.tail (.tail (.tail .head)))) | exact (.tail (.tail (.tail (.tail (.tail .head))))) | exact (.tail (.tail (.tail (.tail (.tail (.tail .head)))))) | exact (.tail (.tail (.tail (.tail (.tail (.tail (.tail .head))))))) | exact (.tail (.tail (.tail (.tail (.tail (.tail (.tail (.tail .head))))))))) ?_ | refine Sub.skip ?_))⟩)
  refine CondP.mk' (fun h4 => ?_) (fun h4 => ?_)
  · -- Overlap
    refine get_ld h rfl .head (by kernel_rfl) (x := o.2.2.2.2.2.2.1) rfl ?_
    refine get_ld h rfl .head (by kernel_rfl) (x := o.2.2.2.2.2.2.2.1) rfl ?_
    refine do_alloc (z := .agg #[.int .i64 0, .int .i64 0]) h (by kernel_rfl) fun b11 w h => ?_
    refine do_st_all (n := 2) h rfl .head (by kernel_rfl) rfl rfl (by intro v hv; simp at hv; rcases hv with rfl | rfl <;> rfl) fun w h => ?_
    refine DrewP.go h fun w h => ?_
    obtain ⟨sp, hsp⟩ : ∃ sp : Int × Int × Unit, sp = (o.2.2.2.2.2.2.1, o.2.2.2.2.2.2.2.1, ()) := ⟨_, rfl⟩
    replace h : Holds W w (pto b11 (.cells #[.int .i64 sp.1, .int .i64 sp.2.1] 46 (0, 0)) :: PS W b10 d r o Wd bs) := by rw [hsp]; exact h
    refine get_ld h rfl .two (by kernel_rfl) (x := o.2.1) rfl ?_
    refine get_ld h rfl .two (by kernel_rfl) (x := o.2.2.2.2.2.1) rfl ?_
    refine get_ld_agg (ls := [.int .i64, .int .i64]) sp h rfl .head (by kernel_rfl) (by kernel_rfl) ?_
    refine get_ld h rfl .two (by kernel_rfl) (x := o.2.1) rfl ?_
    refine get_ld h rfl .two (by kernel_rfl) (x := o.2.2.2.2.2.1) rfl ?_
    refine get_ld_agg (ls := [.int .i64, .int .i64]) sp h rfl .head (by kernel_rfl) (by kernel_rfl) ?_
    have hle : ∀ lo hi, (overL bs.flatten lo hi sp).length ≤ 200 := fun lo hi => by
      have e1 := List.length_filter_le (overP sp) (bs.flatten.filter (inr lo hi))
      have e2 := List.length_filter_le (inr lo hi) bs.flatten
      unfold overL; omega
    refine over_spec (t := sp) (h.pick (.tail (.tail .head))) (by omega) hok fun t1 w h => ?_
    rw [over_flat] at h
    refine chk_ld h rfl (.tail (.tail (.tail .head))) (by kernel_rfl) rfl ?_
    refine chk_ld h rfl (.tail (.tail (.tail .head))) (by kernel_rfl) rfl ?_
    refine chk_ld_agg (vs := [.int .i64 sp.1, .int .i64 sp.2.1]) h rfl (.tail (.tail .head)) (by kernel_rfl) (by kernel_rfl) ?_
    refine plain_spec h (fun w h => h.reads_own) (by have := hle o.2.1 o.2.2.2.2.2.1; omega) fun t2 w h => ?_
    refine chk_ld h rfl (.tail (.tail (.tail (.tail .head)))) (by kernel_rfl) rfl ?_
    refine chk_ld h rfl (.tail (.tail (.tail (.tail .head)))) (by kernel_rfl) rfl ?_
    refine chk_ld_agg (vs := [.int .i64 sp.1, .int .i64 sp.2.1]) h rfl (.tail (.tail (.tail .head))) (by kernel_rfl) (by kernel_rfl) ?_
    refine rover_spec (t := sp) (h.pick (.tail (.tail (.tail (.tail (.tail .head)))))) (by omega) hG.ok (by omega) (by omega) fun t3 w h => ?_
    refine same_spec h (fun w h => (h.pick (.tail (.tail .head))).reads_own) (fun w h => h.reads_own) (by have := hle o.2.1 o.2.2.2.2.2.1; omega) fun w h => ?_
    exact CondP.no (by rw [decide_eq_true rfl]; rfl) (hJ6 _ _ ⟨bs, hG, by omega, h.sub (by repeat (first | exact Sub.done | refine Sub.take (by first | exact .head | exact (.tail .head) | exact (.tail (.tail .head)) | exact (.tail (.tail (.tail .head))) | exact (.tail (.tail (.tail (.tail .head)))) | exact (.tail (.tail (.tail (.tail (.tail .head))))) | exact (.tail (.tail (.tail (.tail (.tail (.tail .head)))))) | exact (.tail (.tail (.tail (.tail (.tail (.tail (.tail .head))))))) | exact (.tail (.tail (.tail (.tail (.tail (.tail (.tail (.tail .head))))))))) ?_ | refine Sub.skip ?_))⟩)
  · -- Get
    refine get_ld h rfl .head (by kernel_rfl) (x := o.2.1) rfl ?_
    refine get_ld h rfl .head (by kernel_rfl) (x := o.2.2.1) rfl ?_
    refine get_spec h.swap (by omega) hok fun w h => ?_
    rw [getM_flat hG ho]
    refine do_alloc (z := .agg #[.string ⟨#[]⟩, .int .i64 0, .int .i64 0, .int .i64 0]) h (by kernel_rfl) fun b12 w h => ?_
    refine do_st_all (n := 4) h rfl .head (by kernel_rfl) rfl rfl (by intro v hv; simp at hv; rcases hv with rfl | rfl | rfl | rfl <;> rfl) fun w h => ?_
    refine get_ld h rfl (.tail (.tail .head)) (by kernel_rfl) (x := o.2.1) rfl ?_
    refine get_ld h rfl (.tail (.tail .head)) (by kernel_rfl) (x := o.2.2.1) rfl ?_
    refine rget_spec (h.pick (.tail (.tail (.tail .head)))) (by omega) (by omega) fun w h => ?_
    generalize (getL bs.flatten o.2.1 o.2.2.1).1 = x at *
    generalize (getL bs.flatten o.2.1 o.2.2.1).2 = er at *
    refine do_alloc (z := .agg #[.string ⟨#[]⟩, .int .i64 0, .int .i64 0, .int .i64 0]) h (by kernel_rfl) fun b14 w h => ?_
    refine do_st_all (n := 4) h rfl .head (by kernel_rfl) rfl rfl (by intro v hv; simp at hv; rcases hv with rfl | rfl | rfl | rfl <;> rfl) fun w h => ?_
    refine JoinP.go (CondP.no (by simp) ?_)
    refine get_ld h rfl (.tail (.tail .head)) (by kernel_rfl) (x := x.1) rfl ?_
    refine get_ld h rfl (.tail (.tail .head)) (by kernel_rfl) (x := x.2.1) rfl ?_
    refine get_ld h rfl (.tail (.tail .head)) (by kernel_rfl) (x := x.2.2.1) rfl ?_
    refine get_ld h rfl (.tail (.tail .head)) (by kernel_rfl) (x := x.2.2.2.1) rfl ?_
    refine get_ld_agg (ls := itL) x h rfl .head (by kernel_rfl) (by kernel_rfl) ?_
    refine val_neq36 (a := x) (b := x) ?_
    refine AnyP.go fun _ => CondP.no (by rw [decide_eq_true rfl]; rfl) (hJ6 _ _ ⟨bs, hG, by omega, h.sub (by repeat (first | exact Sub.done | refine Sub.take (by first | exact .head | exact (.tail .head) | exact (.tail (.tail .head)) | exact (.tail (.tail (.tail .head))) | exact (.tail (.tail (.tail (.tail .head)))) | exact (.tail (.tail (.tail (.tail (.tail .head))))) | exact (.tail (.tail (.tail (.tail (.tail (.tail .head)))))) | exact (.tail (.tail (.tail (.tail (.tail (.tail (.tail .head))))))) | exact (.tail (.tail (.tail (.tail (.tail (.tail (.tail (.tail .head))))))))) ?_ | refine Sub.skip ?_))⟩)
end Go.Proofs.Ytoaalegieaocbaa
