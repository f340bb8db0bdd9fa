/- The law IndexRanges: the walk. -/
import Derived.Test.YtoaalegieaocbaaIxMax
namespace Go.Proofs.Ytoaalegieaocbaa
open Go.Sh
attribute [local irreducible] pto rob old ownS roS hstar hex hpure hemp mapB hro IxB

theorem nil_toList : (⟨#[]⟩ : ByteArray).toList = [] := ByteArray.toList_mk []
theorem bl_nil (l : List UInt8) : Op.bytesLess l [] = false := by cases l <;> rfl
theorem inr_to {key : ByteArray} (h : key.toList ≠ []) (x : Item) : inr ⟨#[]⟩ key x = Op.bytesLess x.1.toList key.toList := by
  unfold inr
  rw [nil_toList, bl_nil, Bool.false_or, beq_eq_false_iff_ne.2 h]
  simp
theorem inr_from (key : ByteArray) (x : Item) : inr key ⟨#[]⟩ x = !Op.bytesLess x.1.toList key.toList := by
  unfold inr
  rw [nil_toList]
  simp
/-- in order: those ahead of a key, and then those from it on -/
theorem cut_key {key : ByteArray} : ∀ {L : List Item}, Srt L → L.filter (fun x => Op.bytesLess x.1.toList key.toList) ++ L.filter (fun x => !Op.bytesLess x.1.toList key.toList) = L
  | [], _ => rfl
  | x :: L, hs => by
    obtain ⟨h1, h2⟩ := List.pairwise_cons.1 hs
    cases hx : Op.bytesLess x.1.toList key.toList with
    | true =>
      rw [List.filter_cons_of_pos (p := fun x : Item => Op.bytesLess x.1.toList key.toList) hx, List.filter_cons_of_neg (by rw [hx]; simp), List.cons_append, cut_key h2]
    | false =>
      have hall : ∀ y ∈ L, Op.bytesLess y.1.toList key.toList = false := fun y hy => by
        rw [Bool.eq_false_iff]
        intro hh
        have hb := h1 y hy
        rw [before, lt_iff] at hb
        rcases hb with hb | ⟨hb, _⟩
        · rw [bl_trans hb hh] at hx; cases hx
        · rw [hb] at hx; rw [hx] at hh; cases hh
      rw [List.filter_cons_of_neg (by rw [hx]; simp), List.filter_eq_nil_iff.2 (fun y hy => by rw [hall y hy]; simp), List.nil_append, List.filter_cons_of_pos (by rw [hx]; rfl)]
      rw [List.filter_eq_self.2 fun y hy => by rw [hall y hy]; rfl]
theorem cut_filter {key : ByteArray} (h : key.toList ≠ []) {L : List Item} (hs : Srt L) (p : Item → Bool) : (L.filter (inr ⟨#[]⟩ key)).filter p ++ (L.filter (inr key ⟨#[]⟩)).filter p = L.filter p := by
  rw [← List.filter_append, List.filter_congr (q := fun x => Op.bytesLess x.1.toList key.toList) fun x _ => inr_to h x, List.filter_congr (l := L) (p := inr key ⟨#[]⟩) (q := fun x => !Op.bytesLess x.1.toList key.toList) fun x _ => inr_from key x, cut_key hs]

set_option maxHeartbeats 1000000 in
theorem ranges_walk {W : World} {script : Sl} {ops : List OpT} (hs : Reads W script 8 (ops.flatMap encO)) (hcap : script.len ≤ 9223372036854775807) (hops : ∀ o ∈ ops, OpOk o) {key : ByteArray} {sp : Int × Int × Unit} {k : Bool → Pr}
    (hk : ∀ w', Holds W w' [old W] → k true w') : CallP Try.prog 6 #[.slice script.a script.len script.cap, .string key, .agg #[.int .i64 sp.1, .int .i64 sp.2.1]] tBool k W := by
  refine rd6 _ _ _ _ _ ?_
  unfold sh6
  refine do_box (Holds.start W) fun bt w h => ?_
  refine new_spec h (fun hb => absurd ⟨by omega, by omega⟩ hb) fun _ _ d w h => ?_
  refine JoinP.go (CondP.no rfl ?_)
  refine get_pure false (by kernel_rfl) ?_
  refine AnyP.go fun _ => CondP.no rfl ?_
  replace h : Holds W w (IxB d 2 [] :: pto bt (.cells #[.int .i64 sp.1, .int .i64 sp.2.1] 46 (0, 0)) :: [old W]) := h
  refine JoinP.via (fun b w => (b = false → key.toList ≠ []) ∧ Holds W w (IxB d 2 [] :: pto bt (.cells #[.int .i64 sp.1, .int .i64 sp.2.1] 46 (0, 0)) :: [old W])) ?_ fun J hJ => CondP.mk' (fun hc => hJ _ _ ⟨fun h => (by cases h), h⟩) (fun hc => hJ _ _ ⟨fun _ => ?_, h⟩)
  rotate_left
  · rw [nil_toList] at hc; exact beq_eq_false_iff_ne.1 hc
  rintro b w ⟨hb, h⟩
  refine AnyP.go fun _ => CondP.mk' (fun hc => known_spec h fun w h => hk _ (h.sub (by repeat (first | exact Sub.done | refine Sub.take (by first | exact .head | exact (.tail .head) | exact (.tail (.tail .head)) | exact (.tail (.tail (.tail .head))) | exact (.tail (.tail (.tail (.tail .head)))) | exact (.tail (.tail (.tail (.tail (.tail .head))))) | exact (.tail (.tail (.tail (.tail (.tail (.tail .head)))))) | exact (.tail (.tail (.tail (.tail (.tail (.tail (.tail .head))))))) | exact (.tail (.tail (.tail (.tail (.tail (.tail (.tail (.tail .head))))))))) ?_ | refine Sub.skip ?_)))) (fun hc => ?_)
  have hkey := hb hc
  clear hb hc
  refine build_spec h (fun w h => (h.pick .two).reads_old hs) hcap (by omega) (by omega) good_nil (by simp) hops fun w h => ?_
  obtain ⟨hG, hlen⟩ := build_good (W := 2) (by omega) (ops.take 200) good_nil fun o ho => hops o (List.mem_of_mem_take ho)
  have hlen : (buildM 2 [] (ops.take 200)).flatten.length ≤ 200 := by rw [List.length_take, show ([] : List (List Item)).flatten.length = 0 from rfl] at hlen; omega
  generalize buildM 2 [] (ops.take 200) = bs at *
  have hok := hG.okb (by omega)
  have ho := fun lo hi => over_flat bs lo hi sp
  have hst := fun lo hi => stab_flat bs lo hi sp.1
  have hcut := fun p => cut_filter hkey hG.srt p
  generalize hL : bs.flatten = L at *
  have hfl : ∀ (p q : Item → Bool), ((L.filter q).filter p).length ≤ 200 := fun p q => by
    have h1 := List.length_filter_le p (L.filter q)
    have h2 := List.length_filter_le q L
    omega
  refine do_build (Te := 31) (sz := 4) (len := 0) (([] : List Item).flatMap encI) h (by kernel_rfl) rfl fun s1 w hs1 h => ?_
  refine get_ld_agg (ls := [.int .i64, .int .i64]) sp h rfl (by first | exact .head | exact (.tail .head) | exact (.tail (.tail .head)) | exact (.tail (.tail (.tail .head))) | exact (.tail (.tail (.tail (.tail .head)))) | exact (.tail (.tail (.tail (.tail (.tail .head))))) | exact (.tail (.tail (.tail (.tail (.tail (.tail .head)))))) | exact (.tail (.tail (.tail (.tail (.tail (.tail (.tail .head))))))) | exact (.tail (.tail (.tail (.tail (.tail (.tail (.tail (.tail .head))))))))) (by kernel_rfl) (by kernel_rfl) ?_
  refine over_spec (t := sp) (h.pick .two) (by omega) hok fun t1 w h => ?_
  rw [ho] at h
  refine append_part (Te := 31) (Te2 := 31) (h.pick (.tail (.tail .head))) encI_len encI_na (by omega) (by kernel_rfl) (by kernel_rfl) elemI (by omega) h.reads_own (by have := hfl (overP sp) (inr ⟨#[]⟩ key); show 0 + (overL _ _ _ _).length ≤ _; unfold overL; omega) fun s2 w hs2 h => ?_
  rw [List.nil_append] at h
  refine get_ld_agg (ls := [.int .i64, .int .i64]) sp h rfl (by first | exact .head | exact (.tail .head) | exact (.tail (.tail .head)) | exact (.tail (.tail (.tail .head))) | exact (.tail (.tail (.tail (.tail .head)))) | exact (.tail (.tail (.tail (.tail (.tail .head))))) | exact (.tail (.tail (.tail (.tail (.tail (.tail .head)))))) | exact (.tail (.tail (.tail (.tail (.tail (.tail (.tail .head))))))) | exact (.tail (.tail (.tail (.tail (.tail (.tail (.tail (.tail .head))))))))) (by kernel_rfl) (by kernel_rfl) ?_
  refine over_spec (t := sp) (h.pick (.tail (.tail .head))) (by omega) hok fun t2 w h => ?_
  rw [ho] at h
  refine append_part (Te := 31) (Te2 := 31) (h.pick (.tail (.tail .head))) encI_len encI_na (by omega) (by kernel_rfl) (by kernel_rfl) elemI (by omega) h.reads_own (by have := hfl (overP sp) (inr ⟨#[]⟩ key); have := hfl (overP sp) (inr key ⟨#[]⟩); unfold overL; omega) fun s3 w hs3 h => ?_
  rw [show overL L ⟨#[]⟩ key sp ++ overL L key ⟨#[]⟩ sp = L.filter (overP sp) from hcut _] at h
  replace h := h.sub (M := IxB d 2 bs :: ownS 31 4 s3 ((L.filter (overP sp)).flatMap encI) :: pto bt (.cells #[.int .i64 sp.1, .int .i64 sp.2.1] 46 (0, 0)) :: [old W]) (by repeat (first | exact Sub.done | refine Sub.take (by first | exact .head | exact (.tail .head) | exact (.tail (.tail .head)) | exact (.tail (.tail (.tail .head))) | exact (.tail (.tail (.tail (.tail .head)))) | exact (.tail (.tail (.tail (.tail (.tail .head))))) | exact (.tail (.tail (.tail (.tail (.tail (.tail .head)))))) | exact (.tail (.tail (.tail (.tail (.tail (.tail (.tail .head))))))) | exact (.tail (.tail (.tail (.tail (.tail (.tail (.tail (.tail .head))))))))) ?_ | refine Sub.skip ?_))
  refine do_build (Te := 31) (sz := 4) (len := 0) (([] : List Item).flatMap encI) h (by kernel_rfl) rfl fun s4 w hs4 h => ?_
  refine get_ld (b := bt) h rfl (by first | exact .head | exact (.tail .head) | exact (.tail (.tail .head)) | exact (.tail (.tail (.tail .head))) | exact (.tail (.tail (.tail (.tail .head)))) | exact (.tail (.tail (.tail (.tail (.tail .head))))) | exact (.tail (.tail (.tail (.tail (.tail (.tail .head)))))) | exact (.tail (.tail (.tail (.tail (.tail (.tail (.tail .head))))))) | exact (.tail (.tail (.tail (.tail (.tail (.tail (.tail (.tail .head))))))))) (by kernel_rfl) (x := sp.1) rfl ?_
  refine stab_spec (h.pick .two) (by omega) hok fun t3 w h => ?_
  rw [hst] at h
  refine append_part (Te := 31) (Te2 := 31) (h.pick (.tail (.tail .head))) encI_len encI_na (by omega) (by kernel_rfl) (by kernel_rfl) elemI (by omega) h.reads_own (by have := hfl (stabP sp.1) (inr ⟨#[]⟩ key); show 0 + (stabL _ _ _ _).length ≤ _; unfold stabL; omega) fun s5 w hs5 h => ?_
  rw [List.nil_append] at h
  refine get_ld (b := bt) h rfl (by first | exact .head | exact (.tail .head) | exact (.tail (.tail .head)) | exact (.tail (.tail (.tail .head))) | exact (.tail (.tail (.tail (.tail .head)))) | exact (.tail (.tail (.tail (.tail (.tail .head))))) | exact (.tail (.tail (.tail (.tail (.tail (.tail .head)))))) | exact (.tail (.tail (.tail (.tail (.tail (.tail (.tail .head))))))) | exact (.tail (.tail (.tail (.tail (.tail (.tail (.tail (.tail .head))))))))) (by kernel_rfl) (x := sp.1) rfl ?_
  refine stab_spec (h.pick (.tail (.tail .head))) (by omega) hok fun t4 w h => ?_
  rw [hst] at h
  refine append_part (Te := 31) (Te2 := 31) (h.pick (.tail (.tail .head))) encI_len encI_na (by omega) (by kernel_rfl) (by kernel_rfl) elemI (by omega) h.reads_own (by have := hfl (stabP sp.1) (inr ⟨#[]⟩ key); have := hfl (stabP sp.1) (inr key ⟨#[]⟩); unfold stabL; omega) fun s6 w hs6 h => ?_
  rw [show stabL L ⟨#[]⟩ key sp.1 ++ stabL L key ⟨#[]⟩ sp.1 = L.filter (stabP sp.1) from hcut _] at h
  replace h := h.sub (M := IxB d 2 bs :: ownS 31 4 s6 ((L.filter (stabP sp.1)).flatMap encI) :: ownS 31 4 s3 ((L.filter (overP sp)).flatMap encI) :: pto bt (.cells #[.int .i64 sp.1, .int .i64 sp.2.1] 46 (0, 0)) :: [old W]) (by repeat (first | exact Sub.done | refine Sub.take (by first | exact .head | exact (.tail .head) | exact (.tail (.tail .head)) | exact (.tail (.tail (.tail .head))) | exact (.tail (.tail (.tail (.tail .head)))) | exact (.tail (.tail (.tail (.tail (.tail .head))))) | exact (.tail (.tail (.tail (.tail (.tail (.tail .head)))))) | exact (.tail (.tail (.tail (.tail (.tail (.tail (.tail .head))))))) | exact (.tail (.tail (.tail (.tail (.tail (.tail (.tail (.tail .head))))))))) ?_ | refine Sub.skip ?_))
  have hfl1 : ∀ (p : Item → Bool), (L.filter p).length ≤ 200 := fun p => by have := List.length_filter_le p L; omega
  refine DrewP.go h fun w h => ?_
  refine get_ld_agg (ls := [.int .i64, .int .i64]) sp h rfl (by first | exact .head | exact (.tail .head) | exact (.tail (.tail .head)) | exact (.tail (.tail (.tail .head))) | exact (.tail (.tail (.tail (.tail .head)))) | exact (.tail (.tail (.tail (.tail (.tail .head))))) | exact (.tail (.tail (.tail (.tail (.tail (.tail .head)))))) | exact (.tail (.tail (.tail (.tail (.tail (.tail (.tail .head))))))) | exact (.tail (.tail (.tail (.tail (.tail (.tail (.tail (.tail .head))))))))) (by kernel_rfl) (by kernel_rfl) ?_
  refine plain_spec (l := L.filter (overP sp)) h (fun w h => (h.pick (.tail (.tail .head))).reads_own) (by have := hfl1 (overP sp); omega) fun u1 w h => ?_
  refine chk_ld_agg (vs := [.int .i64 sp.1, .int .i64 sp.2.1]) h rfl (by first | exact .head | exact (.tail .head) | exact (.tail (.tail .head)) | exact (.tail (.tail (.tail .head))) | exact (.tail (.tail (.tail (.tail .head)))) | exact (.tail (.tail (.tail (.tail (.tail .head))))) | exact (.tail (.tail (.tail (.tail (.tail (.tail .head)))))) | exact (.tail (.tail (.tail (.tail (.tail (.tail (.tail .head))))))) | exact (.tail (.tail (.tail (.tail (.tail (.tail (.tail (.tail .head))))))))) (by kernel_rfl) (by kernel_rfl) ?_
  refine over_spec (t := sp) (h.pick .two) (by omega) hok fun t5 w h => ?_
  rw [ho, over_all] at h
  refine plain_spec (l := L.filter (overP sp)) h (fun w h => h.reads_own) (by have := hfl1 (overP sp); omega) fun u2 w h => ?_
  refine same_spec (a := L.filter (overP sp)) (b := L.filter (overP sp)) h (fun w h => (h.pick (.tail (.tail (.tail .head)))).reads_own) (fun w h => h.reads_own) (by have := hfl1 (overP sp); omega) fun w h => ?_
  refine CondP.yes (decide_eq_true rfl) ?_
  replace h := h.sub (M := IxB d 2 bs :: ownS 31 4 s6 ((L.filter (stabP sp.1)).flatMap encI) :: pto bt (.cells #[.int .i64 sp.1, .int .i64 sp.2.1] 46 (0, 0)) :: [old W]) (by repeat (first | exact Sub.done | refine Sub.take (by first | exact .head | exact (.tail .head) | exact (.tail (.tail .head)) | exact (.tail (.tail (.tail .head))) | exact (.tail (.tail (.tail (.tail .head)))) | exact (.tail (.tail (.tail (.tail (.tail .head))))) | exact (.tail (.tail (.tail (.tail (.tail (.tail .head)))))) | exact (.tail (.tail (.tail (.tail (.tail (.tail (.tail .head))))))) | exact (.tail (.tail (.tail (.tail (.tail (.tail (.tail (.tail .head))))))))) ?_ | refine Sub.skip ?_))
  refine get_ld (b := bt) h rfl (by first | exact .head | exact (.tail .head) | exact (.tail (.tail .head)) | exact (.tail (.tail (.tail .head))) | exact (.tail (.tail (.tail (.tail .head)))) | exact (.tail (.tail (.tail (.tail (.tail .head))))) | exact (.tail (.tail (.tail (.tail (.tail (.tail .head)))))) | exact (.tail (.tail (.tail (.tail (.tail (.tail (.tail .head))))))) | exact (.tail (.tail (.tail (.tail (.tail (.tail (.tail (.tail .head))))))))) (by kernel_rfl) (x := sp.1) rfl ?_
  refine plain_spec (l := L.filter (stabP sp.1)) h (fun w h => (h.pick .two).reads_own) (by have := hfl1 (stabP sp.1); omega) fun u3 w h => ?_
  refine chk_ld (b := bt) h rfl (by first | exact .head | exact (.tail .head) | exact (.tail (.tail .head)) | exact (.tail (.tail (.tail .head))) | exact (.tail (.tail (.tail (.tail .head)))) | exact (.tail (.tail (.tail (.tail (.tail .head))))) | exact (.tail (.tail (.tail (.tail (.tail (.tail .head)))))) | exact (.tail (.tail (.tail (.tail (.tail (.tail (.tail .head))))))) | exact (.tail (.tail (.tail (.tail (.tail (.tail (.tail (.tail .head))))))))) (by kernel_rfl) rfl ?_
  refine stab_spec (h.pick .two) (by omega) hok fun t6 w h => ?_
  rw [hst, stab_all] at h
  refine plain_spec (l := L.filter (stabP sp.1)) h (fun w h => h.reads_own) (by have := hfl1 (stabP sp.1); omega) fun u4 w h => ?_
  refine same_spec (a := L.filter (stabP sp.1)) (b := L.filter (stabP sp.1)) h (fun w h => (h.pick (.tail (.tail (.tail .head)))).reads_own) (fun w h => h.reads_own) (by have := hfl1 (stabP sp.1); omega) fun w h => ?_
  refine CondP.yes (decide_eq_true rfl) ?_
  exact known_spec h fun w h => hk _ (h.sub (by repeat (first | exact Sub.done | refine Sub.take (by first | exact .head | exact (.tail .head) | exact (.tail (.tail .head)) | exact (.tail (.tail (.tail .head))) | exact (.tail (.tail (.tail (.tail .head)))) | exact (.tail (.tail (.tail (.tail (.tail .head))))) | exact (.tail (.tail (.tail (.tail (.tail (.tail .head)))))) | exact (.tail (.tail (.tail (.tail (.tail (.tail (.tail .head))))))) | exact (.tail (.tail (.tail (.tail (.tail (.tail (.tail (.tail .head))))))))) ?_ | refine Sub.skip ?_)))
end Go.Proofs.Ytoaalegieaocbaa
