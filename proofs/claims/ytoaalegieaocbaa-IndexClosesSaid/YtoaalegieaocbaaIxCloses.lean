/- The law IndexCloses: the walk. -/
import Derived.Test.YtoaalegieaocbaaIxMax
namespace Go.Proofs.Ytoaalegieaocbaa
open Go.Sh
attribute [local irreducible] pto rob old ownS roS hstar hex hpure hemp mapB hro IxB

/-- what becomes of a found item when x is closed at e -/
def clo (x : Item) (e t : Int) (y : Item) : List Item := if y = x then (if e ≤ t then [] else [withEnd y e]) else [y]
theorem clo_id {x : Item} {e t : Int} : ∀ {L : List Item}, x ∉ L → L.flatMap (clo x e t) = L
  | [], _ => rfl
  | y :: L, h => by
    rw [List.flatMap_cons, clo_id fun hh => h (List.mem_cons_of_mem _ hh)]
    unfold clo
    rw [if_neg fun he => h (by rw [he]; exact List.mem_cons_self)]
    rfl

theorem getL_ok {L : List Item} {k : ByteArray} {s : Int} (h : ¬ (getL L k s).2 ≠ 0) : ∃ hn : posL L k s < L.length, atP L[posL L k s] k s ∧ getL L k s = (L[posL L k s], 0) := by
  unfold getL at h ⊢
  cases hh : has L k s with
  | false => rw [hh] at h; exact absurd (by simp) h
  | true =>
    obtain ⟨hn, ha⟩ := isAt_iff.1 hh
    refine ⟨hn, ha, ?_⟩
    rw [List.getElem?_eq_getElem hn]; simp

/-- what has a time, behind a close -/
theorem close_stab {L : List Item} {k : ByteArray} {s e t : Int} (hs : Srt L) (hok : ∀ x ∈ L, okI x) (h : (closeL L k s e).1 = 0) :
    ((closeL L k s e).2).filter (stabP t) = (L.filter (stabP t)).flatMap (clo (getL L k s).1 e t) := by
  unfold closeL at h ⊢
  split at h
  · rename_i h1; exact absurd h h1
  rename_i h1
  split at h
  · exact absurd h (by simp)
  rename_i h2
  split at h
  · exact absurd h (by simp)
  rename_i h3
  rw [if_neg h1, if_neg h2, if_neg h3]
  obtain ⟨hn, ha, hg⟩ := getL_ok h1
  rw [hg] at h2 ⊢
  simp only at h2 ⊢
  generalize posL L k s = n at *
  have e1 := split_at hn
  have hx := hok _ (List.getElem_mem hn)
  generalize L[n] = x at *
  have hs' := hs
  rw [e1] at hs'
  obtain ⟨_, h5, h6⟩ := List.pairwise_append.1 hs'
  obtain ⟨h7, _⟩ := List.pairwise_cons.1 h5
  have n1 : x ∉ L.take n := fun hh => before_irrefl x (h6 x hh x List.mem_cons_self)
  have n2 : x ∉ L.drop (n + 1) := fun hh => before_irrefl x (h7 x hh)
  have m1 : x ∉ (L.take n).filter (stabP t) := fun hh => n1 (List.mem_filter.1 hh).1
  have m2 : x ∉ (L.drop (n + 1)).filter (stabP t) := fun hh => n2 (List.mem_filter.1 hh).1
  have key : L.filter (stabP t) = (L.take n).filter (stabP t) ++ ([x].filter (stabP t) ++ (L.drop (n + 1)).filter (stabP t)) := by
    conv => lhs; rw [e1]
    rw [List.filter_append, ← List.singleton_append, List.filter_append]
  rw [key, List.filter_append, List.filter_append, List.flatMap_append, List.flatMap_append, clo_id m1, clo_id m2, List.append_assoc]
  congr 1
  congr 1
  have hw : stabP t (withEnd x e) = (decide (x.2.1 ≤ t) && decide (t < e)) := rfl
  have hx2 : stabP t x = (decide (x.2.1 ≤ t) && decide (t < x.2.2.1)) := rfl
  by_cases hst : x.2.1 ≤ t
  · by_cases hte : t < e
    · rw [List.filter_cons_of_pos (by rw [hw]; simp [hst, hte]), List.filter_cons_of_pos (by rw [hx2]; simp [hst]; omega)]
      simp only [List.filter_nil, List.flatMap_cons, List.flatMap_nil, List.append_nil, clo]
      rw [if_pos trivial, if_neg (by omega)]
    · rw [List.filter_cons_of_neg (by rw [hw]; simp [hte])]
      by_cases hte2 : t < x.2.2.1
      · rw [List.filter_cons_of_pos (by rw [hx2]; simp [hst, hte2])]
        simp only [List.filter_nil, List.flatMap_cons, List.flatMap_nil, List.append_nil, clo]
        rw [if_pos trivial, if_pos (by omega)]
      · rw [List.filter_cons_of_neg (by rw [hx2]; simp [hte2])]
        rfl
  · rw [List.filter_cons_of_neg (by rw [hw]; simp [hst]), List.filter_cons_of_neg (by rw [hx2]; simp [hst])]
    rfl
theorem close_same {L : List Item} {k : ByteArray} {s e : Int} (h : (closeL L k s e).1 ≠ 0) : (closeL L k s e).2 = L ∧ ((getL L k s).2 ≠ 0 ∨ (getL L k s).1.2.2.1 ≠ 1099511627776 ∨ e ≤ (getL L k s).1.2.1 ∨ 1099511627776 ≤ e) := by
  unfold closeL at h ⊢
  by_cases h1 : (getL L k s).2 ≠ 0
  · rw [if_pos h1]; exact ⟨rfl, .inl h1⟩
  rw [if_neg h1] at h ⊢
  by_cases h2 : (getL L k s).1.2.2.1 ≠ 1099511627776
  · rw [if_pos h2]; exact ⟨rfl, .inr (.inl h2)⟩
  rw [if_neg h2] at h ⊢
  by_cases h3 : e ≤ s ∨ 1099511627776 ≤ e
  · rw [if_pos h3]
    obtain ⟨hn, ha, hg⟩ := getL_ok h1
    refine ⟨rfl, .inr (.inr ?_)⟩
    rw [hg]
    rcases h3 with h3 | h3
    · left; rw [ha.2]; exact h3
    · exact .inr h3
  rw [if_neg h3] at h
  exact absurd rfl h

abbrev itemAt (b : Nat) (x : Item) : HProp := pto b (.cells #[.string x.1, .int .i64 x.2.1, .int .i64 x.2.2.1, .int .i64 x.2.2.2.1] 31 (0, 0))

set_option maxHeartbeats 2000000 in
theorem closes_walk {W : World} {script : Sl} {ops : List OpT} (hs : Reads W script 8 (ops.flatMap encO)) (hcap : script.len ≤ 9223372036854775807) (hops : ∀ o ∈ ops, OpOk o) {o : OpT} (ho : OpOk o) {t : Int} {k : Bool → Pr}
    (hk : ∀ w', Holds W w' [old W] → k true w') : CallP Try.prog 8 #[.slice script.a script.len script.cap, .agg #[.int .i64 o.1, .string o.2.1, .int .i64 o.2.2.1, .int .i64 o.2.2.2.1, .int .i64 o.2.2.2.2.1, .string o.2.2.2.2.2.1, .int .i64 o.2.2.2.2.2.2.1, .int .i64 o.2.2.2.2.2.2.2.1], .int .i64 t] tBool k W := by
  refine rd8 _ _ _ _ _ ?_
  unfold sh8
  refine do_box (Holds.start W) fun b4 w h => ?_
  replace h : Holds W w (pto b4 (opStored o) :: [old W]) := h
  refine new_spec h (fun hb => absurd ⟨by omega, by omega⟩ hb) fun _ _ d w h => ?_
  refine JoinP.go (CondP.no rfl ?_)
  refine get_pure false (by kernel_rfl) ?_
  refine AnyP.go fun _ => JoinP.go (CondP.no rfl ?_)
  refine get_ld h rfl .two (by kernel_rfl) (x := o.2.1) rfl ?_
  refine AnyP.go fun _ => CondP.mk' (fun hc => ?_) (fun hc => ?_)
  · refine JoinP.go (CondP.yes rfl ?_)
    refine get_pure true (by kernel_rfl) ?_
    refine AnyP.go fun _ => JoinP.go (CondP.yes rfl ?_)
    exact known_spec h fun w h => AnyP.go fun _ => hk _ (h.sub (by repeat (first | exact Sub.done | refine Sub.take (by first | exact .head | exact (.tail .head) | exact (.tail (.tail .head)) | exact (.tail (.tail (.tail .head))) | exact (.tail (.tail (.tail (.tail .head)))) | exact (.tail (.tail (.tail (.tail (.tail .head))))) | exact (.tail (.tail (.tail (.tail (.tail (.tail .head)))))) | exact (.tail (.tail (.tail (.tail (.tail (.tail (.tail .head))))))) | exact (.tail (.tail (.tail (.tail (.tail (.tail (.tail (.tail .head))))))))) ?_ | refine Sub.skip ?_)))
  clear hc
  refine build_spec h (fun w h => (h.pick .two).reads_old hs) hcap (by omega) (by omega) good_nil (by simp) hops fun w h => ?_
  obtain ⟨hG, hlen⟩ := build_good (W := 2) (by omega) (ops.take 200) good_nil fun o ho => hops o (List.mem_of_mem_take ho)
  have hlen : (buildM 2 [] (ops.take 200)).flatten.length ≤ 200 := by rw [List.length_take, show ([] : List (List Item)).flatten.length = 0 from rfl] at hlen; omega
  generalize buildM 2 [] (ops.take 200) = bs at *
  have hok := hG.okb (by omega)
  refine stab_spec h (by omega) hok fun s1 w h => ?_
  rw [stab_flat, stab_all] at h
  refine get_ld (b := b4) h rfl (by first | exact .head | exact (.tail .head) | exact (.tail (.tail .head)) | exact (.tail (.tail (.tail .head))) | exact (.tail (.tail (.tail (.tail .head)))) | exact (.tail (.tail (.tail (.tail (.tail .head))))) | exact (.tail (.tail (.tail (.tail (.tail (.tail .head)))))) | exact (.tail (.tail (.tail (.tail (.tail (.tail (.tail .head))))))) | exact (.tail (.tail (.tail (.tail (.tail (.tail (.tail (.tail .head))))))))) (by kernel_rfl) (x := o.2.1) rfl ?_
  refine get_ld (b := b4) h rfl (by first | exact .head | exact (.tail .head) | exact (.tail (.tail .head)) | exact (.tail (.tail (.tail .head))) | exact (.tail (.tail (.tail (.tail .head)))) | exact (.tail (.tail (.tail (.tail (.tail .head))))) | exact (.tail (.tail (.tail (.tail (.tail (.tail .head)))))) | exact (.tail (.tail (.tail (.tail (.tail (.tail (.tail .head))))))) | exact (.tail (.tail (.tail (.tail (.tail (.tail (.tail (.tail .head))))))))) (by kernel_rfl) (x := o.2.2.1) rfl ?_
  refine get_spec (h.pick .two) (by omega) hok fun w h => ?_
  dsimp only
  have hgf := getM_flat (k := o.2.1) hG ho
  rw [hgf]
  refine do_alloc (z := .agg #[.string ⟨#[]⟩, .int .i64 0, .int .i64 0, .int .i64 0]) h (by kernel_rfl) fun b10 w h => ?_
  refine do_st_all (n := 4) h rfl .head (by kernel_rfl) rfl rfl (by intro v hv; simp at hv; rcases hv with rfl | rfl | rfl | rfl <;> rfl) fun w h => ?_
  refine get_ld (b := b4) h rfl (by first | exact .head | exact (.tail .head) | exact (.tail (.tail .head)) | exact (.tail (.tail (.tail .head))) | exact (.tail (.tail (.tail (.tail .head)))) | exact (.tail (.tail (.tail (.tail (.tail .head))))) | exact (.tail (.tail (.tail (.tail (.tail (.tail .head)))))) | exact (.tail (.tail (.tail (.tail (.tail (.tail (.tail .head))))))) | exact (.tail (.tail (.tail (.tail (.tail (.tail (.tail (.tail .head))))))))) (by kernel_rfl) (x := o.2.1) rfl ?_
  refine get_ld (b := b4) h rfl (by first | exact .head | exact (.tail .head) | exact (.tail (.tail .head)) | exact (.tail (.tail (.tail .head))) | exact (.tail (.tail (.tail (.tail .head)))) | exact (.tail (.tail (.tail (.tail (.tail .head))))) | exact (.tail (.tail (.tail (.tail (.tail (.tail .head)))))) | exact (.tail (.tail (.tail (.tail (.tail (.tail (.tail .head))))))) | exact (.tail (.tail (.tail (.tail (.tail (.tail (.tail (.tail .head))))))))) (by kernel_rfl) (x := o.2.2.1) rfl ?_
  refine get_ld (b := b4) h rfl (by first | exact .head | exact (.tail .head) | exact (.tail (.tail .head)) | exact (.tail (.tail (.tail .head))) | exact (.tail (.tail (.tail (.tail .head)))) | exact (.tail (.tail (.tail (.tail (.tail .head))))) | exact (.tail (.tail (.tail (.tail (.tail (.tail .head)))))) | exact (.tail (.tail (.tail (.tail (.tail (.tail (.tail .head))))))) | exact (.tail (.tail (.tail (.tail (.tail (.tail (.tail (.tail .head))))))))) (by kernel_rfl) (x := o.2.2.2.1) rfl ?_
  refine close_spec (h.pick .two) (by omega) hok fun w h => ?_
  obtain ⟨c1, c2, hG2⟩ := closeM_flat (k := o.2.1) (e := o.2.2.2.1) hG ho
  rw [c1]
  generalize hbs2 : (closeM bs o.2.1 o.2.2.1 o.2.2.2.1).2 = bs2 at *
  have hcl := closeL_len bs.flatten o.2.1 o.2.2.1 o.2.2.2.1
  have hok2 := hG2.okb (by rw [c2]; omega)
  refine stab_spec h (by omega) hok2 fun s2 w h => ?_
  rw [stab_flat, stab_all, c2] at h
  have hsrt := hG.srt
  have hitem := hG.ok
  clear hG hG2 hok c1 c2 hgf hbs2
  generalize hL : bs.flatten = L at *
  generalize hx : (getL L o.2.1 o.2.2.1).1 = x at *
  have hR1 : Oracle W (ownS 31 4 s2 (((closeL L o.2.1 o.2.2.1 o.2.2.2.1).2.filter (stabP t)).flatMap encI) :: IxB d 2 bs2 :: itemAt b10 x :: ownS 31 4 s1 ((L.filter (stabP t)).flatMap encI) :: pto b4 (opStored o) :: [old W]) s1 4 ((L.filter (stabP t)).flatMap encI) :=
    fun w h => (h.pick (.tail (.tail (.tail .head)))).reads_own
  have hR2 : Oracle W (ownS 31 4 s2 (((closeL L o.2.1 o.2.2.1 o.2.2.2.1).2.filter (stabP t)).flatMap encI) :: IxB d 2 bs2 :: itemAt b10 x :: ownS 31 4 s1 ((L.filter (stabP t)).flatMap encI) :: pto b4 (opStored o) :: [old W]) s2 4 (((closeL L o.2.1 o.2.2.1 o.2.2.2.1).2.filter (stabP t)).flatMap encI) :=
    fun w h => h.reads_own
  replace h : Holds W w (ownS 31 4 s2 (((closeL L o.2.1 o.2.2.1 o.2.2.2.1).2.filter (stabP t)).flatMap encI) :: IxB d 2 bs2 :: itemAt b10 x :: ownS 31 4 s1 ((L.filter (stabP t)).flatMap encI) :: pto b4 (opStored o) :: [old W]) := h
  have hl1 := (hR1 w h).len_eq encI_len (by omega)
  have hl2 := (hR2 w h).len_eq encI_len (by omega)
  have hfle : (L.filter (stabP t)).length ≤ 200 := by have := List.length_filter_le (stabP t) L; omega
  have hfle2 : ((closeL L o.2.1 o.2.2.1 o.2.2.2.1).2.filter (stabP t)).length ≤ 200 := by have := List.length_filter_le (stabP t) (closeL L o.2.1 o.2.2.1 o.2.2.2.1).2; omega
  refine CondP.mk' (fun hc => ?_) (fun hc => ?_)
  · -- it was not closed
    obtain ⟨hsame, hor⟩ := close_same (neT hc)
    rw [hsame] at h hR1 hR2 hl2
    rw [hx] at hor
    generalize hPL : (ownS 31 4 s2 ((L.filter (stabP t)).flatMap encI) :: IxB d 2 bs2 :: itemAt b10 x :: ownS 31 4 s1 ((L.filter (stabP t)).flatMap encI) :: pto b4 (opStored o) :: [old W]) = PL at *
    have hlast : ∀ (k2 : Bool → Pr) (w : World), Holds W w PL → (∀ w', Holds W w' PL → k2 true w') →
        (CallP Try.prog 19 #[.slice s1.a s1.len s1.cap] tSl fun t99 =>
        CallP Try.prog 19 #[.slice s2.a s2.len s2.cap] tSl fun t101 =>
        CallP Try.prog 18 #[.slice t99.a t99.len t99.cap, .slice t101.a t101.len t101.cap] tBool fun t102 => k2 t102) w := by
      intro k2 w h hk2
      refine plain_spec h hR1 (by omega) fun u1 w h => ?_
      refine plain_spec h (fun w h => hR2 w h.drop) (by omega) fun u2 w h => ?_
      refine same_spec h (fun w h => (h.pick .two).reads_own) (fun w h => h.reads_own) (by omega) fun w h => ?_
      rw [decide_eq_true rfl]
      exact hk2 _ h.drop.drop
    refine JoinP.via (fun b w => b = decide ((getL L o.2.1 o.2.2.1).2 ≠ 0 ∨ x.2.2.1 ≠ 1099511627776) ∧ Holds W w PL) ?_ fun J hJ => CondP.mk' (fun hb => hJ _ _ ⟨(decide_eq_true (.inl (neT hb))).symm, h⟩) (fun hb => ?_)
    rotate_left
    · subst hPL
      refine get_ld (b := b10) h rfl (by first | exact .head | exact (.tail .head) | exact (.tail (.tail .head)) | exact (.tail (.tail (.tail .head))) | exact (.tail (.tail (.tail (.tail .head)))) | exact (.tail (.tail (.tail (.tail (.tail .head))))) | exact (.tail (.tail (.tail (.tail (.tail (.tail .head)))))) | exact (.tail (.tail (.tail (.tail (.tail (.tail (.tail .head))))))) | exact (.tail (.tail (.tail (.tail (.tail (.tail (.tail (.tail .head))))))))) (by kernel_rfl) (x := x.2.2.1) rfl ?_
      refine hJ _ _ ⟨?_, h⟩
      have hb : (getL L o.2.1 o.2.2.1).2 = 0 := neF hb
      rw [hb]
      rw [show (x.2.2.1 != 1099511627776) = decide (x.2.2.1 ≠ 1099511627776) by rw [bne, Bool.eq_iff_iff]; simp]
      exact decide_eq_decide.2 ⟨fun h => .inr h, fun h => h.resolve_left fun h => h rfl⟩
    rintro _ w ⟨rfl, h⟩
    refine AnyP.go fun _ => JoinP.via (fun b w => b = decide (((getL L o.2.1 o.2.2.1).2 ≠ 0 ∨ x.2.2.1 ≠ 1099511627776) ∨ o.2.2.2.1 ≤ x.2.1) ∧ Holds W w PL) ?_ fun J hJ => CondP.mk' (fun hb => hJ _ _ ⟨(decide_eq_true (.inl (cT hb))).symm, h⟩) (fun hb => ?_)
    rotate_left
    · subst hPL
      refine get_ld (b := b4) h rfl (by first | exact .head | exact (.tail .head) | exact (.tail (.tail .head)) | exact (.tail (.tail (.tail .head))) | exact (.tail (.tail (.tail (.tail .head)))) | exact (.tail (.tail (.tail (.tail (.tail .head))))) | exact (.tail (.tail (.tail (.tail (.tail (.tail .head)))))) | exact (.tail (.tail (.tail (.tail (.tail (.tail (.tail .head))))))) | exact (.tail (.tail (.tail (.tail (.tail (.tail (.tail (.tail .head))))))))) (by kernel_rfl) (x := o.2.2.2.1) rfl ?_
      refine get_ld (b := b10) h rfl (by first | exact .head | exact (.tail .head) | exact (.tail (.tail .head)) | exact (.tail (.tail (.tail .head))) | exact (.tail (.tail (.tail (.tail .head)))) | exact (.tail (.tail (.tail (.tail (.tail .head))))) | exact (.tail (.tail (.tail (.tail (.tail (.tail .head)))))) | exact (.tail (.tail (.tail (.tail (.tail (.tail (.tail .head))))))) | exact (.tail (.tail (.tail (.tail (.tail (.tail (.tail (.tail .head))))))))) (by kernel_rfl) (x := x.2.1) rfl ?_
      exact hJ _ _ ⟨decide_eq_decide.2 ⟨fun h => .inr h, fun h => h.resolve_left (cF hb)⟩, h⟩
    rintro _ w ⟨rfl, h⟩
    refine AnyP.go fun _ => JoinP.via (fun b w => b = true ∧ Holds W w PL) ?_ fun J hJ => CondP.mk' (fun hb => hJ _ _ ⟨rfl, h⟩) (fun hb => ?_)
    rotate_left
    · subst hPL
      refine get_ld (b := b4) h rfl (by first | exact .head | exact (.tail .head) | exact (.tail (.tail .head)) | exact (.tail (.tail (.tail .head))) | exact (.tail (.tail (.tail (.tail .head)))) | exact (.tail (.tail (.tail (.tail (.tail .head))))) | exact (.tail (.tail (.tail (.tail (.tail (.tail .head)))))) | exact (.tail (.tail (.tail (.tail (.tail (.tail (.tail .head))))))) | exact (.tail (.tail (.tail (.tail (.tail (.tail (.tail (.tail .head))))))))) (by kernel_rfl) (x := o.2.2.2.1) rfl ?_
      refine hJ _ _ ⟨decide_eq_true ?_, h⟩
      have hb := cF hb
      rcases hor with hor | hor | hor | hor
      · exact absurd (.inl (.inl hor)) hb
      · exact absurd (.inl (.inr hor)) hb
      · exact absurd (.inr hor) hb
      · exact hor
    rintro _ w ⟨rfl, h⟩
    refine AnyP.go fun _ => JoinP.go (CondP.yes rfl ?_)
    refine hlast _ _ h fun w h => ?_
    refine AnyP.go fun _ => JoinP.go (CondP.yes rfl ?_)
    subst hPL
    exact known_spec h fun w h => AnyP.go fun _ => hk _ (h.sub (by repeat (first | exact Sub.done | refine Sub.take (by first | exact .head | exact (.tail .head) | exact (.tail (.tail .head)) | exact (.tail (.tail (.tail .head))) | exact (.tail (.tail (.tail (.tail .head)))) | exact (.tail (.tail (.tail (.tail (.tail .head))))) | exact (.tail (.tail (.tail (.tail (.tail (.tail .head)))))) | exact (.tail (.tail (.tail (.tail (.tail (.tail (.tail .head))))))) | exact (.tail (.tail (.tail (.tail (.tail (.tail (.tail (.tail .head))))))))) ?_ | refine Sub.skip ?_)))
  · -- it was closed
    have hc : (closeL L o.2.1 o.2.2.1 o.2.2.2.1).1 = 0 := neF hc
    have hcs := close_stab (t := t) hsrt hitem hc
    rw [hx] at hcs
    rw [hcs] at h hR1 hR2 hl2 hfle2
    generalize hV : L.filter (stabP t) = V at *
    generalize hfe : clo x o.2.2.2.1 t = F at *
    have hFle : ∀ n, ((V.take n).flatMap F).length ≤ 200 := fun n => by
      have e : V.flatMap F = (V.take n).flatMap F ++ (V.drop n).flatMap F := by rw [← List.flatMap_append, List.take_append_drop]
      rw [e, List.length_append] at hfle2; omega
    refine LoopP.inv (fun q w => ∃ n : Nat, q = (((((V.take n).flatMap F).length : Nat) : Int), (n : Int)) ∧ n ≤ V.length ∧ Holds W w (ownS 31 4 s2 ((V.flatMap F).flatMap encI) :: IxB d 2 bs2 :: itemAt b10 x :: ownS 31 4 s1 (V.flatMap encI) :: pto b4 (opStored o) :: [old W])) (fun q _ => V.length - q.2.toNat)
      ⟨0, rfl, by omega, h⟩ ?_
    rintro next q w ⟨n, rfl, hn, h⟩ hnext
    refine AnyP.go fun _ => CondP.mk' (fun hd => ?_) (fun hd => ?_)
    rotate_left
    · have hd : n = V.length := by have : ¬ (n : Int) < s1.len := cF hd; omega
      subst hd
      rw [List.take_length]
      refine JoinP.go (CondP.yes (by rw [hl2]; simp) ?_)
      exact known_spec h fun w h => AnyP.go fun _ => hk _ (h.sub (by repeat (first | exact Sub.done | refine Sub.take (by first | exact .head | exact (.tail .head) | exact (.tail (.tail .head)) | exact (.tail (.tail (.tail .head))) | exact (.tail (.tail (.tail (.tail .head)))) | exact (.tail (.tail (.tail (.tail (.tail .head))))) | exact (.tail (.tail (.tail (.tail (.tail (.tail .head)))))) | exact (.tail (.tail (.tail (.tail (.tail (.tail (.tail .head))))))) | exact (.tail (.tail (.tail (.tail (.tail (.tail (.tail (.tail .head))))))))) ?_ | refine Sub.skip ?_)))
    have hd1 : n < V.length := by have : (n : Int) < s1.len := cT hd; omega
    clear hd
    have hw1 : IntKind.i64.wrap ((n : Int) + 1) = ((n + 1 : Nat) : Int) := by rw [wrap_in _ (by omega)]; omega
    have hsn : (V.take (n + 1)).flatMap F = (V.take n).flatMap F ++ F V[n] := by
      rw [← List.take_append_getElem hd1, List.flatMap_append]; simp
    have hFn := hFle n
    have hget : ∀ y, F V[n] = [y] → ((V.take n).flatMap F).length < (V.flatMap F).length ∧ (V.flatMap F)[((V.take n).flatMap F).length]? = some y := fun y hy => by
      have e : V.flatMap F = (V.take n).flatMap F ++ ([y] ++ (V.drop (n + 1)).flatMap F) := by
        conv => lhs; rw [split_at hd1]
        rw [List.flatMap_append, List.flatMap_cons, hy]
      have : (V.flatMap F)[((V.take n).flatMap F).length]? = some y := by
        rw [e, List.getElem?_append_right (Nat.le_refl _), Nat.sub_self]; rfl
      exact ⟨(List.getElem?_eq_some_iff.1 this).1, this⟩
    have hFv : F V[n] = clo x o.2.2.2.1 t V[n] := by rw [← hfe]
    refine JoinP.via (fun q w => q = ((((V.take (n + 1)).flatMap F).length : Nat) : Int) ∧ Holds W w (ownS 31 4 s2 ((V.flatMap F).flatMap encI) :: IxB d 2 bs2 :: itemAt b10 x :: ownS 31 4 s1 (V.flatMap encI) :: pto b4 (opStored o) :: [old W])) ?_ fun J hJ => ?_
    · rintro q w ⟨rfl, h⟩
      refine AnyP.go fun _ => ?_
      rw [hw1]
      exact hnext _ _ ⟨n + 1, rfl, by omega, h⟩ (by simp only; omega)
    clear hnext
    rw [hsn, List.length_append] at hJ
    generalize hm : ((V.take n).flatMap F).length = m at *
    refine val_idx (hR1 w h) encI_len (by omega) hd1 (T := 42) (Te := 31) (by kernel_rfl) (by kernel_rfl) fun a0 ha0 hs0 => ?_
    refine get_elt V[n] (hR1 w h) encI_len ha0 hd1 (by kernel_rfl) (by kernel_rfl) rfl ?_
    generalize V[n] = y at *
    refine do_alloc (z := .agg #[.string ⟨#[]⟩, .int .i64 0, .int .i64 0, .int .i64 0]) h (by kernel_rfl) fun by_ w h => ?_
    refine do_st_all (n := 4) h rfl .head (by kernel_rfl) rfl rfl (by intro v hv; simp at hv; rcases hv with rfl | rfl | rfl | rfl <;> rfl) fun w h => ?_
    replace h : Holds W w (itemAt by_ y :: ownS 31 4 s2 ((V.flatMap F).flatMap encI) :: IxB d 2 bs2 :: itemAt b10 x :: ownS 31 4 s1 (V.flatMap encI) :: pto b4 (opStored o) :: [old W]) := h
    refine JoinP.via (fun _ w => ∃ z, F y = [z] ∧ Holds W w (itemAt by_ z :: ownS 31 4 s2 ((V.flatMap F).flatMap encI) :: IxB d 2 bs2 :: itemAt b10 x :: ownS 31 4 s1 (V.flatMap encI) :: pto b4 (opStored o) :: [old W])) ?_ fun J2 hJ2 => ?_
    · rintro _ w ⟨z, hz, h⟩
      obtain ⟨hlt, hel⟩ := hget z hz
      refine AnyP.go fun _ => DrewP.go h fun w h => ?_
      refine CondP.no (decide_eq_false (show ¬ (m : Int) ≥ s2.len by omega)) ?_
      refine val_idx (hR2 w h.drop) encI_len (by omega) hlt (T := 42) (Te := 31) (by kernel_rfl) (by kernel_rfl) fun a1 ha1 hs1 => ?_
      refine get_elt (V.flatMap F)[m] (hR2 w h.drop) encI_len ha1 hlt (by kernel_rfl) (by kernel_rfl) rfl ?_
      refine get_ld_agg (ls := itL) z h rfl .head (by kernel_rfl) (by kernel_rfl) ?_
      refine val_neq31 ?_
      have heq : (V.flatMap F)[m] = z := (List.getElem?_eq_some_iff.1 hel).2
      refine CondP.no (by rw [heq]; simp) ?_
      refine hJ _ _ ⟨?_, h.drop⟩
      rw [hz, wrap_in _ (by omega)]; simp
    refine get_ld_agg (ls := itL) y h rfl .head (by kernel_rfl) (by kernel_rfl) ?_
    refine get_ld_agg (b := b10) (ls := itL) x h rfl (by first | exact .head | exact (.tail .head) | exact (.tail (.tail .head)) | exact (.tail (.tail (.tail .head))) | exact (.tail (.tail (.tail (.tail .head)))) | exact (.tail (.tail (.tail (.tail (.tail .head))))) | exact (.tail (.tail (.tail (.tail (.tail (.tail .head)))))) | exact (.tail (.tail (.tail (.tail (.tail (.tail (.tail .head))))))) | exact (.tail (.tail (.tail (.tail (.tail (.tail (.tail (.tail .head))))))))) (by kernel_rfl) (by kernel_rfl) ?_
    refine val_eql31 ?_
    refine CondP.mk' (fun hyx => ?_) (fun hyx => ?_)
    · have hyx : y = x := by simpa using hyx
      refine get_ld (b := b4) h rfl (by first | exact .head | exact (.tail .head) | exact (.tail (.tail .head)) | exact (.tail (.tail (.tail .head))) | exact (.tail (.tail (.tail (.tail .head)))) | exact (.tail (.tail (.tail (.tail (.tail .head))))) | exact (.tail (.tail (.tail (.tail (.tail (.tail .head)))))) | exact (.tail (.tail (.tail (.tail (.tail (.tail (.tail .head))))))) | exact (.tail (.tail (.tail (.tail (.tail (.tail (.tail (.tail .head))))))))) (by kernel_rfl) (x := o.2.2.2.1) rfl ?_
      refine CondP.mk' (fun hte => ?_) (fun hte => ?_)
      · have hte : o.2.2.2.1 ≤ t := by have := cT hte; omega
        refine hJ _ _ ⟨?_, h.drop⟩
        rw [hFv, clo, if_pos hyx, if_pos hte]; simp
      · have hte : ¬ o.2.2.2.1 ≤ t := by have := cF hte; omega
        refine get_ld (b := b4) h rfl (by first | exact .head | exact (.tail .head) | exact (.tail (.tail .head)) | exact (.tail (.tail (.tail .head))) | exact (.tail (.tail (.tail (.tail .head)))) | exact (.tail (.tail (.tail (.tail (.tail .head))))) | exact (.tail (.tail (.tail (.tail (.tail (.tail .head)))))) | exact (.tail (.tail (.tail (.tail (.tail (.tail (.tail .head))))))) | exact (.tail (.tail (.tail (.tail (.tail (.tail (.tail (.tail .head))))))))) (by kernel_rfl) (x := o.2.2.2.1) rfl ?_
        refine do_st h rfl .head (by kernel_rfl) rfl rfl fun w h => ?_
        exact hJ2 _ _ ⟨withEnd y o.2.2.2.1, by rw [hFv, clo, if_pos hyx, if_neg hte], h⟩
    · have hyx : y ≠ x := by simpa using hyx
      exact hJ2 _ _ ⟨y, by rw [hFv, clo, if_neg hyx], h⟩
end Go.Proofs.Ytoaalegieaocbaa
