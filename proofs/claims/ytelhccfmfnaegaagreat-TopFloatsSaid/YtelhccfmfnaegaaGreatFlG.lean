/- The law of floats: the whole walk. No conditions. -/
import Derived.Test.YtelhccfmfnaegaaGreatFlF
import Derived.Test.YtelhccfmfnaegaaGreatKnJ
/- The law of floats: whatever the floats are, it returns true. -/
set_option linter.unusedSectionVars false
set_option linter.unusedVariables false
set_option maxRecDepth 10000
namespace Go.Proofs.YtelhccfmfnaegaaGreat
open Go Go.Sh
attribute [local irreducible] pto rob old ownS roS hstar hex hpure hemp opnA blks blk starM mapC pieceA verA entA verE toldA rowA ansA
attribute [local instance] env0

theorem nodup_le {α : Type} : ∀ {l m : List α}, l.Nodup → (∀ x ∈ l, x ∈ m) → l.length ≤ m.length
  | [], m, _, _ => Nat.zero_le _
  | x :: l, m, hn, hs => by
    obtain ⟨h1, h2⟩ := List.nodup_cons.1 hn
    obtain ⟨i, hi, rfl⟩ := List.mem_iff_getElem.1 (hs _ List.mem_cons_self)
    have ih := nodup_le (l := l) (m := m.eraseIdx i) h2 fun y hy => by
      rw [List.mem_eraseIdx_iff_getElem]
      obtain ⟨j, hj, rfl⟩ := List.mem_iff_getElem.1 (hs y (List.mem_cons_of_mem _ hy))
      exact ⟨j, hj, fun hc => h1 (by subst hc; exact hy), rfl⟩
    rw [List.length_eraseIdx, if_pos hi] at ih
    rw [List.length_cons]; omega
theorem keys_le {kes : List KE} {ws : List Nat} (hK : KeysOk kes (ws.map canW)) : kes.length ≤ ws.length := by
  have := nodup_le (l := kes.map (·.key)) (m := (ws.map canW).map keyW) hK.nodup fun x hx => by
    obtain ⟨q, hq, rfl⟩ := List.mem_map.1 hx
    obtain ⟨b, hb, _, hk⟩ := hK.of q hq
    rw [hk]; exact List.mem_map.2 ⟨b, hb, rfl⟩
  rw [List.length_map, List.length_map, List.length_map] at this
  exact this

section
variable {W w : World}

set_option maxHeartbeats 8000000 in
theorem floats_walk {s0 : Sl} {ws : List Nat} {k : Bool → Pr} (hr : Reads W s0 1 (ws.flatMap encU)) (hl : s0.len = ws.length) (hle : s0.len ≤ s0.cap) (hm : s0.cap ≤ 9223372036854775807) (hws : ∀ n ∈ ws, n < 18446744073709551616)
    (hk : ∀ w', Holds W w' [old W] → k true w') : CallP Tryz.prog 4 #[sv s0] tBool k W := by
  have h := Holds.start W
  refine rd4 _ _ _ ?_
  unfold sh4
  refine new_spec h fun b0 t0 w h => ?_
  refine get_pure (x := false) (by kernel_rfl) ?_
  refine JoinP.go ?_
  refine CondP.no rfl ?_
  refine AnyP.go fun _ => ?_
  refine CondP.mk' (fun hc => ?_) (fun hc => ?_)
  · refine get_pure (x := true) (by kernel_rfl) ?_
    refine JoinP.go ?_
    refine CondP.yes rfl ?_
    refine known_spec h fun w h => ?_
    refine AnyP.go fun _ => ?_
    exact hk w h.drop.drop
  have hn : ws.length ≤ 20 := by have := cF hc; omega
  clear hc
  refine do_build1 (Te := 60) colC h (by kernel_rfl) fun a w h => ?_
  refine do_alloc (z := .agg #[.string ⟨#[]⟩, .slice none 0 0, .int .i64 0]) h (by kernel_rfl) fun b4 w h => ?_
  refine do_st_all h rfl .head (by kernel_rfl) (by rfl) (by rfl) (by simp [notAgg]) ?_; intro w h
  refine get_ld_agg (ls := SCL) (fS, slI a, 1, ()) h rfl .head (by kernel_rfl) (by kernel_rfl) ?_
  refine do_build (Te := 65) (sz := 8) (len := 1) (encCh (tabC a)) h (by kernel_rfl) rfl fun s35 w hs35 h => ?_
  refine do_alloc (z := .agg #[.int .i64 0, .int .i64 0, .slice none 0 0]) h (by kernel_rfl) fun b5 w h => ?_
  refine do_st_all h rfl .head (by kernel_rfl) (by rfl) (by rfl) (by simp [notAgg]) ?_; intro w h
  refine LoopP.inv (fun (x : Int) w => ∃ (i : Nat) (xs : List (Nat × Nat)) (s : Sl), x = i ∧ i ≤ ws.length ∧ xs.map (·.2) = (ws.take i).map canW ∧
      Holds W w (pto b5 (.cells ⟨cellsVal TXL (1, 1, s, ())⟩ 68 (0, 0)) :: ownS 65 8 s ((chL a xs).flatMap encCh) :: cl a 60 colC :: starM rowB xs :: cl b0 101 (baseC 0 (-1) t0) :: pto t0 (.map ⟨[]⟩ 0) :: old W :: [])) (fun x _ => ws.length - x.toNat)
    ⟨0, [], s35, rfl, by omega, rfl, ?_⟩ ?_
  · have h := h.starM_nil (f := rowB)
    have e : (chL a []).flatMap encCh = encCh (tabC a) := by simp [chL]
    rw [e]
    exact h.sub (by repeat (first | exact Sub.done | refine Sub.take (by repeat (first | exact .head | apply Pick.tail)) ?_ | refine Sub.skip ?_))
  rintro next _ w ⟨i, xs, s, rfl, hi, hxs, h⟩ hnext
  refine AnyP.go fun _ => ?_
  have hxlen : xs.length = i := by
    have := congrArg List.length hxs
    rw [List.length_map, List.length_map, List.length_take] at this; omega
  have hs := (h.pick (A := ownS 65 8 s ((chL a xs).flatMap encCh)) (by repeat (first | exact .head | apply Pick.tail))).reads_own.len_eq encCh_len (by omega)
  rw [chL_len] at hs
  have rd := fun {w : World} {L : List HProp} (h : Holds W w (old W :: L)) => h.reads_old hr
  refine CondP.mk' (fun hc => ?_) (fun hc => ?_)
  · have hi' : i < ws.length := by have := cT hc; omega
    have hw : IntKind.i64.wrap ((i : Int) + 1) = ((i + 1 : Nat) : Int) := by rw [IntWalk.i64_in _ (by omega)]; omega
    have hf := fok_can (hws ws[i] (List.getElem_mem hi'))
    refine val_idx (i := i) (rd (h.pick (by repeat (first | exact .head | apply Pick.tail)))) encU_len (by omega) hi' (T := 56) (Te := 25) (by kernel_rfl) (by kernel_rfl) fun a0 ha0 hs0 => ?_
    refine get_one ((ws[i] : Nat) : Int) (rd (h.pick (by repeat (first | exact .head | apply Pick.tail)))) encU_len ha0 hi' (by kernel_rfl) rfl ?_
    refine val_pure (x := ws[i]) (c15 ws[i]) ?_
    refine ofFloat_spec h fun w h => ?_
    refine do_alloc (z := .agg #[.int .i64 0, .int .i64 0, .int .u64 0, .string ⟨#[]⟩]) h (by kernel_rfl) fun b7 w h => ?_
    refine do_st_all h rfl .head (by kernel_rfl) (by rfl) (by rfl) (fv_na _) ?_; intro w h
    refine get_ld h rfl (by repeat (first | exact .head | apply Pick.tail)) (by kernel_rfl) (x := s) rfl ?_
    refine get_ld_agg (fv (canW ws[i])) h rfl .head (by kernel_rfl) (by kernel_rfl) ?_
    refine do_build1 (Te := 27) (fcells (canW ws[i])) h (by kernel_rfl) fun ai w h => ?_
    refine do_build (Te := 65) (sz := 8) (len := 1) (encCh (putC (slI ai))) h (by kernel_rfl) rfl fun s55 w hs55 h => ?_
    have r1 := h.reads_own
    refine do_append (Te2 := 65) (s := s) (cs := (chL a xs).flatMap encCh) h (p := (by repeat (first | exact .head | apply Pick.tail))) (by kernel_rfl) (by kernel_rfl) elemC r1 (ch_na _) (by rw [hs, hs55]; omega) (by rw [hs, hs55]; omega) fun s56 w hs56 h => ?_
    refine do_st h rfl (by repeat (first | exact .head | apply Pick.tail)) (by kernel_rfl) rfl rfl ?_; intro w h
    rw [hw]
    rw [← chL_snoc a xs (ai, canW ws[i])] at h
    have h := Holds.starM_snoc (f := rowB) (x := (ai, canW ws[i])) (h.pick2 (A1 := cl ai 27 (fcells (canW ws[i]))) (A2 := starM rowB xs) (by repeat (first | exact .head | apply Pick.tail)) (by repeat (first | exact .head | apply Pick.tail)))
    refine hnext _ _ ⟨i + 1, xs ++ [(ai, canW ws[i])], s56, rfl, by omega, ?_, h.sub (by repeat (first | exact Sub.done | refine Sub.take (by repeat (first | exact .head | apply Pick.tail)) ?_ | refine Sub.skip ?_))⟩ (by omega)
    rw [List.map_append, hxs, List.take_add_one, List.getElem?_eq_getElem hi', List.map_append]; rfl
  have hi' : i = ws.length := by have := cF hc; omega
  subst hi'
  rw [List.take_length] at hxs
  clear hnext hc hi
  have hok : ∀ p ∈ xs, FOk p.2 := fun p hp => by
    have : p.2 ∈ ws.map canW := by rw [← hxs]; exact List.mem_map.2 ⟨p, hp, rfl⟩
    obtain ⟨n, hn1, hn2⟩ := List.mem_map.1 this
    rw [← hn2]; exact fok_can (hws n hn1)
  refine get_ld_agg (ls := TXL) (1, 1, s, ()) h rfl .head (by kernel_rfl) (by kernel_rfl) ?_
  refine apply_spec (b0 := b0) (t0 := t0) (a := a) (xs := xs) (s := s) hok (by omega) (h.pick5 (by repeat (first | exact .head | apply Pick.tail)) (by repeat (first | exact .head | apply Pick.tail)) (by repeat (first | exact .head | apply Pick.tail)) (by repeat (first | exact .head | apply Pick.tail)) (by repeat (first | exact .head | apply Pick.tail))) fun t tb d ks pc kes kck w hp hK hKS h => ?_
  rw [hxs] at hK
  refine CondP.no rfl ?_
  have hkl : kes.length ≤ ws.length := keys_le hK
  refine asOf_spec (b := b0) (t := t) (tb := tb) (d := d) (ks := ks) (kck := kck) (pc := pc) (kes := kes) (L := [old W]) hKS hK.nodup (by omega) hp (h.sub (by repeat (first | exact Sub.done | refine Sub.take (by repeat (first | exact .head | apply Pick.tail)) ?_ | refine Sub.skip ?_))) fun qs s65 w hR hqok hmem hql h => ?_
  refine CondP.no rfl ?_
  have hsl := h.reads_own.len_eq encO_len (by omega)
  have hnd := rise_nodup hR
  refine LoopP.inv (fun (x : Int) w => ∃ i : Nat, x = i ∧ i ≤ qs.length ∧ Holds W w (ownS 47 6 s65 (qs.flatMap encO) :: starM rowO qs :: starM verE kes :: (stL b0 t tb d ks pc (keysM kes) kck ++ [old W]))) (fun x _ => qs.length - x.toNat) ⟨0, rfl, by omega, h⟩ ?_
  rintro next _ w ⟨i, rfl, hi, h⟩ hnext
  refine AnyP.go fun _ => ?_
  refine CondP.mk' (fun hc => ?_) (fun hc => ?_)
  · have hi' : i < qs.length := by have := cT hc; simp only at this; omega
    exact loopA_step hR hqok (by omega) hi' h fun w h => hnext _ _ ⟨i + 1, rfl, by omega, h⟩ (by omega)
  clear hnext hc hi
  refine LoopP.inv (fun (x : Int) w => ∃ i : Nat, x = i ∧ i ≤ ws.length ∧ Holds W w (ownS 47 6 s65 (qs.flatMap encO) :: starM rowO qs :: starM verE kes :: (stL b0 t tb d ks pc (keysM kes) kck ++ [old W]))) (fun x _ => ws.length - x.toNat) ⟨0, rfl, by omega, h⟩ ?_
  rintro next _ w ⟨i, rfl, hi, h⟩ hnext
  refine AnyP.go fun _ => ?_
  refine CondP.mk' (fun hc => ?_) (fun hc => ?_)
  rotate_left
  · refine JoinP.go ?_
    refine CondP.yes (by rw [hsl, hl]; simp; omega) ?_
    refine known_spec h fun w h => ?_
    refine AnyP.go fun _ => ?_
    exact hk w (h.sub (by repeat (first | exact Sub.done | refine Sub.take (by repeat (first | exact .head | apply Pick.tail)) ?_ | refine Sub.skip ?_)))
  have hi' : i < ws.length := by have := cT hc; omega
  have hw : IntKind.i64.wrap ((i : Int) + 1) = ((i + 1 : Nat) : Int) := by rw [IntWalk.i64_in _ (by omega)]; omega
  rw [hw]
  have hf := fok_can (hws ws[i] (List.getElem_mem hi'))
  refine val_idx (i := i) (rd (h.pick (by repeat (first | exact .head | apply Pick.tail)))) encU_len (by omega) hi' (T := 56) (Te := 25) (by kernel_rfl) (by kernel_rfl) fun a0 ha0 hs0 => ?_
  refine get_one ((ws[i] : Nat) : Int) (rd (h.pick (by repeat (first | exact .head | apply Pick.tail)))) encU_len ha0 hi' (by kernel_rfl) rfl ?_
  refine val_pure (x := ws[i]) (c15 ws[i]) ?_
  refine ofFloat_spec h fun w h => ?_
  have hv : canW ws[i] ∈ ws.map canW := List.mem_map.2 ⟨ws[i], List.getElem_mem hi', rfl⟩
  generalize canW ws[i] = v at *
  obtain ⟨q0, hq0, hq0k⟩ := hK.all v hv
  have hvq : v ∈ qs.map (·.2) := by
    obtain ⟨q, hq, hqk⟩ := List.mem_map.1 ((hmem (keyW v)).2 ⟨q0, hq0, hq0k⟩)
    have := keyW_inj (hqok q hq).1 hf.1 hqk
    exact List.mem_map.2 ⟨q, hq, this⟩
  have hcount := count_one hnd hvq
  refine do_alloc (z := .agg #[.int .i64 0, .int .i64 0, .int .u64 0, .string ⟨#[]⟩]) h (by kernel_rfl) fun b12 w h => ?_
  refine do_st_all h rfl .head (by kernel_rfl) (by rfl) (by rfl) (fv_na _) ?_; intro w h
  refine LoopP.inv (fun (x : Int × Int) w => ∃ j : Nat, x.2 = j ∧ j ≤ qs.length ∧ x.1 = (((qs.take j).map (·.2)).count v : Nat) ∧ Holds W w (pto b12 (.cells ⟨cellsVal VLL (fv v)⟩ 27 (0, 0)) :: ownS 47 6 s65 (qs.flatMap encO) :: starM rowO qs :: starM verE kes :: (stL b0 t tb d ks pc (keysM kes) kck ++ [old W])))
    (fun x _ => qs.length - x.2.toNat) ⟨0, rfl, by omega, rfl, h⟩ ?_
  rintro next4 ⟨_, _⟩ w ⟨j, rfl, hj, rfl, h⟩ hnext4
  refine AnyP.go fun _ => ?_
  refine CondP.mk' (fun hc => ?_) (fun hc => ?_)
  · have hj' : j < qs.length := by have := cT hc; simp only at this; omega
    have hwj : IntKind.i64.wrap ((j : Int) + 1) = ((j + 1 : Nat) : Int) := by rw [IntWalk.i64_in _ (by omega)]; omega
    have hO := fun {w : World} (h : Holds W w (pto b12 (.cells ⟨cellsVal VLL (fv v)⟩ 27 (0, 0)) :: ownS 47 6 s65 (qs.flatMap encO) :: starM rowO qs :: starM verE kes :: (stL b0 t tb d ks pc (keysM kes) kck ++ [old W]))) => (h.pick (A := ownS 47 6 s65 (qs.flatMap encO)) (.tail .head)).reads_own
    have hcle : ((qs.take j).map (·.2)).count v ≤ 20 := by
      have := List.count_le_length (a := v) (l := (qs.take j).map (·.2))
      rw [List.length_map, List.length_take] at this; omega
    have hcs : ((qs.take (j + 1)).map (·.2)).count v = ((qs.take j).map (·.2)).count v + if qs[j].2 = v then 1 else 0 := by
      rw [List.take_add_one, List.getElem?_eq_getElem hj', List.map_append, List.count_append]
      congr 1
      simp only [Option.toList_some, List.map_cons, List.map_nil, List.count_cons, List.count_nil, beq_iff_eq]
      omega
    refine JoinP.go ?_
    refine DrewP.go h fun w h => ?_
    refine val_idx (i := j) (hO h) encO_len (by omega) hj' (T := 30) (Te := 47) (by kernel_rfl) (by kernel_rfl) fun a1 ha1 hs1 => ?_
    refine get_fld (j := 5) (slO qs[j].1) (hO h) encO_len ha1 hs1 hj' (by omega) (by kernel_rfl) rfl ?_
    refine val_index (T := 28) (Te := 27) (sz := 4) (by kernel_rfl) (by kernel_rfl) rfl (by simp) (by simp) ?_
    refine get_el_agg (fv qs[j].2) (rows_read (h.pick (A := starM rowO qs) (by repeat (first | exact .head | apply Pick.tail))) hj') rfl rfl (by kernel_rfl) (by kernel_rfl) (fun j _ => by simp; rfl) ?_
    refine get_ld_agg (fv v) h rfl .head (by kernel_rfl) (by kernel_rfl) ?_
    refine same_spec (hqok qs[j] (List.getElem_mem hj')).2 h fun w h => ?_
    refine chk_fld (j := 5) (hO h) encO_len ha1 hs1 hj' (by omega) (by kernel_rfl) rfl ?_
    refine CondP.mk' (fun he => ?_) (fun he => ?_)
    · refine AnyP.go fun _ => ?_
      refine hnext4 _ _ ⟨j + 1, hwj, by omega, ?_, h⟩ (by simp only [hwj]; omega)
      rw [hcs, if_pos (cT he)]
      rw [IntWalk.i64_in _ (by omega)]; omega
    · refine AnyP.go fun _ => ?_
      refine hnext4 _ _ ⟨j + 1, hwj, by omega, ?_, h⟩ (by simp only [hwj]; omega)
      rw [hcs, if_neg (cF he)]; rfl
  have hj' : j = qs.length := by have := cF hc; simp only at this; omega
  subst hj'
  rw [List.take_length, hcount]
  refine get_ld_agg (fv v) h rfl .head (by kernel_rfl) (by kernel_rfl) ?_
  refine do_build1 (Te := 27) (fcells v) h (by kernel_rfl) fun ak w h => ?_
  obtain ⟨j, hj2, rfl⟩ := List.mem_iff_getElem.1 hq0
  have h := (h.pick (A := starM verE kes) (by repeat (first | exact .head | apply Pick.tail))).starM_take hj2
  obtain ⟨f, hf1, hff, h⟩ := verE.opened h
  have hfv : f = v := keyW_inj hff.1 hf.1 (hf1.symm.trans hq0k)
  subst hfv
  refine audit_spec (b := b0) (t := t) (tb := tb) (d := d) (ks := ks) (f := f) (a := ak) (pc := pc) (ms := keysM kes) (ck := kck) (s := kes[j].val)
    (L := starM verE (kes.eraseIdx j) :: pto b12 (.cells ⟨cellsVal VLL (fv f)⟩ 27 (0, 0)) :: ownS 47 6 s65 (qs.flatMap encO) :: starM rowO qs :: [old W]) hff.1 hff.2 hp (find_of hK.nodup (List.getElem_mem hj2) hf1) (h.sub (by repeat (first | exact Sub.done | refine Sub.take (by repeat (first | exact .head | apply Pick.tail)) ?_ | refine Sub.skip ?_))) fun s140 w h => ?_
  have h := h.pick2 (A1 := verA kes[j].val f) (A2 := starM verE (kes.eraseIdx j)) (by repeat (first | exact .head | apply Pick.tail)) (by repeat (first | exact .head | apply Pick.tail))
  have h := (verE.closed (q := kes[j]) hf1 hff h).starM_put hj2
  obtain ⟨p, q, rfl, hp1, hq1, h⟩ := ansA.opened (h.pick (A := ansA s140 f) (by repeat (first | exact .head | apply Pick.tail)))
  refine DrewP.go h fun w h => ?_
  refine CondP.no rfl ?_
  refine CondP.no rfl ?_
  refine CondP.no rfl ?_
  refine val_index (T := 30) (Te := 47) (sz := 6) (by kernel_rfl) (by kernel_rfl) rfl (by simp) (by simp) ?_
  refine get_el (i := 5) (slO q) (opnA.reads (sz := 6) rfl h) rfl rfl (by kernel_rfl) rfl ?_
  refine val_index (T := 28) (Te := 27) (sz := 4) (by kernel_rfl) (by kernel_rfl) rfl (by simp) (by simp) ?_
  refine get_el_agg (fv f) (opnA.reads (sz := 4) rfl h.swap) rfl rfl (by kernel_rfl) (by kernel_rfl) (fun j _ => by simp; rfl) ?_
  refine get_ld_agg (fv f) h rfl (by repeat (first | exact .head | apply Pick.tail)) (by kernel_rfl) (by kernel_rfl) ?_
  refine same_spec hff.2 h fun w h => ?_
  refine chk_el (i := 5) (opnA.reads (sz := 6) rfl h) rfl rfl (by kernel_rfl) rfl ?_
  rw [show decide (f = f) = true by simp]
  refine CondP.no rfl ?_
  exact hnext _ _ ⟨i + 1, rfl, by omega, h.sub (by repeat (first | exact Sub.done | refine Sub.take (by repeat (first | exact .head | apply Pick.tail)) ?_ | refine Sub.skip ?_))⟩ (by omega)
end
end Go.Proofs.YtelhccfmfnaegaaGreat
