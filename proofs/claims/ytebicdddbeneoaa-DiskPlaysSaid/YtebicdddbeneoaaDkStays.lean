/- The law DiskStays: the walk. -/
import Derived.Test.YtebicdddbeneoaaDkReads
import Derived.Test.YtebicdddbeneoaaDk5
namespace Go.Proofs.Ytebicdddbeneoaa
open Go.Sh
attribute [local irreducible] pto rob old ownS roS hstar hex hpure hemp mapB Disk

theorem reads_to {w : World} {s : Sl} {cs : List Value} (h : Reads w s 1 cs) {n : Nat} (hn : n ≤ s.len) : Reads w (subS s 0 n s.cap 1) 1 (cs.take n) := by
  obtain ⟨hl, hc⟩ := h
  refine ⟨by simp [subS, List.length_take]; omega, fun hne => ?_⟩
  have hne' : cs ≠ [] := by rintro rfl; simp at hne
  obtain ⟨b, off, c, T, fr, ha, hb, hg⟩ := hc hne'
  refine ⟨b, off, c, T, fr, ?_, hb, fun i hi => ?_⟩
  · unfold subS; simp only
    split
    · exact ha
    · rw [ha]; rfl
  · rw [List.length_take] at hi; rw [hg i (by omega), List.getElem?_take_of_lt (by omega)]

theorem JoinP.via {S : Type} {J : S → Pr} {body : (S → Pr) → Pr} {w : World} (A : S → World → Prop) (hJ : ∀ s w, A s w → J s w)
    (hb : ∀ J' : S → Pr, (∀ s w, A s w → J' s w) → body J' w) : JoinP J body w := ⟨hb J hJ⟩
theorem Holds.own_le {E w : World} {L : List HProp} {T : TypeId} {sz : Nat} {s : Sl} {cs : List Value} (h : Holds E w (ownS T sz s cs :: L)) : s.len ≤ s.cap := by
  rcases h.own_cases with ⟨rfl, _, _⟩ | ⟨_, _, _, _, _, hle, _, _⟩
  · exact Nat.le_refl _
  · exact hle

def opCells (o : OpV) : Array Value := #[.int .i64 o.kind, .int .i64 o.at_, .string o.s, .slice o.keep.a o.keep.len o.keep.cap]

theorem strs_append (a b : List ByteArray) : strs (a ++ b) = strs a ++ strs b := List.map_append ..
theorem strs_len (a : List ByteArray) : (strs a).length = a.length := List.length_map ..
theorem last_strs (m : List ByteArray) (hm : m ≠ []) : ((strs m).drop ((m.length - 1) * 1)).take ((m.length - (m.length - 1)) * 1) = strs [m.getLast hm] := by
  have hpos : 0 < m.length := List.length_pos_iff.2 hm
  rw [Nat.mul_one, Nat.mul_one, strs, ← List.map_drop, ← List.map_take, List.drop_eq_getElem_cons (by omega), show m.length - (m.length - 1) = 1 by omega, List.getLast_eq_getElem]
  rfl
theorem zeros_pad : pad ⟨#[]⟩ = zeros := by
  apply ByteArray.ext
  rw [pad_data]
  have e : (⟨#[]⟩ : ByteArray).size = 0 := rfl
  rw [e]
  exact Array.empty_append

theorem stays_walk {W : World} {script : Sl} {ops : List OpV} (hs : Reads W script 4 (ops.flatMap encOp)) (hcap : script.len ≤ 9223372036854775807) (hops : ∀ o ∈ ops, o.s.size ≤ 9223372036854775807)
    {keep : Sl} {kl : List Bool} (hkr : Reads W keep 1 (bools kl)) (hkl : keep.len = kl.length) (hkc : keep.len ≤ keep.cap)
    {at_ : Int} (ha0 : 0 ≤ at_) (ha1 : at_ ≤ 255) {k : Bool → Pr}
    (hk : ∀ w', Holds W w' [old W] → k true w') : CallP Try.prog 3 #[.slice script.a script.len script.cap, .slice keep.a keep.len keep.cap, .int .u8 at_] tBool k W := by
  have hsl := script_len hs
  refine rd3 _ _ _ _ _ ?_
  unfold sh3
  refine New_spec (Holds.start W) (fun h => absurd h (by omega)) fun _ _ d w h => ?_
  refine JoinP.go (CondP.no rfl ?_)
  refine get_pure false (by kernel_rfl) ?_
  refine AnyP.go fun _ => CondP.no rfl ?_
  refine Pad_spec h (by decide) ?_
  refine do_build (Te := 9) (sz := 1) (len := 1) (strs [pad ⟨#[]⟩]) h (by kernel_rfl) rfl fun t w ht h => ?_
  have hn : Int.tmod (IntKind.i64.wrap at_) 8 = at_ % 8 := by
    rw [wrap_in _ (by omega), Int.tmod_eq_emod_of_nonneg ha0]
  simp only [hn]
  generalize hN : at_ % 8 = N at *
  have hN0 : 0 ≤ N := by omega
  have hN8 : N < 8 := by omega
  have hm0 : [pad ⟨#[]⟩] = mayOf (D0 8) N := by rw [zeros_pad]; rfl
  rw [hm0] at h
  refine LoopP.inv (fun t w => ∃ (i : Nat) (D : DSt), t.2 = i ∧ i ≤ 40 ∧ i ≤ ops.length ∧ Fine D i ∧ keysOk D.m ∧ Holds W w [ownS 9 1 t.1 (strs (mayOf D N)), Disk d D, old W]) (fun t _ => 40 - t.2.toNat)
    ⟨0, D0 8, rfl, by omega, by omega, D0_fine, List.nodup_nil, h⟩ ?_
  rintro next ⟨t1, t2⟩ w ⟨i, D, hti, hi40, hi, hD, hK, h⟩ hnext
  simp only at hti h
  subst hti
  have hDn : 0 < D.n := by rw [hD.n]; omega
  have hDl : D.cache.length ≤ 1073741824 := by have := hD.len; omega
  have hml := may_len hD N
  have htl : t1.len = (mayOf D N).length := by have := h.own_len.1; rw [strs_len] at this; omega
  refine AnyP.go fun _ => JoinP.go ?_
  by_cases hc : i < ops.length ∧ i < 40
  · -- one more step of the script
    obtain ⟨hc1, hc2⟩ := hc
    refine CondP.yes (decide_eq_true (by omega)) (AnyP.go fun _ => CondP.yes (decide_eq_true (by omega)) (JoinP.go ?_))
    have hO := (h.sub (M := old W :: []) (by repeat (first | exact Sub.done | refine Sub.take (by first | exact .head | exact (.tail .head) | exact (.tail (.tail .head)) | exact (.tail (.tail (.tail .head))) | exact (.tail (.tail (.tail (.tail .head)))) | exact (.tail (.tail (.tail (.tail (.tail .head))))) | exact (.tail (.tail (.tail (.tail (.tail (.tail .head)))))) | exact (.tail (.tail (.tail (.tail (.tail (.tail (.tail .head))))))) | exact (.tail (.tail (.tail (.tail (.tail (.tail (.tail (.tail .head))))))))) ?_ | refine Sub.skip ?_))).reads_old hs
    obtain ⟨b, off, hb⟩ := script_addr hs hc1
    have hos := hops _ (List.getElem_mem hc1)
    generalize ho : ops[i] = o at *
    refine val_index (Te := 31) (sz := 4) (a := ⟨b, off, none⟩) (by kernel_rfl) (by kernel_rfl) hb (by omega) (by omega) ?_
    refine get_el_agg (P := Try.prog) (i := i * 4) (o.kind, o.at_, o.s, o.keep, ()) hO hb rfl (by kernel_rfl) (by kernel_rfl) (fun j hj => ?_) ?_
    · rw [script_cell hs hc1 j hj, ho]; rfl
    refine do_alloc (z := .agg #[.int .i64 0, .int .i64 0, .string ⟨#[]⟩, .slice none 0 0]) h (by kernel_rfl) fun b w h => ?_
    refine do_st_all h rfl .head (by kernel_rfl) rfl rfl (by intro v hv; simp at hv; rcases hv with rfl | rfl | rfl | rfl <;> rfl) fun w h => ?_
    refine JoinP.via (fun s w => ∃ D' : DSt, Fine D' (i + 1) ∧ keysOk D'.m ∧ s.len = (mayOf D' N).length ∧ Holds W w [pto b (.cells (opCells o) 31 (0, 0)), ownS 9 1 s (strs (mayOf D' N)), Disk d D', old W]) ?_ ?_
    · rintro s w ⟨D', hD', hK', hsl', h⟩
      refine AnyP.go fun _ => ?_
      refine get_ld h rfl .head (by kernel_rfl) (x := o.kind) rfl ?_
      have next' : ∀ (D'' : DSt) (s : Sl) (w : World), Fine D'' (i + 1) → keysOk D''.m → Holds W w [ownS 9 1 s (strs (mayOf D'' N)), Disk d D'', old W] → AnyP (fun _ => next (s, IntKind.i64.wrap (i + 1))) w := by
        intro D'' s w h1 h2 h
        refine AnyP.go fun _ => ?_
        rw [wrap_in _ (by omega)]
        exact hnext _ _ ⟨i + 1, D'', rfl, by omega, by omega, h1, h2, h⟩ (by simp; omega)
      refine CondP.mk' (fun h2 => ?_) (fun h2 => ?_)
      · refine Flush_spec (h.sub (M := Disk d D' :: ownS 9 1 s (strs (mayOf D' N)) :: old W :: []) (by repeat (first | exact Sub.done | refine Sub.take (by first | exact .head | exact (.tail .head) | exact (.tail (.tail .head)) | exact (.tail (.tail (.tail .head))) | exact (.tail (.tail (.tail (.tail .head)))) | exact (.tail (.tail (.tail (.tail (.tail .head))))) | exact (.tail (.tail (.tail (.tail (.tail (.tail .head)))))) | exact (.tail (.tail (.tail (.tail (.tail (.tail (.tail .head))))))) | exact (.tail (.tail (.tail (.tail (.tail (.tail (.tail (.tail .head))))))))) ?_ | refine Sub.skip ?_))) (by rw [hD'.n]; omega) (by have := hD'.len; omega) fun w h => ?_
        have hcs := Holds.own_le (h.pick (.tail .head))
        have hpos : 0 < (mayOf D' N).length := by simp [mayOf]
        have hw : IntKind.i64.wrap ((s.len : Int) - 1) = ((s.len - 1 : Nat) : Int) := by
          have := may_len hD' N
          rw [wrap_in _ (by omega)]; omega
        rw [hw]
        refine val_slice_from (Te := 9) (sz := 1) (by kernel_rfl) (by kernel_rfl) (by omega) (by omega) ?_
        have h' := (h.pick (.tail .head)).own_sub (l := s.len - 1) (h := s.len) (m := s.cap) (by omega) (by omega) hcs (by omega)
        refine next' (fl D').2 _ w (fl_fine hD') (fl_keys hK') (Holds.sub h' ?_)
        rw [Int.toNat_natCast, fl_may hK' hD'.fused]
        have e : ((strs (mayOf D' N)).drop ((s.len - 1) * 1)).take ((s.len - (s.len - 1)) * 1) = strs [(mayOf D' N).getLast (by simp [mayOf])] := by
          rw [hsl']; exact last_strs _ _
        rw [e]
        exact (by repeat (first | exact Sub.done | refine Sub.take (by first | exact .head | exact (.tail .head) | exact (.tail (.tail .head)) | exact (.tail (.tail (.tail .head))) | exact (.tail (.tail (.tail (.tail .head)))) | exact (.tail (.tail (.tail (.tail (.tail .head))))) | exact (.tail (.tail (.tail (.tail (.tail (.tail .head)))))) | exact (.tail (.tail (.tail (.tail (.tail (.tail (.tail .head))))))) | exact (.tail (.tail (.tail (.tail (.tail (.tail (.tail (.tail .head))))))))) ?_ | refine Sub.skip ?_))
      · exact next' D' s w hD' hK' (h.sub (by repeat (first | exact Sub.done | refine Sub.take (by first | exact .head | exact (.tail .head) | exact (.tail (.tail .head)) | exact (.tail (.tail (.tail .head))) | exact (.tail (.tail (.tail (.tail .head)))) | exact (.tail (.tail (.tail (.tail (.tail .head))))) | exact (.tail (.tail (.tail (.tail (.tail (.tail .head)))))) | exact (.tail (.tail (.tail (.tail (.tail (.tail (.tail .head))))))) | exact (.tail (.tail (.tail (.tail (.tail (.tail (.tail (.tail .head))))))))) ?_ | refine Sub.skip ?_)))
    · intro J hJ
      have go : ∀ (D' : DSt) (s : Sl) (w : World), Fine D' (i + 1) → keysOk D'.m → s.len = (mayOf D' N).length → Holds W w [pto b (.cells (opCells o) 31 (0, 0)), ownS 9 1 s (strs (mayOf D' N)), Disk d D', old W] → J s w :=
        fun D' s w h1 h2 h3 h4 => hJ s w ⟨D', h1, h2, h3, h4⟩
      clear hJ hnext
      have stay : ∀ w, Holds W w [pto b (.cells (opCells o) 31 (0, 0)), ownS 9 1 t1 (strs (mayOf D N)), Disk d D, old W] → J t1 w := fun w h => go D t1 w (hD.mono (by omega)) hK htl h
      refine get_ld h rfl .head (by kernel_rfl) (x := o.kind) rfl ?_
      refine JoinP.go (CondP.mk' (fun h0 => ?_) (fun h0 => AnyP.go fun _ => JoinP.go (CondP.no rfl (AnyP.go fun _ => JoinP.go (CondP.no rfl (AnyP.go fun _ => CondP.no rfl (stay _ h)))))))
      refine get_ld h rfl .head (by kernel_rfl) (x := o.s) rfl ?_
      refine AnyP.go fun _ => JoinP.go (CondP.mk' (fun h1 => ?_) (fun h1 => AnyP.go fun _ => JoinP.go (CondP.no rfl (AnyP.go fun _ => CondP.no rfl (stay _ h)))))
      refine get_ld h rfl .head (by kernel_rfl) (x := o.at_) rfl ?_
      refine get_ld h rfl .head (by kernel_rfl) (x := o.s) rfl ?_
      refine Write_spec (h.sub (M := Disk d D :: pto b (.cells (opCells o) 31 (0, 0)) :: ownS 9 1 t1 (strs (mayOf D N)) :: old W :: []) (by repeat (first | exact Sub.done | refine Sub.take (by first | exact .head | exact (.tail .head) | exact (.tail (.tail .head)) | exact (.tail (.tail (.tail .head))) | exact (.tail (.tail (.tail (.tail .head)))) | exact (.tail (.tail (.tail (.tail (.tail .head))))) | exact (.tail (.tail (.tail (.tail (.tail (.tail .head)))))) | exact (.tail (.tail (.tail (.tail (.tail (.tail (.tail .head))))))) | exact (.tail (.tail (.tail (.tail (.tail (.tail (.tail (.tail .head))))))))) ?_ | refine Sub.skip ?_))) hDn hDl fun w h => ?_
      have hD' := wr_fine hD o.at_ o.s
      have hK' := wr_keys hK o.at_ o.s
      have hok := wr_may (D := D) (y := o.at_) (s := o.s)
      have hno := wr_may_no (D := D) (y := o.at_) (s := o.s)
      generalize (wr D o.at_ o.s).1 = r at *
      generalize (wr D o.at_ o.s).2 = D' at *
      refine AnyP.go fun _ => JoinP.go (CondP.mk' (fun h2 => ?_) (fun h2 => AnyP.go fun _ => CondP.no rfl ?_))
      · have h2 : r = 0 := eqT h2
        refine get_ld h rfl (.tail .head) (by kernel_rfl) (x := o.at_) rfl ?_
        refine AnyP.go fun _ => CondP.mk' (fun h3 => ?_) (fun h3 => ?_)
        · have h3 : o.at_ = N := eqT h3
          refine get_ld h rfl (.tail .head) (by kernel_rfl) (x := o.s) rfl ?_
          have h1 := cT h1
          refine Pad_spec h (by omega) ?_
          refine do_build (Te := 9) (sz := 1) (len := 1) (strs [pad o.s]) h (by kernel_rfl) rfl fun t w ht h => ?_
          refine do_append (Te2 := 9) h (by first | exact .head | exact (.tail .head) | exact (.tail (.tail .head)) | exact (.tail (.tail (.tail .head))) | exact (.tail (.tail (.tail (.tail .head)))) | exact (.tail (.tail (.tail (.tail (.tail .head))))) | exact (.tail (.tail (.tail (.tail (.tail (.tail .head)))))) | exact (.tail (.tail (.tail (.tail (.tail (.tail (.tail .head))))))) | exact (.tail (.tail (.tail (.tail (.tail (.tail (.tail (.tail .head))))))))) (by kernel_rfl) (by kernel_rfl) elemS h.reads_own (by intro v hv; simp [strs] at hv; subst hv; rfl) (by rw [ht, htl]; omega) (by rw [ht, htl]; omega) fun s' w hs' h => ?_
          have e := hok h2 N
          rw [if_pos h3] at e
          refine go D' s' w hD' hK' (by rw [hs', ht, htl, e]; simp) (h.sub ?_)
          rw [e, strs_append]
          exact (by repeat (first | exact Sub.done | refine Sub.take (by first | exact .head | exact (.tail .head) | exact (.tail (.tail .head)) | exact (.tail (.tail (.tail .head))) | exact (.tail (.tail (.tail (.tail .head)))) | exact (.tail (.tail (.tail (.tail (.tail .head))))) | exact (.tail (.tail (.tail (.tail (.tail (.tail .head)))))) | exact (.tail (.tail (.tail (.tail (.tail (.tail (.tail .head))))))) | exact (.tail (.tail (.tail (.tail (.tail (.tail (.tail (.tail .head))))))))) ?_ | refine Sub.skip ?_))
        · have h3 : o.at_ ≠ N := eqF h3
          have e := hok h2 N
          rw [if_neg h3] at e
          refine go D' t1 w hD' hK' (by rw [e]; exact htl) (h.sub ?_)
          rw [e]
          exact (by repeat (first | exact Sub.done | refine Sub.take (by first | exact .head | exact (.tail .head) | exact (.tail (.tail .head)) | exact (.tail (.tail (.tail .head))) | exact (.tail (.tail (.tail (.tail .head)))) | exact (.tail (.tail (.tail (.tail (.tail .head))))) | exact (.tail (.tail (.tail (.tail (.tail (.tail .head)))))) | exact (.tail (.tail (.tail (.tail (.tail (.tail (.tail .head))))))) | exact (.tail (.tail (.tail (.tail (.tail (.tail (.tail (.tail .head))))))))) ?_ | refine Sub.skip ?_))
      · have h2 : r ≠ 0 := eqF h2
        have e := hno h2 N
        refine go D' t1 w hD' hK' (by rw [e]; exact htl) (h.sub ?_)
        rw [e]
        exact (by repeat (first | exact Sub.done | refine Sub.take (by first | exact .head | exact (.tail .head) | exact (.tail (.tail .head)) | exact (.tail (.tail (.tail .head))) | exact (.tail (.tail (.tail (.tail .head)))) | exact (.tail (.tail (.tail (.tail (.tail .head))))) | exact (.tail (.tail (.tail (.tail (.tail (.tail .head)))))) | exact (.tail (.tail (.tail (.tail (.tail (.tail (.tail .head))))))) | exact (.tail (.tail (.tail (.tail (.tail (.tail (.tail (.tail .head))))))))) ?_ | refine Sub.skip ?_))
  · -- the script is at its end
    refine CondP.mk' (fun h1 => AnyP.go fun _ => CondP.no (decide_eq_false (by have := cT h1; omega)) ?_) (fun h1 => AnyP.go fun _ => CondP.no rfl ?_)
    all_goals
      refine Dirty_spec (h.sub (M := Disk d D :: ownS 9 1 t1 (strs (mayOf D N)) :: old W :: []) (by repeat (first | exact Sub.done | refine Sub.take (by first | exact .head | exact (.tail .head) | exact (.tail (.tail .head)) | exact (.tail (.tail (.tail .head))) | exact (.tail (.tail (.tail (.tail .head)))) | exact (.tail (.tail (.tail (.tail (.tail .head))))) | exact (.tail (.tail (.tail (.tail (.tail (.tail .head)))))) | exact (.tail (.tail (.tail (.tail (.tail (.tail (.tail .head))))))) | exact (.tail (.tail (.tail (.tail (.tail (.tail (.tail (.tail .head))))))))) ?_ | refine Sub.skip ?_))) hDn hDl fun s w h => ?_
      have hsd : s.len = D.cache.length := by have := h.own_len.1; simp [ints] at this; omega
      obtain ⟨n, hn1, hn2, hn3⟩ : ∃ n : Nat, (if (s.len : Int) < keep.len then (s.len : Int) else keep.len) = n ∧ n ≤ keep.len ∧ n ≤ s.len := by
        by_cases hlt : (s.len : Int) < keep.len
        · exact ⟨s.len, by rw [if_pos hlt], by omega, by omega⟩
        · exact ⟨keep.len, by rw [if_neg hlt], by omega, by omega⟩
      rw [hn1]
      refine val_slice_to (Te := 4) (sz := 1) (by kernel_rfl) (by kernel_rfl) (by omega) (by omega) ?_
      rw [Int.toNat_natCast]
      have hpre : Reads W (subS keep 0 n keep.cap 1) 1 (bools (kl.take n)) := by
        have := reads_to hkr hn2
        rwa [bools, ← List.map_take] at this
      have hkn : (kl.take n).length = n := by rw [List.length_take]; omega
      have hc0 : (cr D (kl.take n)).1 = 0 := by rw [cr, if_neg (by omega)]
      have hcn : (cr D (kl.take n)).2.cache = [] := by rw [cr, if_neg (by omega)]
      have hcm := crash_may (ks := kl.take n) hK (by omega) N
      have hcf := cr_fine hD (kl.take n)
      refine Crash_spec (A := old W) (keep := kl.take n) (h.sub (M := Disk d D :: old W :: ownS 9 1 t1 (strs (mayOf D N)) :: []) (by repeat (first | exact Sub.done | refine Sub.take (by first | exact .head | exact (.tail .head) | exact (.tail (.tail .head)) | exact (.tail (.tail (.tail .head))) | exact (.tail (.tail (.tail (.tail .head)))) | exact (.tail (.tail (.tail (.tail (.tail .head))))) | exact (.tail (.tail (.tail (.tail (.tail (.tail .head)))))) | exact (.tail (.tail (.tail (.tail (.tail (.tail (.tail .head))))))) | exact (.tail (.tail (.tail (.tail (.tail (.tail (.tail (.tail .head))))))))) ?_ | refine Sub.skip ?_))) hDn hDl (fun w L h => h.reads_old hpre) (by rw [hkn]; simp [subS]) fun w h => ?_
      rw [hc0]
      refine CondP.no rfl ?_
      generalize (cr D (kl.take n)).2 = D' at *
      have hDn' : 0 < D'.n := by rw [hcf.n]; omega
      have hDl' : D'.cache.length ≤ 1073741824 := by have := hcf.len; omega
      refine Read_to (D := D') (r := 0) (s := rdD D' N) h hDn' hDl' (by rw [rightM_in (by omega) (by rw [hcf.n]; omega)]; simp) fun w h => ?_
      have hv := rdD_size hcf N
      generalize rdD D' N = v at *
      have hml := may_len hD N
      generalize mayOf D N = m at *
      refine LoopP.inv (fun q w => ∃ j : Nat, q.2 = j ∧ j ≤ m.length ∧ (v ∈ m.take j → q.1 = true) ∧ Holds W w [Disk d D', old W, ownS 9 1 t1 (strs m)]) (fun q _ => m.length - q.2.toNat) ⟨0, rfl, by omega, (fun h => by simp at h), h⟩ ?_
      rintro next2 ⟨q1, q2⟩ w ⟨j, hq, hj, hmem, h⟩ hnext2
      simp only at hq h hmem
      subst hq
      refine AnyP.go fun _ => CondP.mk' (fun h1 => ?_) (fun h1 => ?_)
      · have h1 : j < m.length := by have := cT h1; simp only at this; omega
        have fin : ∀ b : Bool, (v ∈ m.take (j + 1) → b = true) → AnyP (fun _ => next2 (b, IntKind.i64.wrap (j + 1))) w := by
          intro b hb
          refine AnyP.go fun _ => ?_
          rw [wrap_in _ (by omega)]
          exact hnext2 _ _ ⟨j + 1, by simp, h1, hb, h⟩ (by simp; omega)
        refine JoinP.go (CondP.mk' (fun h2 => fin true fun _ => rfl) (fun h2 => ?_))
        have hO := (h.sub (M := ownS 9 1 t1 (strs m) :: []) (by repeat (first | exact Sub.done | refine Sub.take (by first | exact .head | exact (.tail .head) | exact (.tail (.tail .head)) | exact (.tail (.tail (.tail .head))) | exact (.tail (.tail (.tail (.tail .head)))) | exact (.tail (.tail (.tail (.tail (.tail .head))))) | exact (.tail (.tail (.tail (.tail (.tail (.tail .head)))))) | exact (.tail (.tail (.tail (.tail (.tail (.tail (.tail .head))))))) | exact (.tail (.tail (.tail (.tail (.tail (.tail (.tail (.tail .head))))))))) ?_ | refine Sub.skip ?_))).reads_own
        obtain ⟨b1, o1, hb1⟩ := hO.addr (by intro he; have := strs_len m; rw [he] at this; simp at this; omega)
        refine val_index (Te := 9) (sz := 1) (a := ⟨b1, o1, none⟩) (by kernel_rfl) (by kernel_rfl) hb1 (by omega) (by show (j : Int) < (t1.len : Int); omega) ?_
        refine get_el (P := Try.prog) (i := j * 1) m[j] hO hb1 rfl (by kernel_rfl) (by simp [strs, h1, Leaf.val]) ?_
        refine fin _ fun hb => ?_
        rw [List.take_succ_eq_append_getElem h1, List.mem_append] at hb
        rcases hb with hb | hb
        · have h2 : q1 = false := h2; have := hmem hb; rw [h2] at this; cases this
        · have hb : v = m[j] := by simpa using hb
          rw [← hb]; simp
      · have h1 : j = m.length := by have := cF h1; simp only at this; omega
        rw [h1, List.take_length] at hmem
        refine JoinP.go (CondP.yes rfl (AnyP.go fun _ => JoinP.go (CondP.yes (hmem hcm) (AnyP.go fun _ => JoinP.go (CondP.yes (by rw [hv]; rfl) ?_)))))
        refine Dirty_spec h hDn' hDl' fun s2 w h => ?_
        have hs2 : s2.len = 0 := by have := h.own_len.1; rw [hcn] at this; simp [ints] at this; omega
        refine AnyP.go fun _ => JoinP.go (CondP.yes (by rw [hs2]; rfl) ?_)
        exact known_spec h fun w h => AnyP.go fun _ => hk _ (h.sub (by repeat (first | exact Sub.done | refine Sub.take (by first | exact .head | exact (.tail .head) | exact (.tail (.tail .head)) | exact (.tail (.tail (.tail .head))) | exact (.tail (.tail (.tail (.tail .head)))) | exact (.tail (.tail (.tail (.tail (.tail .head))))) | exact (.tail (.tail (.tail (.tail (.tail (.tail .head)))))) | exact (.tail (.tail (.tail (.tail (.tail (.tail (.tail .head))))))) | exact (.tail (.tail (.tail (.tail (.tail (.tail (.tail (.tail .head))))))))) ?_ | refine Sub.skip ?_)))

end Go.Proofs.Ytebicdddbeneoaa
