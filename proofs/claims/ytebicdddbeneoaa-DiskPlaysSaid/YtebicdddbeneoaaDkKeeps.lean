/- The law DiskKeeps: the walk. -/
import Derived.Test.YtebicdddbeneoaaDkStays
import Derived.Test.YtebicdddbeneoaaDkCopy
namespace Go.Proofs.Ytebicdddbeneoaa
open Go.Sh
attribute [local irreducible] pto rob old ownS roS hstar hex hpure hemp mapB Disk

theorem lay_all : ∀ (l : List (Int × ByteArray)) (m : MS), ((List.replicate l.length true).zip l).foldl crM m = l.foldl layM m
  | [], _ => rfl
  | c :: l, m => lay_all l (layM m c)
theorem lay_none : ∀ (l : List (Int × ByteArray)) (m : MS), ((List.replicate l.length false).zip l).foldl crM m = m
  | [], _ => rfl
  | _ :: l, m => lay_none l m
theorem SameM.base {m m' : MS} (h : SameM m m') (x : Int) : base m' x = base m x := by unfold Proofs.Ytebicdddbeneoaa.base; rw [h x]
theorem SameM.fold {m m' : MS} (h : SameM m m') (hk : keysOk m) (hk' : keysOk m') (l : List (Int × ByteArray)) (x : Int) : Proofs.Ytebicdddbeneoaa.base (l.foldl layM m') x = Proofs.Ytebicdddbeneoaa.base (l.foldl layM m) x := by
  rw [fold_base x l m' hk', fold_base x l m hk]
  congr 2
  exact h.base x

theorem rd_empty {D : DSt} (h : D.cache = []) (x : Int) : rdD D x = base D.m x := by unfold rdD base; rw [h]; rfl
theorem fl_n (D : DSt) : (fl D).2.n = D.n := by unfold fl; split <;> rfl
theorem fl_m {D : DSt} (h : D.fused = false) : (fl D).2.m = D.cache.foldl layM D.m := by unfold fl; rw [if_neg (by rw [h]; simp)]
theorem fl_cache {D : DSt} (h : D.fused = false) : (fl D).2.cache = [] := by unfold fl; rw [if_neg (by rw [h]; simp)]
theorem cr_n (D : DSt) (ks : List Bool) : (cr D ks).2.n = D.n := by unfold cr; split <;> rfl
theorem cr_ok {D : DSt} {ks : List Bool} (h : ks.length ≤ D.cache.length) : cr D ks = (0, { D with m := (ks.zip D.cache).foldl crM D.m, cache := [], fused := false }) := by rw [cr, if_neg (by omega)]

theorem bools_set (n j : Nat) (h : j < n) : (bools (List.replicate j true ++ List.replicate (n - j) false)).set j (.bool true) = bools (List.replicate (j + 1) true ++ List.replicate (n - (j + 1)) false) := by
  unfold bools
  rw [show n - j = (n - (j + 1)) + 1 by omega, List.replicate_succ, List.map_append, List.map_append, List.set_append_right _ _ (by simp)]
  simp [List.replicate_succ']

theorem info_of {o : Option TypeInfo} {z : Value} {n m : Nat} (h1 : o.bind (·.zero) = some z) (h2 : o.map (·.size) = some n) (h3 : o.map (·.bytes) = some m) : ∃ i, o = some i ∧ i.zero = some z ∧ i.size = n ∧ i.bytes = m := by
  cases o with
  | none => cases h1
  | some i => exact ⟨i, rfl, h1, Option.some.inj h2, Option.some.inj h3⟩
theorem boolInfo : ∃ i, Try.prog.info? 4 = some i ∧ i.zero = some (.bool false) ∧ i.size = 1 ∧ i.bytes = 1 := info_of (by kernel_rfl) (by kernel_rfl) (by kernel_rfl)
theorem do_bools {E w : World} {L : List HProp} {n : Nat} {k : Sl → Pr} (h : Holds E w L) (hn : n ≤ 1073741824) (hk : ∀ s w', s.len = n → Holds E w' (ownS 4 1 s (bools (List.replicate n false)) :: L) → k s w') :
    DoP Try.prog (vN (Instr.makeSlice 23 (.int .i64 n) (.int .i64 n))) tSl k w := by
  obtain ⟨i, hi, hz, h1, hb⟩ := boolInfo
  refine do_makeSlice (T := 23) (Te := 4) (i := i) (z := .bool false) h Try.underlying23 hi hz h1 rfl (by omega) (by rw [hb]; omega) (by omega) fun s w h1 h => ?_
  rw [Int.toNat_natCast] at h1 h
  refine hk s w h1 ?_
  have e : bools (List.replicate n false) = List.replicate n (Value.bool false) := by simp [bools]
  rw [e]; exact h
theorem cr_to {D : DSt} {ks : List Bool} {m : MS} (h : ks.length ≤ D.cache.length) (e : (ks.zip D.cache).foldl crM D.m = m) : ∃ E, cr D ks = (0, E) ∧ E.cache = [] ∧ E.n = D.n ∧ E.m = m :=
  ⟨_, cr_ok h, rfl, rfl, e⟩

theorem keeps_walk {W : World} {script : Sl} {ops : List OpV} (hs : Reads W script 4 (ops.flatMap encOp)) (hcap : script.len ≤ 9223372036854775807)
    {k : Bool → Pr} (hk : ∀ w', Holds W w' [old W] → k true w') : CallP Try.prog 5 #[.slice script.a script.len script.cap] tBool k W := by
  have hsl := script_len hs
  refine rd5 _ _ _ ?_
  unfold sh5
  refine New_spec (Holds.start W) (fun h => absurd h (by omega)) fun _ _ d w h => ?_
  refine JoinP.go (CondP.no rfl ?_)
  refine get_pure false (by kernel_rfl) ?_
  refine AnyP.go fun _ => CondP.no rfl ?_
  refine LoopP.inv (fun t w => ∃ (i : Nat) (D : DSt), t = i ∧ i ≤ 40 ∧ i ≤ ops.length ∧ Fine D i ∧ WfM D.m ∧ Holds W w [Disk d D, old W]) (fun t _ => 40 - t.toNat)
    ⟨0, D0 8, rfl, by omega, by omega, D0_fine, .nil, h⟩ ?_
  rintro next t w ⟨i, D, rfl, hi40, hi, hD, hK, h⟩ hnext
  have hDn : 0 < D.n := by rw [hD.n]; omega
  have hDl : D.cache.length ≤ 1073741824 := by have := hD.len; omega
  refine AnyP.go fun _ => JoinP.via (fun b w => b = decide (i < ops.length ∧ i < 40) ∧ Holds W w [Disk d D, old W]) ?_ fun J hJ => CondP.mk' (fun h1 => hJ _ _ ⟨?_, h⟩) (fun h1 => hJ _ _ ⟨?_, h⟩)
  rotate_left
  · have h1 := cT h1
    exact decide_eq_decide.2 ⟨fun h => ⟨by omega, by omega⟩, fun h => by omega⟩
  · have h1 := cF h1
    exact (decide_eq_false (fun h => by omega)).symm
  rintro _ w ⟨rfl, h⟩
  refine AnyP.go fun _ => CondP.mk' (fun hc => ?_) (fun hc => ?_)
  · -- one more step of the script
    obtain ⟨hc1, hc2⟩ := cT hc
    have next' : ∀ (D' : DSt) (w : World), Fine D' (i + 1) → WfM D'.m → Holds W w [Disk d D', old W] → next (IntKind.i64.wrap (i + 1)) w := by
      intro D' w hD' hK' h
      rw [wrap_in _ (by omega)]
      exact hnext _ _ ⟨i + 1, D', by omega, by omega, by omega, hD', hK', h⟩ (by omega)
    obtain ⟨b, off, hb⟩ := script_addr hs hc1
    have e0 : ∀ j, Addr.add (Addr.add ⟨b, off, none⟩ (i * 4)) j = Addr.add ⟨b, off, none⟩ (i * 4 + j) := fun j => Addr.add_add _ _ _ rfl
    refine JoinP.go (JoinP.via (fun _ w => ∃ D' : DSt, Fine D' (i + 1) ∧ WfM D'.m ∧ Holds W w [Disk d D', old W]) ?_ ?_)
    · rintro _ w ⟨D', hD', hK', h⟩
      have hO := (h.sub (M := old W :: []) (by repeat (first | exact Sub.done | refine Sub.take (by first | exact .head | exact (.tail .head) | exact (.tail (.tail .head)) | exact (.tail (.tail (.tail .head))) | exact (.tail (.tail (.tail (.tail .head)))) | exact (.tail (.tail (.tail (.tail (.tail .head))))) | exact (.tail (.tail (.tail (.tail (.tail (.tail .head)))))) | exact (.tail (.tail (.tail (.tail (.tail (.tail (.tail .head))))))) | exact (.tail (.tail (.tail (.tail (.tail (.tail (.tail (.tail .head))))))))) ?_ | refine Sub.skip ?_))).reads_old hs
      refine AnyP.go fun _ => ?_
      refine val_index (Te := 31) (sz := 4) (a := ⟨b, off, none⟩) (by kernel_rfl) (by kernel_rfl) hb (by omega) (by omega) ?_
      refine get_el (P := Try.prog) (i := i * 4 + 0) ops[i].kind hO hb (e0 0) (by kernel_rfl) (script_cell hs hc1 0 (by omega)) ?_
      refine CondP.mk' (fun h2 => ?_) (fun h2 => ?_)
      · refine Flush_spec h (by rw [hD'.n]; omega) (by have := hD'.len; omega) fun w h => AnyP.go fun _ => ?_
        exact next' _ _ (fl_fine hD') hK'.fl h
      · exact AnyP.go fun _ => next' _ _ hD' hK' h
    · intro J hJ
      have hO := (h.sub (M := old W :: []) (by repeat (first | exact Sub.done | refine Sub.take (by first | exact .head | exact (.tail .head) | exact (.tail (.tail .head)) | exact (.tail (.tail (.tail .head))) | exact (.tail (.tail (.tail (.tail .head)))) | exact (.tail (.tail (.tail (.tail (.tail .head))))) | exact (.tail (.tail (.tail (.tail (.tail (.tail .head)))))) | exact (.tail (.tail (.tail (.tail (.tail (.tail (.tail .head))))))) | exact (.tail (.tail (.tail (.tail (.tail (.tail (.tail (.tail .head))))))))) ?_ | refine Sub.skip ?_))).reads_old hs
      refine val_index (Te := 31) (sz := 4) (a := ⟨b, off, none⟩) (by kernel_rfl) (by kernel_rfl) hb (by omega) (by omega) ?_
      refine get_el (P := Try.prog) (i := i * 4 + 0) ops[i].kind hO hb (e0 0) (by kernel_rfl) (script_cell hs hc1 0 (by omega)) ?_
      refine CondP.mk' (fun h2 => ?_) (fun h2 => ?_)
      · refine DrewP.go h fun w h => ?_
        have hO := (h.sub (M := old W :: []) (by repeat (first | exact Sub.done | refine Sub.take (by first | exact .head | exact (.tail .head) | exact (.tail (.tail .head)) | exact (.tail (.tail (.tail .head))) | exact (.tail (.tail (.tail (.tail .head)))) | exact (.tail (.tail (.tail (.tail (.tail .head))))) | exact (.tail (.tail (.tail (.tail (.tail (.tail .head)))))) | exact (.tail (.tail (.tail (.tail (.tail (.tail (.tail .head))))))) | exact (.tail (.tail (.tail (.tail (.tail (.tail (.tail (.tail .head))))))))) ?_ | refine Sub.skip ?_))).reads_old hs
        refine val_index (Te := 31) (sz := 4) (a := ⟨b, off, none⟩) (by kernel_rfl) (by kernel_rfl) hb (by omega) (by omega) ?_
        refine get_el (P := Try.prog) (i := i * 4 + 1) ops[i].at_ hO hb (e0 1) (by kernel_rfl) (script_cell hs hc1 1 (by omega)) ?_
        refine val_index (Te := 31) (sz := 4) (a := ⟨b, off, none⟩) (by kernel_rfl) (by kernel_rfl) hb (by omega) (by omega) ?_
        refine get_el (P := Try.prog) (i := i * 4 + 2) ops[i].s hO hb (e0 2) (by kernel_rfl) (script_cell hs hc1 2 (by omega)) ?_
        refine Write_spec h hDn hDl fun w h => ?_
        exact hJ _ _ ⟨_, wr_fine hD _ _, hK.wr _ _, h⟩
      · exact hJ _ _ ⟨D, hD.mono (by omega), hK, h⟩
  · -- the script is at its end
    clear hc
    refine Copy_spec h hDn hDl hK fun d1 m1 w hm1 hs1 h => ?_
    refine Copy_spec (h.sub (M := Disk d D :: Disk d1 { D with m := m1 } :: old W :: []) (by repeat (first | exact Sub.done | refine Sub.take (by first | exact .head | exact (.tail .head) | exact (.tail (.tail .head)) | exact (.tail (.tail (.tail .head))) | exact (.tail (.tail (.tail (.tail .head)))) | exact (.tail (.tail (.tail (.tail (.tail .head))))) | exact (.tail (.tail (.tail (.tail (.tail (.tail .head)))))) | exact (.tail (.tail (.tail (.tail (.tail (.tail (.tail .head))))))) | exact (.tail (.tail (.tail (.tail (.tail (.tail (.tail (.tail .head))))))))) ?_ | refine Sub.skip ?_))) hDn hDl hK fun d2 m2 w hm2 hs2 h => ?_
    refine get_pure false (by kernel_rfl) ?_
    refine JoinP.go (CondP.no rfl ?_)
    refine get_pure false (by kernel_rfl) ?_
    refine AnyP.go fun _ => CondP.no rfl ?_
    obtain ⟨D1, hD1⟩ : ∃ D1 : DSt, D1 = { D with m := m1 } := ⟨_, rfl⟩
    obtain ⟨D2, hD2⟩ : ∃ D2 : DSt, D2 = { D with m := m2 } := ⟨_, rfl⟩
    rw [← hD1, ← hD2] at h
    refine Flush_spec (h.sub (M := Disk d D :: Disk d1 D1 :: Disk d2 D2 :: old W :: []) (by repeat (first | exact Sub.done | refine Sub.take (by first | exact .head | exact (.tail .head) | exact (.tail (.tail .head)) | exact (.tail (.tail (.tail .head))) | exact (.tail (.tail (.tail (.tail .head)))) | exact (.tail (.tail (.tail (.tail (.tail .head))))) | exact (.tail (.tail (.tail (.tail (.tail (.tail .head)))))) | exact (.tail (.tail (.tail (.tail (.tail (.tail (.tail .head))))))) | exact (.tail (.tail (.tail (.tail (.tail (.tail (.tail (.tail .head))))))))) ?_ | refine Sub.skip ?_))) hDn hDl fun w h => ?_
    have hn1 : D1.n = D.n := by rw [hD1]
    have hn2 : D2.n = D.n := by rw [hD2]
    have hc1 : D1.cache = D.cache := by rw [hD1]
    have hc2 : D2.cache = D.cache := by rw [hD2]
    refine Dirty_spec (h.sub (M := Disk d1 D1 :: Disk d2 D2 :: Disk d (fl D).2 :: old W :: []) (by repeat (first | exact Sub.done | refine Sub.take (by first | exact .head | exact (.tail .head) | exact (.tail (.tail .head)) | exact (.tail (.tail (.tail .head))) | exact (.tail (.tail (.tail (.tail .head)))) | exact (.tail (.tail (.tail (.tail (.tail .head))))) | exact (.tail (.tail (.tail (.tail (.tail (.tail .head)))))) | exact (.tail (.tail (.tail (.tail (.tail (.tail (.tail .head))))))) | exact (.tail (.tail (.tail (.tail (.tail (.tail (.tail (.tail .head))))))))) ?_ | refine Sub.skip ?_))) (by rw [hn1]; exact hDn) (by rw [hc1]; exact hDl) fun s w h => ?_
    obtain ⟨n, hn⟩ : ∃ n, n = D.cache.length := ⟨_, rfl⟩
    have hsn : s.len = n := by have := h.own_len.1; rw [hc1] at this; simp [ints] at this; omega
    rw [hsn]
    refine do_bools (n := n) h (by omega) fun kp w hkp h => ?_
    have hb0 : List.replicate n false = List.replicate 0 true ++ List.replicate (n - 0) false := by simp
    rw [hb0] at h
    refine LoopP.inv (fun t w => ∃ j : Nat, t = j ∧ j ≤ n ∧ Holds W w [ownS 4 1 kp (bools (List.replicate j true ++ List.replicate (n - j) false)), Disk d1 D1, Disk d2 D2, Disk d (fl D).2, old W]) (fun t _ => n - t.toNat)
      ⟨0, rfl, by omega, h.sub (by repeat (first | exact Sub.done | refine Sub.take (by first | exact .head | exact (.tail .head) | exact (.tail (.tail .head)) | exact (.tail (.tail (.tail .head))) | exact (.tail (.tail (.tail (.tail .head)))) | exact (.tail (.tail (.tail (.tail (.tail .head))))) | exact (.tail (.tail (.tail (.tail (.tail (.tail .head)))))) | exact (.tail (.tail (.tail (.tail (.tail (.tail (.tail .head))))))) | exact (.tail (.tail (.tail (.tail (.tail (.tail (.tail (.tail .head))))))))) ?_ | refine Sub.skip ?_))⟩ ?_
    rintro next2 t w ⟨j, rfl, hj, h⟩ hnext2
    refine AnyP.go fun _ => CondP.mk' (fun h1 => ?_) (fun h1 => ?_)
    · have h1 : j < n := by have := cT h1; omega
      obtain ⟨b1, o1, hb1⟩ := h.reads_own.addr (by intro he; have := congrArg List.length he; simp [bools] at this; omega)
      refine val_index (Te := 4) (sz := 1) (a := ⟨b1, o1, none⟩) (by kernel_rfl) (by kernel_rfl) hb1 (by omega) (by omega) ?_
      refine do_set_el (i := j * 1) h .head hb1 rfl (by simp [bools]; omega) (by kernel_rfl) rfl fun w h => ?_
      rw [wrap_in _ (by omega)]
      rw [Nat.mul_one, bools_set n j h1] at h
      exact hnext2 _ _ ⟨j + 1, rfl, h1, h⟩ (by omega)
    · have h1 : j = n := by have := cF h1; omega
      rw [h1, Nat.sub_self, List.replicate_zero, List.append_nil] at h
      refine Copy_spec (h.sub (M := Disk d2 D2 :: Disk d1 D1 :: Disk d (fl D).2 :: ownS 4 1 kp (bools (List.replicate n true)) :: old W :: []) (by repeat (first | exact Sub.done | refine Sub.take (by first | exact .head | exact (.tail .head) | exact (.tail (.tail .head)) | exact (.tail (.tail (.tail .head))) | exact (.tail (.tail (.tail (.tail .head)))) | exact (.tail (.tail (.tail (.tail (.tail .head))))) | exact (.tail (.tail (.tail (.tail (.tail (.tail .head)))))) | exact (.tail (.tail (.tail (.tail (.tail (.tail (.tail .head))))))) | exact (.tail (.tail (.tail (.tail (.tail (.tail (.tail (.tail .head))))))))) ?_ | refine Sub.skip ?_))) (by rw [hn2]; exact hDn) (by rw [hc2]; exact hDl) (by rw [hD2]; exact hm2) fun d3 m3 w hm3 hs3 h => ?_
      obtain ⟨D3, hD3⟩ : ∃ D3 : DSt, D3 = { D2 with m := m3 } := ⟨_, rfl⟩
      rw [← hD3] at h
      have hn3 : D3.n = D.n := by rw [hD3]; exact hn2
      have hc3 : D3.cache = D.cache := by rw [hD3]; exact hc2
      have lt : (List.replicate n true).length = n := List.length_replicate
      have lf : (List.replicate n false).length = n := List.length_replicate
      obtain ⟨E1, hE1, hE1c, hE1n, hE1m⟩ := cr_to (D := D1) (ks := List.replicate n true) (m := D.cache.foldl layM m1) (by rw [lt, hc1]; omega) (by rw [hc1, hn, lay_all, hD1])
      obtain ⟨E2, hE2, hE2c, hE2n, hE2m⟩ := cr_to (D := D2) (ks := []) (m := m2) (by simp) (by rw [hD2]; rfl)
      obtain ⟨E3, hE3, hE3c, hE3n, hE3m⟩ := cr_to (D := D3) (ks := List.replicate n false) (m := m3) (by rw [lf, hc3]; omega) (by rw [hc3, hn, lay_none, hD3])
      refine Crash_to (A := ownS 4 1 kp (bools (List.replicate n true))) (h.sub (M := Disk d1 D1 :: ownS 4 1 kp (bools (List.replicate n true)) :: Disk d2 D2 :: Disk d3 D3 :: Disk d (fl D).2 :: old W :: []) (by repeat (first | exact Sub.done | refine Sub.take (by first | exact .head | exact (.tail .head) | exact (.tail (.tail .head)) | exact (.tail (.tail (.tail .head))) | exact (.tail (.tail (.tail (.tail .head)))) | exact (.tail (.tail (.tail (.tail (.tail .head))))) | exact (.tail (.tail (.tail (.tail (.tail (.tail .head)))))) | exact (.tail (.tail (.tail (.tail (.tail (.tail (.tail .head))))))) | exact (.tail (.tail (.tail (.tail (.tail (.tail (.tail (.tail .head))))))))) ?_ | refine Sub.skip ?_))) (by rw [hn1]; exact hDn) (by rw [hc1]; exact hDl)
        (fun w L h => h.reads_own) (by rw [hkp, lt]) hE1 fun w h => ?_
      refine JoinP.go (CondP.no rfl ?_)
      refine Crash_to (A := old W) (keep := []) (s := ⟨none, 0, 0⟩) (h.sub (M := Disk d2 D2 :: old W :: Disk d1 E1 :: Disk d3 D3 :: Disk d (fl D).2 :: []) (by repeat (first | exact Sub.done | refine Sub.take (by first | exact .head | exact (.tail .head) | exact (.tail (.tail .head)) | exact (.tail (.tail (.tail .head))) | exact (.tail (.tail (.tail (.tail .head)))) | exact (.tail (.tail (.tail (.tail (.tail .head))))) | exact (.tail (.tail (.tail (.tail (.tail (.tail .head)))))) | exact (.tail (.tail (.tail (.tail (.tail (.tail (.tail .head))))))) | exact (.tail (.tail (.tail (.tail (.tail (.tail (.tail (.tail .head))))))))) ?_ | refine Sub.skip ?_))) (by rw [hn2]; exact hDn) (by rw [hc2]; exact hDl)
        (fun w L h => ⟨rfl, fun h => absurd rfl h⟩) rfl hE2 fun w h => ?_
      refine AnyP.go fun _ => JoinP.go (CondP.no rfl ?_)
      refine get_pure false (by kernel_rfl) ?_
      refine AnyP.go fun _ => CondP.no rfl ?_
      rw [hkp]
      refine do_bools (n := n) h (by omega) fun kp2 w hkp2 h => ?_
      refine Crash_to (A := ownS 4 1 kp2 (bools (List.replicate n false))) (h.sub (M := Disk d3 D3 :: ownS 4 1 kp2 (bools (List.replicate n false)) :: Disk d2 E2 :: Disk d1 E1 :: Disk d (fl D).2 :: old W :: []) (by repeat (first | exact Sub.done | refine Sub.take (by first | exact .head | exact (.tail .head) | exact (.tail (.tail .head)) | exact (.tail (.tail (.tail .head))) | exact (.tail (.tail (.tail (.tail .head)))) | exact (.tail (.tail (.tail (.tail (.tail .head))))) | exact (.tail (.tail (.tail (.tail (.tail (.tail .head)))))) | exact (.tail (.tail (.tail (.tail (.tail (.tail (.tail .head))))))) | exact (.tail (.tail (.tail (.tail (.tail (.tail (.tail (.tail .head))))))))) ?_ | refine Sub.skip ?_))) (by rw [hn3]; exact hDn) (by rw [hc3]; exact hDl)
        (fun w L h => h.reads_own) (by rw [hkp2, lf]) hE3 fun w h => ?_
      obtain ⟨E0, hE0⟩ : ∃ E0, E0 = (fl D).2 := ⟨_, rfl⟩
      rw [← hE0] at h
      have hE0c : E0.cache = [] := by rw [hE0]; exact fl_cache hD.fused
      have hE0n : E0.n = D.n := by rw [hE0]; exact fl_n D
      have hE0m : E0.m = D.cache.foldl layM D.m := by rw [hE0]; exact fl_m hD.fused
      have r01 : ∀ x, rdD E0 x = rdD E1 x := fun x => by rw [rd_empty hE0c, rd_empty hE1c, hE0m, hE1m, hs1.fold hK.keys hm1.keys]
      have r23 : ∀ x, rdD E2 x = rdD E3 x := fun x => by rw [rd_empty hE2c, rd_empty hE3c, hE2m, hE3m, hs3.base, hD2]
      have hD8 := hD.n
      clear hE1m hE2m hE3m hE0m hE1 hE2 hE3 hE0
      refine LoopP.inv (fun t w => ∃ j : Nat, t = j ∧ j ≤ 8 ∧ Holds W w [Disk d E0, Disk d1 E1, Disk d2 E2, Disk d3 E3, old W]) (fun t _ => 8 - t.toNat) ⟨0, rfl, by omega, h.sub (by repeat (first | exact Sub.done | refine Sub.take (by first | exact .head | exact (.tail .head) | exact (.tail (.tail .head)) | exact (.tail (.tail (.tail .head))) | exact (.tail (.tail (.tail (.tail .head)))) | exact (.tail (.tail (.tail (.tail (.tail .head))))) | exact (.tail (.tail (.tail (.tail (.tail (.tail .head)))))) | exact (.tail (.tail (.tail (.tail (.tail (.tail (.tail .head))))))) | exact (.tail (.tail (.tail (.tail (.tail (.tail (.tail (.tail .head))))))))) ?_ | refine Sub.skip ?_))⟩ ?_
      rintro next3 t w ⟨j, rfl, hj, h⟩ hnext3
      refine AnyP.go fun _ => CondP.mk' (fun h1 => ?_) (fun h1 => known_spec h fun w h => hk _ (h.sub (by repeat (first | exact Sub.done | refine Sub.take (by first | exact .head | exact (.tail .head) | exact (.tail (.tail .head)) | exact (.tail (.tail (.tail .head))) | exact (.tail (.tail (.tail (.tail .head)))) | exact (.tail (.tail (.tail (.tail (.tail .head))))) | exact (.tail (.tail (.tail (.tail (.tail (.tail .head)))))) | exact (.tail (.tail (.tail (.tail (.tail (.tail (.tail .head))))))) | exact (.tail (.tail (.tail (.tail (.tail (.tail (.tail (.tail .head))))))))) ?_ | refine Sub.skip ?_))))
      have h1 : j < 8 := by have := cT h1; omega
      refine Read_to (D := E0) (r := 0) (s := rdD E0 j) h (by omega) (by rw [hE0c]; simp) (by rw [rightM_in (by omega) (by omega)]; simp) fun w h => ?_
      refine Read_to (D := E1) (r := 0) (s := rdD E1 j) (h.sub (M := [Disk d1 E1, Disk d E0, Disk d2 E2, Disk d3 E3, old W]) (by repeat (first | exact Sub.done | refine Sub.take (by first | exact .head | exact (.tail .head) | exact (.tail (.tail .head)) | exact (.tail (.tail (.tail .head))) | exact (.tail (.tail (.tail (.tail .head)))) | exact (.tail (.tail (.tail (.tail (.tail .head))))) | exact (.tail (.tail (.tail (.tail (.tail (.tail .head)))))) | exact (.tail (.tail (.tail (.tail (.tail (.tail (.tail .head))))))) | exact (.tail (.tail (.tail (.tail (.tail (.tail (.tail (.tail .head))))))))) ?_ | refine Sub.skip ?_))) (by omega) (by rw [hE1c]; simp) (by rw [rightM_in (by omega) (by omega)]; simp) fun w h => ?_
      refine Read_to (D := E2) (r := 0) (s := rdD E2 j) (h.sub (M := [Disk d2 E2, Disk d E0, Disk d1 E1, Disk d3 E3, old W]) (by repeat (first | exact Sub.done | refine Sub.take (by first | exact .head | exact (.tail .head) | exact (.tail (.tail .head)) | exact (.tail (.tail (.tail .head))) | exact (.tail (.tail (.tail (.tail .head)))) | exact (.tail (.tail (.tail (.tail (.tail .head))))) | exact (.tail (.tail (.tail (.tail (.tail (.tail .head)))))) | exact (.tail (.tail (.tail (.tail (.tail (.tail (.tail .head))))))) | exact (.tail (.tail (.tail (.tail (.tail (.tail (.tail (.tail .head))))))))) ?_ | refine Sub.skip ?_))) (by omega) (by rw [hE2c]; simp) (by rw [rightM_in (by omega) (by omega)]; simp) fun w h => ?_
      refine Read_to (D := E3) (r := 0) (s := rdD E3 j) (h.sub (M := [Disk d3 E3, Disk d E0, Disk d1 E1, Disk d2 E2, old W]) (by repeat (first | exact Sub.done | refine Sub.take (by first | exact .head | exact (.tail .head) | exact (.tail (.tail .head)) | exact (.tail (.tail (.tail .head))) | exact (.tail (.tail (.tail (.tail .head)))) | exact (.tail (.tail (.tail (.tail (.tail .head))))) | exact (.tail (.tail (.tail (.tail (.tail (.tail .head)))))) | exact (.tail (.tail (.tail (.tail (.tail (.tail (.tail .head))))))) | exact (.tail (.tail (.tail (.tail (.tail (.tail (.tail (.tail .head))))))))) ?_ | refine Sub.skip ?_))) (by omega) (by rw [hE3c]; simp) (by rw [rightM_in (by omega) (by omega)]; simp) fun w h => ?_
      have hsame : ∀ x y : ByteArray, x = y → (!(x.toList == y.toList)) = false := by rintro x _ rfl; simp
      refine JoinP.go (CondP.no (hsame _ _ (r01 j)) (AnyP.go fun _ => CondP.no (hsame _ _ (r23 j)) ?_))
      rw [wrap_in _ (by omega)]
      exact hnext3 _ _ ⟨j + 1, rfl, h1, h.sub (by repeat (first | exact Sub.done | refine Sub.take (by first | exact .head | exact (.tail .head) | exact (.tail (.tail .head)) | exact (.tail (.tail (.tail .head))) | exact (.tail (.tail (.tail (.tail .head)))) | exact (.tail (.tail (.tail (.tail (.tail .head))))) | exact (.tail (.tail (.tail (.tail (.tail (.tail .head)))))) | exact (.tail (.tail (.tail (.tail (.tail (.tail (.tail .head))))))) | exact (.tail (.tail (.tail (.tail (.tail (.tail (.tail (.tail .head))))))))) ?_ | refine Sub.skip ?_))⟩ (by omega)
end Go.Proofs.Ytebicdddbeneoaa
