/- The law DiskPlays: the walk. -/
import Derived.Test.YtebicdddbeneoaaDkRef2
import Derived.Test.YtebicdddbeneoaaDkKeeps
import Derived.Test.YtebicdddbeneoaaDkRow
namespace Go.Proofs.Ytebicdddbeneoaa
open Go.Sh
attribute [local irreducible] pto rob old ownS roS hstar hex hpure hemp mapB Disk RefB

structure St (n : Int) (i : Nat) (D : DSt) (dk : List ByteArray) : Prop where
  n : D.n = n
  len : D.cache.length ≤ i
  wf : WfM D.m
  inn : ∀ c ∈ D.cache, 0 ≤ c.1 ∧ c.1 < D.n
  dl : (dk.length : Int) = D.n
  rel : RelM D.m dk

theorem St.mono {n : Int} {i j : Nat} {D : DSt} {dk : List ByteArray} (h : St n i D dk) (hij : i ≤ j) : St n j D dk := { h with len := by have := h.len; omega }
theorem right_in {n x : Int} (h : ¬ rightM n x ≠ 0) : 0 ≤ x ∧ x < n := by
  unfold rightM at h
  by_cases hx : x < 0 ∨ n ≤ x
  · rw [if_pos hx] at h; exact absurd (by decide) h
  · omega
theorem wr_right {D : DSt} {x : Int} {s : ByteArray} (h : (wr D x s).1 = 0) : 0 ≤ x ∧ x < D.n := by
  refine right_in fun hh => ?_
  rw [wr, if_pos hh] at h
  exact hh h
theorem wr_n (D : DSt) (x : Int) (s : ByteArray) : (wr D x s).2.n = D.n := by
  by_cases hf : (wr D x s).1 = 0
  · rw [wr_ok hf]
  · rw [wr_no hf]
theorem St.wr {n : Int} {i : Nat} {D : DSt} {dk : List ByteArray} (h : St n i D dk) (x : Int) (s : ByteArray) : St n (i + 1) (wr D x s).2 dk := by
  by_cases hf : (Proofs.Ytebicdddbeneoaa.wr D x s).1 = 0
  · have hr := wr_right hf
    rw [wr_ok hf]
    refine { n := h.n, len := by have := h.len; simp; omega, wf := h.wf, inn := fun c hc => ?_, dl := h.dl, rel := h.rel }
    rcases List.mem_append.1 hc with hc | hc
    · exact h.inn c hc
    · simp at hc; subst hc; exact hr
  · rw [wr_no hf]; exact h.mono (by omega)
theorem St.fl {n : Int} {i : Nat} {D : DSt} {dk dk' : List ByteArray} (h : St n i D dk) (h1 : (dk'.length : Int) = D.n) (h2 : RelM (fl D).2.m dk') : St n (i + 1) (fl D).2 dk' := by
  refine { n := (fl_n D).trans h.n, len := ?_, wf := h.wf.fl, inn := ?_, dl := h1.trans (fl_n D).symm, rel := h2 }
  · unfold Proofs.Ytebicdddbeneoaa.fl; split
    · have := h.len; simp only; omega
    · simp
  · rw [fl_n]; unfold Proofs.Ytebicdddbeneoaa.fl; split
    · exact h.inn
    · simp
theorem St.cr {n : Int} {i : Nat} {D : DSt} {dk dk' : List ByteArray} {ks : List Bool} (h : St n i D dk) (h1 : (dk'.length : Int) = D.n) (h2 : RelM (cr D ks).2.m dk') : St n (i + 1) (cr D ks).2 dk' := by
  refine { n := (cr_n D ks).trans h.n, len := ?_, wf := h.wf.cr ks, inn := ?_, dl := h1.trans (cr_n D ks).symm, rel := h2 }
  · unfold Proofs.Ytebicdddbeneoaa.cr; split
    · have := h.len; simp only; omega
    · simp
  · rw [cr_n]; unfold Proofs.Ytebicdddbeneoaa.cr; split
    · exact h.inn
    · simp
theorem St.fuse {n : Int} {i : Nat} {D : DSt} {dk : List ByteArray} (h : St n i D dk) (x : Int) : St n (i + 1) (fuseD D x) dk :=
  { n := h.n, len := by have := h.len; show D.cache.length ≤ i + 1; omega, wf := h.wf, inn := h.inn, dl := h.dl, rel := h.rel }
theorem St.copy {n : Int} {i : Nat} {D : DSt} {dk : List ByteArray} (h : St n i D dk) {m : MS} (hm : WfM m) (hs : SameM D.m m) : St n (i + 1) { D with m := m } dk :=
  { n := h.n, len := by have := h.len; show D.cache.length ≤ i + 1; omega, wf := hm, inn := h.inn, dl := h.dl, rel := fun j hj => (h.rel j hj).trans (hs.base j).symm }

theorem nums_ints (l : List (Int × ByteArray)) : nums (l.map (·.1)) = ints l := by unfold nums ints; rw [List.map_map]; rfl

def sLost : ByteArray := ⟨#[108, 111, 115, 116]⟩

set_option maxHeartbeats 1000000 in
theorem plays_walk {W : World} {n : Int} {script : Sl} {ops : List OpV} (hs : Reads W script 4 (ops.flatMap encOp)) (hcap : script.len ≤ 9223372036854775807) (hops : ∀ o ∈ ops, OpOk W o)
    {k : Bool → Pr} (hk : ∀ w', Holds W w' [old W] → k true w') : CallP Try.prog 7 #[.int .i64 n, .slice script.a script.len script.cap] tBool k W := by
  have hsl := script_len hs
  refine rd7 _ _ _ _ ?_
  unfold sh7
  refine JoinP.via (fun b w => b = decide (200 < n ∧ n ≤ 4096) ∧ Holds W w [old W]) ?_ fun J hJ => CondP.mk' (fun hb => hJ _ _ ⟨?_, Holds.start W⟩) (fun hb => hJ _ _ ⟨?_, Holds.start W⟩)
  rotate_left
  · have hb := cT hb; exact decide_eq_decide.2 ⟨fun h => ⟨by omega, by omega⟩, fun h => by omega⟩
  · have hb := cF hb; exact (decide_eq_false (fun h => by omega)).symm
  rintro _ w ⟨rfl, h⟩
  refine AnyP.go fun _ => CondP.mk' (fun hb => known_spec h fun w h => hk _ h) (fun hb => ?_)
  have hb := cF hb
  refine New_spec h (fun hbad => ?_) (fun hn1 hn2 d w h => ?_)
  · refine RNew_spec h (fun _ a w h => ?_) (fun h1 h2 => by omega)
    refine JoinP.go (CondP.no rfl ?_)
    refine get_pure false (by kernel_rfl) ?_
    refine AnyP.go fun _ => CondP.no rfl ?_
    refine LoopP.inv (fun s w => s.1 = none ∧ Holds W w [old W]) (fun _ _ => 0) ⟨rfl, h⟩ ?_
    rintro next ⟨s1, s2⟩ w ⟨hs1, h⟩ hnext
    simp only at hs1
    subst hs1
    have fin : ∀ {x y : Pr}, (y w) → CondP false x y w := fun hy => CondP.no rfl hy
    refine AnyP.go fun _ => JoinP.go (CondP.mk' (fun h1 => AnyP.go fun _ => JoinP.go (CondP.mk' (fun h2 => ?_) (fun h2 => ?_))) (fun h1 => AnyP.go fun _ => JoinP.go (CondP.no rfl ?_)))
    · refine get_pure false (by kernel_rfl) ?_
      exact AnyP.go fun _ => CondP.no rfl (known_spec h fun w h => hk _ h)
    · exact AnyP.go fun _ => CondP.no rfl (known_spec h fun w h => hk _ h)
    · exact AnyP.go fun _ => CondP.no rfl (known_spec h fun w h => hk _ h)
  refine RNew_spec h (fun hbad => by omega) (fun _ _ r w h => ?_)
  refine JoinP.go (CondP.no rfl ?_)
  refine get_pure true (by kernel_rfl) ?_
  refine AnyP.go fun _ => CondP.no rfl ?_
  refine LoopP.inv (fun s w => ∃ (i d : Nat) (D : DSt) (dk : List ByteArray), s = (some ⟨d, 0, none⟩, (i : Int)) ∧ i ≤ 60 ∧ i ≤ ops.length ∧ St n i D dk ∧ Holds W w [Disk d D, RefB r D dk, old W]) (fun s _ => 60 - s.2.toNat)
    ⟨0, d, D0 n, List.replicate n.toNat zeros, rfl, by omega, by omega, { n := rfl, len := Nat.le_refl _, wf := .nil, inn := fun c hc => by simp [D0] at hc, dl := by rw [List.length_replicate]; show (n.toNat : Int) = n; omega, rel := fun i hi => by rw [List.getElem_replicate]; rfl }, h.sub (by repeat (first | exact Sub.done | refine Sub.take (by first | exact .head | exact (.tail .head) | exact (.tail (.tail .head)) | exact (.tail (.tail (.tail .head))) | exact (.tail (.tail (.tail (.tail .head)))) | exact (.tail (.tail (.tail (.tail (.tail .head))))) | exact (.tail (.tail (.tail (.tail (.tail (.tail .head)))))) | exact (.tail (.tail (.tail (.tail (.tail (.tail (.tail .head))))))) | exact (.tail (.tail (.tail (.tail (.tail (.tail (.tail (.tail .head))))))))) ?_ | refine Sub.skip ?_))⟩ ?_
  rintro next s w ⟨i, d, D, dk, rfl, hi60, hi, hS, h⟩ hnext
  refine AnyP.go fun _ => JoinP.via (fun b w => b = decide (i < ops.length ∧ i < 60) ∧ Holds W w [Disk d D, RefB r D dk, old W]) ?_ fun J hJ => CondP.mk' (fun h1 => hJ _ _ ⟨?_, h⟩) (fun h1 => hJ _ _ ⟨?_, h⟩)
  rotate_left
  · have h1 := cT h1; simp only at h1
    exact decide_eq_decide.2 ⟨fun h => ⟨by omega, by omega⟩, fun h => by omega⟩
  · have h1 := cF h1; simp only at h1
    exact (decide_eq_false (fun h => by omega)).symm
  rintro _ w ⟨rfl, h⟩
  refine AnyP.go fun _ => JoinP.via (fun b w => b = decide (i < ops.length ∧ i < 60) ∧ Holds W w [Disk d D, RefB r D dk, old W]) ?_ fun J hJ => CondP.mk' (fun h1 => get_pure true (by kernel_rfl) (hJ _ _ ⟨by rw [h1], h⟩)) (fun h1 => hJ _ _ ⟨by rw [h1], h⟩)
  rintro _ w ⟨rfl, h⟩
  refine AnyP.go fun _ => CondP.mk' (fun hc => ?_) (fun hc => known_spec h fun w h => hk _ (h.sub (by repeat (first | exact Sub.done | refine Sub.take (by first | exact .head | exact (.tail .head) | exact (.tail (.tail .head)) | exact (.tail (.tail (.tail .head))) | exact (.tail (.tail (.tail (.tail .head)))) | exact (.tail (.tail (.tail (.tail (.tail .head))))) | exact (.tail (.tail (.tail (.tail (.tail (.tail .head)))))) | exact (.tail (.tail (.tail (.tail (.tail (.tail (.tail .head))))))) | exact (.tail (.tail (.tail (.tail (.tail (.tail (.tail (.tail .head))))))))) ?_ | refine Sub.skip ?_))))
  obtain ⟨hc1, hc2⟩ := cT hc
  clear hc
  have hokn := hops _ (List.getElem_mem hc1)
  refine JoinP.via (fun s w => ∃ (d : Nat) (D : DSt) (dk : List ByteArray), s = some ⟨d, 0, none⟩ ∧ St n (i + 1) D dk ∧ Holds W w [Disk d D, RefB r D dk, old W]) ?_ ?_
  · rintro s w ⟨d, D, dk, rfl, hS, h⟩
    refine AnyP.go fun _ => ?_
    rw [wrap_in _ (by simp only; omega)]
    exact hnext _ _ ⟨i + 1, d, D, dk, rfl, by omega, by omega, hS, h⟩ (by simp only; omega)
  intro J5 hJ5
  clear hnext
  have hO := (h.sub (M := old W :: []) (by repeat (first | exact Sub.done | refine Sub.take (by first | exact .head | exact (.tail .head) | exact (.tail (.tail .head)) | exact (.tail (.tail (.tail .head))) | exact (.tail (.tail (.tail (.tail .head)))) | exact (.tail (.tail (.tail (.tail (.tail .head))))) | exact (.tail (.tail (.tail (.tail (.tail (.tail .head)))))) | exact (.tail (.tail (.tail (.tail (.tail (.tail (.tail .head))))))) | exact (.tail (.tail (.tail (.tail (.tail (.tail (.tail (.tail .head))))))))) ?_ | refine Sub.skip ?_))).reads_old hs
  obtain ⟨b, off, hb⟩ := script_addr hs hc1
  generalize ho : ops[i] = o at *
  refine val_index (Te := 31) (sz := 4) (a := ⟨b, off, none⟩) (by kernel_rfl) (by kernel_rfl) hb (by omega) (by simp only; omega) ?_
  refine get_el_agg (P := Try.prog) (i := i * 4) (o.kind, o.at_, o.s, o.keep, ()) hO hb rfl (by kernel_rfl) (by kernel_rfl) (fun j hj => ?_) ?_
  · rw [script_cell hs hc1 j hj, ho]; rfl
  refine do_alloc (z := .agg #[.int .i64 0, .int .i64 0, .string ⟨#[]⟩, .slice none 0 0]) h (by kernel_rfl) fun b w h => ?_
  refine do_st_all h rfl .head (by kernel_rfl) rfl rfl (by intro v hv; simp at hv; rcases hv with rfl | rfl | rfl | rfl <;> rfl) fun w h => ?_
  refine get_ld h rfl .head (by kernel_rfl) (x := o.s) rfl ?_
  refine JoinP.via (fun _ w => Holds W w [pto b (.cells (opCells o) 31 (0, 0)), Disk d D, RefB r D dk, old W]) ?_ fun J hJ => CondP.mk' (fun h1 => hJ _ _ h) (fun h1 => get_ld h rfl .head (by kernel_rfl) (x := o.keep) rfl (hJ _ _ h))
  intro b77 w h
  refine AnyP.go fun _ => CondP.mk' (fun h1 => hJ5 _ _ ⟨d, D, dk, rfl, hS.mono (by omega), h.sub (by repeat (first | exact Sub.done | refine Sub.take (by first | exact .head | exact (.tail .head) | exact (.tail (.tail .head)) | exact (.tail (.tail (.tail .head))) | exact (.tail (.tail (.tail (.tail .head)))) | exact (.tail (.tail (.tail (.tail (.tail .head))))) | exact (.tail (.tail (.tail (.tail (.tail (.tail .head)))))) | exact (.tail (.tail (.tail (.tail (.tail (.tail (.tail .head))))))) | exact (.tail (.tail (.tail (.tail (.tail (.tail (.tail (.tail .head))))))))) ?_ | refine Sub.skip ?_))⟩) (fun h1 => ?_)
  refine JoinP.via (fun s w => ∃ (d : Nat) (D : DSt) (dk : List ByteArray), s = some ⟨d, 0, none⟩ ∧ St n (i + 1) D dk ∧ Holds W w [Disk d D, RefB r D dk, old W]) ?_ ?_
  · -- the two are compared
    clear h hS
    rintro s w ⟨d, D, dk, rfl, hS, h⟩
    have hDn : 0 < D.n := by rw [hS.n]; omega
    have hDl : D.cache.length ≤ 1073741824 := by have := hS.len; omega
    have hsame : ∀ x : ByteArray, (!(x.toList == x.toList)) = false := by intro x; simp
    refine AnyP.go fun _ => ?_
    refine Count_spec h fun w h => ?_
    obtain ⟨sd, sc, h⟩ := RefB.opened (h.sub (M := [RefB r D dk, Disk d D, old W]) (by repeat (first | exact Sub.done | refine Sub.take (by first | exact .head | exact (.tail .head) | exact (.tail (.tail .head)) | exact (.tail (.tail (.tail .head))) | exact (.tail (.tail (.tail (.tail .head)))) | exact (.tail (.tail (.tail (.tail (.tail .head))))) | exact (.tail (.tail (.tail (.tail (.tail (.tail .head)))))) | exact (.tail (.tail (.tail (.tail (.tail (.tail (.tail .head))))))) | exact (.tail (.tail (.tail (.tail (.tail (.tail (.tail (.tail .head))))))))) ?_ | refine Sub.skip ?_)))
    refine DrewP.go h fun w h => ?_
    refine val_nil ?_
    refine get_ld h rfl .head (by kernel_rfl) (x := D.writes) rfl ?_
    refine CondP.no (by simp) ?_
    refine val_nil ?_
    refine get_ld h rfl .head (by kernel_rfl) (x := D.flushes) rfl ?_
    refine CondP.no (by simp) ?_
    refine Dirty_spec (h.sub (M := [Disk d D, pto r (.cells (rcells sd sc D) 58 (0, 0)), ownS 9 1 sd (strs dk), ownS 68 2 sc (D.cache.flatMap encW), old W]) (by repeat (first | exact Sub.done | refine Sub.take (by first | exact .head | exact (.tail .head) | exact (.tail (.tail .head)) | exact (.tail (.tail (.tail .head))) | exact (.tail (.tail (.tail (.tail .head)))) | exact (.tail (.tail (.tail (.tail (.tail .head))))) | exact (.tail (.tail (.tail (.tail (.tail (.tail .head)))))) | exact (.tail (.tail (.tail (.tail (.tail (.tail (.tail .head))))))) | exact (.tail (.tail (.tail (.tail (.tail (.tail (.tail (.tail .head))))))))) ?_ | refine Sub.skip ?_))) hDn hDl fun sl w h => ?_
    refine chk_ld h rfl (.tail (.tail .head)) (by kernel_rfl) rfl ?_
    refine chk_ld h rfl (.tail (.tail .head)) (by kernel_rfl) rfl ?_
    have h := RefB.closed (h.sub (M := [pto r (.cells (rcells sd sc D) 58 (0, 0)), ownS 9 1 sd (strs dk), ownS 68 2 sc (D.cache.flatMap encW), ownS 3 1 sl (ints D.cache), Disk d D, old W]) (by repeat (first | exact Sub.done | refine Sub.take (by first | exact .head | exact (.tail .head) | exact (.tail (.tail .head)) | exact (.tail (.tail (.tail .head))) | exact (.tail (.tail (.tail (.tail .head)))) | exact (.tail (.tail (.tail (.tail (.tail .head))))) | exact (.tail (.tail (.tail (.tail (.tail (.tail .head)))))) | exact (.tail (.tail (.tail (.tail (.tail (.tail (.tail .head))))))) | exact (.tail (.tail (.tail (.tail (.tail (.tail (.tail (.tail .head))))))))) ?_ | refine Sub.skip ?_)))
    refine RDirty_spec h hDl fun sl2 w h => ?_
    obtain ⟨sd, sc, h⟩ := RefB.opened (h.sub (M := [RefB r D dk, ownS 3 1 sl2 (ints D.cache), ownS 3 1 sl (ints D.cache), Disk d D, old W]) (by repeat (first | exact Sub.done | refine Sub.take (by first | exact .head | exact (.tail .head) | exact (.tail (.tail .head)) | exact (.tail (.tail (.tail .head))) | exact (.tail (.tail (.tail (.tail .head)))) | exact (.tail (.tail (.tail (.tail (.tail .head))))) | exact (.tail (.tail (.tail (.tail (.tail (.tail .head)))))) | exact (.tail (.tail (.tail (.tail (.tail (.tail (.tail .head))))))) | exact (.tail (.tail (.tail (.tail (.tail (.tail (.tail (.tail .head))))))))) ?_ | refine Sub.skip ?_)))
    refine chk_ld h rfl .head (by kernel_rfl) rfl ?_
    refine chk_ld h rfl .head (by kernel_rfl) rfl ?_
    refine Ints_spec (x := D.cache.map (·.1)) (y := D.cache.map (·.1)) h (fun w h => by rw [nums_ints]; exact (h.pick (.tail (.tail (.tail (.tail .head))))).reads_own) (fun w h => by rw [nums_ints]; exact (h.pick (.tail (.tail (.tail .head)))).reads_own) (by rw [List.length_map]; exact hDl) fun w h => ?_
    refine chk_ld h rfl .head (by kernel_rfl) rfl ?_
    refine chk_ld h rfl .head (by kernel_rfl) rfl ?_
    refine CondP.no (by simp) ?_
    refine val_nil ?_
    refine get_ld h rfl .head (by kernel_rfl) (x := sd) rfl ?_
    have hld := (h.pick (.tail .head)).own_len
    rw [strs_len] at hld
    have hdl := hS.dl
    refine Len_spec' (h.sub (M := [Disk d D, pto r (.cells (rcells sd sc D) 58 (0, 0)), ownS 9 1 sd (strs dk), ownS 68 2 sc (D.cache.flatMap encW), old W]) (by repeat (first | exact Sub.done | refine Sub.take (by first | exact .head | exact (.tail .head) | exact (.tail (.tail .head)) | exact (.tail (.tail (.tail .head))) | exact (.tail (.tail (.tail (.tail .head)))) | exact (.tail (.tail (.tail (.tail (.tail .head))))) | exact (.tail (.tail (.tail (.tail (.tail (.tail .head)))))) | exact (.tail (.tail (.tail (.tail (.tail (.tail (.tail .head))))))) | exact (.tail (.tail (.tail (.tail (.tail (.tail (.tail (.tail .head))))))))) ?_ | refine Sub.skip ?_))) fun w h => ?_
    refine chk_ld h rfl (.tail .head) (by kernel_rfl) rfl ?_
    refine chk_ld h rfl (.tail .head) (by kernel_rfl) rfl ?_
    refine chk_ld h rfl (.tail .head) (by kernel_rfl) rfl ?_
    refine CondP.no ?_ ?_
    · have e : D.n = (sd.len : Int) := by omega
      rw [e]; simp
    have h := RefB.closed (h.sub (M := [pto r (.cells (rcells sd sc D) 58 (0, 0)), ownS 9 1 sd (strs dk), ownS 68 2 sc (D.cache.flatMap encW), Disk d D, old W]) (by repeat (first | exact Sub.done | refine Sub.take (by first | exact .head | exact (.tail .head) | exact (.tail (.tail .head)) | exact (.tail (.tail (.tail .head))) | exact (.tail (.tail (.tail (.tail .head)))) | exact (.tail (.tail (.tail (.tail (.tail .head))))) | exact (.tail (.tail (.tail (.tail (.tail (.tail .head)))))) | exact (.tail (.tail (.tail (.tail (.tail (.tail (.tail .head))))))) | exact (.tail (.tail (.tail (.tail (.tail (.tail (.tail (.tail .head))))))))) ?_ | refine Sub.skip ?_)))
    refine LoopP.inv (fun t w => ∃ j : Nat, t = j ∧ Holds W w [Disk d D, RefB r D dk, old W]) (fun t _ => 12 - t.toNat) ⟨0, rfl, h.sub (by repeat (first | exact Sub.done | refine Sub.take (by first | exact .head | exact (.tail .head) | exact (.tail (.tail .head)) | exact (.tail (.tail (.tail .head))) | exact (.tail (.tail (.tail (.tail .head)))) | exact (.tail (.tail (.tail (.tail (.tail .head))))) | exact (.tail (.tail (.tail (.tail (.tail (.tail .head)))))) | exact (.tail (.tail (.tail (.tail (.tail (.tail (.tail .head))))))) | exact (.tail (.tail (.tail (.tail (.tail (.tail (.tail (.tail .head))))))))) ?_ | refine Sub.skip ?_))⟩ ?_
    rintro next2 t w ⟨j, rfl, h⟩ hnext2
    refine AnyP.go fun _ => JoinP.via (fun b w => b = decide ((j : Int) < n ∧ (j : Int) < 12) ∧ Holds W w [Disk d D, RefB r D dk, old W]) ?_ fun J hJ => CondP.mk' (fun h1 => hJ _ _ ⟨?_, h⟩) (fun h1 => hJ _ _ ⟨?_, h⟩)
    rotate_left
    · have h1 := cT h1
      exact decide_eq_decide.2 ⟨fun h => ⟨h1, h⟩, fun h => h.2⟩
    · have h1 := cF h1
      exact (decide_eq_false (fun h => h1 h.1)).symm
    rintro _ w ⟨rfl, h⟩
    refine AnyP.go fun _ => CondP.mk' (fun hc => ?_) (fun _ => hJ5 _ _ ⟨d, D, dk, rfl, hS, h⟩)
    obtain ⟨hj1, hj2⟩ := cT hc
    refine Read_spec h hDn hDl fun w h => ?_
    refine RRead_spec (h.sub (M := [RefB r D dk, Disk d D, old W]) (by repeat (first | exact Sub.done | refine Sub.take (by first | exact .head | exact (.tail .head) | exact (.tail (.tail .head)) | exact (.tail (.tail (.tail .head))) | exact (.tail (.tail (.tail (.tail .head)))) | exact (.tail (.tail (.tail (.tail (.tail .head))))) | exact (.tail (.tail (.tail (.tail (.tail (.tail .head)))))) | exact (.tail (.tail (.tail (.tail (.tail (.tail (.tail .head))))))) | exact (.tail (.tail (.tail (.tail (.tail (.tail (.tail (.tail .head))))))))) ?_ | refine Sub.skip ?_))) hS.dl hS.rel hDl fun w h => ?_
    refine CondP.no (hsame _) ?_
    rw [wrap_in _ (by omega)]
    exact hnext2 _ _ ⟨j + 1, rfl, h.sub (by repeat (first | exact Sub.done | refine Sub.take (by first | exact .head | exact (.tail .head) | exact (.tail (.tail .head)) | exact (.tail (.tail (.tail .head))) | exact (.tail (.tail (.tail (.tail .head)))) | exact (.tail (.tail (.tail (.tail (.tail .head))))) | exact (.tail (.tail (.tail (.tail (.tail (.tail .head)))))) | exact (.tail (.tail (.tail (.tail (.tail (.tail (.tail .head))))))) | exact (.tail (.tail (.tail (.tail (.tail (.tail (.tail (.tail .head))))))))) ?_ | refine Sub.skip ?_))⟩ (by omega)
  · intro J7 hJ7
    have go : ∀ (d : Nat) (D : DSt) (dk : List ByteArray) (w : World), St n (i + 1) D dk → Holds W w [Disk d D, RefB r D dk, old W] → J7 (some ⟨d, 0, none⟩) w := fun d D dk w h1 h2 => hJ7 _ _ ⟨d, D, dk, rfl, h1, h2⟩
    clear hJ7 hJ5
    have hDn : 0 < D.n := by rw [hS.n]; omega
    have hDl : D.cache.length ≤ 1073741824 := by have := hS.len; omega
    have hsame : ∀ x : ByteArray, (!(x.toList == x.toList)) = false := by intro x; simp
    refine get_ld h rfl .head (by kernel_rfl) (x := o.kind) rfl ?_
    refine CondP.mk' (fun _ => ?_) (fun _ => CondP.mk' (fun _ => ?_) (fun _ => CondP.mk' (fun _ => ?_) (fun _ => CondP.mk' (fun _ => ?_) (fun _ => CondP.mk' (fun _ => ?_) (fun _ => ?_)))))
    · -- a write
      refine DrewP.go h fun w h => ?_
      refine get_ld h rfl .head (by kernel_rfl) (x := o.at_) rfl ?_
      refine get_ld h rfl .head (by kernel_rfl) (x := o.s) rfl ?_
      refine get_ld h rfl .head (by kernel_rfl) (x := o.at_) rfl ?_
      refine get_ld h rfl .head (by kernel_rfl) (x := o.s) rfl ?_
      refine Write_spec (h.sub (M := [Disk d D, pto b (.cells (opCells o) 31 (0, 0)), RefB r D dk, old W]) (by repeat (first | exact Sub.done | refine Sub.take (by first | exact .head | exact (.tail .head) | exact (.tail (.tail .head)) | exact (.tail (.tail (.tail .head))) | exact (.tail (.tail (.tail (.tail .head)))) | exact (.tail (.tail (.tail (.tail (.tail .head))))) | exact (.tail (.tail (.tail (.tail (.tail (.tail .head)))))) | exact (.tail (.tail (.tail (.tail (.tail (.tail (.tail .head))))))) | exact (.tail (.tail (.tail (.tail (.tail (.tail (.tail (.tail .head))))))))) ?_ | refine Sub.skip ?_))) hDn hDl fun w h => ?_
      refine chk_ld h rfl (.tail .head) (by kernel_rfl) rfl ?_
      refine chk_ld h rfl (.tail .head) (by kernel_rfl) rfl ?_
      refine RWrite_spec (h.sub (M := [RefB r D dk, Disk d (wr D o.at_ o.s).2, old W]) (by repeat (first | exact Sub.done | refine Sub.take (by first | exact .head | exact (.tail .head) | exact (.tail (.tail .head)) | exact (.tail (.tail (.tail .head))) | exact (.tail (.tail (.tail (.tail .head)))) | exact (.tail (.tail (.tail (.tail (.tail .head))))) | exact (.tail (.tail (.tail (.tail (.tail (.tail .head)))))) | exact (.tail (.tail (.tail (.tail (.tail (.tail (.tail .head))))))) | exact (.tail (.tail (.tail (.tail (.tail (.tail (.tail (.tail .head))))))))) ?_ | refine Sub.skip ?_))) hS.dl hDl fun w h => ?_
      refine CondP.no (by simp) ?_
      exact go _ _ _ _ (hS.wr _ _) (h.sub (by repeat (first | exact Sub.done | refine Sub.take (by first | exact .head | exact (.tail .head) | exact (.tail (.tail .head)) | exact (.tail (.tail (.tail .head))) | exact (.tail (.tail (.tail (.tail .head)))) | exact (.tail (.tail (.tail (.tail (.tail .head))))) | exact (.tail (.tail (.tail (.tail (.tail (.tail .head)))))) | exact (.tail (.tail (.tail (.tail (.tail (.tail (.tail .head))))))) | exact (.tail (.tail (.tail (.tail (.tail (.tail (.tail (.tail .head))))))))) ?_ | refine Sub.skip ?_)))
    · -- a read
      refine get_ld h rfl .head (by kernel_rfl) (x := o.at_) rfl ?_
      refine Read_spec (h.sub (M := [Disk d D, pto b (.cells (opCells o) 31 (0, 0)), RefB r D dk, old W]) (by repeat (first | exact Sub.done | refine Sub.take (by first | exact .head | exact (.tail .head) | exact (.tail (.tail .head)) | exact (.tail (.tail (.tail .head))) | exact (.tail (.tail (.tail (.tail .head)))) | exact (.tail (.tail (.tail (.tail (.tail .head))))) | exact (.tail (.tail (.tail (.tail (.tail (.tail .head)))))) | exact (.tail (.tail (.tail (.tail (.tail (.tail (.tail .head))))))) | exact (.tail (.tail (.tail (.tail (.tail (.tail (.tail (.tail .head))))))))) ?_ | refine Sub.skip ?_))) hDn hDl fun w h => ?_
      refine get_ld h rfl (.tail .head) (by kernel_rfl) (x := o.at_) rfl ?_
      refine RRead_spec (h.sub (M := [RefB r D dk, Disk d D, old W]) (by repeat (first | exact Sub.done | refine Sub.take (by first | exact .head | exact (.tail .head) | exact (.tail (.tail .head)) | exact (.tail (.tail (.tail .head))) | exact (.tail (.tail (.tail (.tail .head)))) | exact (.tail (.tail (.tail (.tail (.tail .head))))) | exact (.tail (.tail (.tail (.tail (.tail (.tail .head)))))) | exact (.tail (.tail (.tail (.tail (.tail (.tail (.tail .head))))))) | exact (.tail (.tail (.tail (.tail (.tail (.tail (.tail (.tail .head))))))))) ?_ | refine Sub.skip ?_))) hS.dl hS.rel hDl fun w h => ?_
      refine JoinP.go (CondP.no (hsame _) (AnyP.go fun _ => CondP.no (by simp) ?_))
      exact go _ _ _ _ (hS.mono (by omega)) (h.sub (by repeat (first | exact Sub.done | refine Sub.take (by first | exact .head | exact (.tail .head) | exact (.tail (.tail .head)) | exact (.tail (.tail (.tail .head))) | exact (.tail (.tail (.tail (.tail .head)))) | exact (.tail (.tail (.tail (.tail (.tail .head))))) | exact (.tail (.tail (.tail (.tail (.tail (.tail .head)))))) | exact (.tail (.tail (.tail (.tail (.tail (.tail (.tail .head))))))) | exact (.tail (.tail (.tail (.tail (.tail (.tail (.tail (.tail .head))))))))) ?_ | refine Sub.skip ?_)))
    · -- a flush
      refine Flush_spec (h.sub (M := [Disk d D, RefB r D dk, old W]) (by repeat (first | exact Sub.done | refine Sub.take (by first | exact .head | exact (.tail .head) | exact (.tail (.tail .head)) | exact (.tail (.tail (.tail .head))) | exact (.tail (.tail (.tail (.tail .head)))) | exact (.tail (.tail (.tail (.tail (.tail .head))))) | exact (.tail (.tail (.tail (.tail (.tail (.tail .head)))))) | exact (.tail (.tail (.tail (.tail (.tail (.tail (.tail .head))))))) | exact (.tail (.tail (.tail (.tail (.tail (.tail (.tail (.tail .head))))))))) ?_ | refine Sub.skip ?_))) hDn hDl fun w h => ?_
      refine RFlush_spec (h.sub (M := [RefB r D dk, Disk d (fl D).2, old W]) (by repeat (first | exact Sub.done | refine Sub.take (by first | exact .head | exact (.tail .head) | exact (.tail (.tail .head)) | exact (.tail (.tail (.tail .head))) | exact (.tail (.tail (.tail (.tail .head)))) | exact (.tail (.tail (.tail (.tail (.tail .head))))) | exact (.tail (.tail (.tail (.tail (.tail (.tail .head)))))) | exact (.tail (.tail (.tail (.tail (.tail (.tail (.tail .head))))))) | exact (.tail (.tail (.tail (.tail (.tail (.tail (.tail (.tail .head))))))))) ?_ | refine Sub.skip ?_))) hS.inn hS.dl hS.rel hS.wf.keys hDl fun dk' w h1 h2 h => ?_
      refine CondP.no (by simp) ?_
      exact go _ _ _ _ (hS.fl h1 h2) (h.sub (by repeat (first | exact Sub.done | refine Sub.take (by first | exact .head | exact (.tail .head) | exact (.tail (.tail .head)) | exact (.tail (.tail (.tail .head))) | exact (.tail (.tail (.tail (.tail .head)))) | exact (.tail (.tail (.tail (.tail (.tail .head))))) | exact (.tail (.tail (.tail (.tail (.tail (.tail .head)))))) | exact (.tail (.tail (.tail (.tail (.tail (.tail (.tail .head))))))) | exact (.tail (.tail (.tail (.tail (.tail (.tail (.tail (.tail .head))))))))) ?_ | refine Sub.skip ?_)))
    · -- a crash
      obtain ⟨_, kl, hkr, hkl, _⟩ := hokn
      refine DrewP.go h fun w h => ?_
      refine get_ld h rfl .head (by kernel_rfl) (x := o.keep) rfl ?_
      refine get_ld h rfl .head (by kernel_rfl) (x := o.keep) rfl ?_
      refine Crash_spec (A := old W) (keep := kl) (h.sub (M := [Disk d D, old W, pto b (.cells (opCells o) 31 (0, 0)), RefB r D dk]) (by repeat (first | exact Sub.done | refine Sub.take (by first | exact .head | exact (.tail .head) | exact (.tail (.tail .head)) | exact (.tail (.tail (.tail .head))) | exact (.tail (.tail (.tail (.tail .head)))) | exact (.tail (.tail (.tail (.tail (.tail .head))))) | exact (.tail (.tail (.tail (.tail (.tail (.tail .head)))))) | exact (.tail (.tail (.tail (.tail (.tail (.tail (.tail .head))))))) | exact (.tail (.tail (.tail (.tail (.tail (.tail (.tail (.tail .head))))))))) ?_ | refine Sub.skip ?_))) hDn hDl (fun w L h => h.reads_old hkr) hkl fun w h => ?_
      refine chk_ld h rfl (.tail (.tail .head)) (by kernel_rfl) rfl ?_
      refine RCrash_spec (A := old W) (keep := kl) (h.sub (M := [RefB r D dk, old W, Disk d (cr D kl).2]) (by repeat (first | exact Sub.done | refine Sub.take (by first | exact .head | exact (.tail .head) | exact (.tail (.tail .head)) | exact (.tail (.tail (.tail .head))) | exact (.tail (.tail (.tail (.tail .head)))) | exact (.tail (.tail (.tail (.tail (.tail .head))))) | exact (.tail (.tail (.tail (.tail (.tail (.tail .head)))))) | exact (.tail (.tail (.tail (.tail (.tail (.tail (.tail .head))))))) | exact (.tail (.tail (.tail (.tail (.tail (.tail (.tail (.tail .head))))))))) ?_ | refine Sub.skip ?_))) hS.inn hS.dl hS.rel hS.wf.keys hDl (fun w L h => h.reads_old hkr) hkl fun dk' w h1 h2 h => ?_
      refine CondP.no (by simp) ?_
      exact go _ _ _ _ (hS.cr h1 h2) (h.sub (by repeat (first | exact Sub.done | refine Sub.take (by first | exact .head | exact (.tail .head) | exact (.tail (.tail .head)) | exact (.tail (.tail (.tail .head))) | exact (.tail (.tail (.tail (.tail .head)))) | exact (.tail (.tail (.tail (.tail (.tail .head))))) | exact (.tail (.tail (.tail (.tail (.tail (.tail .head)))))) | exact (.tail (.tail (.tail (.tail (.tail (.tail (.tail .head))))))) | exact (.tail (.tail (.tail (.tail (.tail (.tail (.tail (.tail .head))))))))) ?_ | refine Sub.skip ?_)))
    · -- a fuse
      refine get_ld h rfl .head (by kernel_rfl) (x := o.at_) rfl ?_
      refine Fuse_spec (h.sub (M := [Disk d D, pto b (.cells (opCells o) 31 (0, 0)), RefB r D dk, old W]) (by repeat (first | exact Sub.done | refine Sub.take (by first | exact .head | exact (.tail .head) | exact (.tail (.tail .head)) | exact (.tail (.tail (.tail .head))) | exact (.tail (.tail (.tail (.tail .head)))) | exact (.tail (.tail (.tail (.tail (.tail .head))))) | exact (.tail (.tail (.tail (.tail (.tail (.tail .head)))))) | exact (.tail (.tail (.tail (.tail (.tail (.tail (.tail .head))))))) | exact (.tail (.tail (.tail (.tail (.tail (.tail (.tail (.tail .head))))))))) ?_ | refine Sub.skip ?_))) hDn fun w h => ?_
      refine get_ld h rfl (.tail .head) (by kernel_rfl) (x := o.at_) rfl ?_
      refine RFuse_spec (h.sub (M := [RefB r D dk, Disk d (fuseD D o.at_), old W]) (by repeat (first | exact Sub.done | refine Sub.take (by first | exact .head | exact (.tail .head) | exact (.tail (.tail .head)) | exact (.tail (.tail (.tail .head))) | exact (.tail (.tail (.tail (.tail .head)))) | exact (.tail (.tail (.tail (.tail (.tail .head))))) | exact (.tail (.tail (.tail (.tail (.tail (.tail .head)))))) | exact (.tail (.tail (.tail (.tail (.tail (.tail (.tail .head))))))) | exact (.tail (.tail (.tail (.tail (.tail (.tail (.tail (.tail .head))))))))) ?_ | refine Sub.skip ?_))) fun w h => ?_
      exact go _ _ _ _ (hS.fuse _) (h.sub (by repeat (first | exact Sub.done | refine Sub.take (by first | exact .head | exact (.tail .head) | exact (.tail (.tail .head)) | exact (.tail (.tail (.tail .head))) | exact (.tail (.tail (.tail (.tail .head)))) | exact (.tail (.tail (.tail (.tail (.tail .head))))) | exact (.tail (.tail (.tail (.tail (.tail (.tail .head)))))) | exact (.tail (.tail (.tail (.tail (.tail (.tail (.tail .head))))))) | exact (.tail (.tail (.tail (.tail (.tail (.tail (.tail (.tail .head))))))))) ?_ | refine Sub.skip ?_)))
    · -- a copy takes the disk's place
      refine Copy_spec (h.sub (M := [Disk d D, pto b (.cells (opCells o) 31 (0, 0)), RefB r D dk, old W]) (by repeat (first | exact Sub.done | refine Sub.take (by first | exact .head | exact (.tail .head) | exact (.tail (.tail .head)) | exact (.tail (.tail (.tail .head))) | exact (.tail (.tail (.tail (.tail .head)))) | exact (.tail (.tail (.tail (.tail (.tail .head))))) | exact (.tail (.tail (.tail (.tail (.tail (.tail .head)))))) | exact (.tail (.tail (.tail (.tail (.tail (.tail (.tail .head))))))) | exact (.tail (.tail (.tail (.tail (.tail (.tail (.tail (.tail .head))))))))) ?_ | refine Sub.skip ?_))) hDn hDl hS.wf fun d' m' w hm' hsm h => ?_
      refine get_ld h rfl (.tail (.tail .head)) (by kernel_rfl) (x := o.at_) rfl ?_
      refine Write_spec (h.sub (M := [Disk d D, Disk d' { D with m := m' }, RefB r D dk, old W]) (by repeat (first | exact Sub.done | refine Sub.take (by first | exact .head | exact (.tail .head) | exact (.tail (.tail .head)) | exact (.tail (.tail (.tail .head))) | exact (.tail (.tail (.tail (.tail .head)))) | exact (.tail (.tail (.tail (.tail (.tail .head))))) | exact (.tail (.tail (.tail (.tail (.tail (.tail .head)))))) | exact (.tail (.tail (.tail (.tail (.tail (.tail (.tail .head))))))) | exact (.tail (.tail (.tail (.tail (.tail (.tail (.tail (.tail .head))))))))) ?_ | refine Sub.skip ?_))) hDn hDl fun w h => ?_
      have h3 := (hS.wr o.at_ ⟨#[108, 111, 115, 116]⟩)
      refine Flush_spec h (by rw [h3.n]; omega) (by have := h3.len; omega) fun w h => ?_
      refine get_pure false (by kernel_rfl) ?_
      refine CondP.no rfl ?_
      have h4 := h.sub (M := [Disk d' { D with m := m' }, RefB r D dk, old W]) (by repeat (first | exact Sub.done | refine Sub.take (by first | exact .head | exact (.tail .head) | exact (.tail (.tail .head)) | exact (.tail (.tail (.tail .head))) | exact (.tail (.tail (.tail (.tail .head)))) | exact (.tail (.tail (.tail (.tail (.tail .head))))) | exact (.tail (.tail (.tail (.tail (.tail (.tail .head)))))) | exact (.tail (.tail (.tail (.tail (.tail (.tail (.tail .head))))))) | exact (.tail (.tail (.tail (.tail (.tail (.tail (.tail (.tail .head))))))))) ?_ | refine Sub.skip ?_))
      rw [← RefB.congr r D m' dk] at h4
      exact go _ _ _ _ (hS.copy hm' hsm) h4
end Go.Proofs.Ytebicdddbeneoaa
