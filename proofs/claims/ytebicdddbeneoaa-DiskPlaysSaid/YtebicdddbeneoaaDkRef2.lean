/- The reference beside the disk: flush, crash, fuse, new. -/
import Derived.Test.YtebicdddbeneoaaDkRef
namespace Go.Proofs.Ytebicdddbeneoaa
open Go.Sh
attribute [local irreducible] pto rob old ownS roS hstar hex hpure hemp mapB Disk RefB

theorem RelM.lay {m : MS} {dk : List ByteArray} (h : RelM m dk) (hk : keysOk m) {c : Int × ByteArray} {j : Nat} (hj : c.1 = j) : RelM (layM m c) (dk.set j c.2) := by
  intro i hi
  rw [List.length_set] at hi
  rw [lay_base c i hk, List.getElem_set]
  by_cases e : j = i
  · rw [if_pos e, if_pos (by omega)]
  · rw [if_neg e, if_neg (by omega)]; exact h i hi

theorem strs_set (dk : List ByteArray) (j : Nat) (v : ByteArray) : (strs dk).set (j * 1) (.string v) = strs (dk.set j v) := by
  rw [Nat.mul_one, strs, strs, List.map_set]

section
variable {E w : World} {L : List HProp} {r : Nat} {D : DSt} {dk : List ByteArray}

theorem RFlush_spec {k : Int → Pr} (h : Holds E w (RefB r D dk :: L)) (hin : ∀ c ∈ D.cache, 0 ≤ c.1 ∧ c.1 < D.n) (hn : (dk.length : Int) = D.n) (hr : RelM D.m dk) (hkeys : keysOk D.m) (hcl : D.cache.length ≤ 1073741824)
    (hk : ∀ dk' w', (dk'.length : Int) = D.n → RelM (fl D).2.m dk' → Holds E w' (RefB r (fl D).2 dk' :: L) → k (fl D).1 w') : CallP Try.prog 22 #[.pointer (some ⟨r, 0, none⟩)] tInt k w := by
  refine rd22 _ _ _ ?_
  unfold sh22
  refine RBurn_spec h (fun h2 w h => ?_) (fun h2 w h => ?_)
  · have e : fl D = (6, D) := by rw [fl, if_pos h2]
    rw [e] at hk
    exact CondP.yes rfl (hk dk _ hn hr h)
  have e : fl D = (0, { D with left := IntKind.i64.wrap (D.left - 1), m := D.cache.foldl layM D.m, cache := [], flushes := IntKind.i64.wrap (D.flushes + 1) }) := by rw [fl, if_neg (by simp [h2])]
  rw [e] at hk
  refine CondP.no rfl ?_
  obtain ⟨sd, sc, h⟩ := RefB.opened h
  have hld := (h.pick (.tail .head)).own_len
  rw [strs_len] at hld
  have hlc := (h.pick (.tail (.tail .head))).own_len
  rw [flat_len encW 2 encW_len] at hlc
  have hc2 : sc.len = D.cache.length := by have := hlc.1; simp only at this; omega
  have hd2 : sd.len = dk.length := by omega
  refine LoopP.inv (fun t w => ∃ (i : Nat) (dk' : List ByteArray), t = i ∧ i ≤ D.cache.length ∧ dk'.length = dk.length ∧ RelM ((D.cache.take i).foldl layM D.m) dk' ∧
      Holds E w (pto r (.cells (rcells sd sc { D with left := IntKind.i64.wrap (D.left - 1) }) 58 (0, 0)) :: ownS 9 1 sd (strs dk') :: ownS 68 2 sc (D.cache.flatMap encW) :: L))
    (fun t _ => D.cache.length - t.toNat) ⟨0, dk, rfl, Nat.zero_le _, rfl, hr, h⟩ ?_
  rintro next t w ⟨i, dk', rfl, hi, hdl, hR, h⟩ hnext
  refine AnyP.go fun _ => ?_
  repeat (first | refine val_nil ?_ | refine get_ld h rfl (by first | exact .head | exact (.tail .head) | exact (.tail (.tail .head)) | exact (.tail (.tail (.tail .head))) | exact (.tail (.tail (.tail (.tail .head)))) | exact (.tail (.tail (.tail (.tail (.tail .head))))) | exact (.tail (.tail (.tail (.tail (.tail (.tail .head)))))) | exact (.tail (.tail (.tail (.tail (.tail (.tail (.tail .head))))))) | exact (.tail (.tail (.tail (.tail (.tail (.tail (.tail (.tail .head))))))))) (by kernel_rfl) rfl ?_ | (refine do_st h rfl (by first | exact .head | exact (.tail .head) | exact (.tail (.tail .head)) | exact (.tail (.tail (.tail .head))) | exact (.tail (.tail (.tail (.tail .head)))) | exact (.tail (.tail (.tail (.tail (.tail .head))))) | exact (.tail (.tail (.tail (.tail (.tail (.tail .head)))))) | exact (.tail (.tail (.tail (.tail (.tail (.tail (.tail .head))))))) | exact (.tail (.tail (.tail (.tail (.tail (.tail (.tail (.tail .head))))))))) (by kernel_rfl) rfl rfl ?_; intro w h) | (refine DrewP.go h ?_; intro w h) | (refine AnyP.go ?_; intro _) | refine chk_ld h rfl (by first | exact .head | exact (.tail .head) | exact (.tail (.tail .head)) | exact (.tail (.tail (.tail .head))) | exact (.tail (.tail (.tail (.tail .head)))) | exact (.tail (.tail (.tail (.tail (.tail .head))))) | exact (.tail (.tail (.tail (.tail (.tail (.tail .head)))))) | exact (.tail (.tail (.tail (.tail (.tail (.tail (.tail .head))))))) | exact (.tail (.tail (.tail (.tail (.tail (.tail (.tail (.tail .head))))))))) (by kernel_rfl) rfl ?_)
  refine CondP.mk' (fun h1 => ?_) (fun h1 => ?_)
  · have h1 : i < D.cache.length := by have := cT h1; simp only [hc2] at this; omega
    have hO := h.sub (M := ownS 68 2 sc (D.cache.flatMap encW) :: _) (by repeat (first | exact Sub.done | refine Sub.take (by first | exact .head | exact (.tail .head) | exact (.tail (.tail .head)) | exact (.tail (.tail (.tail .head))) | exact (.tail (.tail (.tail (.tail .head)))) | exact (.tail (.tail (.tail (.tail (.tail .head))))) | exact (.tail (.tail (.tail (.tail (.tail (.tail .head)))))) | exact (.tail (.tail (.tail (.tail (.tail (.tail (.tail .head))))))) | exact (.tail (.tail (.tail (.tail (.tail (.tail (.tail (.tail .head))))))))) ?_ | refine Sub.skip ?_))
    obtain ⟨b0, o0, ha⟩ := hO.reads_own.addr (by intro he; have := flat_len encW 2 encW_len D.cache; rw [he] at this; simp at this; omega)
    repeat (first | refine val_nil ?_ | refine get_ld h rfl (by first | exact .head | exact (.tail .head) | exact (.tail (.tail .head)) | exact (.tail (.tail (.tail .head))) | exact (.tail (.tail (.tail (.tail .head)))) | exact (.tail (.tail (.tail (.tail (.tail .head))))) | exact (.tail (.tail (.tail (.tail (.tail (.tail .head)))))) | exact (.tail (.tail (.tail (.tail (.tail (.tail (.tail .head))))))) | exact (.tail (.tail (.tail (.tail (.tail (.tail (.tail (.tail .head))))))))) (by kernel_rfl) rfl ?_ | (refine do_st h rfl (by first | exact .head | exact (.tail .head) | exact (.tail (.tail .head)) | exact (.tail (.tail (.tail .head))) | exact (.tail (.tail (.tail (.tail .head)))) | exact (.tail (.tail (.tail (.tail (.tail .head))))) | exact (.tail (.tail (.tail (.tail (.tail (.tail .head)))))) | exact (.tail (.tail (.tail (.tail (.tail (.tail (.tail .head))))))) | exact (.tail (.tail (.tail (.tail (.tail (.tail (.tail (.tail .head))))))))) (by kernel_rfl) rfl rfl ?_; intro w h) | (refine DrewP.go h ?_; intro w h) | (refine AnyP.go ?_; intro _) | refine chk_ld h rfl (by first | exact .head | exact (.tail .head) | exact (.tail (.tail .head)) | exact (.tail (.tail (.tail .head))) | exact (.tail (.tail (.tail (.tail .head)))) | exact (.tail (.tail (.tail (.tail (.tail .head))))) | exact (.tail (.tail (.tail (.tail (.tail (.tail .head)))))) | exact (.tail (.tail (.tail (.tail (.tail (.tail (.tail .head))))))) | exact (.tail (.tail (.tail (.tail (.tail (.tail (.tail (.tail .head))))))))) (by kernel_rfl) rfl ?_)
    have hO := h.sub (M := ownS 68 2 sc (D.cache.flatMap encW) :: _) (by repeat (first | exact Sub.done | refine Sub.take (by first | exact .head | exact (.tail .head) | exact (.tail (.tail .head)) | exact (.tail (.tail (.tail .head))) | exact (.tail (.tail (.tail (.tail .head)))) | exact (.tail (.tail (.tail (.tail (.tail .head))))) | exact (.tail (.tail (.tail (.tail (.tail (.tail .head)))))) | exact (.tail (.tail (.tail (.tail (.tail (.tail (.tail .head))))))) | exact (.tail (.tail (.tail (.tail (.tail (.tail (.tail (.tail .head))))))))) ?_ | refine Sub.skip ?_))
    refine val_index (Te := 68) (sz := 2) (a := ⟨b0, o0, none⟩) (by kernel_rfl) (by kernel_rfl) ha (by omega) (by show (i : Int) < (sc.len : Int); omega) ?_
    refine get_el (P := Try.prog) (i := i * 2 + 0) D.cache[i].1 hO.reads_own ha (Addr.add_add _ _ _ rfl) (by kernel_rfl) (by rw [flat_get encW 2 encW_len _ _ _ (by omega), List.getElem?_eq_getElem h1]; rfl) ?_
    repeat (first | refine val_nil ?_ | refine get_ld h rfl (by first | exact .head | exact (.tail .head) | exact (.tail (.tail .head)) | exact (.tail (.tail (.tail .head))) | exact (.tail (.tail (.tail (.tail .head)))) | exact (.tail (.tail (.tail (.tail (.tail .head))))) | exact (.tail (.tail (.tail (.tail (.tail (.tail .head)))))) | exact (.tail (.tail (.tail (.tail (.tail (.tail (.tail .head))))))) | exact (.tail (.tail (.tail (.tail (.tail (.tail (.tail (.tail .head))))))))) (by kernel_rfl) rfl ?_ | (refine do_st h rfl (by first | exact .head | exact (.tail .head) | exact (.tail (.tail .head)) | exact (.tail (.tail (.tail .head))) | exact (.tail (.tail (.tail (.tail .head)))) | exact (.tail (.tail (.tail (.tail (.tail .head))))) | exact (.tail (.tail (.tail (.tail (.tail (.tail .head)))))) | exact (.tail (.tail (.tail (.tail (.tail (.tail (.tail .head))))))) | exact (.tail (.tail (.tail (.tail (.tail (.tail (.tail (.tail .head))))))))) (by kernel_rfl) rfl rfl ?_; intro w h) | (refine DrewP.go h ?_; intro w h) | (refine AnyP.go ?_; intro _) | refine chk_ld h rfl (by first | exact .head | exact (.tail .head) | exact (.tail (.tail .head)) | exact (.tail (.tail (.tail .head))) | exact (.tail (.tail (.tail (.tail .head)))) | exact (.tail (.tail (.tail (.tail (.tail .head))))) | exact (.tail (.tail (.tail (.tail (.tail (.tail .head)))))) | exact (.tail (.tail (.tail (.tail (.tail (.tail (.tail .head))))))) | exact (.tail (.tail (.tail (.tail (.tail (.tail (.tail (.tail .head))))))))) (by kernel_rfl) rfl ?_)
    refine val_index (Te := 68) (sz := 2) (a := ⟨b0, o0, none⟩) (by kernel_rfl) (by kernel_rfl) ha (by omega) (by show (i : Int) < (sc.len : Int); omega) ?_
    refine get_el (P := Try.prog) (i := i * 2 + 1) D.cache[i].2 hO.reads_own ha (Addr.add_add _ _ _ rfl) (by kernel_rfl) (by rw [flat_get encW 2 encW_len _ _ _ (by omega), List.getElem?_eq_getElem h1]; rfl) ?_
    have hc := hin _ (List.getElem_mem h1)
    have hlay : (D.cache.take (i + 1)).foldl layM D.m = layM ((D.cache.take i).foldl layM D.m) D.cache[i] := by rw [List.take_succ_eq_append_getElem h1, List.foldl_append]; rfl
    obtain ⟨j, hj⟩ := Int.eq_ofNat_of_zero_le hc.1
    have hjl : j < dk'.length := by omega
    have hR' : RelM ((D.cache.take (i + 1)).foldl layM D.m) (dk'.set j D.cache[i].2) := by rw [hlay]; exact hR.lay (fold_keys _ _ hkeys) hj
    rw [hj]
    obtain ⟨b1, o1, hb1⟩ := (h.pick (.tail .head)).reads_own.addr (by intro he; have := strs_len dk'; rw [he] at this; simp at this; omega)
    refine val_index (Te := 9) (sz := 1) (a := ⟨b1, o1, none⟩) (by kernel_rfl) (by kernel_rfl) hb1 (by omega) (by show (j : Int) < (sd.len : Int); omega) ?_
    refine do_set_el (i := j * 1) h (.tail .head) hb1 rfl (by rw [strs_len]; omega) (by kernel_rfl) rfl fun w h => ?_
    rw [strs_set] at h
    rw [wrap_in _ (by omega)]
    exact hnext _ _ ⟨i + 1, _, rfl, h1, by rw [List.length_set]; exact hdl, hR', h.sub (by repeat (first | exact Sub.done | refine Sub.take (by first | exact .head | exact (.tail .head) | exact (.tail (.tail .head)) | exact (.tail (.tail (.tail .head))) | exact (.tail (.tail (.tail (.tail .head)))) | exact (.tail (.tail (.tail (.tail (.tail .head))))) | exact (.tail (.tail (.tail (.tail (.tail (.tail .head)))))) | exact (.tail (.tail (.tail (.tail (.tail (.tail (.tail .head))))))) | exact (.tail (.tail (.tail (.tail (.tail (.tail (.tail (.tail .head))))))))) ?_ | refine Sub.skip ?_))⟩ (by omega)
  · have h1 : i = D.cache.length := by have := cF h1; simp only [hc2] at this; omega
    subst h1
    rw [List.take_length] at hR
    repeat (first | refine val_nil ?_ | refine get_ld h rfl (by first | exact .head | exact (.tail .head) | exact (.tail (.tail .head)) | exact (.tail (.tail (.tail .head))) | exact (.tail (.tail (.tail (.tail .head)))) | exact (.tail (.tail (.tail (.tail (.tail .head))))) | exact (.tail (.tail (.tail (.tail (.tail (.tail .head)))))) | exact (.tail (.tail (.tail (.tail (.tail (.tail (.tail .head))))))) | exact (.tail (.tail (.tail (.tail (.tail (.tail (.tail (.tail .head))))))))) (by kernel_rfl) rfl ?_ | (refine do_st h rfl (by first | exact .head | exact (.tail .head) | exact (.tail (.tail .head)) | exact (.tail (.tail (.tail .head))) | exact (.tail (.tail (.tail (.tail .head)))) | exact (.tail (.tail (.tail (.tail (.tail .head))))) | exact (.tail (.tail (.tail (.tail (.tail (.tail .head)))))) | exact (.tail (.tail (.tail (.tail (.tail (.tail (.tail .head))))))) | exact (.tail (.tail (.tail (.tail (.tail (.tail (.tail (.tail .head))))))))) (by kernel_rfl) rfl rfl ?_; intro w h) | (refine DrewP.go h ?_; intro w h) | (refine AnyP.go ?_; intro _) | refine chk_ld h rfl (by first | exact .head | exact (.tail .head) | exact (.tail (.tail .head)) | exact (.tail (.tail (.tail .head))) | exact (.tail (.tail (.tail (.tail .head)))) | exact (.tail (.tail (.tail (.tail (.tail .head))))) | exact (.tail (.tail (.tail (.tail (.tail (.tail .head)))))) | exact (.tail (.tail (.tail (.tail (.tail (.tail (.tail .head))))))) | exact (.tail (.tail (.tail (.tail (.tail (.tail (.tail (.tail .head))))))))) (by kernel_rfl) rfl ?_)
    refine hk dk' _ (by omega) hR (RefB.closed (sd := sd) (sc := ⟨none, 0, 0⟩) ((h.sub (M := pto r _ :: ownS 9 1 sd (strs dk') :: L) (by repeat (first | exact Sub.done | refine Sub.take (by first | exact .head | exact (.tail .head) | exact (.tail (.tail .head)) | exact (.tail (.tail (.tail .head))) | exact (.tail (.tail (.tail (.tail .head)))) | exact (.tail (.tail (.tail (.tail (.tail .head))))) | exact (.tail (.tail (.tail (.tail (.tail (.tail .head)))))) | exact (.tail (.tail (.tail (.tail (.tail (.tail (.tail .head))))))) | exact (.tail (.tail (.tail (.tail (.tail (.tail (.tail (.tail .head))))))))) ?_ | refine Sub.skip ?_))).own_nil (T := 68) (sz := 2) |>.sub ?_))
    exact (by repeat (first | exact Sub.done | refine Sub.take (by first | exact .head | exact (.tail .head) | exact (.tail (.tail .head)) | exact (.tail (.tail (.tail .head))) | exact (.tail (.tail (.tail (.tail .head)))) | exact (.tail (.tail (.tail (.tail (.tail .head))))) | exact (.tail (.tail (.tail (.tail (.tail (.tail .head)))))) | exact (.tail (.tail (.tail (.tail (.tail (.tail (.tail .head))))))) | exact (.tail (.tail (.tail (.tail (.tail (.tail (.tail (.tail .head))))))))) ?_ | refine Sub.skip ?_))

theorem RCrash_spec {A : HProp} {s : Sl} {keep : List Bool} {k : Int → Pr} (h : Holds E w (RefB r D dk :: A :: L)) (hin : ∀ c ∈ D.cache, 0 ≤ c.1 ∧ c.1 < D.n) (hn : (dk.length : Int) = D.n) (hr : RelM D.m dk) (hkeys : keysOk D.m) (hcl : D.cache.length ≤ 1073741824)
    (hA : ∀ (w : World) (L : List HProp), Holds E w (A :: L) → Reads w s 1 (bools keep)) (hkl : s.len = keep.length)
    (hk : ∀ dk' w', (dk'.length : Int) = D.n → RelM (cr D keep).2.m dk' → Holds E w' (RefB r (cr D keep).2 dk' :: A :: L) → k (cr D keep).1 w') : CallP Try.prog 23 #[.pointer (some ⟨r, 0, none⟩), .slice s.a s.len s.cap] tInt k w := by
  refine rd23 _ _ _ _ ?_
  unfold sh23
  obtain ⟨sd, sc, h⟩ := RefB.opened h
  have hld := (h.pick (.tail .head)).own_len
  rw [strs_len] at hld
  have hlc := (h.pick (.tail (.tail .head))).own_len
  rw [flat_len encW 2 encW_len] at hlc
  have hc2 : sc.len = D.cache.length := by have := hlc.1; omega
  have hd2 : sd.len = dk.length := by omega
  repeat (first | refine val_nil ?_ | refine get_ld h rfl (by first | exact .head | exact (.tail .head) | exact (.tail (.tail .head)) | exact (.tail (.tail (.tail .head))) | exact (.tail (.tail (.tail (.tail .head)))) | exact (.tail (.tail (.tail (.tail (.tail .head))))) | exact (.tail (.tail (.tail (.tail (.tail (.tail .head)))))) | exact (.tail (.tail (.tail (.tail (.tail (.tail (.tail .head))))))) | exact (.tail (.tail (.tail (.tail (.tail (.tail (.tail (.tail .head))))))))) (by kernel_rfl) rfl ?_ | (refine do_st h rfl (by first | exact .head | exact (.tail .head) | exact (.tail (.tail .head)) | exact (.tail (.tail (.tail .head))) | exact (.tail (.tail (.tail (.tail .head)))) | exact (.tail (.tail (.tail (.tail (.tail .head))))) | exact (.tail (.tail (.tail (.tail (.tail (.tail .head)))))) | exact (.tail (.tail (.tail (.tail (.tail (.tail (.tail .head))))))) | exact (.tail (.tail (.tail (.tail (.tail (.tail (.tail (.tail .head))))))))) (by kernel_rfl) rfl rfl ?_; intro w h) | (refine DrewP.go h ?_; intro w h) | (refine AnyP.go ?_; intro _) | refine chk_ld h rfl (by first | exact .head | exact (.tail .head) | exact (.tail (.tail .head)) | exact (.tail (.tail (.tail .head))) | exact (.tail (.tail (.tail (.tail .head)))) | exact (.tail (.tail (.tail (.tail (.tail .head))))) | exact (.tail (.tail (.tail (.tail (.tail (.tail .head)))))) | exact (.tail (.tail (.tail (.tail (.tail (.tail (.tail .head))))))) | exact (.tail (.tail (.tail (.tail (.tail (.tail (.tail (.tail .head))))))))) (by kernel_rfl) rfl ?_)
  refine CondP.mk' (fun h2 => ?_) (fun h2 => ?_)
  · have h2 : D.cache.length < keep.length := by have := cT h2; simp only [hc2] at this; omega
    have e : cr D keep = (1, D) := by rw [cr, if_pos h2]
    rw [e] at hk
    exact hk dk _ hn hr (RefB.closed h)
  have h2 : ¬ D.cache.length < keep.length := by have := cF h2; simp only [hc2] at this; omega
  have e : cr D keep = (0, { D with m := (keep.zip D.cache).foldl crM D.m, cache := [], fused := false }) := by rw [cr, if_neg h2]
  rw [e] at hk
  have hzl : (keep.zip D.cache).length = keep.length := by rw [List.length_zip]; omega
  refine LoopP.inv (fun t w => ∃ (i : Nat) (dk' : List ByteArray), t = i ∧ i ≤ keep.length ∧ dk'.length = dk.length ∧ RelM (((keep.zip D.cache).take i).foldl crM D.m) dk' ∧
      Holds E w (pto r (.cells (rcells sd sc D) 58 (0, 0)) :: ownS 9 1 sd (strs dk') :: ownS 68 2 sc (D.cache.flatMap encW) :: A :: L))
    (fun t _ => keep.length - t.toNat) ⟨0, dk, rfl, Nat.zero_le _, rfl, hr, h⟩ ?_
  rintro next t w ⟨i, dk', rfl, hi, hdl, hR, h⟩ hnext
  refine AnyP.go fun _ => CondP.mk' (fun h1 => ?_) (fun h1 => ?_)
  · have h1 : i < keep.length := by have := cT h1; omega
    have h1' : i < D.cache.length := by omega
    refine JoinP.go ?_
    have hK := hA w _ (h.sub (M := A :: _) (by repeat (first | exact Sub.done | refine Sub.take (by first | exact .head | exact (.tail .head) | exact (.tail (.tail .head)) | exact (.tail (.tail (.tail .head))) | exact (.tail (.tail (.tail (.tail .head)))) | exact (.tail (.tail (.tail (.tail (.tail .head))))) | exact (.tail (.tail (.tail (.tail (.tail (.tail .head)))))) | exact (.tail (.tail (.tail (.tail (.tail (.tail (.tail .head))))))) | exact (.tail (.tail (.tail (.tail (.tail (.tail (.tail (.tail .head))))))))) ?_ | refine Sub.skip ?_)))
    obtain ⟨b2, o2, hb2⟩ := hK.addr (by intro he; have : (bools keep).length = keep.length := List.length_map ..; rw [he] at this; simp at this; omega)
    refine val_index (Te := 4) (sz := 1) (a := ⟨b2, o2, none⟩) (by kernel_rfl) (by kernel_rfl) hb2 (by omega) (by omega) ?_
    refine get_el (P := Try.prog) (i := i * 1) keep[i] hK hb2 rfl (by kernel_rfl) (by simp [bools, h1, Leaf.val]) ?_
    have hstep : ((keep.zip D.cache).take (i + 1)).foldl crM D.m = crM (((keep.zip D.cache).take i).foldl crM D.m) (keep[i], D.cache[i]) := by
      rw [crash_inv _ _ i (by rw [hzl]; exact h1), List.getElem_zip]
    refine CondP.mk' (fun h3 => ?_) (fun h3 => ?_)
    · repeat (first | refine val_nil ?_ | refine get_ld h rfl (by first | exact .head | exact (.tail .head) | exact (.tail (.tail .head)) | exact (.tail (.tail (.tail .head))) | exact (.tail (.tail (.tail (.tail .head)))) | exact (.tail (.tail (.tail (.tail (.tail .head))))) | exact (.tail (.tail (.tail (.tail (.tail (.tail .head)))))) | exact (.tail (.tail (.tail (.tail (.tail (.tail (.tail .head))))))) | exact (.tail (.tail (.tail (.tail (.tail (.tail (.tail (.tail .head))))))))) (by kernel_rfl) rfl ?_ | (refine do_st h rfl (by first | exact .head | exact (.tail .head) | exact (.tail (.tail .head)) | exact (.tail (.tail (.tail .head))) | exact (.tail (.tail (.tail (.tail .head)))) | exact (.tail (.tail (.tail (.tail (.tail .head))))) | exact (.tail (.tail (.tail (.tail (.tail (.tail .head)))))) | exact (.tail (.tail (.tail (.tail (.tail (.tail (.tail .head))))))) | exact (.tail (.tail (.tail (.tail (.tail (.tail (.tail (.tail .head))))))))) (by kernel_rfl) rfl rfl ?_; intro w h) | (refine DrewP.go h ?_; intro w h) | (refine AnyP.go ?_; intro _) | refine chk_ld h rfl (by first | exact .head | exact (.tail .head) | exact (.tail (.tail .head)) | exact (.tail (.tail (.tail .head))) | exact (.tail (.tail (.tail (.tail .head)))) | exact (.tail (.tail (.tail (.tail (.tail .head))))) | exact (.tail (.tail (.tail (.tail (.tail (.tail .head)))))) | exact (.tail (.tail (.tail (.tail (.tail (.tail (.tail .head))))))) | exact (.tail (.tail (.tail (.tail (.tail (.tail (.tail (.tail .head))))))))) (by kernel_rfl) rfl ?_)
      have hO := h.sub (M := ownS 68 2 sc (D.cache.flatMap encW) :: _) (by repeat (first | exact Sub.done | refine Sub.take (by first | exact .head | exact (.tail .head) | exact (.tail (.tail .head)) | exact (.tail (.tail (.tail .head))) | exact (.tail (.tail (.tail (.tail .head)))) | exact (.tail (.tail (.tail (.tail (.tail .head))))) | exact (.tail (.tail (.tail (.tail (.tail (.tail .head)))))) | exact (.tail (.tail (.tail (.tail (.tail (.tail (.tail .head))))))) | exact (.tail (.tail (.tail (.tail (.tail (.tail (.tail (.tail .head))))))))) ?_ | refine Sub.skip ?_))
      obtain ⟨b0, o0, ha⟩ := hO.reads_own.addr (by intro he; have := flat_len encW 2 encW_len D.cache; rw [he] at this; simp at this; omega)
      refine val_index (Te := 68) (sz := 2) (a := ⟨b0, o0, none⟩) (by kernel_rfl) (by kernel_rfl) ha (by omega) (by show (i : Int) < (sc.len : Int); omega) ?_
      refine get_el (P := Try.prog) (i := i * 2 + 0) D.cache[i].1 hO.reads_own ha (Addr.add_add _ _ _ rfl) (by kernel_rfl) (by rw [flat_get encW 2 encW_len _ _ _ (by omega), List.getElem?_eq_getElem h1']; rfl) ?_
      repeat (first | refine val_nil ?_ | refine get_ld h rfl (by first | exact .head | exact (.tail .head) | exact (.tail (.tail .head)) | exact (.tail (.tail (.tail .head))) | exact (.tail (.tail (.tail (.tail .head)))) | exact (.tail (.tail (.tail (.tail (.tail .head))))) | exact (.tail (.tail (.tail (.tail (.tail (.tail .head)))))) | exact (.tail (.tail (.tail (.tail (.tail (.tail (.tail .head))))))) | exact (.tail (.tail (.tail (.tail (.tail (.tail (.tail (.tail .head))))))))) (by kernel_rfl) rfl ?_ | (refine do_st h rfl (by first | exact .head | exact (.tail .head) | exact (.tail (.tail .head)) | exact (.tail (.tail (.tail .head))) | exact (.tail (.tail (.tail (.tail .head)))) | exact (.tail (.tail (.tail (.tail (.tail .head))))) | exact (.tail (.tail (.tail (.tail (.tail (.tail .head)))))) | exact (.tail (.tail (.tail (.tail (.tail (.tail (.tail .head))))))) | exact (.tail (.tail (.tail (.tail (.tail (.tail (.tail (.tail .head))))))))) (by kernel_rfl) rfl rfl ?_; intro w h) | (refine DrewP.go h ?_; intro w h) | (refine AnyP.go ?_; intro _) | refine chk_ld h rfl (by first | exact .head | exact (.tail .head) | exact (.tail (.tail .head)) | exact (.tail (.tail (.tail .head))) | exact (.tail (.tail (.tail (.tail .head)))) | exact (.tail (.tail (.tail (.tail (.tail .head))))) | exact (.tail (.tail (.tail (.tail (.tail (.tail .head)))))) | exact (.tail (.tail (.tail (.tail (.tail (.tail (.tail .head))))))) | exact (.tail (.tail (.tail (.tail (.tail (.tail (.tail (.tail .head))))))))) (by kernel_rfl) rfl ?_)
      refine val_index (Te := 68) (sz := 2) (a := ⟨b0, o0, none⟩) (by kernel_rfl) (by kernel_rfl) ha (by omega) (by show (i : Int) < (sc.len : Int); omega) ?_
      refine get_el (P := Try.prog) (i := i * 2 + 1) D.cache[i].2 hO.reads_own ha (Addr.add_add _ _ _ rfl) (by kernel_rfl) (by rw [flat_get encW 2 encW_len _ _ _ (by omega), List.getElem?_eq_getElem h1']; rfl) ?_
      have hc := hin _ (List.getElem_mem h1')
      obtain ⟨j, hj⟩ := Int.eq_ofNat_of_zero_le hc.1
      have hjl : j < dk'.length := by omega
      have hR' : RelM (((keep.zip D.cache).take (i + 1)).foldl crM D.m) (dk'.set j D.cache[i].2) := by
        rw [hstep, crM, if_pos h3]
        exact hR.lay (crash_keys _ _ hkeys) hj
      rw [hj]
      obtain ⟨b1, o1, hb1⟩ := (h.pick (.tail .head)).reads_own.addr (by intro he; have := strs_len dk'; rw [he] at this; simp at this; omega)
      refine val_index (Te := 9) (sz := 1) (a := ⟨b1, o1, none⟩) (by kernel_rfl) (by kernel_rfl) hb1 (by omega) (by show (j : Int) < (sd.len : Int); omega) ?_
      refine do_set_el (i := j * 1) h (.tail .head) hb1 rfl (by rw [strs_len]; omega) (by kernel_rfl) rfl fun w h => ?_
      rw [strs_set] at h
      refine AnyP.go fun _ => ?_
      rw [wrap_in _ (by omega)]
      exact hnext _ _ ⟨i + 1, _, rfl, h1, by rw [List.length_set]; exact hdl, hR', h.sub (by repeat (first | exact Sub.done | refine Sub.take (by first | exact .head | exact (.tail .head) | exact (.tail (.tail .head)) | exact (.tail (.tail (.tail .head))) | exact (.tail (.tail (.tail (.tail .head)))) | exact (.tail (.tail (.tail (.tail (.tail .head))))) | exact (.tail (.tail (.tail (.tail (.tail (.tail .head)))))) | exact (.tail (.tail (.tail (.tail (.tail (.tail (.tail .head))))))) | exact (.tail (.tail (.tail (.tail (.tail (.tail (.tail (.tail .head))))))))) ?_ | refine Sub.skip ?_))⟩ (by omega)
    · refine AnyP.go fun _ => ?_
      rw [wrap_in _ (by omega)]
      refine hnext _ _ ⟨i + 1, dk', rfl, h1, hdl, ?_, h⟩ (by omega)
      rw [hstep, crM, if_neg (by rw [h3]; exact Bool.false_ne_true)]
      exact hR
  · have h1 : i = keep.length := by have := cF h1; omega
    subst h1
    rw [← hzl, List.take_length] at hR
    repeat (first | refine val_nil ?_ | refine get_ld h rfl (by first | exact .head | exact (.tail .head) | exact (.tail (.tail .head)) | exact (.tail (.tail (.tail .head))) | exact (.tail (.tail (.tail (.tail .head)))) | exact (.tail (.tail (.tail (.tail (.tail .head))))) | exact (.tail (.tail (.tail (.tail (.tail (.tail .head)))))) | exact (.tail (.tail (.tail (.tail (.tail (.tail (.tail .head))))))) | exact (.tail (.tail (.tail (.tail (.tail (.tail (.tail (.tail .head))))))))) (by kernel_rfl) rfl ?_ | (refine do_st h rfl (by first | exact .head | exact (.tail .head) | exact (.tail (.tail .head)) | exact (.tail (.tail (.tail .head))) | exact (.tail (.tail (.tail (.tail .head)))) | exact (.tail (.tail (.tail (.tail (.tail .head))))) | exact (.tail (.tail (.tail (.tail (.tail (.tail .head)))))) | exact (.tail (.tail (.tail (.tail (.tail (.tail (.tail .head))))))) | exact (.tail (.tail (.tail (.tail (.tail (.tail (.tail (.tail .head))))))))) (by kernel_rfl) rfl rfl ?_; intro w h) | (refine DrewP.go h ?_; intro w h) | (refine AnyP.go ?_; intro _) | refine chk_ld h rfl (by first | exact .head | exact (.tail .head) | exact (.tail (.tail .head)) | exact (.tail (.tail (.tail .head))) | exact (.tail (.tail (.tail (.tail .head)))) | exact (.tail (.tail (.tail (.tail (.tail .head))))) | exact (.tail (.tail (.tail (.tail (.tail (.tail .head)))))) | exact (.tail (.tail (.tail (.tail (.tail (.tail (.tail .head))))))) | exact (.tail (.tail (.tail (.tail (.tail (.tail (.tail (.tail .head))))))))) (by kernel_rfl) rfl ?_)
    refine hk dk' _ (by omega) hR (RefB.closed (sd := sd) (sc := ⟨none, 0, 0⟩) ((h.sub (M := pto r _ :: ownS 9 1 sd (strs dk') :: A :: L) (by repeat (first | exact Sub.done | refine Sub.take (by first | exact .head | exact (.tail .head) | exact (.tail (.tail .head)) | exact (.tail (.tail (.tail .head))) | exact (.tail (.tail (.tail (.tail .head)))) | exact (.tail (.tail (.tail (.tail (.tail .head))))) | exact (.tail (.tail (.tail (.tail (.tail (.tail .head)))))) | exact (.tail (.tail (.tail (.tail (.tail (.tail (.tail .head))))))) | exact (.tail (.tail (.tail (.tail (.tail (.tail (.tail (.tail .head))))))))) ?_ | refine Sub.skip ?_))).own_nil (T := 68) (sz := 2) |>.sub ?_))
    exact (by repeat (first | exact Sub.done | refine Sub.take (by first | exact .head | exact (.tail .head) | exact (.tail (.tail .head)) | exact (.tail (.tail (.tail .head))) | exact (.tail (.tail (.tail (.tail .head)))) | exact (.tail (.tail (.tail (.tail (.tail .head))))) | exact (.tail (.tail (.tail (.tail (.tail (.tail .head)))))) | exact (.tail (.tail (.tail (.tail (.tail (.tail (.tail .head))))))) | exact (.tail (.tail (.tail (.tail (.tail (.tail (.tail (.tail .head))))))))) ?_ | refine Sub.skip ?_))

def fuseD (D : DSt) (x : Int) : DSt := { D with fused := true, left := if (0 : Int) > x then 0 else x }
theorem Fuse_spec {d : Nat} {x : Int} {k : Unit → Pr} (h : Holds E w (Disk d D :: L)) (hn : 0 < D.n) (hk : ∀ w', Holds E w' (Disk d (fuseD D x) :: L) → k () w') :
    CallP Try.prog 24 #[.pointer (some ⟨d, 0, none⟩), .int .i64 x] (.tup []) k w := by
  obtain ⟨r, c, h⟩ := Disk.opened h
  refine rd24 _ _ _ _ ?_
  unfold sh24
  refine Len_spec h .head rfl ?_
  refine CondP.yes (decide_eq_true hn) ?_
  repeat (first | refine val_nil ?_ | refine get_ld h rfl (by first | exact .head | exact (.tail .head) | exact (.tail (.tail .head)) | exact (.tail (.tail (.tail .head))) | exact (.tail (.tail (.tail (.tail .head)))) | exact (.tail (.tail (.tail (.tail (.tail .head))))) | exact (.tail (.tail (.tail (.tail (.tail (.tail .head)))))) | exact (.tail (.tail (.tail (.tail (.tail (.tail (.tail .head))))))) | exact (.tail (.tail (.tail (.tail (.tail (.tail (.tail (.tail .head))))))))) (by kernel_rfl) rfl ?_ | (refine do_st h rfl (by first | exact .head | exact (.tail .head) | exact (.tail (.tail .head)) | exact (.tail (.tail (.tail .head))) | exact (.tail (.tail (.tail (.tail .head)))) | exact (.tail (.tail (.tail (.tail (.tail .head))))) | exact (.tail (.tail (.tail (.tail (.tail (.tail .head)))))) | exact (.tail (.tail (.tail (.tail (.tail (.tail (.tail .head))))))) | exact (.tail (.tail (.tail (.tail (.tail (.tail (.tail (.tail .head))))))))) (by kernel_rfl) rfl rfl ?_; intro w h) | (refine DrewP.go h ?_; intro w h) | (refine AnyP.go ?_; intro _) | refine chk_ld h rfl (by first | exact .head | exact (.tail .head) | exact (.tail (.tail .head)) | exact (.tail (.tail (.tail .head))) | exact (.tail (.tail (.tail (.tail .head)))) | exact (.tail (.tail (.tail (.tail (.tail .head))))) | exact (.tail (.tail (.tail (.tail (.tail (.tail .head)))))) | exact (.tail (.tail (.tail (.tail (.tail (.tail (.tail .head))))))) | exact (.tail (.tail (.tail (.tail (.tail (.tail (.tail (.tail .head))))))))) (by kernel_rfl) rfl ?_)
  exact hk _ (Disk.closed (r := r) (c := c) h)
theorem RFuse_spec {x : Int} {k : Unit → Pr} (h : Holds E w (RefB r D dk :: L)) (hk : ∀ w', Holds E w' (RefB r (fuseD D x) dk :: L) → k () w') :
    CallP Try.prog 25 #[.pointer (some ⟨r, 0, none⟩), .int .i64 x] (.tup []) k w := by
  obtain ⟨sd, sc, h⟩ := RefB.opened h
  refine rd25 _ _ _ _ ?_
  unfold sh25
  have e : (if x > 0 then x else 0 : Int) = (if (0 : Int) > x then 0 else x) := by
    by_cases h1 : x > 0
    · rw [if_pos h1, if_neg (by omega)]
    · rw [if_neg h1]
      by_cases h2 : (0 : Int) > x
      · rw [if_pos h2]
      · rw [if_neg h2]; omega
  rw [e]
  repeat (first | refine val_nil ?_ | refine get_ld h rfl (by first | exact .head | exact (.tail .head) | exact (.tail (.tail .head)) | exact (.tail (.tail (.tail .head))) | exact (.tail (.tail (.tail (.tail .head)))) | exact (.tail (.tail (.tail (.tail (.tail .head))))) | exact (.tail (.tail (.tail (.tail (.tail (.tail .head)))))) | exact (.tail (.tail (.tail (.tail (.tail (.tail (.tail .head))))))) | exact (.tail (.tail (.tail (.tail (.tail (.tail (.tail (.tail .head))))))))) (by kernel_rfl) rfl ?_ | (refine do_st h rfl (by first | exact .head | exact (.tail .head) | exact (.tail (.tail .head)) | exact (.tail (.tail (.tail .head))) | exact (.tail (.tail (.tail (.tail .head)))) | exact (.tail (.tail (.tail (.tail (.tail .head))))) | exact (.tail (.tail (.tail (.tail (.tail (.tail .head)))))) | exact (.tail (.tail (.tail (.tail (.tail (.tail (.tail .head))))))) | exact (.tail (.tail (.tail (.tail (.tail (.tail (.tail (.tail .head))))))))) (by kernel_rfl) rfl rfl ?_; intro w h) | (refine DrewP.go h ?_; intro w h) | (refine AnyP.go ?_; intro _) | refine chk_ld h rfl (by first | exact .head | exact (.tail .head) | exact (.tail (.tail .head)) | exact (.tail (.tail (.tail .head))) | exact (.tail (.tail (.tail (.tail .head)))) | exact (.tail (.tail (.tail (.tail (.tail .head))))) | exact (.tail (.tail (.tail (.tail (.tail (.tail .head)))))) | exact (.tail (.tail (.tail (.tail (.tail (.tail (.tail .head))))))) | exact (.tail (.tail (.tail (.tail (.tail (.tail (.tail (.tail .head))))))))) (by kernel_rfl) rfl ?_)
  exact hk _ (RefB.closed (sd := sd) (sc := sc) h)

theorem RNew_spec {n : Int} {k : (Option Addr × Int × Unit) → Pr} (h : Holds E w L) (hbad : (n < 1 ∨ 4096 < n) → ∀ a w', Holds E w' L → k (some a, 1, ()) w')
    (hk : 1 ≤ n → n ≤ 4096 → ∀ r w', Holds E w' (RefB r (D0 n) (List.replicate n.toNat zeros) :: L) → k (some ⟨r, 0, none⟩, 0, ()) w') : CallP Try.prog 19 #[.int .i64 n] (.tup [.leaf .ptr, .leaf (.int .i64)]) k w := by
  refine rd19 _ _ _ ?_
  unfold sh19
  refine do_box h fun r w h => ?_
  refine JoinP.via (fun b w => b = decide (n < 1 ∨ 4096 < n) ∧ Holds E w (pto r (.cells (rcells ⟨none, 0, 0⟩ ⟨none, 0, 0⟩ (D0 n)) 58 (0, 0)) :: L)) ?_ fun J hJ => CondP.mk' (fun hb => hJ _ _ ⟨?_, h⟩) (fun hb => hJ _ _ ⟨?_, h⟩)
  rotate_left
  · have := cT hb; exact (decide_eq_true (by omega)).symm
  · have := cF hb; exact decide_eq_decide.2 ⟨fun h => by omega, fun h => by omega⟩
  rintro _ w ⟨rfl, h⟩
  refine AnyP.go fun _ => CondP.mk' (fun hb => hbad (cT hb) _ _ h.drop) (fun hb => ?_)
  have hb := cF hb
  obtain ⟨N, rfl⟩ := Int.eq_ofNat_of_zero_le (show 0 ≤ n by omega)
  refine Pad_spec h (by decide) ?_
  refine LoopP.inv (fun t w => ∃ (i : Nat) (sd : Sl), t = i ∧ i ≤ N ∧ Holds E w (pto r (.cells (rcells sd ⟨none, 0, 0⟩ (D0 N)) 58 (0, 0)) :: ownS 9 1 sd (strs (List.replicate i zeros)) :: L))
    (fun t _ => N - t.toNat) ⟨0, ⟨none, 0, 0⟩, rfl, Nat.zero_le _, (h.own_nil (T := 9) (sz := 1)).swap⟩ ?_
  rintro next t w ⟨i, sd, rfl, hi, h⟩ hnext
  refine AnyP.go fun _ => CondP.mk' (fun h1 => ?_) (fun h1 => ?_)
  · have h1 : i < N := by have := cT h1; omega
    have hld := (h.pick (.tail .head)).own_len
    rw [strs_len, List.length_replicate] at hld
    repeat (first | refine val_nil ?_ | refine get_ld h rfl (by first | exact .head | exact (.tail .head) | exact (.tail (.tail .head)) | exact (.tail (.tail (.tail .head))) | exact (.tail (.tail (.tail (.tail .head)))) | exact (.tail (.tail (.tail (.tail (.tail .head))))) | exact (.tail (.tail (.tail (.tail (.tail (.tail .head)))))) | exact (.tail (.tail (.tail (.tail (.tail (.tail (.tail .head))))))) | exact (.tail (.tail (.tail (.tail (.tail (.tail (.tail (.tail .head))))))))) (by kernel_rfl) rfl ?_ | (refine do_st h rfl (by first | exact .head | exact (.tail .head) | exact (.tail (.tail .head)) | exact (.tail (.tail (.tail .head))) | exact (.tail (.tail (.tail (.tail .head)))) | exact (.tail (.tail (.tail (.tail (.tail .head))))) | exact (.tail (.tail (.tail (.tail (.tail (.tail .head)))))) | exact (.tail (.tail (.tail (.tail (.tail (.tail (.tail .head))))))) | exact (.tail (.tail (.tail (.tail (.tail (.tail (.tail (.tail .head))))))))) (by kernel_rfl) rfl rfl ?_; intro w h) | (refine DrewP.go h ?_; intro w h) | (refine AnyP.go ?_; intro _) | refine chk_ld h rfl (by first | exact .head | exact (.tail .head) | exact (.tail (.tail .head)) | exact (.tail (.tail (.tail .head))) | exact (.tail (.tail (.tail (.tail .head)))) | exact (.tail (.tail (.tail (.tail (.tail .head))))) | exact (.tail (.tail (.tail (.tail (.tail (.tail .head)))))) | exact (.tail (.tail (.tail (.tail (.tail (.tail (.tail .head))))))) | exact (.tail (.tail (.tail (.tail (.tail (.tail (.tail (.tail .head))))))))) (by kernel_rfl) rfl ?_)
    rw [zeros_pad]
    refine do_build (Te := 9) (sz := 1) (len := 1) (strs [zeros]) h (by kernel_rfl) rfl fun t w ht h => ?_
    refine do_append (Te2 := 9) h (.tail (.tail .head)) (by kernel_rfl) (by kernel_rfl) elemS h.reads_own (by intro v hv; simp [strs] at hv; subst hv; rfl) (by rw [ht]; simp only; omega) (by rw [ht]; simp only; omega) fun s' w hs' h => ?_
    repeat (first | refine val_nil ?_ | refine get_ld h rfl (by first | exact .head | exact (.tail .head) | exact (.tail (.tail .head)) | exact (.tail (.tail (.tail .head))) | exact (.tail (.tail (.tail (.tail .head)))) | exact (.tail (.tail (.tail (.tail (.tail .head))))) | exact (.tail (.tail (.tail (.tail (.tail (.tail .head)))))) | exact (.tail (.tail (.tail (.tail (.tail (.tail (.tail .head))))))) | exact (.tail (.tail (.tail (.tail (.tail (.tail (.tail (.tail .head))))))))) (by kernel_rfl) rfl ?_ | (refine do_st h rfl (by first | exact .head | exact (.tail .head) | exact (.tail (.tail .head)) | exact (.tail (.tail (.tail .head))) | exact (.tail (.tail (.tail (.tail .head)))) | exact (.tail (.tail (.tail (.tail (.tail .head))))) | exact (.tail (.tail (.tail (.tail (.tail (.tail .head)))))) | exact (.tail (.tail (.tail (.tail (.tail (.tail (.tail .head))))))) | exact (.tail (.tail (.tail (.tail (.tail (.tail (.tail (.tail .head))))))))) (by kernel_rfl) rfl rfl ?_; intro w h) | (refine DrewP.go h ?_; intro w h) | (refine AnyP.go ?_; intro _) | refine chk_ld h rfl (by first | exact .head | exact (.tail .head) | exact (.tail (.tail .head)) | exact (.tail (.tail (.tail .head))) | exact (.tail (.tail (.tail (.tail .head)))) | exact (.tail (.tail (.tail (.tail (.tail .head))))) | exact (.tail (.tail (.tail (.tail (.tail (.tail .head)))))) | exact (.tail (.tail (.tail (.tail (.tail (.tail (.tail .head))))))) | exact (.tail (.tail (.tail (.tail (.tail (.tail (.tail (.tail .head))))))))) (by kernel_rfl) rfl ?_)
    rw [wrap_in _ (by omega)]
    refine hnext _ _ ⟨i + 1, s', rfl, h1, h.sub ?_⟩ (by omega)
    have e : strs (List.replicate (i + 1) zeros) = strs (List.replicate i zeros) ++ strs [zeros] := by rw [List.replicate_succ', strs_append]
    rw [e]
    exact (by repeat (first | exact Sub.done | refine Sub.take (by first | exact .head | exact (.tail .head) | exact (.tail (.tail .head)) | exact (.tail (.tail (.tail .head))) | exact (.tail (.tail (.tail (.tail .head)))) | exact (.tail (.tail (.tail (.tail (.tail .head))))) | exact (.tail (.tail (.tail (.tail (.tail (.tail .head)))))) | exact (.tail (.tail (.tail (.tail (.tail (.tail (.tail .head))))))) | exact (.tail (.tail (.tail (.tail (.tail (.tail (.tail (.tail .head))))))))) ?_ | refine Sub.skip ?_))
  · have h1 : i = N := by have := cF h1; omega
    subst h1
    refine hk (by omega) (by omega) r _ ?_
    rw [Int.toNat_natCast]
    exact RefB.closed (sd := sd) (sc := ⟨none, 0, 0⟩) ((h.own_nil (T := 68) (sz := 2)).sub (by repeat (first | exact Sub.done | refine Sub.take (by first | exact .head | exact (.tail .head) | exact (.tail (.tail .head)) | exact (.tail (.tail (.tail .head))) | exact (.tail (.tail (.tail (.tail .head)))) | exact (.tail (.tail (.tail (.tail (.tail .head))))) | exact (.tail (.tail (.tail (.tail (.tail (.tail .head)))))) | exact (.tail (.tail (.tail (.tail (.tail (.tail (.tail .head))))))) | exact (.tail (.tail (.tail (.tail (.tail (.tail (.tail (.tail .head))))))))) ?_ | refine Sub.skip ?_)))
end
end Go.Proofs.Ytebicdddbeneoaa
