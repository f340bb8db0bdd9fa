/- The disk: a copy. -/
import Derived.Test.YtebicdddbeneoaaDk5
import Derived.Test.YtebicdddbeneoaaShN
namespace Go.Proofs.Ytebicdddbeneoaa
open Go.Sh
attribute [local irreducible] pto rob old ownS roS hstar hex hpure hemp mapB Disk

/-- what a map of sectors keeps -/
structure WfM (m : MS) : Prop where
  keys : keysOk m
  st : Stamped m.1 m.2
theorem WfM.nil : WfM ([], 0) := ⟨List.nodup_nil, .nil⟩
theorem WfM.set {m : MS} (h : WfM m) (x : Int) (v : ByteArray) : WfM (mset eqInt x v m.1 m.2, mclock eqInt x m.1 m.2) := ⟨mset_nodup eqInt_iff _ _ _ _ h.keys, h.st.set _ _ _⟩
theorem WfM.lay {m : MS} (h : WfM m) (c : Int × ByteArray) : WfM (layM m c) := by
  refine ⟨lay_keys c h.keys, ?_⟩
  unfold layM
  split
  · exact h.st.del _ _
  · exact h.st.set _ _ _
theorem WfM.fold : ∀ (l : List (Int × ByteArray)) (m : MS), WfM m → WfM (l.foldl layM m)
  | [], _, h => h
  | c :: l, _, h => WfM.fold l _ (h.lay c)
theorem WfM.fl {D : DSt} (h : WfM D.m) : WfM (fl D).2.m := by
  unfold Proofs.Ytebicdddbeneoaa.fl
  split
  · exact h
  · exact WfM.fold _ _ h
theorem WfM.wr {D : DSt} (h : WfM D.m) (x : Int) (s : ByteArray) : WfM (wr D x s).2.m := by
  by_cases hf : (Proofs.Ytebicdddbeneoaa.wr D x s).1 = 0
  · rw [wr_ok hf]; exact h
  · rw [wr_no hf]; exact h
theorem WfM.crM {m : MS} (h : WfM m) (c : Bool × (Int × ByteArray)) : WfM (crM m c) := by
  unfold Proofs.Ytebicdddbeneoaa.crM
  split
  · exact h.lay _
  · exact h
theorem WfM.crs : ∀ (l : List (Bool × (Int × ByteArray))) (m : MS), WfM m → WfM (l.foldl Proofs.Ytebicdddbeneoaa.crM m)
  | [], _, h => h
  | c :: l, _, h => WfM.crs l _ (h.crM c)
theorem WfM.cr {D : DSt} (h : WfM D.m) (ks : List Bool) : WfM (cr D ks).2.m := by
  unfold Proofs.Ytebicdddbeneoaa.cr
  split
  · exact h
  · exact WfM.crs _ _ h

/-- the same sectors -/
def SameM (m m' : MS) : Prop := ∀ x, mlook eqInt x m'.1 = mlook eqInt x m.1

theorem copied {m m' : MS} (hm : WfM m) (h : ∀ x v, mlook eqInt x m'.1 = some v ↔ ∃ e ∈ m.1, e.key = x ∧ e.val = v) : SameM m m' := by
  intro x
  apply Option.ext
  intro v
  rw [h]
  constructor
  · rintro ⟨e, he, rfl, rfl⟩
    exact Go.Sh.mlook_mem eqInt_iff hm.keys he
  · exact mlook_some eqInt_iff

theorem Copy_spec {E w : World} {L : List HProp} {d : Nat} {D : DSt} {k : Option Addr → Pr} (h : Holds E w (Disk d D :: L)) (hn : 0 < D.n) (hcl : D.cache.length ≤ 1073741824) (hm : WfM D.m)
    (hk : ∀ d' m' w', WfM m' → SameM D.m m' → Holds E w' (Disk d' { D with m := m' } :: Disk d D :: L) → k (some ⟨d', 0, none⟩) w') : CallP Try.prog 16 #[.pointer (some ⟨d, 0, none⟩)] tPtr k w := by
  obtain ⟨r, c, h⟩ := Disk.opened h
  refine rd16 _ _ _ ?_
  unfold sh16
  have hne : D.n ≠ 0 := by omega
  refine Len_spec h .head rfl ?_
  refine CondP.no (beq_eq_false_iff_ne.2 hne) ?_
  refine val_nil ?_
  refine get_agg (D.n, some r, c, D.writes, D.flushes, D.fused, D.left, ()) (h.pick .head).own (by kernel_rfl) (by kernel_rfl) rfl (fun j hj => ?_) ?_
  · have hj : j < 7 := hj
    match j, hj with
    | 0, _ => rfl
    | 1, _ => rfl
    | 2, _ => rfl
    | 3, _ => rfl
    | 4, _ => rfl
    | 5, _ => rfl
    | 6, _ => rfl
  refine do_alloc (z := .agg #[.int .i64 0, .map none, .slice none 0 0, .int .i64 0, .int .i64 0, .bool false, .int .i64 0]) h (by kernel_rfl) fun d' w h => ?_
  refine do_st_all h rfl .head (by kernel_rfl) rfl rfl (by intro v hv; simp at hv; rcases hv with rfl | rfl | rfl | rfl | rfl | rfl | rfl <;> rfl) fun w h => ?_
  refine do_makeMap h fun r' w h => ?_
  rw [← mapB_nil (kl := .int .i64) (vl := .leaf .str)] at h
  refine val_nil ?_
  refine get_ld h rfl (.tail (.tail .head)) (by kernel_rfl) (x := c) rfl ?_
  have hlen := (h.pick (.tail (.tail (.tail (.tail .head))))).own_len
  rw [flat_len encW 2 encW_len] at hlen
  have hc2 : c.len = D.cache.length := by omega
  refine do_append (Te2 := 64) (s := ⟨none, 0, 0⟩) (h.own_nil (T := 64) (sz := 2)) .head (by kernel_rfl) (by kernel_rfl) elemW (h.pick (.tail (.tail (.tail (.tail .head))))).reads_own ?_ ?_ ?_ fun c' w hc' h => ?_
  · intro v hv
    obtain ⟨x, _, hx⟩ := List.mem_flatMap.1 hv
    simp [encW] at hx
    rcases hx with rfl | rfl <;> rfl
  · simp only [hc2]; omega
  · simp only [hc2]; omega
  rw [List.nil_append] at h
  refine do_st h rfl (.tail (.tail .head)) (by kernel_rfl) rfl rfl fun w h => ?_
  refine do_st h rfl .head (by kernel_rfl) rfl rfl fun w h => ?_
  refine JoinP.go ?_
  refine val_nil ?_
  refine get_ld h rfl (by first | exact .head | exact (.tail .head) | exact (.tail (.tail .head)) | exact (.tail (.tail (.tail .head))) | exact (.tail (.tail (.tail (.tail .head)))) | exact (.tail (.tail (.tail (.tail (.tail .head))))) | exact (.tail (.tail (.tail (.tail (.tail (.tail .head)))))) | exact (.tail (.tail (.tail (.tail (.tail (.tail (.tail .head))))))) | exact (.tail (.tail (.tail (.tail (.tail (.tail (.tail (.tail .head))))))))) (by kernel_rfl) (x := some r) rfl ?_
  refine do_range (kl := .int .i64) (vl := .leaf .str) (K := 3) (V := 9) h (by first | exact .head | exact (.tail .head) | exact (.tail (.tail .head)) | exact (.tail (.tail (.tail .head))) | exact (.tail (.tail (.tail (.tail .head)))) | exact (.tail (.tail (.tail (.tail (.tail .head))))) | exact (.tail (.tail (.tail (.tail (.tail (.tail .head)))))) | exact (.tail (.tail (.tail (.tail (.tail (.tail (.tail .head))))))) | exact (.tail (.tail (.tail (.tail (.tail (.tail (.tail (.tail .head))))))))) (by kernel_rfl) fun it w h => ?_
  refine LoopP.num (fun n _ w => ∃ (m' : MS) (seen : Array Nat), n = toCome D.m.1 seen ∧ WfM m' ∧ (∀ x v, mlook eqInt x m'.1 = some v ↔ ∃ e ∈ D.m.1, e.key = x ∧ e.val = v ∧ e.born ∈ seen) ∧
      Holds E w (pto it (.mapIter (some r) D.m.2 seen D.m.2) :: mapI r D.m :: mapI r' m' :: pto d' (.cells (dcells D r' c') 47 (0, 0)) :: ownS 64 2 c' (D.cache.flatMap encW) :: pto d (.cells (dcells D r c) 47 (0, 0)) :: ownS 64 2 c (D.cache.flatMap encW) :: L))
    (toCome D.m.1 #[]) ⟨([], 0), #[], rfl, .nil, fun x v => by simp [mlook], h.sub (by repeat (first | exact Sub.done | refine Sub.take (by first | exact .head | exact (.tail .head) | exact (.tail (.tail .head)) | exact (.tail (.tail (.tail .head))) | exact (.tail (.tail (.tail (.tail .head)))) | exact (.tail (.tail (.tail (.tail (.tail .head))))) | exact (.tail (.tail (.tail (.tail (.tail (.tail .head)))))) | exact (.tail (.tail (.tail (.tail (.tail (.tail (.tail .head))))))) | exact (.tail (.tail (.tail (.tail (.tail (.tail (.tail (.tail .head))))))))) ?_ | refine Sub.skip ?_))⟩ ?_
  rintro n next _ w ⟨m', seen, rfl, hm', hl, h⟩ hnext
  refine AnyP.go fun _ => next_map h hm.st (fun hall => ?_) (fun e he hs w h => ?_)
  · refine CondP.no rfl (AnyP.go fun _ => ?_)
    refine hk d' m' _ hm' (copied hm fun x v => ?_) (Disk.closed (r := r') (c := c') ?_)
    · rw [hl]
      constructor
      · rintro ⟨e, he, h1, h2, _⟩; exact ⟨e, he, h1, h2⟩
      · rintro ⟨e, he, h1, h2⟩; exact ⟨e, he, h1, h2, hall e he⟩
    · have h' : Holds E w (Disk d D :: mapI r' m' :: pto d' (.cells (dcells D r' c') 47 (0, 0)) :: ownS 64 2 c' (D.cache.flatMap encW) :: L) := Disk.closed (r := r) (c := c) (h.sub (by repeat (first | exact Sub.done | refine Sub.take (by first | exact .head | exact (.tail .head) | exact (.tail (.tail .head)) | exact (.tail (.tail (.tail .head))) | exact (.tail (.tail (.tail (.tail .head)))) | exact (.tail (.tail (.tail (.tail (.tail .head))))) | exact (.tail (.tail (.tail (.tail (.tail (.tail .head)))))) | exact (.tail (.tail (.tail (.tail (.tail (.tail (.tail .head))))))) | exact (.tail (.tail (.tail (.tail (.tail (.tail (.tail (.tail .head))))))))) ?_ | refine Sub.skip ?_)))
      exact h'.sub (by repeat (first | exact Sub.done | refine Sub.take (by first | exact .head | exact (.tail .head) | exact (.tail (.tail .head)) | exact (.tail (.tail (.tail .head))) | exact (.tail (.tail (.tail (.tail .head)))) | exact (.tail (.tail (.tail (.tail (.tail .head))))) | exact (.tail (.tail (.tail (.tail (.tail (.tail .head)))))) | exact (.tail (.tail (.tail (.tail (.tail (.tail (.tail .head))))))) | exact (.tail (.tail (.tail (.tail (.tail (.tail (.tail (.tail .head))))))))) ?_ | refine Sub.skip ?_))
  · refine CondP.yes rfl ?_
    refine get_entry h hm.st he ?_
    refine get_ld h rfl (.tail (.tail (.tail .head))) (by kernel_rfl) (x := some r') rfl ?_
    refine do_mapUpdate (K := 3) (V := 9) (kl := .int .i64) (vl := .leaf .str) (by kernel_rfl) kInt h (.tail (.tail .head)) fun w h => ?_
    refine hnext _ _ _ (toCome_lt he hs) ⟨(mset eqInt e.key e.val m'.1 m'.2, mclock eqInt e.key m'.1 m'.2), _, rfl, hm'.set _ _, fun x v => ?_, h.sub (by repeat (first | exact Sub.done | refine Sub.take (by first | exact .head | exact (.tail .head) | exact (.tail (.tail .head)) | exact (.tail (.tail (.tail .head))) | exact (.tail (.tail (.tail (.tail .head)))) | exact (.tail (.tail (.tail (.tail (.tail .head))))) | exact (.tail (.tail (.tail (.tail (.tail (.tail .head)))))) | exact (.tail (.tail (.tail (.tail (.tail (.tail (.tail .head))))))) | exact (.tail (.tail (.tail (.tail (.tail (.tail (.tail (.tail .head))))))))) ?_ | refine Sub.skip ?_))⟩
    rw [mlook_set eqInt_iff]
    by_cases hx : x = e.key
    · rw [if_pos ((eqInt_iff _ _).2 hx)]
      constructor
      · intro hv
        exact ⟨e, he, hx.symm, Option.some.inj hv, by simp⟩
      · rintro ⟨e', he', h1, h2, _⟩
        have := nodup_map_inj hm.keys he' he (h1.trans hx)
        rw [← h2, this]
    · rw [if_neg (fun hh => hx ((eqInt_iff _ _).1 hh)), hl]
      constructor
      · rintro ⟨e', he', h1, h2, h3⟩; exact ⟨e', he', h1, h2, by simp [h3]⟩
      · rintro ⟨e', he', h1, h2, h3⟩
        refine ⟨e', he', h1, h2, ?_⟩
        rcases Array.mem_push.1 h3 with h3 | h3
        · exact h3
        · exact absurd (by rw [← h1, nodup_map_inj hm.st.nodup he' he h3]) hx
end Go.Proofs.Ytebicdddbeneoaa
