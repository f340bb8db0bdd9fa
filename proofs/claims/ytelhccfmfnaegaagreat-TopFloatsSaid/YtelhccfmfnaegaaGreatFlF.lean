/- The law's loops over the rows. No conditions. -/
import Derived.Test.YtelhccfmfnaegaaGreatFlE
import Derived.Test.YtelhccfmfnaegaaGreatRdB
import Derived.Test.YtelhccfmfnaegaaGreatLibA
/- The law of floats: its transaction. -/
set_option linter.unusedSectionVars false
set_option linter.unusedVariables false
set_option maxRecDepth 10000
namespace Go.Proofs.YtelhccfmfnaegaaGreat
open Go Go.Sh
attribute [local irreducible] pto rob old ownS roS hstar hex hpure hemp opnA blks blk starM mapC pieceA verA entA verE toldA rowA ansA
attribute [local instance] env0

def encU (n : Nat) : List Value := [.int .u64 (n : Int)]
theorem encU_len (n : Nat) : (encU n).length = 1 := rfl
theorem elemC : ElemT Tryz.prog 65 8 112 := ⟨(by kernel_rfl), (by kernel_rfl), (by kernel_rfl)⟩
theorem fok_can {n : Nat} (h : n < 18446744073709551616) : FOk (canW n) := ⟨canW_lt h, canW_idem n⟩

section
variable {P : Program} {E w : World} {L L' : List HProp}
/-- a new slice of one element, laid whole -/
theorem do_build1 {Te : TypeId} {s : Sem Value} {k : Sl → Pr} (cs : List Value) (h : Holds E w L)
    (hs : s.run P w = .ok (.slice (some ⟨w.heap.size, 0, none⟩) 1 1) { w with heap := w.heap.push (.cells ⟨cs⟩ Te (0, 0)) })
    (hk : ∀ a w', Holds E w' (cl a Te cs :: L) → k (slI a) w') : DoP P (vN s) tSl k w :=
  do_new (l := .slice) (x := slI w.heap.size) h hs rfl fun w' h' => hk _ w' h'
end

theorem chL_snoc (a : Nat) (xs : List (Nat × Nat)) (p : Nat × Nat) : (chL a (xs ++ [p])).flatMap encCh = (chL a xs).flatMap encCh ++ encCh (putC (slI p.1)) := by
  simp [chL, List.flatMap_append]
theorem rows_read {E w : World} {L : List HProp} {qs : List (Pl × Nat)} (h : Holds E w (starM rowO qs :: L)) {j : Nat} (hj : j < qs.length) : Reads w (slO qs[j].1) 4 (fcells qs[j].2) :=
  opnA.reads rfl (Holds.starM_take (f := rowO) hj h)
theorem count_one {l : List Nat} {v : Nat} : l.Nodup → v ∈ l → l.count v = 1 := by
  induction l with
  | nil => intro _ h; cases h
  | cons x l ih =>
    intro hn hv
    obtain ⟨h1, h2⟩ := List.nodup_cons.1 hn
    rcases List.mem_cons.1 hv with rfl | hv
    · rw [List.count_cons_self, List.count_eq_zero_of_not_mem h1]
    · have : x ≠ v := fun hc => h1 (hc ▸ hv)
      rw [List.count_cons_of_ne this]
      exact ih h2 hv
theorem rise_nodup {qs : List (Pl × Nat)} (h : Rise (qs.map fun q => keyW q.2)) : (qs.map (·.2)).Nodup := by
  unfold Rise at h
  unfold List.Nodup
  rw [List.pairwise_map] at h ⊢
  refine h.imp fun {a b} hlt hc => ?_
  have hc : a.2 = b.2 := hc
  rw [hc] at hlt
  have := bytesLess_refl (keyW b.2).toList
  unfold ltB at hlt
  rw [this] at hlt; cases hlt

section
variable {W w : World}

set_option maxHeartbeats 4000000 in
/-- the rows' order -/
theorem loopA_step {qs : List (Pl × Nat)} {s65 : Sl} {L : List HProp} {i : Nat} {k1 : Pr} {next : Int → Pr} (hR : Rise (qs.map fun q => keyW q.2)) (hok : ∀ q ∈ qs, FOk q.2) (hn : qs.length ≤ 20) (hi : i < qs.length)
    (h : Holds W w (ownS 47 6 s65 (qs.flatMap encO) :: starM rowO qs :: L))
    (hk : ∀ w', Holds W w' (ownS 47 6 s65 (qs.flatMap encO) :: starM rowO qs :: L) → next ((i + 1 : Nat) : Int) w') :
    (DrewP <|
      IX 30 s65 i fun t78 =>
      LD 28 (Addr.add t78 5) tSl fun t80 =>
      CondP ((t80.len : Int) != 1) (
      CondP true k1 (
      next (IntKind.i64.wrap ((i : Int) + 1)))) (
      CondP (decide ((i : Int) > 0)) (
      IX 30 s65 (IntKind.i64.wrap ((i : Int) - 1)) fun t90 =>
      LD 28 (Addr.add t90 5) tSl fun t92 =>
      IX 28 t92 0 fun t93 =>
      LD 27 t93 (.one (.agg [.int .i64, .int .i64, .int .u64, .str])) fun t94 =>
      IX 30 s65 i fun t97 =>
      LD 28 (Addr.add t97 5) tSl fun t99 =>
      IX 28 t99 0 fun t100 =>
      LD 27 t100 (.one (.agg [.int .i64, .int .i64, .int .u64, .str])) fun t101 =>
      CL 18 #[ag [.int .i64, .int .i64, .int .u64, .str] t94, ag [.int .i64, .int .i64, .int .u64, .str] t101] tInt fun t102 =>
      LK 28 (Addr.add t78 5) (sv t80) <|
      LK 28 (Addr.add t90 5) (sv t92) <|
      LK 28 (Addr.add t97 5) (sv t99) <|
      CondP ((t102 : Int) != ((-1))) k1 (
      next (IntKind.i64.wrap ((i : Int) + 1)))) (
      CondP false k1 (
      next (IntKind.i64.wrap ((i : Int) + 1))))) : Pr) w := by
  have hw : IntKind.i64.wrap ((i : Int) + 1) = ((i + 1 : Nat) : Int) := by rw [IntWalk.i64_in _ (by omega)]; omega
  rw [hw]
  refine DrewP.go h fun w h => ?_
  have hO := fun {w : World} (h : Holds W w (ownS 47 6 s65 (qs.flatMap encO) :: starM rowO qs :: L)) => h.reads_own
  refine val_idx (i := i) (hO h) encO_len (by omega) hi (T := 30) (Te := 47) (by kernel_rfl) (by kernel_rfl) fun a0 ha0 hs0 => ?_
  refine get_fld (j := 5) (slO qs[i].1) (hO h) encO_len ha0 hs0 hi (by omega) (by kernel_rfl) rfl ?_
  refine CondP.no rfl ?_
  refine CondP.mk' (fun hc => ?_) (fun hc => ?_)
  · have hi0 : 0 < i := by have := cT hc; omega
    have hw1 : IntKind.i64.wrap ((i : Int) - 1) = ((i - 1 : Nat) : Int) := by rw [IntWalk.i64_in _ (by omega)]; omega
    rw [hw1]
    have hi1 : i - 1 < qs.length := by omega
    refine val_idx (i := i - 1) (hO h) encO_len (by omega) hi1 (T := 30) (Te := 47) (by kernel_rfl) (by kernel_rfl) fun a1 ha1 hs1 => ?_
    refine get_fld (j := 5) (slO qs[i - 1].1) (hO h) encO_len ha1 hs1 hi1 (by omega) (by kernel_rfl) rfl ?_
    refine val_index (T := 28) (Te := 27) (sz := 4) (by kernel_rfl) (by kernel_rfl) rfl (by simp) (by simp) ?_
    refine get_el_agg (fv qs[i - 1].2) (rows_read h.swap hi1) rfl rfl (by kernel_rfl) (by kernel_rfl) (fun j _ => by simp; rfl) ?_
    refine val_idx (i := i) (hO h) encO_len (by omega) hi (T := 30) (Te := 47) (by kernel_rfl) (by kernel_rfl) fun a2 ha2 hs2 => ?_
    refine get_fld (j := 5) (slO qs[i].1) (hO h) encO_len ha2 hs2 hi (by omega) (by kernel_rfl) rfl ?_
    refine val_index (T := 28) (Te := 27) (sz := 4) (by kernel_rfl) (by kernel_rfl) rfl (by simp) (by simp) ?_
    refine get_el_agg (fv qs[i].2) (rows_read h.swap hi) rfl rfl (by kernel_rfl) (by kernel_rfl) (fun j _ => by simp; rfl) ?_
    have f1 := hok qs[i - 1] (List.getElem_mem hi1)
    have f2 := hok qs[i] (List.getElem_mem hi)
    have hlt : turnW qs[i - 1].2 < turnW qs[i].2 := by
      have := List.pairwise_iff_getElem.1 hR (i - 1) i (by simpa using hi1) (by simpa using hi) (by omega)
      rw [List.getElem_map, List.getElem_map] at this
      unfold ltB at this
      rw [keyW_less f1.1 f2.1] at this
      exact of_decide_eq_true this
    refine compare_spec f1.2 f2.2 h fun w h => ?_
    refine chk_fld (j := 5) (hO h) encO_len ha0 hs0 hi (by omega) (by kernel_rfl) rfl ?_
    refine chk_fld (j := 5) (hO h) encO_len ha1 hs1 hi1 (by omega) (by kernel_rfl) rfl ?_
    refine chk_fld (j := 5) (hO h) encO_len ha2 hs2 hi (by omega) (by kernel_rfl) rfl ?_
    rw [floatsW_lt f1.1 f2.1 f1.2 f2.2 hlt]
    refine CondP.no rfl ?_
    exact hk w h
  · refine CondP.no rfl ?_
    exact hk w h
end
end Go.Proofs.YtelhccfmfnaegaaGreat
