/- The given statement TopFloats. No conditions. -/
import Derived.Test.YtelhccfmfnaegaaGreatFlG
import Derived.OpenShut
import Derived.Test.YtelhccfmfnaegaaGreatRows
/- TopFloats: the row. Whatever floats come in, the law returns true, and what came in reads as before. -/
set_option linter.unusedVariables false
namespace Go.Proofs.YtelhccfmfnaegaaGreat
open Go Go.Sh Go.RowKit Go.WideShapes Go.ChangeShapes Go.ChangeAt

theorem Tryz.own : ownKnob Tryz.prog.godebug = none := (by kernel_rfl)
theorem Tryz.laidOut : laidOutB Tryz.prog = true := (by kernel_rfl)

section
variable {H : Type} {enc : TypeId × Value → H} {w : World} {spare : Nat → Bool} {held : Bool}
theorem open_u64 {n : Nat} {cs : List Value} {y : DataW H × List MemPlace} (h : DataW.trod enc Tryz.prog w 0 spare held n 25 cs = some y) : ∃ a : Nat, cs = encU a ∧ a < 18446744073709551616 := by
  obtain ⟨a, ha, _, wa⟩ := DataW.trod_int Tryz.underlying25 h
  have hb : 0 ≤ a ∧ a ≤ 18446744073709551615 := by
    simp [Lit.wf, IntKind.min, IntKind.max, IntKind.signed, IntKind.bits] at wa
    omega
  refine ⟨a.toNat, ?_, by omega⟩
  rw [ha]
  unfold encU
  rw [Int.toNat_of_nonneg hb.1]
theorem open_words {fuel : Nat} {v : Value} {x : DataW H × List MemPlace} (h : DataW.trod enc Tryz.prog w 0 spare held fuel 56 v.cells.toList = some x) :
    ∃ (s : Sl) (l : List Nat), v.cells.toList = [.slice s.a s.len s.cap] ∧ Reads w s 1 (l.flatMap encU) ∧ s.len = l.length ∧ s.len ≤ s.cap ∧ s.cap ≤ maxLen ∧ ∀ n ∈ l, n < 18446744073709551616 :=
  open_sl encU encU_len Tryz.underlying56 (by kernel_rfl) (fun _ _ _ => open_u64) h
end

set_option maxRecDepth 100000 in
theorem floats_lifted (os : Os) (started : os.Started) (H : Type) (enc : TypeId × Value → H) :
    ReturnsInHanded {} Tryz.checked os 4 .any (Rows.topFloatsSpec.pre6 enc Tryz.prog Tryz.f4 Rows.topFloatsRow.domain false) (Rows.topFloatsSpec.post enc Tryz.prog Tryz.f4 false true false false) := by
  refine returnsInHanded_of_change (C := Tryz.checked) Tryz.own started (by kernel_rfl) Tryz.func4
    (ChangeSpec.witness6 (enc := enc) (C := Tryz.checked) false ⟨#[], #[.slice none 0 0], []⟩ 8 (by kernel_rfl) (by kernel_rfl) (by kernel_rfl) (by kernel_rfl)) ?_
  intro W base args ds gs before hval0 hW hcnd _
  have hval : ∀ (j : Nat) t v, Tryz.f4.params[j]? = some t → args[j]? = some v → Value.okWide Tryz.prog W .any base t v := hval0
  have hW' := hW
  obtain ⟨p, q, hA0, hV, rfl, hfz, hnd⟩ := hW
  have hA : DataW.TrodAll enc Tryz.prog W 0 (fun _ => true) true Tryz.f4.params.toList args.toList ds p := hA0
  rw [Tryz.params4] at hA hval
  obtain ⟨v0, vs0, d0, ds0, p0, q0, hargs, rfl, rfl, h0, r0⟩ := trodAll_cons hA
  obtain ⟨rfl, rfl, rfl⟩ := trodAll_nil r0
  obtain rfl : args = #[v0] := by cases args; simp_all
  obtain ⟨rfl, rfl⟩ := trodVars_none hV
  have k0 := h0
  have lt0 : ∀ x ∈ p0, x.block < W.heap.size := by obtain ⟨m, hm⟩ := k0; exact DataW.trod_lt m _ _ _ hm
  obtain ⟨aa0, len0, cap0, rfl⟩ := okWide_slice Tryz.underlying56 (hval 0 56 v0 rfl rfl)
  obtain ⟨f0, hf0⟩ := h0
  obtain ⟨s0, l0, hs0, hr0, hl0, hle0, hm0, hok0⟩ := open_words hf0
  simp only [Value.cells, List.cons.injEq, Value.slice.injEq, and_true] at hs0
  obtain ⟨rfl, rfl, rfl⟩ := hs0
  clear hA0 hval0
  have hcap : maxLen = 9223372036854775807 := rfl
  have hwalk := (floats_walk (s0 := s0) (ws := l0) (k := fun b w' => b = true ∧ Holds W w' [old W]) hr0 hl0 hle0 (by omega) hok0 fun w' h => ⟨rfl, h⟩).out
  refine hwalk.mono fun e W' ⟨x, he, hx, hh⟩ => ?_
  subst he; subst hx
  have bel := hh.below
  exact ⟨_, rfl, _, _, _, [], _, [], hW', trodAll_mk1 (shut_bool Tryz.underlying4 _), (trodAll_cons_mk (Below.trod Tryz.laidOut (by kernel_rfl) (of_decide_eq_true (by kernel_rfl)) k0 bel lt0) trodAll_mk0), rfl, bel.frame _, fun h => by cases h⟩

theorem topFloats_holds : Rows.TopFloatsSaid :=
  OpenClaim.holds_of_wide 4 Tryz.f4 rfl rfl rfl rfl rfl rfl rfl ⟨rfl, rfl, rfl, rfl, rfl⟩ rfl rfl rfl rfl rfl (by kernel_rfl) Tryz.func4 (by kernel_rfl)
    (of_decide_eq_true (by kernel_rfl)) (by unfold Func.isWrapper; first | (rw [if_pos (by decide +kernel)]; kernel_rfl) | (rw [if_neg (by decide +kernel)]; exact ⟨rfl, rfl⟩))
    (fun os started H enc _ => floats_lifted os started H enc)
end Go.Proofs.YtelhccfmfnaegaaGreat
