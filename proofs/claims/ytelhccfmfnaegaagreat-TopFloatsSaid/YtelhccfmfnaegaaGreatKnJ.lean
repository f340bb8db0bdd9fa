/- The known answer is true: the calls joined. No conditions. -/
import Derived.Test.YtelhccfmfnaegaaGreatKnR0
import Derived.Test.YtelhccfmfnaegaaGreatKnR1
import Derived.Test.YtelhccfmfnaegaaGreatKnR2
import Derived.Test.YtelhccfmfnaegaaGreatKnR3
import Derived.Test.YtelhccfmfnaegaaGreatKnR4
import Derived.Test.YtelhccfmfnaegaaGreatKnR5
import Derived.Test.YtelhccfmfnaegaaGreatKnR6
import Derived.Test.YtelhccfmfnaegaaGreatKnR7
import Derived.Test.YtelhccfmfnaegaaGreatKnR8
import Derived.Test.YtelhccfmfnaegaaGreatKnR9
import Derived.Test.YtelhccfmfnaegaaGreatKnR10
import Derived.Test.YtelhccfmfnaegaaGreatKnR11
import Derived.Test.YtelhccfmfnaegaaGreatChk
import Derived.Test.YtelhccfmfnaegaaGreatRd
/- What known() tells: true. -/
set_option linter.unusedSectionVars false
namespace Go.Proofs.YtelhccfmfnaegaaGreat
open Go Go.Sh
section
variable [Env]

theorem ogK_ok (f : FuncId) (args : List RV) (s : RSt) (g : Value) (h : ogK f args = some g) : ResOk Tryz.prog f args s (.gnd g) := by
  have ok : CallOk Tryz.prog (evF Tryz.prog ctab (fun _ _ => none) (fun _ => false) (fun _ _ _ => none) 60) :=
    (evF_sound (fun f args s g h => by cases h) (fun f args s r h => by cases h) (fun f args s r h => by cases h) (fun call h1 h2 => tab_ok follows call h1 h2) 60).1
  unfold ogK at h
  split at h
  · rename_i hf
    have := Nat.eq_of_beq_eq_true hf; subst this
    split at h
    · cases h
      have hr := run_crc
      cases he : evF Tryz.prog ctab (fun _ _ => none) (fun _ => false) (fun _ _ _ => none) 60 317 [] S0 with
      | ret v s1 =>
        rw [he] at hr
        simp only [gndB] at hr
        split at hr
        · rename_i x hx
          have := vEq_eq _ _ hr; subst this
          exact ResOk.gnd (ws := []) (ok _ _ _ _ he (fun y hy => by cases hy)) rfl hx s
        · cases hr
      | gnd g => rw [he] at hr; cases hr
      | panic v t => rw [he] at hr; cases hr
      | bad y => rw [he] at hr; cases hr
    · cases h
  · cases h

theorem cuts_ok (l : List Cut) (hl : ∀ c ∈ l, ∃ call, CallOk Tryz.prog call ∧ c.run call = true) (n : Nat) : CallOk Tryz.prog (evF Tryz.prog ctab ogK gfK (ovs l) n) :=
  (evF_sound ogK_ok (fun _ _ _ _ h _ => (ovs_sound hl h).1) (fun _ _ _ _ h => (ovs_sound hl h).2) (fun call h1 h2 => tab_ok follows call h1 h2) n).1

theorem ok_none : CallOk Tryz.prog (evF Tryz.prog ctab ogK gfK (ovs []) 60) := cuts_ok [] (fun c h => by cases h) 60
theorem ok_a : CallOk Tryz.prog (evF Tryz.prog ctab ogK gfK (ovs [cuta1, cuta2, cuta3]) 60) := cuts_ok _ (fun c h => by
  simp only [List.mem_cons, List.not_mem_nil, or_false] at h
  rcases h with rfl | rfl | rfl
  · exact ⟨_, ok_none, run_cuta1⟩
  · exact ⟨_, ok_none, run_cuta2⟩
  · exact ⟨_, ok_none, run_cuta3⟩) 60
theorem ok_b : CallOk Tryz.prog (evF Tryz.prog ctab ogK gfK (ovs [cutb1, cutb2, cutb3]) 60) := cuts_ok _ (fun c h => by
  simp only [List.mem_cons, List.not_mem_nil, or_false] at h
  rcases h with rfl | rfl | rfl
  · exact ⟨_, ok_none, run_cutb1⟩
  · exact ⟨_, ok_none, run_cutb2⟩
  · exact ⟨_, ok_none, run_cutb3⟩) 60
theorem ok_all : CallOk Tryz.prog (evF Tryz.prog ctab ogK gfK (ovs [cutB, cuta, cutb, cutc]) 60) := cuts_ok _ (fun c h => by
  simp only [List.mem_cons, List.not_mem_nil, or_false] at h
  rcases h with rfl | rfl | rfl | rfl
  · exact ⟨_, ok_none, run_cutB⟩
  · exact ⟨_, ok_a, run_cuta⟩
  · exact ⟨_, ok_b, run_cutb⟩
  · exact ⟨_, ok_none, run_cutc⟩) 60
theorem known_res : ∃ s1, ResOk Tryz.prog 8 [] S0 (.ret (.g (.bool true)) s1) := by
  have hr := run_all
  cases he : evF Tryz.prog ctab ogK gfK (ovs [cutB, cuta, cutb, cutc]) 60 8 [] S0 with
  | ret v s1 =>
    rw [he] at hr
    unfold isTrue at hr
    split at hr
    · rename_i s2 h2
      rw [h2] at he
      exact ⟨_, ok_all _ _ _ _ he (fun y hy => by cases hy)⟩
    · cases hr
  | gnd g => rw [he] at hr; cases hr
  | panic v t => rw [he] at hr; cases hr
  | bad y => rw [he] at hr; cases hr
end
@[reducible] def env1 : Env := { ρ := fun _ => .nilFunc, na := fun _ => rfl, nb := fun _ _ h => (by cases h), mp := fun _ => [], ck := fun _ => 0 }
/-- known() yields true -/
theorem known_spec {E w : World} {L : List HProp} {k : Bool → Pr} (h : Holds E w L) (hk : ∀ w', Holds E w' L → k true w') : CallP Tryz.prog 8 #[] tBool k w := by
  haveI := env1
  obtain ⟨s1, hres⟩ := known_res
  exact CallP.of_res (t := tBool) (x := true) hres rfl rfl h hk
end Go.Proofs.YtelhccfmfnaegaaGreat
