/- One of the known answer's calls, run by the kernel. No conditions. -/
import Derived.Test.YtelhccfmfnaegaaGreatKnD
import Derived.Test.YtelhccfmfnaegaaGreatProg
/- The table of the sums: the kernel runs it (printed by program). -/
set_option maxRecDepth 100000
set_option linter.unusedVariables false
namespace Go.Proofs.YtelhccfmfnaegaaGreat
open Go Go.Sh
noncomputable def gndB (r : RRes) (g : Value) : Bool := match r with
  | .ret v _ => match v.toG with
    | some x => vEq 5 x g
    | none => false
  | _ => false
theorem run_crc : gndB (evF Tryz.prog ctab (fun _ _ => none) (fun _ => false) (fun _ _ _ => none) 60 317 [] S0) crcT = true := by kernel_rfl
end Go.Proofs.YtelhccfmfnaegaaGreat
