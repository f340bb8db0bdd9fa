/- One of the known answer's calls, run by the kernel. No conditions. -/
import Derived.Test.YtelhccfmfnaegaaGreatKnD
import Derived.Test.YtelhccfmfnaegaaGreatProg
/- The whole run of known(), its parts known; and the table of the sums (printed by program). -/
set_option maxRecDepth 100000
set_option linter.unusedVariables false
namespace Go.Proofs.YtelhccfmfnaegaaGreat
open Go Go.Sh
noncomputable def isTrue (r : RRes) : Bool := match r with
  | .ret (.g (.bool true)) _ => true
  | _ => false
theorem run_all : isTrue (evF Tryz.prog ctab ogK gfK (ovs [cutB, cuta, cutb, cutc]) 60 8 [] S0) = true := by kernel_rfl
end Go.Proofs.YtelhccfmfnaegaaGreat
