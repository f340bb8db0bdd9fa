/- One of the known answer's calls, run by the kernel. No conditions. -/
import Derived.Test.YtelhccfmfnaegaaGreatKnD
import Derived.Test.YtelhccfmfnaegaaGreatProg
/- A part of the run of known(): the kernel runs it (printed by program). -/
set_option maxRecDepth 100000
set_option linter.unusedVariables false
namespace Go.Proofs.YtelhccfmfnaegaaGreat
open Go Go.Sh
theorem run_cutb : cutb.run (evF Tryz.prog ctab ogK gfK (ovs [cutb1, cutb2, cutb3]) 60) = true := by kernel_rfl
end Go.Proofs.YtelhccfmfnaegaaGreat
