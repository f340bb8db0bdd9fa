/- The tables are what the interpreter lays out: first part. No conditions. -/
import Derived.Test.YtelhccfmfnaegaaGreatTabB
import Derived.Test.YtelhccfmfnaegaaGreatIntB
import Derived.Test.YtelhccfmfnaegaaGreatProg
/- What is laid out is what the interpreter lays out, and its regions that draw are good: checked by the kernel (printed by program). -/
set_option linter.unusedSectionVars false
set_option maxRecDepth 100000
set_option linter.unusedVariables false
namespace Go.Proofs.YtelhccfmfnaegaaGreat
open Go Go.Sh
variable [Env]
theorem ck28 : compFn Tryz.prog [] 28 = some cf28 := by kernel_rfl
theorem cd28 : fnOkB Tryz.prog [] [] 28 = true := by kernel_rfl
def dr34 : List (Nat × List Nat) := [(6, [0, 1, 2, 3, 4, 5, 6, 7, 8])]
def dt34 : List (Nat × DSteps) := [(6, .take 0 (.val tRaw) <| .take 1 (.val tRaw) <| .take 2 (.val tRaw) <| .take 3 (.get tRaw) <| .take 4 (.val tRaw) <| .take 5 (.val tRaw) <| .take 6 (.val tRaw) <| .take 7 (.get tRaw) <| .take 8 (.val tRaw) .nil)]
theorem ck34 : compFn Tryz.prog dr34 34 = some cf34 := by kernel_rfl
theorem cd34 : fnOkB Tryz.prog dr34 dt34 34 = true := by kernel_rfl
theorem ck73 : compFn Tryz.prog [] 73 = some cf73 := by kernel_rfl
theorem cd73 : fnOkB Tryz.prog [] [] 73 = true := by kernel_rfl
theorem ck85 : compFn Tryz.prog [] 85 = some cf85 := by kernel_rfl
theorem cd85 : fnOkB Tryz.prog [] [] 85 = true := by kernel_rfl
theorem ck90 : compFn Tryz.prog [] 90 = some cf90 := by kernel_rfl
theorem cd90 : fnOkB Tryz.prog [] [] 90 = true := by kernel_rfl
theorem ck106 : compFn Tryz.prog [] 106 = some cf106 := by kernel_rfl
theorem cd106 : fnOkB Tryz.prog [] [] 106 = true := by kernel_rfl
def dr114 : List (Nat × List Nat) := [(6, [0, 1, 2, 3, 4, 5, 6, 7, 8])]
def dt114 : List (Nat × DSteps) := [(6, .take 0 (.val tRaw) <| .take 1 (.get tRaw) <| .take 2 (.val tRaw) <| .take 3 (.get tRaw) <| .take 4 (.val tRaw) <| .take 5 (.val tRaw) <| .take 6 (.val tRaw) <| .take 7 (.get tRaw) <| .take 8 (.val tRaw) .nil)]
theorem ck114 : compFn Tryz.prog dr114 114 = some cf114 := by kernel_rfl
theorem cd114 : fnOkB Tryz.prog dr114 dt114 114 = true := by kernel_rfl
theorem ck117 : compFn Tryz.prog [] 117 = some cf117 := by kernel_rfl
theorem cd117 : fnOkB Tryz.prog [] [] 117 = true := by kernel_rfl
theorem ck122 : compFn Tryz.prog [] 122 = some cf122 := by kernel_rfl
theorem cd122 : fnOkB Tryz.prog [] [] 122 = true := by kernel_rfl
theorem ck132 : compFn Tryz.prog [] 132 = some cf132 := by kernel_rfl
theorem cd132 : fnOkB Tryz.prog [] [] 132 = true := by kernel_rfl
theorem ck139 : compFn Tryz.prog [] 139 = some cf139 := by kernel_rfl
theorem cd139 : fnOkB Tryz.prog [] [] 139 = true := by kernel_rfl
theorem ck157 : compFn Tryz.prog [] 157 = some cf157 := by kernel_rfl
theorem cd157 : fnOkB Tryz.prog [] [] 157 = true := by kernel_rfl
theorem ck172 : compFn Tryz.prog [] 172 = some cf172 := by kernel_rfl
theorem cd172 : fnOkB Tryz.prog [] [] 172 = true := by kernel_rfl
def dr174 : List (Nat × List Nat) := [(3, [0, 1, 2, 3, 6, 7, 3008, 4, 5, 8, 1005, 9, 10])]
def dt174 : List (Nat × DSteps) := [(3, .take 0 (.val tRaw) <| .take 1 (.val tRaw) <| .take 2 (.val tRaw) <| .take 3 (.val tRaw) <| .take 6 (.val tRaw) <| .take 7 (.val tRaw) <| .alt (.eff 4 tRaw [] <| .take 5 (.get tRaw) <| .call 8 tRaw [5] <| .take 9 (.val tRaw) <| .now 10 (.val tRaw) [] .nil) (.call 8 tRaw [] <| .eff 4 tRaw [] <| .take 5 (.get tRaw) <| .take 9 (.val tRaw) <| .now 10 (.val tRaw) [] .nil))]
theorem ck174 : compFn Tryz.prog dr174 174 = some cf174 := by kernel_rfl
theorem cd174 : fnOkB Tryz.prog dr174 dt174 174 = true := by kernel_rfl
def dr200 : List (Nat × List Nat) := [(4, [0, 1, 2, 3, 4, 5, 6, 7, 8])]
def dt200 : List (Nat × DSteps) := [(4, .take 0 (.val tRaw) <| .take 1 (.val tRaw) <| .take 2 (.val tRaw) <| .take 3 (.val tRaw) <| .take 4 (.val tRaw) <| .call 5 tRaw [] <| .take 6 (.val tRaw) <| .take 7 (.val tRaw) <| .now 8 (.val tRaw) [] .nil)]
theorem ck200 : compFn Tryz.prog dr200 200 = some cf200 := by kernel_rfl
theorem cd200 : fnOkB Tryz.prog dr200 dt200 200 = true := by kernel_rfl
def dr210 : List (Nat × List Nat) := [(1, [0, 1, 2, 3, 4, 5, 1001, 6])]
def dt210 : List (Nat × DSteps) := [(1, .take 0 (.get tRaw) <| .take 1 (.get tRaw) <| .take 2 (.val tRaw) <| .take 3 (.val tRaw) <| .take 4 (.get tRaw) <| .call 5 tRaw [1] <| .now 6 (.val tRaw) [] .nil)]
theorem ck210 : compFn Tryz.prog dr210 210 = some cf210 := by kernel_rfl
theorem cd210 : fnOkB Tryz.prog dr210 dt210 210 = true := by kernel_rfl
theorem ck212 : compFn Tryz.prog [] 212 = some cf212 := by kernel_rfl
theorem cd212 : fnOkB Tryz.prog [] [] 212 = true := by kernel_rfl
theorem ck216 : compFn Tryz.prog [] 216 = some cf216 := by kernel_rfl
theorem cd216 : fnOkB Tryz.prog [] [] 216 = true := by kernel_rfl
theorem ck227 : compFn Tryz.prog [] 227 = some cf227 := by kernel_rfl
theorem cd227 : fnOkB Tryz.prog [] [] 227 = true := by kernel_rfl
theorem ck238 : compFn Tryz.prog [] 238 = some cf238 := by kernel_rfl
theorem cd238 : fnOkB Tryz.prog [] [] 238 = true := by kernel_rfl
theorem ck254 : compFn Tryz.prog [] 254 = some cf254 := by kernel_rfl
theorem cd254 : fnOkB Tryz.prog [] [] 254 = true := by kernel_rfl
theorem ck259 : compFn Tryz.prog [] 259 = some cf259 := by kernel_rfl
theorem cd259 : fnOkB Tryz.prog [] [] 259 = true := by kernel_rfl
theorem ck260 : compFn Tryz.prog [] 260 = some cf260 := by kernel_rfl
theorem cd260 : fnOkB Tryz.prog [] [] 260 = true := by kernel_rfl
theorem ck271 : compFn Tryz.prog [] 271 = some cf271 := by kernel_rfl
theorem cd271 : fnOkB Tryz.prog [] [] 271 = true := by kernel_rfl
theorem ck289 : compFn Tryz.prog [] 289 = some cf289 := by kernel_rfl
theorem cd289 : fnOkB Tryz.prog [] [] 289 = true := by kernel_rfl
theorem ck298 : compFn Tryz.prog [] 298 = some cf298 := by kernel_rfl
theorem cd298 : fnOkB Tryz.prog [] [] 298 = true := by kernel_rfl
theorem ck326 : compFn Tryz.prog [] 326 = some cf326 := by kernel_rfl
theorem cd326 : fnOkB Tryz.prog [] [] 326 = true := by kernel_rfl
end Go.Proofs.YtelhccfmfnaegaaGreat
