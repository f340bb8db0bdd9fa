/- The tables are what the interpreter lays out: second part. No conditions. -/
import Derived.Test.YtelhccfmfnaegaaGreatTabB
import Derived.Test.YtelhccfmfnaegaaGreatIntB
import Derived.Test.YtelhccfmfnaegaaGreatProg
/- What is laid out is what the interpreter lays out, and its regions that draw are good: checked by the kernel (printed by program). -/
set_option linter.unusedSectionVars false
set_option maxRecDepth 100000
set_option linter.unusedVariables false
namespace Go.Proofs.YtelhccfmfnaegaaGreat
open Go Go.Sh
variable [Env]
theorem ck8 : compFn Tryz.prog [] 8 = some cf8 := by kernel_rfl
theorem cd8 : fnOkB Tryz.prog [] [] 8 = true := by kernel_rfl
theorem ck12 : compFn Tryz.prog [] 12 = some cf12 := by kernel_rfl
theorem cd12 : fnOkB Tryz.prog [] [] 12 = true := by kernel_rfl
theorem ck22 : compFn Tryz.prog [] 22 = some cf22 := by kernel_rfl
theorem cd22 : fnOkB Tryz.prog [] [] 22 = true := by kernel_rfl
theorem ck43 : compFn Tryz.prog [] 43 = some cf43 := by kernel_rfl
theorem cd43 : fnOkB Tryz.prog [] [] 43 = true := by kernel_rfl
theorem ck44 : compFn Tryz.prog [] 44 = some cf44 := by kernel_rfl
theorem cd44 : fnOkB Tryz.prog [] [] 44 = true := by kernel_rfl
theorem ck52 : compFn Tryz.prog [] 52 = some cf52 := by kernel_rfl
theorem cd52 : fnOkB Tryz.prog [] [] 52 = true := by kernel_rfl
theorem ck53 : compFn Tryz.prog [] 53 = some cf53 := by kernel_rfl
theorem cd53 : fnOkB Tryz.prog [] [] 53 = true := by kernel_rfl
theorem ck70 : compFn Tryz.prog [] 70 = some cf70 := by kernel_rfl
theorem cd70 : fnOkB Tryz.prog [] [] 70 = true := by kernel_rfl
theorem ck71 : compFn Tryz.prog [] 71 = some cf71 := by kernel_rfl
theorem cd71 : fnOkB Tryz.prog [] [] 71 = true := by kernel_rfl
theorem ck77 : compFn Tryz.prog [] 77 = some cf77 := by kernel_rfl
theorem cd77 : fnOkB Tryz.prog [] [] 77 = true := by kernel_rfl
theorem ck81 : compFn Tryz.prog [] 81 = some cf81 := by kernel_rfl
theorem cd81 : fnOkB Tryz.prog [] [] 81 = true := by kernel_rfl
theorem ck82 : compFn Tryz.prog [] 82 = some cf82 := by kernel_rfl
theorem cd82 : fnOkB Tryz.prog [] [] 82 = true := by kernel_rfl
theorem ck83 : compFn Tryz.prog [] 83 = some cf83 := by kernel_rfl
theorem cd83 : fnOkB Tryz.prog [] [] 83 = true := by kernel_rfl
theorem ck84 : compFn Tryz.prog [] 84 = some cf84 := by kernel_rfl
theorem cd84 : fnOkB Tryz.prog [] [] 84 = true := by kernel_rfl
theorem ck87 : compFn Tryz.prog [] 87 = some cf87 := by kernel_rfl
theorem cd87 : fnOkB Tryz.prog [] [] 87 = true := by kernel_rfl
def dr123 : List (Nat × List Nat) := [(6, [0, 1, 2, 3, 4, 5, 6, 7, 8, 9, 10, 11, 12, 13, 14, 15, 16, 17, 18, 19, 20, 21, 22, 1004, 1009, 23, 24])]
def dt123 : List (Nat × DSteps) := [(6, .take 0 (.val tRaw) <| .take 1 (.val tRaw) <| .take 2 (.val tRaw) <| .take 3 (.val tRaw) <| .take 4 (.get tRaw) <| .take 5 (.val tRaw) <| .take 6 (.val tRaw) <| .take 7 (.val tRaw) <| .take 8 (.val tRaw) <| .take 9 (.get tRaw) <| .take 10 (.val tRaw) <| .take 11 (.val tRaw) <| .split 27 <| .take 12 (.val tRaw) <| .take 13 (.val tRaw) <| .take 14 (.val tRaw) <| .take 15 (.val tRaw) <| .take 16 (.get tRaw) <| .take 17 (.val tRaw) <| .take 18 (.val tRaw) <| .take 19 (.val tRaw) <| .take 20 (.val tRaw) <| .take 21 (.get tRaw) <| .call 22 tRaw [4, 9] <| .take 23 (.val tRaw) <| .take 24 (.val tRaw) .nil)]
theorem ck123 : compFn Tryz.prog dr123 123 = some cf123 := by kernel_rfl
theorem cd123 : fnOkB Tryz.prog dr123 dt123 123 = true := by kernel_rfl
theorem ck126 : compFn Tryz.prog [] 126 = some cf126 := by kernel_rfl
theorem cd126 : fnOkB Tryz.prog [] [] 126 = true := by kernel_rfl
theorem ck128 : compFn Tryz.prog [] 128 = some cf128 := by kernel_rfl
theorem cd128 : fnOkB Tryz.prog [] [] 128 = true := by kernel_rfl
theorem ck133 : compFn Tryz.prog [] 133 = some cf133 := by kernel_rfl
theorem cd133 : fnOkB Tryz.prog [] [] 133 = true := by kernel_rfl
theorem ck134 : compFn Tryz.prog [] 134 = some cf134 := by kernel_rfl
theorem cd134 : fnOkB Tryz.prog [] [] 134 = true := by kernel_rfl
theorem ck135 : compFn Tryz.prog [] 135 = some cf135 := by kernel_rfl
theorem cd135 : fnOkB Tryz.prog [] [] 135 = true := by kernel_rfl
theorem ck148 : compFn Tryz.prog [] 148 = some cf148 := by kernel_rfl
theorem cd148 : fnOkB Tryz.prog [] [] 148 = true := by kernel_rfl
theorem ck159 : compFn Tryz.prog [] 159 = some cf159 := by kernel_rfl
theorem cd159 : fnOkB Tryz.prog [] [] 159 = true := by kernel_rfl
theorem ck165 : compFn Tryz.prog [] 165 = some cf165 := by kernel_rfl
theorem cd165 : fnOkB Tryz.prog [] [] 165 = true := by kernel_rfl
def dr192 : List (Nat × List Nat) := [(1, [0, 1, 2, 1001, 3]), (2, [0, 1, 2, 3, 4, 5, 6]), (3, [0, 1, 2, 3, 4, 5, 6, 7, 8])]
def dt192 : List (Nat × DSteps) := [(1, .take 0 (.val tRaw) <| .take 1 (.get tRaw) <| .call 2 tRaw [1] <| .take 3 (.val tRaw) .nil), (2, .take 0 (.val tRaw) <| .take 1 (.val tRaw) <| .take 2 (.val tRaw) <| .take 3 (.get tRaw) <| .take 4 (.val tRaw) <| .take 5 (.get tRaw) <| .eff 6 tRaw [] .nil), (3, .take 0 (.val tRaw) <| .take 1 (.val tRaw) <| .take 2 (.val tRaw) <| .take 3 (.get tRaw) <| .take 4 (.val tRaw) <| .take 5 (.get tRaw) <| .take 6 (.val tRaw) <| .take 7 (.get tRaw) <| .effU 8 [] .nil)]
theorem ck192 : compFn Tryz.prog dr192 192 = some cf192 := by kernel_rfl
theorem cd192 : fnOkB Tryz.prog dr192 dt192 192 = true := by kernel_rfl
theorem ck196 : compFn Tryz.prog [] 196 = some cf196 := by kernel_rfl
theorem cd196 : fnOkB Tryz.prog [] [] 196 = true := by kernel_rfl
theorem ck198 : compFn Tryz.prog [] 198 = some cf198 := by kernel_rfl
theorem cd198 : fnOkB Tryz.prog [] [] 198 = true := by kernel_rfl
theorem ck209 : compFn Tryz.prog [] 209 = some cf209 := by kernel_rfl
theorem cd209 : fnOkB Tryz.prog [] [] 209 = true := by kernel_rfl
theorem ck231 : compFn Tryz.prog [] 231 = some cf231 := by kernel_rfl
theorem cd231 : fnOkB Tryz.prog [] [] 231 = true := by kernel_rfl
theorem ck241 : compFn Tryz.prog [] 241 = some cf241 := by kernel_rfl
theorem cd241 : fnOkB Tryz.prog [] [] 241 = true := by kernel_rfl
theorem ck257 : compFn Tryz.prog [] 257 = some cf257 := by kernel_rfl
theorem cd257 : fnOkB Tryz.prog [] [] 257 = true := by kernel_rfl
theorem ck266 : compFn Tryz.prog [] 266 = some cf266 := by kernel_rfl
theorem cd266 : fnOkB Tryz.prog [] [] 266 = true := by kernel_rfl
theorem ck281 : compFn Tryz.prog [] 281 = some cf281 := by kernel_rfl
theorem cd281 : fnOkB Tryz.prog [] [] 281 = true := by kernel_rfl
def dr287 : List (Nat × List Nat) := [(2, [0, 1, 3, 4, 2, 1004, 5, 6, 7, 8]), (3, [0, 1, 3, 4, 7, 8, 11, 12, 13, 16, 17, 18, 2, 1004, 1008, 1013, 1018, 5, 1008, 1013, 1018, 6, 9, 1013, 1018, 10, 14, 1018, 15, 19, 20, 21])]
def dt287 : List (Nat × DSteps) := [(2, .take 0 (.val tRaw) <| .take 1 (.get tRaw) <| .take 3 (.val tRaw) <| .take 4 (.get tRaw) <| .call 2 tRaw [4] <| .call 5 tRaw [] <| .call 6 tRaw [] <| .take 7 (.val tRaw) <| .now 8 (.val tRaw) [] .nil), (3, .take 0 (.val tRaw) <| .take 1 (.get tRaw) <| .take 3 (.val tRaw) <| .take 4 (.get tRaw) <| .take 7 (.val tRaw) <| .take 8 (.get tRaw) <| .take 11 (.val tRaw) <| .take 12 (.val tRaw) <| .take 13 (.get tRaw) <| .take 16 (.val tRaw) <| .take 17 (.val tRaw) <| .take 18 (.get tRaw) <| .call 2 tRaw [4, 8, 13, 18] <| .call 5 tRaw [8, 13, 18] <| .take 6 (.val tRaw) <| .call 9 tRaw [13, 18] <| .take 10 (.val tRaw) <| .call 14 tRaw [18] <| .take 15 (.val tRaw) <| .call 19 tRaw [] <| .take 20 (.val tRaw) <| .now 21 (.val tRaw) [] .nil)]
theorem ck287 : compFn Tryz.prog dr287 287 = some cf287 := by kernel_rfl
theorem cd287 : fnOkB Tryz.prog dr287 dt287 287 = true := by kernel_rfl
def dr294 : List (Nat × List Nat) := [(3, [0, 1, 2, 3, 4, 5, 6])]
def dt294 : List (Nat × DSteps) := [(3, .take 0 (.val tRaw) <| .take 1 (.val tRaw) <| .take 2 (.val tRaw) <| .take 3 (.val tRaw) <| .take 4 (.val tRaw) <| .now 5 (.val tRaw) [] <| .now 6 (.val tRaw) [] .nil)]
theorem ck294 : compFn Tryz.prog dr294 294 = some cf294 := by kernel_rfl
theorem cd294 : fnOkB Tryz.prog dr294 dt294 294 = true := by kernel_rfl
def dr303 : List (Nat × List Nat) := [(1, [0, 1, 2, 3, 4, 5, 6, 7, 8, 9]), (4, [0, 1, 2, 3, 4, 5, 6, 7, 8, 9, 10])]
def dt303 : List (Nat × DSteps) := [(1, .take 0 (.val tRaw) <| .take 1 (.val tRaw) <| .take 2 (.val tRaw) <| .take 3 (.get tRaw) <| .take 4 (.val tRaw) <| .take 5 (.val tRaw) <| .take 6 (.val tRaw) <| .take 7 (.get tRaw) <| .take 8 (.val tRaw) <| .take 9 (.val tRaw) .nil), (4, .take 0 (.val tRaw) <| .take 1 (.val tRaw) <| .take 2 (.val tRaw) <| .take 3 (.get tRaw) <| .take 4 (.val tRaw) <| .take 5 (.val tRaw) <| .take 6 (.val tRaw) <| .take 7 (.get tRaw) <| .take 8 (.val tRaw) <| .take 9 (.val tRaw) <| .now 10 (.val tRaw) [] .nil)]
theorem ck303 : compFn Tryz.prog dr303 303 = some cf303 := by kernel_rfl
theorem cd303 : fnOkB Tryz.prog dr303 dt303 303 = true := by kernel_rfl
theorem ck308 : compFn Tryz.prog [] 308 = some cf308 := by kernel_rfl
theorem cd308 : fnOkB Tryz.prog [] [] 308 = true := by kernel_rfl
theorem ck310 : compFn Tryz.prog [] 310 = some cf310 := by kernel_rfl
theorem cd310 : fnOkB Tryz.prog [] [] 310 = true := by kernel_rfl
theorem ck314 : compFn Tryz.prog [] 314 = some cf314 := by kernel_rfl
theorem cd314 : fnOkB Tryz.prog [] [] 314 = true := by kernel_rfl
end Go.Proofs.YtelhccfmfnaegaaGreat
