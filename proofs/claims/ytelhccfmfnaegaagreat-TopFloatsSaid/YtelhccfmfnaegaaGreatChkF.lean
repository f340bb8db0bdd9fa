/- The tables are what the interpreter lays out: sixth part. No conditions. -/
import Derived.Test.YtelhccfmfnaegaaGreatTabB
import Derived.Test.YtelhccfmfnaegaaGreatIntB
import Derived.Test.YtelhccfmfnaegaaGreatProg
/- What is laid out is what the interpreter lays out, and its regions that draw are good: checked by the kernel (printed by program). -/
set_option linter.unusedSectionVars false
set_option maxRecDepth 100000
set_option linter.unusedVariables false
namespace Go.Proofs.YtelhccfmfnaegaaGreat
open Go Go.Sh
variable [Env]
def dr16 : List (Nat × List Nat) := [(6, [0, 2, 3, 1003, 2004, 1, 1003, 4, 1003, 5, 6, 1003, 7]), (17, [0, 1, 2, 3, 4, 5, 6, 7, 8, 9, 10, 11, 12, 13, 14, 15, 16, 17, 18, 19, 1003, 1006, 1008, 1009, 1012, 1014, 20, 21, 22, 23, 24]), (18, [0, 1, 2, 3, 4, 5, 6, 7, 8, 9, 10, 11, 12, 13, 1003, 1006, 1008]), (19, [0, 1, 2, 3, 4, 5, 6, 7, 8, 9, 10, 11, 12, 13, 14, 15, 16, 1011, 1013, 17, 18, 19, 1013, 20, 21, 22])]
def dt16 : List (Nat × DSteps) := [(6, .take 0 (.val tRaw) <| .take 2 (.val tRaw) <| .take 3 (.get tRaw) <| .alt (.call 1 tRaw [3] <| .eff 4 tRaw [3] <| .take 5 (.val tRaw) <| .eff 6 tRaw [3] <| .now 7 (.val tRaw) [] .nil) (.eff 4 tRaw [3] <| .call 1 tRaw [3] <| .take 5 (.val tRaw) <| .eff 6 tRaw [3] <| .now 7 (.val tRaw) [] .nil)), (17, .take 0 (.val tRaw) <| .take 1 (.val tRaw) <| .take 2 (.val tRaw) <| .take 3 (.get tRaw) <| .take 4 (.val tRaw) <| .take 5 (.val tRaw) <| .take 6 (.get tRaw) <| .take 7 (.val tRaw) <| .take 8 (.get tRaw) <| .take 9 (.get tRaw) <| .take 10 (.val tRaw) <| .take 11 (.val tRaw) <| .take 12 (.get tRaw) <| .take 13 (.val tRaw) <| .take 14 (.get tRaw) <| .take 15 (.get tRaw) <| .take 16 (.val tRaw) <| .take 17 (.get tRaw) <| .take 18 (.val tRaw) <| .call 19 tRaw [3, 6, 8, 9, 12, 14] <| .take 20 (.val tRaw) <| .take 21 (.val tRaw) <| .take 22 (.val tRaw) <| .now 23 (.val tRaw) [] <| .now 24 (.val tRaw) [] .nil), (18, .take 0 (.val tRaw) <| .take 1 (.val tRaw) <| .take 2 (.val tRaw) <| .take 3 (.get tRaw) <| .take 4 (.val tRaw) <| .take 5 (.val tRaw) <| .take 6 (.get tRaw) <| .take 7 (.val tRaw) <| .take 8 (.get tRaw) <| .take 9 (.get tRaw) <| .take 10 (.val tRaw) <| .take 11 (.get tRaw) <| .take 12 (.val tRaw) <| .call 13 tRaw [3, 6, 8] .nil), (19, .take 0 (.val tRaw) <| .take 1 (.val tRaw) <| .take 2 (.val tRaw) <| .take 3 (.val tRaw) <| .take 4 (.val tRaw) <| .take 5 (.val tRaw) <| .take 6 (.get tRaw) <| .take 7 (.val tRaw) <| .take 8 (.val tRaw) <| .take 9 (.get tRaw) <| .take 10 (.val tRaw) <| .take 11 (.get tRaw) <| .take 12 (.val tRaw) <| .take 13 (.get tRaw) <| .take 14 (.val tRaw) <| .take 15 (.val tRaw) <| .effU 16 [11, 13] <| .take 17 (.val tRaw) <| .take 18 (.val tRaw) <| .effU 19 [13] <| .take 20 (.val tRaw) <| .take 21 (.val tRaw) <| .effU 22 [] .nil)]
theorem ck16 : compFn Tryz.prog dr16 16 = some cf16 := by kernel_rfl
theorem cd16 : fnOkB Tryz.prog dr16 dt16 16 = true := by kernel_rfl
theorem ck20 : compFn Tryz.prog [] 20 = some cf20 := by kernel_rfl
theorem cd20 : fnOkB Tryz.prog [] [] 20 = true := by kernel_rfl
theorem ck24 : compFn Tryz.prog [] 24 = some cf24 := by kernel_rfl
theorem cd24 : fnOkB Tryz.prog [] [] 24 = true := by kernel_rfl
theorem ck32 : compFn Tryz.prog [] 32 = some cf32 := by kernel_rfl
theorem cd32 : fnOkB Tryz.prog [] [] 32 = true := by kernel_rfl
def dr36 : List (Nat × List Nat) := [(3, [0, 1, 2, 3, 4, 5, 6, 7, 1001, 1005]), (5, [0, 1, 2, 3, 4, 5, 6, 7, 8, 1001, 1005]), (7, [0, 1, 2, 3, 4, 5, 6, 7, 1001, 1005])]
def dt36 : List (Nat × DSteps) := [(3, .take 0 (.val tRaw) <| .take 1 (.get tRaw) <| .take 2 (.val tRaw) <| .take 3 (.val tRaw) <| .take 4 (.val tRaw) <| .take 5 (.get tRaw) <| .take 6 (.val tRaw) <| .now 7 (.val tRaw) [1, 5] .nil), (5, .take 0 (.val tRaw) <| .take 1 (.get tRaw) <| .take 2 (.val tRaw) <| .take 3 (.val tRaw) <| .take 4 (.val tRaw) <| .take 5 (.get tRaw) <| .take 6 (.val tRaw) <| .take 7 (.val tRaw) <| .now 8 (.val tRaw) [1, 5] .nil), (7, .take 0 (.val tRaw) <| .take 1 (.get tRaw) <| .take 2 (.val tRaw) <| .take 3 (.val tRaw) <| .take 4 (.val tRaw) <| .take 5 (.get tRaw) <| .take 6 (.val tRaw) <| .now 7 (.val tRaw) [1, 5] .nil)]
theorem ck36 : compFn Tryz.prog dr36 36 = some cf36 := by kernel_rfl
theorem cd36 : fnOkB Tryz.prog dr36 dt36 36 = true := by kernel_rfl
theorem ck46 : compFn Tryz.prog [] 46 = some cf46 := by kernel_rfl
theorem cd46 : fnOkB Tryz.prog [] [] 46 = true := by kernel_rfl
def dr56 : List (Nat × List Nat) := [(1, [0, 1, 2, 3, 4, 5, 6, 7, 8, 9, 10, 11, 12, 13, 14, 15, 16, 17, 1001, 1007, 1009, 1011, 18, 19, 20, 1001, 1009, 1011, 21, 22]), (8, [0, 1, 2, 3, 5, 6, 7, 8, 9, 10, 4, 1008, 11, 12, 13, 14, 15, 16, 17, 18, 19]), (9, [0, 2, 3, 4, 5, 7, 8, 9, 10, 11, 12, 1005, 1010, 2013, 1, 1005, 1010, 1012, 1005, 1010, 2013, 6, 1010, 1012, 13, 1010, 14, 1010, 15, 16, 17]), (10, [0, 1, 2, 3, 5, 6, 7, 8, 4, 1008, 9, 10, 11, 12, 13, 14, 15, 16, 17, 18, 19, 20]), (14, [0, 1, 2, 3, 5, 6, 7, 8, 9, 4, 1008, 10, 11, 12, 13, 14, 15, 17, 18, 19, 20, 16, 1008, 1020, 21, 22, 23])]
def dt56 : List (Nat × DSteps) := [(1, .take 0 (.val tRaw) <| .take 1 (.get tRaw) <| .take 2 (.val tRaw) <| .take 3 (.val tRaw) <| .split 9 <| .take 4 (.val tRaw) <| .take 5 (.val tRaw) <| .take 6 (.val tRaw) <| .take 7 (.get tRaw) <| .take 8 (.val tRaw) <| .take 9 (.get tRaw) <| .take 10 (.val tRaw) <| .take 11 (.get tRaw) <| .take 12 (.val tRaw) <| .take 13 (.val tRaw) <| .take 14 (.val tRaw) <| .take 15 (.val tRaw) <| .take 16 (.get tRaw) <| .call 17 tRaw [1, 7, 9, 11] <| .take 18 (.val tRaw) <| .take 19 (.val tRaw) <| .call 20 tRaw [1, 9, 11] <| .take 21 (.val tRaw) <| .take 22 (.val tRaw) .nil), (8, .take 0 (.val tRaw) <| .take 1 (.val tRaw) <| .take 2 (.val tRaw) <| .take 3 (.get tRaw) <| .take 5 (.val tRaw) <| .take 6 (.val tRaw) <| .take 7 (.val tRaw) <| .take 8 (.get tRaw) <| .take 9 (.val tRaw) <| .take 10 (.val tRaw) <| .call 4 tRaw [8] <| .take 11 (.val tRaw) <| .take 12 (.val tRaw) <| .split 68 <| .take 13 (.val tRaw) <| .take 14 (.val tRaw) <| .take 15 (.val tRaw) <| .take 16 (.get tRaw) <| .take 17 (.val tRaw) <| .take 18 (.val tRaw) <| .take 19 (.val tRaw) .nil), (9, .take 0 (.val tRaw) <| .take 2 (.val tRaw) <| .take 3 (.val tRaw) <| .take 4 (.val tRaw) <| .take 5 (.get tRaw) <| .take 7 (.val tRaw) <| .take 8 (.val tRaw) <| .take 9 (.val tRaw) <| .take 10 (.get tRaw) <| .take 11 (.val tRaw) <| .take 12 (.get tRaw) <| .alt (.eff 1 tRaw [5, 10, 12] <| .alt (.eff 6 tRaw [10, 12] <| .eff 13 tRaw [10] <| .eff 14 tRaw [10] <| .take 15 (.val tRaw) <| .take 16 (.val tRaw) <| .effU 17 [] .nil) (.eff 13 tRaw [5, 10] <| .eff 6 tRaw [10] <| .eff 14 tRaw [10] <| .take 15 (.val tRaw) <| .take 16 (.val tRaw) <| .effU 17 [] .nil)) (.eff 13 tRaw [5, 10] <| .eff 1 tRaw [5, 10] <| .eff 6 tRaw [10] <| .eff 14 tRaw [10] <| .take 15 (.val tRaw) <| .take 16 (.val tRaw) <| .effU 17 [] .nil)), (10, .take 0 (.val tRaw) <| .take 1 (.val tRaw) <| .take 2 (.val tRaw) <| .take 3 (.get tRaw) <| .take 5 (.val tRaw) <| .take 6 (.val tRaw) <| .take 7 (.val tRaw) <| .take 8 (.get tRaw) <| .call 4 tRaw [8] <| .take 9 (.val tRaw) <| .take 10 (.val tRaw) <| .split 103 <| .take 11 (.val tRaw) <| .take 12 (.val tRaw) <| .take 13 (.val tRaw) <| .take 14 (.get tRaw) <| .take 15 (.val tRaw) <| .take 16 (.val tRaw) <| .take 17 (.val tRaw) <| .take 18 (.get tRaw) <| .take 19 (.val tRaw) <| .take 20 (.val tRaw) .nil), (14, .take 0 (.val tRaw) <| .take 1 (.val tRaw) <| .take 2 (.val tRaw) <| .take 3 (.get tRaw) <| .take 5 (.val tRaw) <| .take 6 (.val tRaw) <| .take 7 (.val tRaw) <| .take 8 (.get tRaw) <| .take 9 (.val tRaw) <| .call 4 tRaw [8] <| .take 10 (.val tRaw) <| .take 11 (.val tRaw) <| .split 138 <| .take 12 (.val tRaw) <| .take 13 (.val tRaw) <| .take 14 (.val tRaw) <| .take 15 (.get tRaw) <| .take 17 (.val tRaw) <| .take 18 (.val tRaw) <| .take 19 (.val tRaw) <| .take 20 (.get tRaw) <| .call 16 tRaw [8, 20] <| .take 21 (.val tRaw) <| .take 22 (.val tRaw) <| .now 23 (.val tRaw) [] .nil)]
theorem ck56 : compFn Tryz.prog dr56 56 = some cf56 := by kernel_rfl
theorem cd56 : fnOkB Tryz.prog dr56 dt56 56 = true := by kernel_rfl
theorem ck66 : compFn Tryz.prog [] 66 = some cf66 := by kernel_rfl
theorem cd66 : fnOkB Tryz.prog [] [] 66 = true := by kernel_rfl
def dr74 : List (Nat × List Nat) := [(1, [0, 1, 2, 3, 4, 5, 6, 7, 8, 9, 10, 11, 12, 13])]
def dt74 : List (Nat × DSteps) := [(1, .take 0 (.val tRaw) <| .take 1 (.val tRaw) <| .take 2 (.val tRaw) <| .take 3 (.get tRaw) <| .take 4 (.val tRaw) <| .take 5 (.val tRaw) <| .take 6 (.val tRaw) <| .take 7 (.get tRaw) <| .take 8 (.val tRaw) <| .take 9 (.val tRaw) <| .take 10 (.val tRaw) <| .take 11 (.val tRaw) <| .take 12 (.get tRaw) <| .effU 13 [] .nil)]
theorem ck74 : compFn Tryz.prog dr74 74 = some cf74 := by kernel_rfl
theorem cd74 : fnOkB Tryz.prog dr74 dt74 74 = true := by kernel_rfl
def dr75 : List (Nat × List Nat) := [(8, [0, 1, 2, 3, 4, 5, 6, 7, 8, 9, 10, 11, 12, 13, 14, 15]), (10, [0, 1, 2, 3, 4, 5, 7, 8, 9, 6, 10, 11, 12])]
def dt75 : List (Nat × DSteps) := [(8, .take 0 (.val tRaw) <| .take 1 (.val tRaw) <| .take 2 (.val tRaw) <| .split 24 <| .take 3 (.val tRaw) <| .take 4 (.val tRaw) <| .take 5 (.val tRaw) <| .take 6 (.val tRaw) <| .take 7 (.val tRaw) <| .take 8 (.val tRaw) <| .take 9 (.get tRaw) <| .take 10 (.val tRaw) <| .take 11 (.val tRaw) <| .take 12 (.val tRaw) <| .take 13 (.get tRaw) <| .take 14 (.val tRaw) <| .take 15 (.val tRaw) .nil), (10, .take 0 (.val tRaw) <| .take 1 (.val tRaw) <| .take 2 (.val tRaw) <| .take 3 (.val tRaw) <| .take 4 (.val tRaw) <| .take 5 (.get tRaw) <| .take 7 (.val tRaw) <| .take 8 (.val tRaw) <| .take 9 (.val tRaw) <| .eff 6 tRaw [] <| .eff 10 tRaw [] <| .eff 11 tRaw [] <| .now 12 (.val tRaw) [] .nil)]
theorem ck75 : compFn Tryz.prog dr75 75 = some cf75 := by kernel_rfl
theorem cd75 : fnOkB Tryz.prog dr75 dt75 75 = true := by kernel_rfl
def dr88 : List (Nat × List Nat) := [(1, [0, 1, 2, 3, 4, 5, 6, 7, 8, 9, 10, 1004, 1007, 11, 1007, 12])]
def dt88 : List (Nat × DSteps) := [(1, .take 0 (.val tRaw) <| .take 1 (.get tRaw) <| .take 2 (.val tRaw) <| .take 3 (.val tRaw) <| .take 4 (.get tRaw) <| .take 5 (.val tRaw) <| .take 6 (.val tRaw) <| .take 7 (.get tRaw) <| .take 8 (.val tRaw) <| .take 9 (.val tRaw) <| .now 10 (.val tRaw) [4, 7] <| .now 11 (.val tRaw) [7] <| .now 12 (.val tRaw) [] .nil)]
theorem ck88 : compFn Tryz.prog dr88 88 = some cf88 := by kernel_rfl
theorem cd88 : fnOkB Tryz.prog dr88 dt88 88 = true := by kernel_rfl
theorem ck95 : compFn Tryz.prog [] 95 = some cf95 := by kernel_rfl
theorem cd95 : fnOkB Tryz.prog [] [] 95 = true := by kernel_rfl
theorem ck103 : compFn Tryz.prog [] 103 = some cf103 := by kernel_rfl
theorem cd103 : fnOkB Tryz.prog [] [] 103 = true := by kernel_rfl
theorem ck109 : compFn Tryz.prog [] 109 = some cf109 := by kernel_rfl
theorem cd109 : fnOkB Tryz.prog [] [] 109 = true := by kernel_rfl
theorem ck116 : compFn Tryz.prog [] 116 = some cf116 := by kernel_rfl
theorem cd116 : fnOkB Tryz.prog [] [] 116 = true := by kernel_rfl
theorem ck118 : compFn Tryz.prog [] 118 = some cf118 := by kernel_rfl
theorem cd118 : fnOkB Tryz.prog [] [] 118 = true := by kernel_rfl
theorem ck121 : compFn Tryz.prog [] 121 = some cf121 := by kernel_rfl
theorem cd121 : fnOkB Tryz.prog [] [] 121 = true := by kernel_rfl
theorem ck127 : compFn Tryz.prog [] 127 = some cf127 := by kernel_rfl
theorem cd127 : fnOkB Tryz.prog [] [] 127 = true := by kernel_rfl
def dr130 : List (Nat × List Nat) := [(5, [0, 1, 2, 3, 4, 5, 6, 7, 1001, 1005]), (7, [0, 1, 2, 3, 4, 5, 6, 7, 8, 1001, 1005]), (16, [0, 1, 2, 4, 5, 3, 1005, 6, 7, 8, 9])]
def dt130 : List (Nat × DSteps) := [(5, .take 0 (.val tRaw) <| .take 1 (.get tRaw) <| .take 2 (.val tRaw) <| .take 3 (.val tRaw) <| .take 4 (.val tRaw) <| .take 5 (.get tRaw) <| .take 6 (.val tRaw) <| .now 7 (.val tRaw) [1, 5] .nil), (7, .take 0 (.val tRaw) <| .take 1 (.get tRaw) <| .take 2 (.val tRaw) <| .take 3 (.val tRaw) <| .take 4 (.val tRaw) <| .take 5 (.get tRaw) <| .take 6 (.val tRaw) <| .take 7 (.val tRaw) <| .now 8 (.val tRaw) [1, 5] .nil), (16, .take 0 (.val tRaw) <| .take 1 (.val tRaw) <| .take 2 (.val tRaw) <| .take 4 (.val tRaw) <| .take 5 (.get tRaw) <| .call 3 tRaw [5] <| .call 6 tRaw [] <| .take 7 (.val tRaw) <| .take 8 (.val tRaw) <| .effU 9 [] .nil)]
theorem ck130 : compFn Tryz.prog dr130 130 = some cf130 := by kernel_rfl
theorem cd130 : fnOkB Tryz.prog dr130 dt130 130 = true := by kernel_rfl
theorem ck147 : compFn Tryz.prog [] 147 = some cf147 := by kernel_rfl
theorem cd147 : fnOkB Tryz.prog [] [] 147 = true := by kernel_rfl
theorem ck152 : compFn Tryz.prog [] 152 = some cf152 := by kernel_rfl
theorem cd152 : fnOkB Tryz.prog [] [] 152 = true := by kernel_rfl
def dr156 : List (Nat × List Nat) := [(6, [0, 1, 2, 3, 4, 5, 6, 7, 8, 9, 10])]
def dt156 : List (Nat × DSteps) := [(6, .take 0 (.val tRaw) <| .take 1 (.get tRaw) <| .take 2 (.val tRaw) <| .take 3 (.val tRaw) <| .take 4 (.get tRaw) <| .take 5 (.val tRaw) <| .take 6 (.get tRaw) <| .take 7 (.val tRaw) <| .take 8 (.val tRaw) <| .take 9 (.get tRaw) <| .take 10 (.val tRaw) .nil)]
theorem ck156 : compFn Tryz.prog dr156 156 = some cf156 := by kernel_rfl
theorem cd156 : fnOkB Tryz.prog dr156 dt156 156 = true := by kernel_rfl
theorem ck167 : compFn Tryz.prog [] 167 = some cf167 := by kernel_rfl
theorem cd167 : fnOkB Tryz.prog [] [] 167 = true := by kernel_rfl
def dr170 : List (Nat × List Nat) := [(7, [0, 1, 2, 3, 1001, 4, 1001, 5, 6, 7]), (8, [0, 1, 2, 1000, 3, 4, 5, 7, 6, 1000, 8, 9, 10, 11])]
def dt170 : List (Nat × DSteps) := [(7, .take 0 (.val tRaw) <| .take 1 (.get tRaw) <| .take 2 (.val tRaw) <| .call 3 tRaw [1] <| .eff 4 tRaw [1] <| .eff 5 tRaw [] <| .take 6 (.val tRaw) <| .effU 7 [] .nil), (8, .take 0 (.get tRaw) <| .take 1 (.get tRaw) <| .call 2 tRaw [0] <| .take 3 (.val tRaw) <| .take 4 (.val tRaw) <| .split 36 <| .take 5 (.get tRaw) <| .take 7 (.val tRaw) <| .call 6 tRaw [0] <| .take 8 (.val tRaw) <| .take 9 (.val tRaw) <| .effU 10 [] <| .now 11 (.val tRaw) [] .nil)]
theorem ck170 : compFn Tryz.prog dr170 170 = some cf170 := by kernel_rfl
theorem cd170 : fnOkB Tryz.prog dr170 dt170 170 = true := by kernel_rfl
theorem ck177 : compFn Tryz.prog [] 177 = some cf177 := by kernel_rfl
theorem cd177 : fnOkB Tryz.prog [] [] 177 = true := by kernel_rfl
def dr187 : List (Nat × List Nat) := [(3, [0, 1, 2, 3, 4, 5, 1003, 6, 7])]
def dt187 : List (Nat × DSteps) := [(3, .take 0 (.val tRaw) <| .take 1 (.val tRaw) <| .take 2 (.val tRaw) <| .take 3 (.get tRaw) <| .take 4 (.get tRaw) <| .call 5 tRaw [3] <| .call 6 tRaw [] <| .now 7 (.val tRaw) [] .nil)]
theorem ck187 : compFn Tryz.prog dr187 187 = some cf187 := by kernel_rfl
theorem cd187 : fnOkB Tryz.prog dr187 dt187 187 = true := by kernel_rfl
theorem ck193 : compFn Tryz.prog [] 193 = some cf193 := by kernel_rfl
theorem cd193 : fnOkB Tryz.prog [] [] 193 = true := by kernel_rfl
theorem ck194 : compFn Tryz.prog [] 194 = some cf194 := by kernel_rfl
theorem cd194 : fnOkB Tryz.prog [] [] 194 = true := by kernel_rfl
theorem ck204 : compFn Tryz.prog [] 204 = some cf204 := by kernel_rfl
theorem cd204 : fnOkB Tryz.prog [] [] 204 = true := by kernel_rfl
def dr207 : List (Nat × List Nat) := [(1, [0, 1, 2, 3, 4, 5, 1000, 6])]
def dt207 : List (Nat × DSteps) := [(1, .take 0 (.get tRaw) <| .take 1 (.val tRaw) <| .take 2 (.val tRaw) <| .take 3 (.get tRaw) <| .take 4 (.get tRaw) <| .call 5 tRaw [0] <| .now 6 (.val tRaw) [] .nil)]
theorem ck207 : compFn Tryz.prog dr207 207 = some cf207 := by kernel_rfl
theorem cd207 : fnOkB Tryz.prog dr207 dt207 207 = true := by kernel_rfl
theorem ck217 : compFn Tryz.prog [] 217 = some cf217 := by kernel_rfl
theorem cd217 : fnOkB Tryz.prog [] [] 217 = true := by kernel_rfl
theorem ck223 : compFn Tryz.prog [] 223 = some cf223 := by kernel_rfl
theorem cd223 : fnOkB Tryz.prog [] [] 223 = true := by kernel_rfl
def dr224 : List (Nat × List Nat) := [(13, [0, 1, 2, 3, 4, 5, 6, 7, 8])]
def dt224 : List (Nat × DSteps) := [(13, .take 0 (.val tRaw) <| .take 1 (.get tRaw) <| .take 2 (.val tRaw) <| .take 3 (.val tRaw) <| .take 4 (.val tRaw) <| .take 5 (.get tRaw) <| .take 6 (.val tRaw) <| .take 7 (.get tRaw) <| .take 8 (.val tRaw) .nil)]
theorem ck224 : compFn Tryz.prog dr224 224 = some cf224 := by kernel_rfl
theorem cd224 : fnOkB Tryz.prog dr224 dt224 224 = true := by kernel_rfl
theorem ck226 : compFn Tryz.prog [] 226 = some cf226 := by kernel_rfl
theorem cd226 : fnOkB Tryz.prog [] [] 226 = true := by kernel_rfl
def dr230 : List (Nat × List Nat) := [(3, [0, 1, 3, 4, 7, 8, 9, 2, 1004, 1008, 5, 1008, 6, 10, 1008, 11, 12])]
def dt230 : List (Nat × DSteps) := [(3, .take 0 (.val tRaw) <| .take 1 (.get tRaw) <| .take 3 (.val tRaw) <| .take 4 (.get tRaw) <| .take 7 (.val tRaw) <| .take 8 (.get tRaw) <| .take 9 (.val tRaw) <| .call 2 tRaw [4, 8] <| .call 5 tRaw [8] <| .take 6 (.val tRaw) <| .call 10 tRaw [8] <| .take 11 (.val tRaw) <| .now 12 (.val tRaw) [] .nil)]
theorem ck230 : compFn Tryz.prog dr230 230 = some cf230 := by kernel_rfl
theorem cd230 : fnOkB Tryz.prog dr230 dt230 230 = true := by kernel_rfl
theorem ck237 : compFn Tryz.prog [] 237 = some cf237 := by kernel_rfl
theorem cd237 : fnOkB Tryz.prog [] [] 237 = true := by kernel_rfl
theorem ck239 : compFn Tryz.prog [] 239 = some cf239 := by kernel_rfl
theorem cd239 : fnOkB Tryz.prog [] [] 239 = true := by kernel_rfl
theorem ck249 : compFn Tryz.prog [] 249 = some cf249 := by kernel_rfl
theorem cd249 : fnOkB Tryz.prog [] [] 249 = true := by kernel_rfl
theorem ck258 : compFn Tryz.prog [] 258 = some cf258 := by kernel_rfl
theorem cd258 : fnOkB Tryz.prog [] [] 258 = true := by kernel_rfl
def dr264 : List (Nat × List Nat) := [(3, [0, 1, 2, 5, 3006, 3, 4, 6, 1004, 7, 8])]
def dt264 : List (Nat × DSteps) := [(3, .take 0 (.val tRaw) <| .take 1 (.val tRaw) <| .take 2 (.val tRaw) <| .take 5 (.val tRaw) <| .alt (.eff 3 tRaw [] <| .take 4 (.get tRaw) <| .call 6 tRaw [4] <| .take 7 (.val tRaw) <| .now 8 (.val tRaw) [] .nil) (.call 6 tRaw [] <| .eff 3 tRaw [] <| .take 4 (.get tRaw) <| .take 7 (.val tRaw) <| .now 8 (.val tRaw) [] .nil))]
theorem ck264 : compFn Tryz.prog dr264 264 = some cf264 := by kernel_rfl
theorem cd264 : fnOkB Tryz.prog dr264 dt264 264 = true := by kernel_rfl
theorem ck265 : compFn Tryz.prog [] 265 = some cf265 := by kernel_rfl
theorem cd265 : fnOkB Tryz.prog [] [] 265 = true := by kernel_rfl
theorem ck268 : compFn Tryz.prog [] 268 = some cf268 := by kernel_rfl
theorem cd268 : fnOkB Tryz.prog [] [] 268 = true := by kernel_rfl
theorem ck269 : compFn Tryz.prog [] 269 = some cf269 := by kernel_rfl
theorem cd269 : fnOkB Tryz.prog [] [] 269 = true := by kernel_rfl
def dr280 : List (Nat × List Nat) := [(9, [0, 1, 2, 3, 4, 5, 6, 7, 8, 9, 10, 12, 13, 11, 1001, 1005, 1013, 14, 15, 16])]
def dt280 : List (Nat × DSteps) := [(9, .take 0 (.val tRaw) <| .take 1 (.get tRaw) <| .take 2 (.val tRaw) <| .take 3 (.val tRaw) <| .split 55 <| .take 4 (.val tRaw) <| .take 5 (.get tRaw) <| .take 6 (.val tRaw) <| .take 7 (.val tRaw) <| .take 8 (.val tRaw) <| .split 60 <| .take 9 (.val tRaw) <| .take 10 (.get tRaw) <| .take 12 (.val tRaw) <| .take 13 (.get tRaw) <| .call 11 tRaw [1, 5, 13] <| .take 14 (.val tRaw) <| .take 15 (.val tRaw) <| .now 16 (.val tRaw) [] .nil)]
theorem ck280 : compFn Tryz.prog dr280 280 = some cf280 := by kernel_rfl
theorem cd280 : fnOkB Tryz.prog dr280 dt280 280 = true := by kernel_rfl
theorem ck282 : compFn Tryz.prog [] 282 = some cf282 := by kernel_rfl
theorem cd282 : fnOkB Tryz.prog [] [] 282 = true := by kernel_rfl
def dr297 : List (Nat × List Nat) := [(1, [0, 1, 2, 3, 4, 5, 6, 7, 8, 9, 10, 11, 1007, 12, 13, 14, 15, 16]), (17, [0, 1, 2, 3, 4, 5, 6, 7, 8]), (18, [0, 1, 2, 3, 4, 5, 6, 7, 8, 9, 10, 11, 12, 13, 14, 15, 1002, 1010, 16])]
def dt297 : List (Nat × DSteps) := [(1, .take 0 (.val tRaw) <| .take 1 (.val tRaw) <| .take 2 (.val tRaw) <| .take 3 (.get tRaw) <| .take 4 (.val tRaw) <| .take 5 (.val tRaw) <| .take 6 (.val tRaw) <| .take 7 (.get tRaw) <| .take 8 (.val tRaw) <| .take 9 (.val tRaw) <| .take 10 (.val tRaw) <| .call 11 tRaw [7] <| .take 12 (.val tRaw) <| .take 13 (.val tRaw) <| .take 14 (.val tRaw) <| .now 15 (.val tRaw) [] <| .now 16 (.val tRaw) [] .nil), (17, .take 0 (.val tRaw) <| .take 1 (.val tRaw) <| .take 2 (.val tRaw) <| .take 3 (.val tRaw) <| .take 4 (.val tRaw) <| .take 5 (.val tRaw) <| .take 6 (.val tRaw) <| .eff 7 tRaw [] <| .effU 8 [] .nil), (18, .take 0 (.get tRaw) <| .take 1 (.val tRaw) <| .take 2 (.get tRaw) <| .take 3 (.val tRaw) <| .take 4 (.val tRaw) <| .take 5 (.val tRaw) <| .split 98 <| .take 6 (.val tRaw) <| .take 7 (.val tRaw) <| .take 8 (.val tRaw) <| .split 101 <| .take 9 (.val tRaw) <| .take 10 (.get tRaw) <| .take 11 (.val tRaw) <| .take 12 (.val tRaw) <| .take 13 (.val tRaw) <| .take 14 (.val tRaw) <| .effU 15 [2, 10] <| .now 16 (.val tRaw) [] .nil)]
theorem ck297 : compFn Tryz.prog dr297 297 = some cf297 := by kernel_rfl
theorem cd297 : fnOkB Tryz.prog dr297 dt297 297 = true := by kernel_rfl
theorem ck300 : compFn Tryz.prog [] 300 = some cf300 := by kernel_rfl
theorem cd300 : fnOkB Tryz.prog [] [] 300 = true := by kernel_rfl
theorem ck309 : compFn Tryz.prog [] 309 = some cf309 := by kernel_rfl
theorem cd309 : fnOkB Tryz.prog [] [] 309 = true := by kernel_rfl
theorem ck313 : compFn Tryz.prog [] 313 = some cf313 := by kernel_rfl
theorem cd313 : fnOkB Tryz.prog [] [] 313 = true := by kernel_rfl
def dr320 : List (Nat × List Nat) := [(10, [0, 1, 2, 3, 4, 1001, 5, 6, 7, 8])]
def dt320 : List (Nat × DSteps) := [(10, .take 0 (.val tRaw) <| .take 1 (.get tRaw) <| .take 2 (.val tRaw) <| .take 3 (.val tRaw) <| .call 4 tRaw [1] <| .take 5 (.val tRaw) <| .take 6 (.val tRaw) <| .take 7 (.val tRaw) <| .effU 8 [] .nil)]
theorem ck320 : compFn Tryz.prog dr320 320 = some cf320 := by kernel_rfl
theorem cd320 : fnOkB Tryz.prog dr320 dt320 320 = true := by kernel_rfl
theorem ck321 : compFn Tryz.prog [] 321 = some cf321 := by kernel_rfl
theorem cd321 : fnOkB Tryz.prog [] [] 321 = true := by kernel_rfl
end Go.Proofs.YtelhccfmfnaegaaGreat
