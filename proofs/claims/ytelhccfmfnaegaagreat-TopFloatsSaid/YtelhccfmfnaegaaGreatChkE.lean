/- The tables are what the interpreter lays out: fifth part. No conditions. -/
import Derived.Test.YtelhccfmfnaegaaGreatTabB
import Derived.Test.YtelhccfmfnaegaaGreatIntB
import Derived.Test.YtelhccfmfnaegaaGreatProg
/- What is laid out is what the interpreter lays out, and its regions that draw are good: checked by the kernel (printed by program). -/
set_option linter.unusedSectionVars false
set_option maxRecDepth 100000
set_option linter.unusedVariables false
namespace Go.Proofs.YtelhccfmfnaegaaGreat
open Go Go.Sh
variable [Env]
def dr7 : List (Nat × List Nat) := [(4, [0, 1, 2, 3, 4, 5, 6, 8, 7, 1003, 1008, 9, 1003, 10, 11, 12, 13])]
def dt7 : List (Nat × DSteps) := [(4, .take 0 (.val tRaw) <| .take 1 (.val tRaw) <| .take 2 (.val tRaw) <| .take 3 (.get tRaw) <| .take 4 (.val tRaw) <| .take 5 (.val tRaw) <| .take 6 (.get tRaw) <| .take 8 (.get tRaw) <| .call 7 tRaw [3, 8] <| .call 9 tRaw [3] <| .take 10 (.val tRaw) <| .take 11 (.val tRaw) <| .now 12 (.val tRaw) [] <| .now 13 (.val tRaw) [] .nil)]
theorem ck7 : compFn Tryz.prog dr7 7 = some cf7 := by kernel_rfl
theorem cd7 : fnOkB Tryz.prog dr7 dt7 7 = true := by kernel_rfl
theorem ck13 : compFn Tryz.prog [] 13 = some cf13 := by kernel_rfl
theorem cd13 : fnOkB Tryz.prog [] [] 13 = true := by kernel_rfl
def dr21 : List (Nat × List Nat) := [(9, [0, 1, 2, 3, 4, 5, 6, 7, 8, 9, 10, 11, 12]), (13, [0, 2, 3, 4, 5, 7, 8, 1005, 2009, 1, 1005, 1008, 1005, 2009, 6, 1008, 9, 10, 11, 12, 13]), (19, [0, 1, 2, 3, 4, 5, 6, 7, 8, 9, 10, 11]), (33, [0, 1, 2, 3, 4, 5, 6])]
def dt21 : List (Nat × DSteps) := [(9, .take 0 (.val tRaw) <| .take 1 (.val tRaw) <| .take 2 (.val tRaw) <| .take 3 (.val tRaw) <| .split 41 <| .take 4 (.val tRaw) <| .take 5 (.val tRaw) <| .take 6 (.val tRaw) <| .take 7 (.get tRaw) <| .take 8 (.val tRaw) <| .take 9 (.val tRaw) <| .take 10 (.get tRaw) <| .take 11 (.val tRaw) <| .take 12 (.val tRaw) .nil), (13, .take 0 (.val tRaw) <| .take 2 (.val tRaw) <| .take 3 (.val tRaw) <| .take 4 (.val tRaw) <| .take 5 (.get tRaw) <| .take 7 (.val tRaw) <| .take 8 (.get tRaw) <| .alt (.eff 1 tRaw [5, 8] <| .alt (.eff 6 tRaw [8] <| .eff 9 tRaw [] <| .eff 10 tRaw [] <| .take 11 (.val tRaw) <| .take 12 (.val tRaw) <| .effU 13 [] .nil) (.eff 9 tRaw [5] <| .eff 6 tRaw [] <| .eff 10 tRaw [] <| .take 11 (.val tRaw) <| .take 12 (.val tRaw) <| .effU 13 [] .nil)) (.eff 9 tRaw [5] <| .eff 1 tRaw [5] <| .eff 6 tRaw [] <| .eff 10 tRaw [] <| .take 11 (.val tRaw) <| .take 12 (.val tRaw) <| .effU 13 [] .nil)), (19, .take 0 (.val tRaw) <| .take 1 (.val tRaw) <| .take 2 (.val tRaw) <| .take 3 (.get tRaw) <| .take 4 (.val tRaw) <| .take 5 (.get tRaw) <| .call 6 tRaw [] <| .take 7 (.val tRaw) <| .take 8 (.val tRaw) <| .take 9 (.val tRaw) <| .now 10 (.val tRaw) [] <| .now 11 (.val tRaw) [] .nil), (33, .take 0 (.val tRaw) <| .take 1 (.val tRaw) <| .take 2 (.val tRaw) <| .take 3 (.get tRaw) <| .take 4 (.val tRaw) <| .take 5 (.get tRaw) <| .call 6 tRaw [] .nil)]
theorem ck21 : compFn Tryz.prog dr21 21 = some cf21 := by kernel_rfl
theorem cd21 : fnOkB Tryz.prog dr21 dt21 21 = true := by kernel_rfl
theorem ck25 : compFn Tryz.prog [] 25 = some cf25 := by kernel_rfl
theorem cd25 : fnOkB Tryz.prog [] [] 25 = true := by kernel_rfl
def dr41 : List (Nat × List Nat) := [(1, [1, 2, 1002, 2007, 0, 1002, 3, 4, 5, 6, 7, 1002, 1003, 8, 9]), (4, [0, 1, 2, 3, 4, 5, 6, 1002, 1004, 1006, 2012, 7, 1002, 1002, 2012, 8, 9, 10, 11, 12, 13, 14])]
def dt41 : List (Nat × DSteps) := [(1, .take 1 (.val tRaw) <| .take 2 (.get tRaw) <| .alt (.call 0 tRaw [2] <| .take 3 (.get tRaw) <| .take 4 (.val tRaw) <| .take 5 (.val tRaw) <| .take 6 (.val tRaw) <| .eff 7 tRaw [2, 3] <| .effU 8 [] <| .now 9 (.val tRaw) [] .nil) (.eff 7 tRaw [2] <| .call 0 tRaw [2] <| .take 3 (.get tRaw) <| .take 4 (.val tRaw) <| .take 5 (.val tRaw) <| .take 6 (.val tRaw) <| .effU 8 [] <| .now 9 (.val tRaw) [] .nil)), (4, .take 0 (.val tRaw) <| .take 1 (.val tRaw) <| .take 2 (.get tRaw) <| .take 3 (.val tRaw) <| .take 4 (.get tRaw) <| .take 5 (.val tRaw) <| .take 6 (.get tRaw) <| .alt (.call 7 tRaw [2] <| .alt (.call 8 tRaw [] <| .take 9 (.val tRaw) <| .take 10 (.val tRaw) <| .take 11 (.val tRaw) <| .eff 12 tRaw [] <| .effU 13 [] <| .now 14 (.val tRaw) [] .nil) (.eff 12 tRaw [2] <| .call 8 tRaw [] <| .take 9 (.val tRaw) <| .take 10 (.val tRaw) <| .take 11 (.val tRaw) <| .effU 13 [] <| .now 14 (.val tRaw) [] .nil)) (.eff 12 tRaw [2, 4, 6] <| .call 7 tRaw [2] <| .call 8 tRaw [] <| .take 9 (.val tRaw) <| .take 10 (.val tRaw) <| .take 11 (.val tRaw) <| .effU 13 [] <| .now 14 (.val tRaw) [] .nil))]
theorem ck41 : compFn Tryz.prog dr41 41 = some cf41 := by kernel_rfl
theorem cd41 : fnOkB Tryz.prog dr41 dt41 41 = true := by kernel_rfl
theorem ck51 : compFn Tryz.prog [] 51 = some cf51 := by kernel_rfl
theorem cd51 : fnOkB Tryz.prog [] [] 51 = true := by kernel_rfl
def dr72 : List (Nat × List Nat) := [(1, [0, 1, 2, 3, 4, 5, 6, 7, 8, 9, 10]), (3, [0, 1, 2, 3, 4, 5, 6, 1003, 1004, 7]), (6, [0, 1, 2, 3, 4, 5, 6, 7, 8, 9, 1003, 1006, 1008, 1009, 2011, 10, 1003, 1006, 1008, 11, 1003, 1006, 1008, 12, 13, 1003, 1006, 1008, 14]), (7, [0, 2, 1, 1002, 3, 4, 5]), (9, [0, 1, 2, 3, 4, 5, 6, 7, 8, 9, 10, 11, 12, 13, 14, 15, 16, 17, 18, 1003, 1007, 1012, 1016]), (10, [0, 1, 2, 3, 4, 5, 6, 7, 8, 9, 10, 11, 12]), (4, [0, 1, 2, 3, 4, 5, 6, 1004, 7, 8, 9, 10])]
def dt72 : List (Nat × DSteps) := [(1, .take 0 (.val tRaw) <| .take 1 (.val tRaw) <| .take 2 (.val tRaw) <| .take 3 (.get tRaw) <| .take 4 (.val tRaw) <| .take 5 (.val tRaw) <| .take 6 (.get tRaw) <| .take 7 (.val tRaw) <| .take 8 (.get tRaw) <| .take 9 (.get tRaw) <| .now 10 (.val tRaw) [] .nil), (3, .take 0 (.val tRaw) <| .take 1 (.val tRaw) <| .take 2 (.val tRaw) <| .take 3 (.get tRaw) <| .take 4 (.get tRaw) <| .take 5 (.val tRaw) <| .eff 6 tRaw [3, 4] <| .effU 7 [] .nil), (6, .take 0 (.val tRaw) <| .take 1 (.val tRaw) <| .take 2 (.val tRaw) <| .take 3 (.get tRaw) <| .take 4 (.val tRaw) <| .take 5 (.val tRaw) <| .take 6 (.get tRaw) <| .take 7 (.val tRaw) <| .take 8 (.get tRaw) <| .take 9 (.get tRaw) <| .alt (.eff 10 tRaw [3, 6, 8] <| .eff 11 tRaw [3, 6, 8] <| .take 12 (.val tRaw) <| .eff 13 tRaw [3, 6, 8] <| .effU 14 [] .nil) (.eff 11 tRaw [3, 6, 8, 9] <| .eff 10 tRaw [3, 6, 8] <| .take 12 (.val tRaw) <| .eff 13 tRaw [3, 6, 8] <| .effU 14 [] .nil)), (7, .take 0 (.val tRaw) <| .take 2 (.get tRaw) <| .call 1 tRaw [2] <| .call 3 tRaw [] <| .take 4 (.val tRaw) <| .now 5 (.val tRaw) [] .nil), (9, .take 0 (.val tRaw) <| .take 1 (.val tRaw) <| .take 2 (.val tRaw) <| .take 3 (.get tRaw) <| .take 4 (.val tRaw) <| .take 5 (.val tRaw) <| .take 6 (.val tRaw) <| .take 7 (.get tRaw) <| .take 8 (.val tRaw) <| .take 9 (.val tRaw) <| .take 10 (.val tRaw) <| .take 11 (.val tRaw) <| .take 12 (.get tRaw) <| .take 13 (.val tRaw) <| .take 14 (.val tRaw) <| .take 15 (.val tRaw) <| .take 16 (.get tRaw) <| .take 17 (.val tRaw) <| .now 18 (.val tRaw) [3, 7, 12, 16] .nil), (10, .take 0 (.val tRaw) <| .take 1 (.val tRaw) <| .take 2 (.val tRaw) <| .take 3 (.get tRaw) <| .take 4 (.val tRaw) <| .take 5 (.val tRaw) <| .take 6 (.val tRaw) <| .take 7 (.get tRaw) <| .take 8 (.val tRaw) <| .take 9 (.val tRaw) <| .take 10 (.get tRaw) <| .take 11 (.val tRaw) <| .effU 12 [] .nil), (4, .take 0 (.val tRaw) <| .take 1 (.val tRaw) <| .take 2 (.val tRaw) <| .take 3 (.val tRaw) <| .take 4 (.get tRaw) <| .take 5 (.get tRaw) <| .eff 6 tRaw [4] <| .eff 7 tRaw [] <| .take 8 (.val tRaw) <| .take 9 (.val tRaw) <| .effU 10 [] .nil)]
theorem ck72 : compFn Tryz.prog dr72 72 = some cf72 := by kernel_rfl
theorem cd72 : fnOkB Tryz.prog dr72 dt72 72 = true := by kernel_rfl
def dr76 : List (Nat × List Nat) := [(5, [0, 1, 2, 3, 4, 5, 6, 7, 8, 9, 10, 11, 12, 13, 14]), (7, [0, 1, 2, 4, 5, 3, 1004, 6, 1004, 7, 8, 1004, 9, 1004, 10])]
def dt76 : List (Nat × DSteps) := [(5, .take 0 (.val tRaw) <| .take 1 (.val tRaw) <| .take 2 (.val tRaw) <| .take 3 (.val tRaw) <| .take 4 (.val tRaw) <| .split 31 <| .take 5 (.val tRaw) <| .take 6 (.val tRaw) <| .take 7 (.val tRaw) <| .take 8 (.val tRaw) <| .take 9 (.val tRaw) <| .take 10 (.get tRaw) <| .take 11 (.val tRaw) <| .take 12 (.get tRaw) <| .take 13 (.val tRaw) <| .take 14 (.val tRaw) .nil), (7, .take 0 (.val tRaw) <| .take 1 (.val tRaw) <| .take 2 (.val tRaw) <| .take 4 (.get tRaw) <| .take 5 (.val tRaw) <| .call 3 tRaw [4] <| .eff 6 tRaw [4] <| .take 7 (.val tRaw) <| .eff 8 tRaw [4] <| .eff 9 tRaw [4] <| .now 10 (.val tRaw) [] .nil)]
theorem ck76 : compFn Tryz.prog dr76 76 = some cf76 := by kernel_rfl
theorem cd76 : fnOkB Tryz.prog dr76 dt76 76 = true := by kernel_rfl
theorem ck79 : compFn Tryz.prog [] 79 = some cf79 := by kernel_rfl
theorem cd79 : fnOkB Tryz.prog [] [] 79 = true := by kernel_rfl
theorem ck80 : compFn Tryz.prog [] 80 = some cf80 := by kernel_rfl
theorem cd80 : fnOkB Tryz.prog [] [] 80 = true := by kernel_rfl
def dr89 : List (Nat × List Nat) := [(12, [0, 1, 2, 3, 4, 5, 6, 7, 8, 9, 10, 11, 12, 13, 14, 15, 16])]
def dt89 : List (Nat × DSteps) := [(12, .take 0 (.val tRaw) <| .take 1 (.get tRaw) <| .call 2 tRaw [] <| .take 3 (.val tRaw) <| .take 4 (.val tRaw) <| .split 44 <| .take 5 (.val tRaw) <| .take 6 (.val tRaw) <| .take 7 (.get tRaw) <| .take 8 (.val tRaw) <| .take 9 (.get tRaw) <| .take 10 (.val tRaw) <| .take 11 (.get tRaw) <| .take 12 (.val tRaw) <| .take 13 (.val tRaw) <| .take 14 (.get tRaw) <| .take 15 (.val tRaw) <| .take 16 (.val tRaw) .nil)]
theorem ck89 : compFn Tryz.prog dr89 89 = some cf89 := by kernel_rfl
theorem cd89 : fnOkB Tryz.prog dr89 dt89 89 = true := by kernel_rfl
theorem ck94 : compFn Tryz.prog [] 94 = some cf94 := by kernel_rfl
theorem cd94 : fnOkB Tryz.prog [] [] 94 = true := by kernel_rfl
theorem ck99 : compFn Tryz.prog [] 99 = some cf99 := by kernel_rfl
theorem cd99 : fnOkB Tryz.prog [] [] 99 = true := by kernel_rfl
theorem ck101 : compFn Tryz.prog [] 101 = some cf101 := by kernel_rfl
theorem cd101 : fnOkB Tryz.prog [] [] 101 = true := by kernel_rfl
theorem ck108 : compFn Tryz.prog [] 108 = some cf108 := by kernel_rfl
theorem cd108 : fnOkB Tryz.prog [] [] 108 = true := by kernel_rfl
theorem ck113 : compFn Tryz.prog [] 113 = some cf113 := by kernel_rfl
theorem cd113 : fnOkB Tryz.prog [] [] 113 = true := by kernel_rfl
theorem ck137 : compFn Tryz.prog [] 137 = some cf137 := by kernel_rfl
theorem cd137 : fnOkB Tryz.prog [] [] 137 = true := by kernel_rfl
def dr138 : List (Nat × List Nat) := [(3, [0, 1, 2, 4, 5, 6, 9, 10, 11, 12, 3, 1001, 1005, 1010, 7, 1001, 1005, 1010, 8, 13, 1001, 1005, 1010, 14, 15]), (11, [0, 1, 2, 5, 6, 9, 10, 11, 12, 15, 16, 17, 18, 3, 1006, 1011, 1017, 4, 7, 1011, 1017, 8, 13, 1011, 1017, 14, 19, 1011, 1017, 20, 21])]
def dt138 : List (Nat × DSteps) := [(3, .take 0 (.val tRaw) <| .take 1 (.get tRaw) <| .take 2 (.val tRaw) <| .take 4 (.val tRaw) <| .take 5 (.get tRaw) <| .take 6 (.val tRaw) <| .take 9 (.val tRaw) <| .take 10 (.get tRaw) <| .take 11 (.val tRaw) <| .take 12 (.val tRaw) <| .call 3 tRaw [1, 5, 10] <| .call 7 tRaw [1, 5, 10] <| .take 8 (.val tRaw) <| .call 13 tRaw [1, 5, 10] <| .take 14 (.val tRaw) <| .now 15 (.val tRaw) [] .nil), (11, .take 0 (.val tRaw) <| .take 1 (.val tRaw) <| .take 2 (.get tRaw) <| .take 5 (.val tRaw) <| .take 6 (.get tRaw) <| .take 9 (.val tRaw) <| .take 10 (.val tRaw) <| .take 11 (.get tRaw) <| .take 12 (.val tRaw) <| .take 15 (.val tRaw) <| .take 16 (.val tRaw) <| .take 17 (.get tRaw) <| .take 18 (.val tRaw) <| .call 3 tRaw [6, 11, 17] <| .take 4 (.val tRaw) <| .call 7 tRaw [11, 17] <| .take 8 (.val tRaw) <| .call 13 tRaw [11, 17] <| .take 14 (.val tRaw) <| .call 19 tRaw [11, 17] <| .take 20 (.val tRaw) <| .now 21 (.val tRaw) [] .nil)]
theorem ck138 : compFn Tryz.prog dr138 138 = some cf138 := by kernel_rfl
theorem cd138 : fnOkB Tryz.prog dr138 dt138 138 = true := by kernel_rfl
def dr143 : List (Nat × List Nat) := [(4, [0, 1, 2, 3, 1001, 4, 5, 1001]), (7, [0, 1, 2, 3, 4, 1001, 5, 6])]
def dt143 : List (Nat × DSteps) := [(4, .take 0 (.val tRaw) <| .take 1 (.get tRaw) <| .take 2 (.val tRaw) <| .call 3 tRaw [1] <| .take 4 (.val tRaw) <| .now 5 (.val tRaw) [1] .nil), (7, .take 0 (.val tRaw) <| .take 1 (.get tRaw) <| .take 2 (.val tRaw) <| .take 3 (.get tRaw) <| .call 4 tRaw [1] <| .take 5 (.val tRaw) <| .effU 6 [] .nil)]
theorem ck143 : compFn Tryz.prog dr143 143 = some cf143 := by kernel_rfl
theorem cd143 : fnOkB Tryz.prog dr143 dt143 143 = true := by kernel_rfl
theorem ck149 : compFn Tryz.prog [] 149 = some cf149 := by kernel_rfl
theorem cd149 : fnOkB Tryz.prog [] [] 149 = true := by kernel_rfl
theorem ck151 : compFn Tryz.prog [] 151 = some cf151 := by kernel_rfl
theorem cd151 : fnOkB Tryz.prog [] [] 151 = true := by kernel_rfl
theorem ck155 : compFn Tryz.prog [] 155 = some cf155 := by kernel_rfl
theorem cd155 : fnOkB Tryz.prog [] [] 155 = true := by kernel_rfl
def dr162 : List (Nat × List Nat) := [(8, [0, 1, 2, 3, 4, 6, 7, 8, 5, 9, 10, 11])]
def dt162 : List (Nat × DSteps) := [(8, .take 0 (.val tRaw) <| .take 1 (.val tRaw) <| .take 2 (.val tRaw) <| .take 3 (.val tRaw) <| .take 4 (.val tRaw) <| .take 6 (.val tRaw) <| .take 7 (.val tRaw) <| .take 8 (.val tRaw) <| .eff 5 tRaw [] <| .eff 9 tRaw [] <| .eff 10 tRaw [] <| .now 11 (.val tRaw) [] .nil)]
theorem ck162 : compFn Tryz.prog dr162 162 = some cf162 := by kernel_rfl
theorem cd162 : fnOkB Tryz.prog dr162 dt162 162 = true := by kernel_rfl
theorem ck173 : compFn Tryz.prog [] 173 = some cf173 := by kernel_rfl
theorem cd173 : fnOkB Tryz.prog [] [] 173 = true := by kernel_rfl
theorem ck178 : compFn Tryz.prog [] 178 = some cf178 := by kernel_rfl
theorem cd178 : fnOkB Tryz.prog [] [] 178 = true := by kernel_rfl
theorem ck179 : compFn Tryz.prog [] 179 = some cf179 := by kernel_rfl
theorem cd179 : fnOkB Tryz.prog [] [] 179 = true := by kernel_rfl
theorem ck182 : compFn Tryz.prog [] 182 = some cf182 := by kernel_rfl
theorem cd182 : fnOkB Tryz.prog [] [] 182 = true := by kernel_rfl
def dr190 : List (Nat × List Nat) := [(18, [0, 1, 2, 3, 4, 5, 6, 7, 8, 9, 10, 11, 12, 14, 15, 16, 18, 1003, 1007, 1012, 2017, 13, 1003, 1007, 17, 1003, 1007, 19, 1003, 1007, 20, 21, 22, 1020])]
def dt190 : List (Nat × DSteps) := [(18, .take 0 (.val tRaw) <| .take 1 (.val tRaw) <| .take 2 (.val tRaw) <| .take 3 (.get tRaw) <| .take 4 (.val tRaw) <| .take 5 (.val tRaw) <| .take 6 (.val tRaw) <| .take 7 (.get tRaw) <| .take 8 (.val tRaw) <| .take 9 (.val tRaw) <| .take 10 (.val tRaw) <| .take 11 (.val tRaw) <| .take 12 (.get tRaw) <| .take 14 (.val tRaw) <| .take 15 (.val tRaw) <| .take 16 (.val tRaw) <| .take 18 (.val tRaw) <| .alt (.call 13 tRaw [3, 7] <| .eff 17 tRaw [3, 7] <| .eff 19 tRaw [3, 7] <| .take 20 (.get tRaw) <| .take 21 (.val tRaw) <| .call 22 tRaw [20] .nil) (.eff 17 tRaw [3, 7, 12] <| .call 13 tRaw [3, 7] <| .eff 19 tRaw [3, 7] <| .take 20 (.get tRaw) <| .take 21 (.val tRaw) <| .call 22 tRaw [20] .nil))]
theorem ck190 : compFn Tryz.prog dr190 190 = some cf190 := by kernel_rfl
theorem cd190 : fnOkB Tryz.prog dr190 dt190 190 = true := by kernel_rfl
def dr202 : List (Nat × List Nat) := [(8, [0, 1, 2, 3, 4, 5, 6, 1003, 7])]
def dt202 : List (Nat × DSteps) := [(8, .take 0 (.val tRaw) <| .take 1 (.val tRaw) <| .take 2 (.val tRaw) <| .take 3 (.get tRaw) <| .take 4 (.val tRaw) <| .take 5 (.val tRaw) <| .call 6 tRaw [3] <| .effU 7 [] .nil)]
theorem ck202 : compFn Tryz.prog dr202 202 = some cf202 := by kernel_rfl
theorem cd202 : fnOkB Tryz.prog dr202 dt202 202 = true := by kernel_rfl
def dr203 : List (Nat × List Nat) := [(7, [0, 1, 2, 3, 4, 5, 6, 7, 8, 9, 10, 1007, 11, 12, 13, 14])]
def dt203 : List (Nat × DSteps) := [(7, .take 0 (.val tRaw) <| .take 1 (.val tRaw) <| .take 2 (.val tRaw) <| .take 3 (.get tRaw) <| .take 4 (.val tRaw) <| .take 5 (.val tRaw) <| .take 6 (.val tRaw) <| .take 7 (.get tRaw) <| .take 8 (.val tRaw) <| .take 9 (.val tRaw) <| .call 10 tRaw [7] <| .take 11 (.val tRaw) <| .take 12 (.val tRaw) <| .now 13 (.val tRaw) [] <| .now 14 (.val tRaw) [] .nil)]
theorem ck203 : compFn Tryz.prog dr203 203 = some cf203 := by kernel_rfl
theorem cd203 : fnOkB Tryz.prog dr203 dt203 203 = true := by kernel_rfl
def dr211 : List (Nat × List Nat) := [(6, [0, 1, 2, 3, 4, 5, 6, 7, 8, 9, 10, 11, 1007, 12])]
def dt211 : List (Nat × DSteps) := [(6, .take 0 (.val tRaw) <| .take 1 (.val tRaw) <| .take 2 (.val tRaw) <| .take 3 (.get tRaw) <| .take 4 (.val tRaw) <| .take 5 (.val tRaw) <| .take 6 (.val tRaw) <| .take 7 (.get tRaw) <| .take 8 (.val tRaw) <| .take 9 (.val tRaw) <| .take 10 (.val tRaw) <| .call 11 tRaw [7] <| .now 12 (.val tRaw) [] .nil)]
theorem ck211 : compFn Tryz.prog dr211 211 = some cf211 := by kernel_rfl
theorem cd211 : fnOkB Tryz.prog dr211 dt211 211 = true := by kernel_rfl
def dr215 : List (Nat × List Nat) := [(2, [0, 1, 2, 3, 4, 5])]
def dt215 : List (Nat × DSteps) := [(2, .take 0 (.val tRaw) <| .take 1 (.val tRaw) <| .take 2 (.val tRaw) <| .take 3 (.val tRaw) <| .call 4 tRaw [] <| .now 5 (.val tRaw) [] .nil)]
theorem ck215 : compFn Tryz.prog dr215 215 = some cf215 := by kernel_rfl
theorem cd215 : fnOkB Tryz.prog dr215 dt215 215 = true := by kernel_rfl
theorem ck220 : compFn Tryz.prog [] 220 = some cf220 := by kernel_rfl
theorem cd220 : fnOkB Tryz.prog [] [] 220 = true := by kernel_rfl
theorem ck225 : compFn Tryz.prog [] 225 = some cf225 := by kernel_rfl
theorem cd225 : fnOkB Tryz.prog [] [] 225 = true := by kernel_rfl
def dr235 : List (Nat × List Nat) := [(5, [0, 1, 2, 3, 6, 3007, 1003, 4, 1003, 5, 7, 1003, 1005, 8, 9, 1005])]
def dt235 : List (Nat × DSteps) := [(5, .take 0 (.val tRaw) <| .take 1 (.val tRaw) <| .take 2 (.val tRaw) <| .take 3 (.get tRaw) <| .take 6 (.val tRaw) <| .alt (.eff 4 tRaw [3] <| .take 5 (.get tRaw) <| .call 7 tRaw [3, 5] <| .take 8 (.val tRaw) <| .call 9 tRaw [5] .nil) (.call 7 tRaw [3] <| .eff 4 tRaw [3] <| .take 5 (.get tRaw) <| .take 8 (.val tRaw) <| .call 9 tRaw [5] .nil))]
theorem ck235 : compFn Tryz.prog dr235 235 = some cf235 := by kernel_rfl
theorem cd235 : fnOkB Tryz.prog dr235 dt235 235 = true := by kernel_rfl
def dr236 : List (Nat × List Nat) := [(12, [0, 1, 2, 3, 5, 6, 7, 4, 8, 9])]
def dt236 : List (Nat × DSteps) := [(12, .take 0 (.val tRaw) <| .take 1 (.val tRaw) <| .take 2 (.val tRaw) <| .take 3 (.val tRaw) <| .take 5 (.val tRaw) <| .take 6 (.val tRaw) <| .take 7 (.val tRaw) <| .call 4 tRaw [] <| .now 8 (.val tRaw) [] <| .now 9 (.val tRaw) [] .nil)]
theorem ck236 : compFn Tryz.prog dr236 236 = some cf236 := by kernel_rfl
theorem cd236 : fnOkB Tryz.prog dr236 dt236 236 = true := by kernel_rfl
theorem ck240 : compFn Tryz.prog [] 240 = some cf240 := by kernel_rfl
theorem cd240 : fnOkB Tryz.prog [] [] 240 = true := by kernel_rfl
def dr246 : List (Nat × List Nat) := [(1, [0, 1, 2, 3, 4, 5, 6, 7, 8, 9, 10, 1007, 11, 12, 13, 14, 15])]
def dt246 : List (Nat × DSteps) := [(1, .take 0 (.val tRaw) <| .take 1 (.val tRaw) <| .take 2 (.val tRaw) <| .take 3 (.get tRaw) <| .take 4 (.val tRaw) <| .take 5 (.val tRaw) <| .take 6 (.val tRaw) <| .take 7 (.get tRaw) <| .take 8 (.val tRaw) <| .take 9 (.val tRaw) <| .call 10 tRaw [7] <| .take 11 (.val tRaw) <| .take 12 (.val tRaw) <| .take 13 (.val tRaw) <| .now 14 (.val tRaw) [] <| .now 15 (.val tRaw) [] .nil)]
theorem ck246 : compFn Tryz.prog dr246 246 = some cf246 := by kernel_rfl
theorem cd246 : fnOkB Tryz.prog dr246 dt246 246 = true := by kernel_rfl
def dr248 : List (Nat × List Nat) := [(2, [0, 1, 2, 3, 4, 5, 6, 7, 8, 9, 10, 11, 14, 12, 1003, 1007, 13, 15, 1003, 1007, 16, 17, 1003, 1007, 18, 1007, 19])]
def dt248 : List (Nat × DSteps) := [(2, .take 0 (.val tRaw) <| .take 1 (.val tRaw) <| .take 2 (.val tRaw) <| .take 3 (.get tRaw) <| .take 4 (.val tRaw) <| .take 5 (.val tRaw) <| .take 6 (.val tRaw) <| .take 7 (.get tRaw) <| .take 8 (.val tRaw) <| .take 9 (.val tRaw) <| .take 10 (.val tRaw) <| .take 11 (.val tRaw) <| .take 14 (.val tRaw) <| .call 12 tRaw [3, 7] <| .take 13 (.val tRaw) <| .call 15 tRaw [3, 7] <| .take 16 (.val tRaw) <| .call 17 tRaw [3, 7] <| .call 18 tRaw [7] <| .now 19 (.val tRaw) [] .nil)]
theorem ck248 : compFn Tryz.prog dr248 248 = some cf248 := by kernel_rfl
theorem cd248 : fnOkB Tryz.prog dr248 dt248 248 = true := by kernel_rfl
def dr253 : List (Nat × List Nat) := [(2, [0, 1, 2, 3, 4, 5, 6, 1004, 7, 8, 9]), (3, [0, 1, 2, 3, 4, 5, 6])]
def dt253 : List (Nat × DSteps) := [(2, .take 0 (.val tRaw) <| .take 1 (.val tRaw) <| .take 2 (.val tRaw) <| .take 3 (.val tRaw) <| .take 4 (.get tRaw) <| .take 5 (.val tRaw) <| .call 6 tRaw [4] <| .take 7 (.val tRaw) <| .take 8 (.val tRaw) <| .effU 9 [] .nil), (3, .take 0 (.val tRaw) <| .take 1 (.val tRaw) <| .take 2 (.val tRaw) <| .take 3 (.get tRaw) <| .take 4 (.val tRaw) <| .take 5 (.get tRaw) <| .effU 6 [] .nil)]
theorem ck253 : compFn Tryz.prog dr253 253 = some cf253 := by kernel_rfl
theorem cd253 : fnOkB Tryz.prog dr253 dt253 253 = true := by kernel_rfl
theorem ck255 : compFn Tryz.prog [] 255 = some cf255 := by kernel_rfl
theorem cd255 : fnOkB Tryz.prog [] [] 255 = true := by kernel_rfl
theorem ck256 : compFn Tryz.prog [] 256 = some cf256 := by kernel_rfl
theorem cd256 : fnOkB Tryz.prog [] [] 256 = true := by kernel_rfl
theorem ck267 : compFn Tryz.prog [] 267 = some cf267 := by kernel_rfl
theorem cd267 : fnOkB Tryz.prog [] [] 267 = true := by kernel_rfl
def dr279 : List (Nat × List Nat) := [(6, [0, 1, 2, 3, 4, 5, 6, 7, 8, 9, 10])]
def dt279 : List (Nat × DSteps) := [(6, .take 0 (.val tRaw) <| .take 1 (.get tRaw) <| .take 2 (.val tRaw) <| .take 3 (.val tRaw) <| .take 4 (.get tRaw) <| .take 5 (.val tRaw) <| .take 6 (.get tRaw) <| .take 7 (.val tRaw) <| .take 8 (.val tRaw) <| .take 9 (.get tRaw) <| .take 10 (.val tRaw) .nil)]
theorem ck279 : compFn Tryz.prog dr279 279 = some cf279 := by kernel_rfl
theorem cd279 : fnOkB Tryz.prog dr279 dt279 279 = true := by kernel_rfl
theorem ck283 : compFn Tryz.prog [] 283 = some cf283 := by kernel_rfl
theorem cd283 : fnOkB Tryz.prog [] [] 283 = true := by kernel_rfl
theorem ck284 : compFn Tryz.prog [] 284 = some cf284 := by kernel_rfl
theorem cd284 : fnOkB Tryz.prog [] [] 284 = true := by kernel_rfl
theorem ck293 : compFn Tryz.prog [] 293 = some cf293 := by kernel_rfl
theorem cd293 : fnOkB Tryz.prog [] [] 293 = true := by kernel_rfl
theorem ck301 : compFn Tryz.prog [] 301 = some cf301 := by kernel_rfl
theorem cd301 : fnOkB Tryz.prog [] [] 301 = true := by kernel_rfl
theorem ck315 : compFn Tryz.prog [] 315 = some cf315 := by kernel_rfl
theorem cd315 : fnOkB Tryz.prog [] [] 315 = true := by kernel_rfl
theorem ck317 : compFn Tryz.prog [] 317 = some cf317 := by kernel_rfl
theorem cd317 : fnOkB Tryz.prog [] [] 317 = true := by kernel_rfl
def dr319 : List (Nat × List Nat) := [(8, [0, 1, 2, 3, 4, 5, 6, 1005, 7, 8, 9, 1005, 10, 11, 12])]
def dt319 : List (Nat × DSteps) := [(8, .take 0 (.get tRaw) <| .take 1 (.get tRaw) <| .take 2 (.val tRaw) <| .take 3 (.get tRaw) <| .take 4 (.val tRaw) <| .take 5 (.get tRaw) <| .effU 6 [5] <| .take 7 (.val tRaw) <| .take 8 (.val tRaw) <| .effU 9 [5] <| .take 10 (.val tRaw) <| .take 11 (.val tRaw) <| .effU 12 [] .nil)]
theorem ck319 : compFn Tryz.prog dr319 319 = some cf319 := by kernel_rfl
theorem cd319 : fnOkB Tryz.prog dr319 dt319 319 = true := by kernel_rfl
end Go.Proofs.YtelhccfmfnaegaaGreat
