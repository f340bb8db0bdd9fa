/- The tables are what the interpreter lays out: third part. No conditions. -/
import Derived.Test.YtelhccfmfnaegaaGreatTabB
import Derived.Test.YtelhccfmfnaegaaGreatIntB
import Derived.Test.YtelhccfmfnaegaaGreatProg
/- What is laid out is what the interpreter lays out, and its regions that draw are good: checked by the kernel (printed by program). -/
set_option linter.unusedSectionVars false
set_option maxRecDepth 100000
set_option linter.unusedVariables false
namespace Go.Proofs.YtelhccfmfnaegaaGreat
open Go Go.Sh
variable [Env]
theorem ck6 : compFn Tryz.prog [] 6 = some cf6 := by kernel_rfl
theorem cd6 : fnOkB Tryz.prog [] [] 6 = true := by kernel_rfl
theorem ck26 : compFn Tryz.prog [] 26 = some cf26 := by kernel_rfl
theorem cd26 : fnOkB Tryz.prog [] [] 26 = true := by kernel_rfl
theorem ck27 : compFn Tryz.prog [] 27 = some cf27 := by kernel_rfl
theorem cd27 : fnOkB Tryz.prog [] [] 27 = true := by kernel_rfl
def dr31 : List (Nat × List Nat) := [(5, [0, 1, 2, 3, 4, 5, 1002, 6, 7, 1002, 8, 1002, 9])]
def dt31 : List (Nat × DSteps) := [(5, .take 0 (.val tRaw) <| .take 1 (.val tRaw) <| .take 2 (.get tRaw) <| .take 3 (.val tRaw) <| .take 4 (.get tRaw) <| .eff 5 tRaw [2] <| .take 6 (.val tRaw) <| .eff 7 tRaw [2] <| .eff 8 tRaw [2] <| .now 9 (.val tRaw) [] .nil)]
theorem ck31 : compFn Tryz.prog dr31 31 = some cf31 := by kernel_rfl
theorem cd31 : fnOkB Tryz.prog dr31 dt31 31 = true := by kernel_rfl
def dr38 : List (Nat × List Nat) := [(3, [0, 1, 2, 3, 4, 5, 6, 7, 8, 9, 10]), (6, [0, 2, 1, 1002, 3, 4, 5, 6, 7, 8]), (10, [0, 1, 2, 3, 4, 5, 6, 7, 8, 9, 10]), (14, [0, 1, 2, 3, 4, 5, 6, 7, 8, 9, 10, 1003, 1004, 11]), (15, [0, 1, 2, 3, 4, 5, 6, 7, 8, 1003, 1004, 9])]
def dt38 : List (Nat × DSteps) := [(3, .take 0 (.val tRaw) <| .take 1 (.val tRaw) <| .take 2 (.val tRaw) <| .take 3 (.get tRaw) <| .take 4 (.val tRaw) <| .take 5 (.val tRaw) <| .take 6 (.get tRaw) <| .take 7 (.val tRaw) <| .take 8 (.get tRaw) <| .take 9 (.get tRaw) <| .now 10 (.val tRaw) [] .nil), (6, .take 0 (.val tRaw) <| .take 2 (.get tRaw) <| .call 1 tRaw [2] <| .call 3 tRaw [] <| .take 4 (.val tRaw) <| .take 5 (.val tRaw) <| .take 6 (.val tRaw) <| .now 7 (.val tRaw) [] <| .now 8 (.val tRaw) [] .nil), (10, .take 0 (.val tRaw) <| .take 1 (.val tRaw) <| .take 2 (.val tRaw) <| .take 3 (.get tRaw) <| .take 4 (.get tRaw) <| .take 5 (.get tRaw) <| .take 6 (.val tRaw) <| .take 7 (.val tRaw) <| .take 8 (.val tRaw) <| .now 9 (.val tRaw) [] <| .now 10 (.val tRaw) [] .nil), (14, .take 0 (.val tRaw) <| .take 1 (.val tRaw) <| .take 2 (.val tRaw) <| .take 3 (.get tRaw) <| .take 4 (.get tRaw) <| .take 5 (.val tRaw) <| .take 6 (.val tRaw) <| .take 7 (.get tRaw) <| .take 8 (.val tRaw) <| .take 9 (.get tRaw) <| .call 10 tRaw [3, 4] <| .effU 11 [] .nil), (15, .take 0 (.val tRaw) <| .take 1 (.val tRaw) <| .take 2 (.val tRaw) <| .take 3 (.get tRaw) <| .take 4 (.get tRaw) <| .take 5 (.val tRaw) <| .take 6 (.val tRaw) <| .take 7 (.get tRaw) <| .call 8 tRaw [3, 4] <| .effU 9 [] .nil)]
theorem ck38 : compFn Tryz.prog dr38 38 = some cf38 := by kernel_rfl
theorem cd38 : fnOkB Tryz.prog dr38 dt38 38 = true := by kernel_rfl
theorem ck59 : compFn Tryz.prog [] 59 = some cf59 := by kernel_rfl
theorem cd59 : fnOkB Tryz.prog [] [] 59 = true := by kernel_rfl
def dr78 : List (Nat × List Nat) := [(4, [0, 1, 2, 3, 4, 5, 6, 7, 8, 9, 10, 11, 12, 13, 14, 15, 16, 17, 18, 19, 20, 21, 22, 23])]
def dt78 : List (Nat × DSteps) := [(4, .take 0 (.val tRaw) <| .take 1 (.get tRaw) <| .call 2 tRaw [] <| .take 3 (.val tRaw) <| .take 4 (.val tRaw) <| .split 18 <| .take 5 (.val tRaw) <| .take 6 (.get tRaw) <| .eff 7 tRaw [] <| .call 8 tRaw [] <| .take 9 (.val tRaw) <| .take 10 (.val tRaw) <| .take 11 (.val tRaw) <| .split 25 <| .take 12 (.val tRaw) <| .take 13 (.val tRaw) <| .take 14 (.val tRaw) <| .split 28 <| .take 15 (.get tRaw) <| .take 16 (.val tRaw) <| .take 17 (.val tRaw) <| .take 18 (.val tRaw) <| .take 19 (.val tRaw) <| .take 20 (.get tRaw) <| .call 21 tRaw [] <| .take 22 (.val tRaw) <| .take 23 (.val tRaw) .nil)]
theorem ck78 : compFn Tryz.prog dr78 78 = some cf78 := by kernel_rfl
theorem cd78 : fnOkB Tryz.prog dr78 dt78 78 = true := by kernel_rfl
theorem ck91 : compFn Tryz.prog [] 91 = some cf91 := by kernel_rfl
theorem cd91 : fnOkB Tryz.prog [] [] 91 = true := by kernel_rfl
theorem ck93 : compFn Tryz.prog [] 93 = some cf93 := by kernel_rfl
theorem cd93 : fnOkB Tryz.prog [] [] 93 = true := by kernel_rfl
def dr100 : List (Nat × List Nat) := [(6, [0, 1, 2, 3, 4, 5, 6, 7, 8, 9, 10, 11, 12, 13])]
def dt100 : List (Nat × DSteps) := [(6, .take 0 (.val tRaw) <| .take 1 (.val tRaw) <| .take 2 (.val tRaw) <| .take 3 (.get tRaw) <| .take 4 (.val tRaw) <| .take 5 (.val tRaw) <| .take 6 (.val tRaw) <| .take 7 (.get tRaw) <| .call 8 tRaw [] <| .take 9 (.val tRaw) <| .take 10 (.val tRaw) <| .take 11 (.val tRaw) <| .now 12 (.val tRaw) [] <| .now 13 (.val tRaw) [] .nil)]
theorem ck100 : compFn Tryz.prog dr100 100 = some cf100 := by kernel_rfl
theorem cd100 : fnOkB Tryz.prog dr100 dt100 100 = true := by kernel_rfl
theorem ck102 : compFn Tryz.prog [] 102 = some cf102 := by kernel_rfl
theorem cd102 : fnOkB Tryz.prog [] [] 102 = true := by kernel_rfl
theorem ck107 : compFn Tryz.prog [] 107 = some cf107 := by kernel_rfl
theorem cd107 : fnOkB Tryz.prog [] [] 107 = true := by kernel_rfl
theorem ck112 : compFn Tryz.prog [] 112 = some cf112 := by kernel_rfl
theorem cd112 : fnOkB Tryz.prog [] [] 112 = true := by kernel_rfl
def dr115 : List (Nat × List Nat) := [(8, [0, 1, 2, 3, 4, 5, 6])]
def dt115 : List (Nat × DSteps) := [(8, .take 0 (.get tRaw) <| .take 1 (.val tRaw) <| .take 2 (.val tRaw) <| .take 3 (.val tRaw) <| .take 4 (.get tRaw) <| .call 5 tRaw [] <| .take 6 (.val tRaw) .nil)]
theorem ck115 : compFn Tryz.prog dr115 115 = some cf115 := by kernel_rfl
theorem cd115 : fnOkB Tryz.prog dr115 dt115 115 = true := by kernel_rfl
theorem ck119 : compFn Tryz.prog [] 119 = some cf119 := by kernel_rfl
theorem cd119 : fnOkB Tryz.prog [] [] 119 = true := by kernel_rfl
def dr125 : List (Nat × List Nat) := [(6, [0, 1, 2, 3, 4, 5, 6, 7, 8, 9, 10, 11, 12, 13])]
def dt125 : List (Nat × DSteps) := [(6, .take 0 (.get tRaw) <| .call 1 tRaw [] <| .take 2 (.val tRaw) <| .take 3 (.val tRaw) <| .split 30 <| .take 4 (.val tRaw) <| .take 5 (.get tRaw) <| .take 6 (.val tRaw) <| .take 7 (.get tRaw) <| .take 8 (.val tRaw) <| .take 9 (.val tRaw) <| .take 10 (.val tRaw) <| .take 11 (.get tRaw) <| .take 12 (.val tRaw) <| .take 13 (.val tRaw) .nil)]
theorem ck125 : compFn Tryz.prog dr125 125 = some cf125 := by kernel_rfl
theorem cd125 : fnOkB Tryz.prog dr125 dt125 125 = true := by kernel_rfl
theorem ck131 : compFn Tryz.prog [] 131 = some cf131 := by kernel_rfl
theorem cd131 : fnOkB Tryz.prog [] [] 131 = true := by kernel_rfl
theorem ck141 : compFn Tryz.prog [] 141 = some cf141 := by kernel_rfl
theorem cd141 : fnOkB Tryz.prog [] [] 141 = true := by kernel_rfl
theorem ck142 : compFn Tryz.prog [] 142 = some cf142 := by kernel_rfl
theorem cd142 : fnOkB Tryz.prog [] [] 142 = true := by kernel_rfl
theorem ck153 : compFn Tryz.prog [] 153 = some cf153 := by kernel_rfl
theorem cd153 : fnOkB Tryz.prog [] [] 153 = true := by kernel_rfl
theorem ck160 : compFn Tryz.prog [] 160 = some cf160 := by kernel_rfl
theorem cd160 : fnOkB Tryz.prog [] [] 160 = true := by kernel_rfl
theorem ck163 : compFn Tryz.prog [] 163 = some cf163 := by kernel_rfl
theorem cd163 : fnOkB Tryz.prog [] [] 163 = true := by kernel_rfl
theorem ck166 : compFn Tryz.prog [] 166 = some cf166 := by kernel_rfl
theorem cd166 : fnOkB Tryz.prog [] [] 166 = true := by kernel_rfl
def dr168 : List (Nat × List Nat) := [(7, [0, 1, 2, 3, 4, 1000, 1001, 1004, 2006, 5, 1001, 6, 1001, 7]), (8, [0, 1, 2, 3, 4, 5, 6, 1000, 1004, 7]), (10, [0, 1, 2, 3, 4, 5, 6, 7, 8, 9, 1001, 1004, 1007, 10])]
def dt168 : List (Nat × DSteps) := [(7, .take 0 (.get tRaw) <| .take 1 (.get tRaw) <| .take 2 (.val tRaw) <| .take 3 (.val tRaw) <| .take 4 (.get tRaw) <| .alt (.call 5 tRaw [1] <| .eff 6 tRaw [1] <| .effU 7 [] .nil) (.eff 6 tRaw [0, 1, 4] <| .call 5 tRaw [1] <| .effU 7 [] .nil)), (8, .take 0 (.get tRaw) <| .take 1 (.val tRaw) <| .take 2 (.val tRaw) <| .take 3 (.get tRaw) <| .take 4 (.get tRaw) <| .take 5 (.val tRaw) <| .call 6 tRaw [0, 4] <| .take 7 (.val tRaw) .nil), (10, .take 0 (.val tRaw) <| .take 1 (.get tRaw) <| .take 2 (.val tRaw) <| .take 3 (.val tRaw) <| .take 4 (.get tRaw) <| .take 5 (.val tRaw) <| .take 6 (.val tRaw) <| .take 7 (.get tRaw) <| .take 8 (.val tRaw) <| .eff 9 tRaw [1, 4, 7] <| .now 10 (.val tRaw) [] .nil)]
theorem ck168 : compFn Tryz.prog dr168 168 = some cf168 := by kernel_rfl
theorem cd168 : fnOkB Tryz.prog dr168 dt168 168 = true := by kernel_rfl
theorem ck169 : compFn Tryz.prog [] 169 = some cf169 := by kernel_rfl
theorem cd169 : fnOkB Tryz.prog [] [] 169 = true := by kernel_rfl
def dr176 : List (Nat × List Nat) := [(3, [0, 1, 3, 4, 5, 8, 9, 10, 11, 2, 1004, 1009, 6, 1004, 1009, 7, 12, 1004, 1009, 13, 14]), (11, [0, 1, 2, 5, 6, 7, 10, 3, 1006, 4, 8, 1006, 9, 11, 1006, 12, 13])]
def dt176 : List (Nat × DSteps) := [(3, .take 0 (.val tRaw) <| .take 1 (.get tRaw) <| .take 3 (.val tRaw) <| .take 4 (.get tRaw) <| .take 5 (.val tRaw) <| .take 8 (.val tRaw) <| .take 9 (.get tRaw) <| .take 10 (.val tRaw) <| .take 11 (.val tRaw) <| .call 2 tRaw [4, 9] <| .call 6 tRaw [4, 9] <| .take 7 (.val tRaw) <| .call 12 tRaw [4, 9] <| .take 13 (.val tRaw) <| .now 14 (.val tRaw) [] .nil), (11, .take 0 (.val tRaw) <| .take 1 (.val tRaw) <| .take 2 (.get tRaw) <| .take 5 (.val tRaw) <| .take 6 (.get tRaw) <| .take 7 (.val tRaw) <| .take 10 (.val tRaw) <| .call 3 tRaw [6] <| .take 4 (.val tRaw) <| .call 8 tRaw [6] <| .take 9 (.val tRaw) <| .call 11 tRaw [6] <| .take 12 (.val tRaw) <| .now 13 (.val tRaw) [] .nil)]
theorem ck176 : compFn Tryz.prog dr176 176 = some cf176 := by kernel_rfl
theorem cd176 : fnOkB Tryz.prog dr176 dt176 176 = true := by kernel_rfl
def dr199 : List (Nat × List Nat) := [(3, [0, 1, 2, 3, 5, 6, 7, 8, 4, 1008, 9, 10])]
def dt199 : List (Nat × DSteps) := [(3, .take 0 (.val tRaw) <| .take 1 (.val tRaw) <| .take 2 (.val tRaw) <| .take 3 (.get tRaw) <| .take 5 (.val tRaw) <| .take 6 (.val tRaw) <| .take 7 (.val tRaw) <| .take 8 (.get tRaw) <| .call 4 tRaw [8] <| .take 9 (.val tRaw) <| .now 10 (.val tRaw) [] .nil)]
theorem ck199 : compFn Tryz.prog dr199 199 = some cf199 := by kernel_rfl
theorem cd199 : fnOkB Tryz.prog dr199 dt199 199 = true := by kernel_rfl
def dr201 : List (Nat × List Nat) := [(8, [0, 1, 2, 3, 4, 5, 1003, 6])]
def dt201 : List (Nat × DSteps) := [(8, .take 0 (.val tRaw) <| .take 1 (.val tRaw) <| .take 2 (.val tRaw) <| .take 3 (.get tRaw) <| .take 4 (.val tRaw) <| .call 5 tRaw [3] <| .effU 6 [] .nil)]
theorem ck201 : compFn Tryz.prog dr201 201 = some cf201 := by kernel_rfl
theorem cd201 : fnOkB Tryz.prog dr201 dt201 201 = true := by kernel_rfl
theorem ck205 : compFn Tryz.prog [] 205 = some cf205 := by kernel_rfl
theorem cd205 : fnOkB Tryz.prog [] [] 205 = true := by kernel_rfl
def dr206 : List (Nat × List Nat) := [(3, [0, 1, 2, 3, 4, 5, 6, 7, 8, 9, 10, 11, 12, 13, 14, 15])]
def dt206 : List (Nat × DSteps) := [(3, .take 0 (.val tRaw) <| .take 1 (.val tRaw) <| .take 2 (.val tRaw) <| .take 3 (.val tRaw) <| .take 4 (.val tRaw) <| .take 5 (.val tRaw) <| .take 6 (.val tRaw) <| .take 7 (.val tRaw) <| .take 8 (.get tRaw) <| .take 9 (.val tRaw) <| .take 10 (.val tRaw) <| .take 11 (.val tRaw) <| .take 12 (.get tRaw) <| .take 13 (.val tRaw) <| .take 14 (.val tRaw) <| .now 15 (.val tRaw) [] .nil)]
theorem ck206 : compFn Tryz.prog dr206 206 = some cf206 := by kernel_rfl
theorem cd206 : fnOkB Tryz.prog dr206 dt206 206 = true := by kernel_rfl
theorem ck219 : compFn Tryz.prog [] 219 = some cf219 := by kernel_rfl
theorem cd219 : fnOkB Tryz.prog [] [] 219 = true := by kernel_rfl
theorem ck228 : compFn Tryz.prog [] 228 = some cf228 := by kernel_rfl
theorem cd228 : fnOkB Tryz.prog [] [] 228 = true := by kernel_rfl
theorem ck251 : compFn Tryz.prog [] 251 = some cf251 := by kernel_rfl
theorem cd251 : fnOkB Tryz.prog [] [] 251 = true := by kernel_rfl
theorem ck252 : compFn Tryz.prog [] 252 = some cf252 := by kernel_rfl
theorem cd252 : fnOkB Tryz.prog [] [] 252 = true := by kernel_rfl
theorem ck261 : compFn Tryz.prog [] 261 = some cf261 := by kernel_rfl
theorem cd261 : fnOkB Tryz.prog [] [] 261 = true := by kernel_rfl
theorem ck270 : compFn Tryz.prog [] 270 = some cf270 := by kernel_rfl
theorem cd270 : fnOkB Tryz.prog [] [] 270 = true := by kernel_rfl
theorem ck272 : compFn Tryz.prog [] 272 = some cf272 := by kernel_rfl
theorem cd272 : fnOkB Tryz.prog [] [] 272 = true := by kernel_rfl
theorem ck278 : compFn Tryz.prog [] 278 = some cf278 := by kernel_rfl
theorem cd278 : fnOkB Tryz.prog [] [] 278 = true := by kernel_rfl
def dr288 : List (Nat × List Nat) := [(1, [0, 1, 2, 3, 4, 5, 1000, 6, 7, 8, 9, 10])]
def dt288 : List (Nat × DSteps) := [(1, .take 0 (.get tRaw) <| .take 1 (.val tRaw) <| .take 2 (.val tRaw) <| .take 3 (.get tRaw) <| .take 4 (.get tRaw) <| .call 5 tRaw [0] <| .take 6 (.val tRaw) <| .take 7 (.val tRaw) <| .take 8 (.val tRaw) <| .now 9 (.val tRaw) [] <| .now 10 (.val tRaw) [] .nil)]
theorem ck288 : compFn Tryz.prog dr288 288 = some cf288 := by kernel_rfl
theorem cd288 : fnOkB Tryz.prog dr288 dt288 288 = true := by kernel_rfl
theorem ck290 : compFn Tryz.prog [] 290 = some cf290 := by kernel_rfl
theorem cd290 : fnOkB Tryz.prog [] [] 290 = true := by kernel_rfl
theorem ck295 : compFn Tryz.prog [] 295 = some cf295 := by kernel_rfl
theorem cd295 : fnOkB Tryz.prog [] [] 295 = true := by kernel_rfl
theorem ck299 : compFn Tryz.prog [] 299 = some cf299 := by kernel_rfl
theorem cd299 : fnOkB Tryz.prog [] [] 299 = true := by kernel_rfl
theorem ck311 : compFn Tryz.prog [] 311 = some cf311 := by kernel_rfl
theorem cd311 : fnOkB Tryz.prog [] [] 311 = true := by kernel_rfl
def dr318 : List (Nat × List Nat) := [(8, [0, 1, 2, 3, 4, 5, 6, 1005, 7, 8, 9, 1005, 10, 11, 12])]
def dt318 : List (Nat × DSteps) := [(8, .take 0 (.get tRaw) <| .take 1 (.get tRaw) <| .take 2 (.val tRaw) <| .take 3 (.get tRaw) <| .take 4 (.val tRaw) <| .take 5 (.get tRaw) <| .effU 6 [5] <| .take 7 (.val tRaw) <| .take 8 (.val tRaw) <| .effU 9 [5] <| .take 10 (.val tRaw) <| .take 11 (.val tRaw) <| .effU 12 [] .nil)]
theorem ck318 : compFn Tryz.prog dr318 318 = some cf318 := by kernel_rfl
theorem cd318 : fnOkB Tryz.prog dr318 dt318 318 = true := by kernel_rfl
end Go.Proofs.YtelhccfmfnaegaaGreat
