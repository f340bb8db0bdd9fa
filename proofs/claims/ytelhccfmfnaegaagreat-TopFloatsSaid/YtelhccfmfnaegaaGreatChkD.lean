/- The tables are what the interpreter lays out: fourth part. No conditions. -/
import Derived.Test.YtelhccfmfnaegaaGreatTabB
import Derived.Test.YtelhccfmfnaegaaGreatIntB
import Derived.Test.YtelhccfmfnaegaaGreatProg
/- What is laid out is what the interpreter lays out, and its regions that draw are good: checked by the kernel (printed by program). -/
set_option linter.unusedSectionVars false
set_option maxRecDepth 100000
set_option linter.unusedVariables false
namespace Go.Proofs.YtelhccfmfnaegaaGreat
open Go Go.Sh
variable [Env]
def dr17 : List (Nat × List Nat) := [(8, [1, 2, 5, 6, 0, 1002, 1006, 3, 4, 7, 1002, 1003, 8, 9, 10, 11, 12])]
def dt17 : List (Nat × DSteps) := [(8, .take 1 (.val tRaw) <| .take 2 (.get tRaw) <| .take 5 (.val tRaw) <| .take 6 (.get tRaw) <| .call 0 tRaw [2, 6] <| .take 3 (.get tRaw) <| .take 4 (.val tRaw) <| .call 7 tRaw [2, 3] <| .take 8 (.val tRaw) <| .take 9 (.val tRaw) <| .take 10 (.val tRaw) <| .now 11 (.val tRaw) [] <| .now 12 (.val tRaw) [] .nil)]
theorem ck17 : compFn Tryz.prog dr17 17 = some cf17 := by kernel_rfl
theorem cd17 : fnOkB Tryz.prog dr17 dt17 17 = true := by kernel_rfl
theorem ck23 : compFn Tryz.prog [] 23 = some cf23 := by kernel_rfl
theorem cd23 : fnOkB Tryz.prog [] [] 23 = true := by kernel_rfl
theorem ck33 : compFn Tryz.prog [] 33 = some cf33 := by kernel_rfl
theorem cd33 : fnOkB Tryz.prog [] [] 33 = true := by kernel_rfl
def dr37 : List (Nat × List Nat) := [(8, [0, 1, 2, 3, 4, 1001, 5])]
def dt37 : List (Nat × DSteps) := [(8, .take 0 (.val tRaw) <| .take 1 (.get tRaw) <| .take 2 (.val tRaw) <| .take 3 (.val tRaw) <| .call 4 tRaw [1] <| .effU 5 [] .nil)]
theorem ck37 : compFn Tryz.prog dr37 37 = some cf37 := by kernel_rfl
theorem cd37 : fnOkB Tryz.prog dr37 dt37 37 = true := by kernel_rfl
def dr39 : List (Nat × List Nat) := [(1, [0, 1, 2, 3, 4, 5, 6, 7, 8, 9, 10, 11, 1009, 12, 13, 14, 15, 16, 17])]
def dt39 : List (Nat × DSteps) := [(1, .take 0 (.val tRaw) <| .call 1 tRaw [] <| .take 2 (.val tRaw) <| .take 3 (.val tRaw) <| .split 19 <| .take 4 (.val tRaw) <| .call 5 tRaw [] <| .take 6 (.val tRaw) <| .take 7 (.val tRaw) <| .take 8 (.val tRaw) <| .split 24 <| .take 9 (.get tRaw) <| .take 10 (.val tRaw) <| .call 11 tRaw [9] <| .take 12 (.val tRaw) <| .take 13 (.val tRaw) <| .take 14 (.val tRaw) <| .split 30 <| .take 15 (.get tRaw) <| .take 16 (.val tRaw) <| .take 17 (.val tRaw) .nil)]
theorem ck39 : compFn Tryz.prog dr39 39 = some cf39 := by kernel_rfl
theorem cd39 : fnOkB Tryz.prog dr39 dt39 39 = true := by kernel_rfl
theorem ck40 : compFn Tryz.prog [] 40 = some cf40 := by kernel_rfl
theorem cd40 : fnOkB Tryz.prog [] [] 40 = true := by kernel_rfl
theorem ck42 : compFn Tryz.prog [] 42 = some cf42 := by kernel_rfl
theorem cd42 : fnOkB Tryz.prog [] [] 42 = true := by kernel_rfl
theorem ck45 : compFn Tryz.prog [] 45 = some cf45 := by kernel_rfl
theorem cd45 : fnOkB Tryz.prog [] [] 45 = true := by kernel_rfl
theorem ck58 : compFn Tryz.prog [] 58 = some cf58 := by kernel_rfl
theorem cd58 : fnOkB Tryz.prog [] [] 58 = true := by kernel_rfl
theorem ck65 : compFn Tryz.prog [] 65 = some cf65 := by kernel_rfl
theorem cd65 : fnOkB Tryz.prog [] [] 65 = true := by kernel_rfl
theorem ck67 : compFn Tryz.prog [] 67 = some cf67 := by kernel_rfl
theorem cd67 : fnOkB Tryz.prog [] [] 67 = true := by kernel_rfl
def dr86 : List (Nat × List Nat) := [(4, [0, 1, 2, 3, 4, 5, 6, 7, 8, 9, 10, 11, 12, 13]), (6, [0, 1, 2, 3, 4, 5, 6, 7, 8, 9, 10, 11, 12, 13, 14, 15, 16, 17])]
def dt86 : List (Nat × DSteps) := [(4, .take 0 (.val tRaw) <| .take 1 (.val tRaw) <| .take 2 (.val tRaw) <| .split 12 <| .take 3 (.val tRaw) <| .take 4 (.val tRaw) <| .take 5 (.val tRaw) <| .take 6 (.get tRaw) <| .take 7 (.val tRaw) <| .take 8 (.val tRaw) <| .take 9 (.val tRaw) <| .take 10 (.val tRaw) <| .take 11 (.get tRaw) <| .call 12 tRaw [] <| .take 13 (.val tRaw) .nil), (6, .take 0 (.val tRaw) <| .take 1 (.val tRaw) <| .take 2 (.val tRaw) <| .take 3 (.val tRaw) <| .take 4 (.val tRaw) <| .take 5 (.val tRaw) <| .take 6 (.val tRaw) <| .take 7 (.val tRaw) <| .take 8 (.val tRaw) <| .take 9 (.get tRaw) <| .take 10 (.val tRaw) <| .take 11 (.val tRaw) <| .take 12 (.val tRaw) <| .take 13 (.get tRaw) <| .take 14 (.val tRaw) <| .effU 15 [] <| .take 16 (.val tRaw) <| .effU 17 [] .nil)]
theorem ck86 : compFn Tryz.prog dr86 86 = some cf86 := by kernel_rfl
theorem cd86 : fnOkB Tryz.prog dr86 dt86 86 = true := by kernel_rfl
theorem ck92 : compFn Tryz.prog [] 92 = some cf92 := by kernel_rfl
theorem cd92 : fnOkB Tryz.prog [] [] 92 = true := by kernel_rfl
theorem ck120 : compFn Tryz.prog [] 120 = some cf120 := by kernel_rfl
theorem cd120 : fnOkB Tryz.prog [] [] 120 = true := by kernel_rfl
theorem ck124 : compFn Tryz.prog [] 124 = some cf124 := by kernel_rfl
theorem cd124 : fnOkB Tryz.prog [] [] 124 = true := by kernel_rfl
theorem ck129 : compFn Tryz.prog [] 129 = some cf129 := by kernel_rfl
theorem cd129 : fnOkB Tryz.prog [] [] 129 = true := by kernel_rfl
theorem ck136 : compFn Tryz.prog [] 136 = some cf136 := by kernel_rfl
theorem cd136 : fnOkB Tryz.prog [] [] 136 = true := by kernel_rfl
theorem ck140 : compFn Tryz.prog [] 140 = some cf140 := by kernel_rfl
theorem cd140 : fnOkB Tryz.prog [] [] 140 = true := by kernel_rfl
theorem ck144 : compFn Tryz.prog [] 144 = some cf144 := by kernel_rfl
theorem cd144 : fnOkB Tryz.prog [] [] 144 = true := by kernel_rfl
theorem ck150 : compFn Tryz.prog [] 150 = some cf150 := by kernel_rfl
theorem cd150 : fnOkB Tryz.prog [] [] 150 = true := by kernel_rfl
theorem ck154 : compFn Tryz.prog [] 154 = some cf154 := by kernel_rfl
theorem cd154 : fnOkB Tryz.prog [] [] 154 = true := by kernel_rfl
theorem ck158 : compFn Tryz.prog [] 158 = some cf158 := by kernel_rfl
theorem cd158 : fnOkB Tryz.prog [] [] 158 = true := by kernel_rfl
theorem ck161 : compFn Tryz.prog [] 161 = some cf161 := by kernel_rfl
theorem cd161 : fnOkB Tryz.prog [] [] 161 = true := by kernel_rfl
theorem ck164 : compFn Tryz.prog [] 164 = some cf164 := by kernel_rfl
theorem cd164 : fnOkB Tryz.prog [] [] 164 = true := by kernel_rfl
def dr171 : List (Nat × List Nat) := [(2, [0, 1, 2, 3, 4, 5, 6, 7, 8, 9, 10, 11, 12, 13, 14]), (15, [0, 1, 2, 3, 4, 5, 6, 7, 8, 9, 10])]
def dt171 : List (Nat × DSteps) := [(2, .take 0 (.val tRaw) <| .take 1 (.val tRaw) <| .take 2 (.val tRaw) <| .take 3 (.get tRaw) <| .take 4 (.val tRaw) <| .take 5 (.val tRaw) <| .take 6 (.val tRaw) <| .take 7 (.val tRaw) <| .take 8 (.get tRaw) <| .call 9 tRaw [] <| .take 10 (.val tRaw) <| .take 11 (.val tRaw) <| .take 12 (.val tRaw) <| .now 13 (.val tRaw) [] <| .now 14 (.val tRaw) [] .nil), (15, .take 0 (.val tRaw) <| .take 1 (.val tRaw) <| .take 2 (.val tRaw) <| .split 69 <| .take 3 (.val tRaw) <| .take 4 (.val tRaw) <| .take 5 (.val tRaw) <| .take 6 (.get tRaw) <| .take 7 (.get tRaw) <| .call 8 tRaw [] <| .take 9 (.val tRaw) <| .take 10 (.val tRaw) .nil)]
theorem ck171 : compFn Tryz.prog dr171 171 = some cf171 := by kernel_rfl
theorem cd171 : fnOkB Tryz.prog dr171 dt171 171 = true := by kernel_rfl
theorem ck175 : compFn Tryz.prog [] 175 = some cf175 := by kernel_rfl
theorem cd175 : fnOkB Tryz.prog [] [] 175 = true := by kernel_rfl
theorem ck180 : compFn Tryz.prog [] 180 = some cf180 := by kernel_rfl
theorem cd180 : fnOkB Tryz.prog [] [] 180 = true := by kernel_rfl
def dr181 : List (Nat × List Nat) := [(7, [0, 1, 2, 3, 1001, 4, 1001, 5, 6, 7])]
def dt181 : List (Nat × DSteps) := [(7, .take 0 (.val tRaw) <| .take 1 (.get tRaw) <| .take 2 (.val tRaw) <| .call 3 tRaw [1] <| .eff 4 tRaw [1] <| .eff 5 tRaw [] <| .take 6 (.val tRaw) <| .effU 7 [] .nil)]
theorem ck181 : compFn Tryz.prog dr181 181 = some cf181 := by kernel_rfl
theorem cd181 : fnOkB Tryz.prog dr181 dt181 181 = true := by kernel_rfl
def dr183 : List (Nat × List Nat) := [(3, [0, 1, 2, 3, 4, 5, 6])]
def dt183 : List (Nat × DSteps) := [(3, .take 0 (.val tRaw) <| .take 1 (.val tRaw) <| .take 2 (.val tRaw) <| .take 3 (.get tRaw) <| .take 4 (.get tRaw) <| .call 5 tRaw [] <| .now 6 (.val tRaw) [] .nil)]
theorem ck183 : compFn Tryz.prog dr183 183 = some cf183 := by kernel_rfl
theorem cd183 : fnOkB Tryz.prog dr183 dt183 183 = true := by kernel_rfl
theorem ck189 : compFn Tryz.prog [] 189 = some cf189 := by kernel_rfl
theorem cd189 : fnOkB Tryz.prog [] [] 189 = true := by kernel_rfl
theorem ck195 : compFn Tryz.prog [] 195 = some cf195 := by kernel_rfl
theorem cd195 : fnOkB Tryz.prog [] [] 195 = true := by kernel_rfl
theorem ck197 : compFn Tryz.prog [] 197 = some cf197 := by kernel_rfl
theorem cd197 : fnOkB Tryz.prog [] [] 197 = true := by kernel_rfl
def dr208 : List (Nat × List Nat) := [(14, [0, 1, 2, 3, 4, 5, 6, 7, 8, 9, 10, 11, 12, 13, 14, 15, 16, 17, 19, 22, 18, 1004, 1008, 20, 1004, 1008, 21, 23, 24, 1004, 1008, 25, 1008, 26, 1008, 27])]
def dt208 : List (Nat × DSteps) := [(14, .take 0 (.val tRaw) <| .take 1 (.val tRaw) <| .take 2 (.val tRaw) <| .take 3 (.val tRaw) <| .take 4 (.get tRaw) <| .take 5 (.val tRaw) <| .take 6 (.val tRaw) <| .take 7 (.val tRaw) <| .take 8 (.get tRaw) <| .take 9 (.val tRaw) <| .take 10 (.val tRaw) <| .take 11 (.val tRaw) <| .take 12 (.val tRaw) <| .take 13 (.val tRaw) <| .take 14 (.val tRaw) <| .take 15 (.get tRaw) <| .take 16 (.val tRaw) <| .take 17 (.val tRaw) <| .take 19 (.val tRaw) <| .take 22 (.val tRaw) <| .call 18 tRaw [4, 8] <| .call 20 tRaw [4, 8] <| .take 21 (.val tRaw) <| .take 23 (.val tRaw) <| .call 24 tRaw [4, 8] <| .call 25 tRaw [8] <| .call 26 tRaw [8] <| .now 27 (.val tRaw) [] .nil)]
theorem ck208 : compFn Tryz.prog dr208 208 = some cf208 := by kernel_rfl
theorem cd208 : fnOkB Tryz.prog dr208 dt208 208 = true := by kernel_rfl
theorem ck213 : compFn Tryz.prog [] 213 = some cf213 := by kernel_rfl
theorem cd213 : fnOkB Tryz.prog [] [] 213 = true := by kernel_rfl
theorem ck214 : compFn Tryz.prog [] 214 = some cf214 := by kernel_rfl
theorem cd214 : fnOkB Tryz.prog [] [] 214 = true := by kernel_rfl
theorem ck218 : compFn Tryz.prog [] 218 = some cf218 := by kernel_rfl
theorem cd218 : fnOkB Tryz.prog [] [] 218 = true := by kernel_rfl
def dr221 : List (Nat × List Nat) := [(1, [0, 1, 2, 4, 5, 6, 7, 3, 1001, 1005, 8, 1001, 1005, 9, 10])]
def dt221 : List (Nat × DSteps) := [(1, .take 0 (.val tRaw) <| .take 1 (.get tRaw) <| .take 2 (.val tRaw) <| .take 4 (.val tRaw) <| .take 5 (.get tRaw) <| .take 6 (.val tRaw) <| .take 7 (.val tRaw) <| .call 3 tRaw [1, 5] <| .call 8 tRaw [1, 5] <| .take 9 (.val tRaw) <| .now 10 (.val tRaw) [] .nil)]
theorem ck221 : compFn Tryz.prog dr221 221 = some cf221 := by kernel_rfl
theorem cd221 : fnOkB Tryz.prog dr221 dt221 221 = true := by kernel_rfl
theorem ck229 : compFn Tryz.prog [] 229 = some cf229 := by kernel_rfl
theorem cd229 : fnOkB Tryz.prog [] [] 229 = true := by kernel_rfl
theorem ck245 : compFn Tryz.prog [] 245 = some cf245 := by kernel_rfl
theorem cd245 : fnOkB Tryz.prog [] [] 245 = true := by kernel_rfl
def dr247 : List (Nat × List Nat) := [(0, [0, 1, 2, 3, 4, 1003, 5, 1003, 6, 1003, 7]), (8, [0, 1, 2, 3, 4, 5, 6, 7, 1001, 1005]), (10, [0, 1, 2, 3, 4, 5, 6, 7, 8, 1005, 1007, 9, 1007, 10])]
def dt247 : List (Nat × DSteps) := [(0, .take 0 (.val tRaw) <| .take 1 (.val tRaw) <| .take 2 (.val tRaw) <| .take 3 (.get tRaw) <| .now 4 (.val tRaw) [3] <| .now 5 (.val tRaw) [3] <| .now 6 (.val tRaw) [3] <| .now 7 (.val tRaw) [] .nil), (8, .take 0 (.val tRaw) <| .take 1 (.get tRaw) <| .take 2 (.val tRaw) <| .take 3 (.val tRaw) <| .take 4 (.val tRaw) <| .take 5 (.get tRaw) <| .take 6 (.val tRaw) <| .now 7 (.val tRaw) [1, 5] .nil), (10, .take 0 (.val tRaw) <| .take 1 (.val tRaw) <| .take 2 (.get tRaw) <| .take 3 (.val tRaw) <| .take 4 (.val tRaw) <| .take 5 (.get tRaw) <| .take 6 (.val tRaw) <| .take 7 (.get tRaw) <| .now 8 (.val tRaw) [5, 7] <| .now 9 (.val tRaw) [7] <| .now 10 (.val tRaw) [] .nil)]
theorem ck247 : compFn Tryz.prog dr247 247 = some cf247 := by kernel_rfl
theorem cd247 : fnOkB Tryz.prog dr247 dt247 247 = true := by kernel_rfl
theorem ck262 : compFn Tryz.prog [] 262 = some cf262 := by kernel_rfl
theorem cd262 : fnOkB Tryz.prog [] [] 262 = true := by kernel_rfl
def dr263 : List (Nat × List Nat) := [(9, [0, 1, 2, 3, 4, 5, 6, 8, 9, 7, 1004, 10, 11, 12, 13, 1004, 14, 15, 16, 17])]
def dt263 : List (Nat × DSteps) := [(9, .take 0 (.val tRaw) <| .take 1 (.val tRaw) <| .take 2 (.val tRaw) <| .take 3 (.val tRaw) <| .take 4 (.get tRaw) <| .take 5 (.val tRaw) <| .take 6 (.val tRaw) <| .take 8 (.val tRaw) <| .take 9 (.val tRaw) <| .call 7 tRaw [4] <| .take 10 (.val tRaw) <| .take 11 (.val tRaw) <| .take 12 (.val tRaw) <| .eff 13 tRaw [4] <| .eff 14 tRaw [] <| .take 15 (.val tRaw) <| .take 16 (.val tRaw) <| .effU 17 [] .nil)]
theorem ck263 : compFn Tryz.prog dr263 263 = some cf263 := by kernel_rfl
theorem cd263 : fnOkB Tryz.prog dr263 dt263 263 = true := by kernel_rfl
theorem ck277 : compFn Tryz.prog [] 277 = some cf277 := by kernel_rfl
theorem cd277 : fnOkB Tryz.prog [] [] 277 = true := by kernel_rfl
theorem ck285 : compFn Tryz.prog [] 285 = some cf285 := by kernel_rfl
theorem cd285 : fnOkB Tryz.prog [] [] 285 = true := by kernel_rfl
theorem ck286 : compFn Tryz.prog [] 286 = some cf286 := by kernel_rfl
theorem cd286 : fnOkB Tryz.prog [] [] 286 = true := by kernel_rfl
def dr292 : List (Nat × List Nat) := [(3, [0, 1, 3, 4, 5, 8, 9, 10, 11, 2, 1004, 1009, 6, 1004, 1009, 7, 12, 1004, 1009, 13, 14]), (10, [0, 1, 2, 4, 5, 6, 9, 3, 1005, 7, 1005, 8, 10, 1005, 11, 12, 13])]
def dt292 : List (Nat × DSteps) := [(3, .take 0 (.val tRaw) <| .take 1 (.get tRaw) <| .take 3 (.val tRaw) <| .take 4 (.get tRaw) <| .take 5 (.val tRaw) <| .take 8 (.val tRaw) <| .take 9 (.get tRaw) <| .take 10 (.val tRaw) <| .take 11 (.val tRaw) <| .call 2 tRaw [4, 9] <| .call 6 tRaw [4, 9] <| .take 7 (.val tRaw) <| .call 12 tRaw [4, 9] <| .take 13 (.val tRaw) <| .now 14 (.val tRaw) [] .nil), (10, .take 0 (.val tRaw) <| .take 1 (.val tRaw) <| .take 2 (.get tRaw) <| .take 4 (.val tRaw) <| .take 5 (.get tRaw) <| .take 6 (.val tRaw) <| .take 9 (.val tRaw) <| .call 3 tRaw [5] <| .call 7 tRaw [5] <| .take 8 (.val tRaw) <| .call 10 tRaw [5] <| .take 11 (.val tRaw) <| .take 12 (.val tRaw) <| .now 13 (.val tRaw) [] .nil)]
theorem ck292 : compFn Tryz.prog dr292 292 = some cf292 := by kernel_rfl
theorem cd292 : fnOkB Tryz.prog dr292 dt292 292 = true := by kernel_rfl
def dr296 : List (Nat × List Nat) := [(3, [0, 1, 2, 3, 4, 5, 6, 7, 8, 9, 10])]
def dt296 : List (Nat × DSteps) := [(3, .take 0 (.val tRaw) <| .take 1 (.val tRaw) <| .take 2 (.val tRaw) <| .take 3 (.get tRaw) <| .take 4 (.val tRaw) <| .take 5 (.val tRaw) <| .take 6 (.val tRaw) <| .take 7 (.val tRaw) <| .take 8 (.get tRaw) <| .take 9 (.val tRaw) <| .now 10 (.val tRaw) [] .nil)]
theorem ck296 : compFn Tryz.prog dr296 296 = some cf296 := by kernel_rfl
theorem cd296 : fnOkB Tryz.prog dr296 dt296 296 = true := by kernel_rfl
def dr302 : List (Nat × List Nat) := [(8, [0, 1, 2, 3, 4, 5, 6, 1005, 7, 8, 9, 1005, 10, 11, 12])]
def dt302 : List (Nat × DSteps) := [(8, .take 0 (.get tRaw) <| .take 1 (.get tRaw) <| .take 2 (.val tRaw) <| .take 3 (.get tRaw) <| .take 4 (.val tRaw) <| .take 5 (.get tRaw) <| .effU 6 [5] <| .take 7 (.val tRaw) <| .take 8 (.val tRaw) <| .effU 9 [5] <| .take 10 (.val tRaw) <| .take 11 (.val tRaw) <| .effU 12 [] .nil)]
theorem ck302 : compFn Tryz.prog dr302 302 = some cf302 := by kernel_rfl
theorem cd302 : fnOkB Tryz.prog dr302 dt302 302 = true := by kernel_rfl
def dr312 : List (Nat × List Nat) := [(4, [0, 1, 2, 3, 4, 5, 6, 7, 8, 9, 10, 11, 12, 13, 1004, 1009]), (7, [0, 1, 2, 3, 4, 5, 6, 7, 8, 9, 10, 11, 12, 13, 14, 15, 16])]
def dt312 : List (Nat × DSteps) := [(4, .take 0 (.val tRaw) <| .take 1 (.val tRaw) <| .take 2 (.val tRaw) <| .take 3 (.val tRaw) <| .take 4 (.get tRaw) <| .take 5 (.val tRaw) <| .take 6 (.val tRaw) <| .take 7 (.val tRaw) <| .take 8 (.val tRaw) <| .take 9 (.get tRaw) <| .take 10 (.val tRaw) <| .take 11 (.val tRaw) <| .take 12 (.val tRaw) <| .now 13 (.val tRaw) [4, 9] .nil), (7, .take 0 (.val tRaw) <| .take 1 (.val tRaw) <| .take 2 (.val tRaw) <| .take 3 (.get tRaw) <| .take 4 (.val tRaw) <| .take 5 (.val tRaw) <| .take 6 (.val tRaw) <| .take 7 (.get tRaw) <| .take 8 (.val tRaw) <| .take 9 (.val tRaw) <| .take 10 (.val tRaw) <| .take 11 (.val tRaw) <| .take 12 (.val tRaw) <| .take 13 (.val tRaw) <| .take 14 (.get tRaw) <| .take 15 (.val tRaw) <| .now 16 (.val tRaw) [] .nil)]
theorem ck312 : compFn Tryz.prog dr312 312 = some cf312 := by kernel_rfl
theorem cd312 : fnOkB Tryz.prog dr312 dt312 312 = true := by kernel_rfl
end Go.Proofs.YtelhccfmfnaegaaGreat
