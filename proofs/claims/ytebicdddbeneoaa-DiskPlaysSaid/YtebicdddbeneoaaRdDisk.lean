/- The shallow reading of functions, printed by program (gen.py); the kernel compares each with the model's own. -/
import Derived.Test.YtebicdddbeneoaaShC
import Derived.Test.YtebicdddbeneoaaProg
set_option linter.unusedVariables false
namespace Go.Proofs.Ytebicdddbeneoaa
open Go.Sh
theorem follows : Try.prog.follows .mixedOrders = true := by kernel_rfl
/-- memoir.memoirlaw07.DiskStays -/
def sa3 : SA := .seq (.region (.take 0 .pure .nil)) (.seq (.region (.call 0 (.tup [.leaf .ptr, .leaf (.int .i64)]) <| .take 1 .pure <| .take 2 .pure <| .take 3 .pure <| .take 4 .pure <| .take 5 .pure .nil)) (.seq (.seq (.region (.take 0 .pure <| .take 1 .pure <| .take 2 .pure <| .guard 24 (.take 3 .pure <| .take 4 (.get tBool) <| .take 5 .pure .nil) 27 [25, 26] .nil)) (.cond (.seq (.region (.take 0 .pure .nil)) (.none)) (.none))) (.seq (.region (.take 0 .pure <| .take 1 .pure <| .take 2 .pure <| .take 3 .pure .nil)) (.seq (.region (.call 0 tStr <| .eff 1 tSl <| .take 2 .pure .nil)) (.seq (.seq (.region (.take 0 .pure .nil)) (.block (.loop [(10, .leaf .slice), (11, .leaf (.int .i64))] [12, 33, 34, 35, 36, 37, 38, 39, 40, 41, 42, 43, 44, 45, 46, 47, 48, 49, 50, 51, 52, 53, 54, 55, 56, 57, 58, 59, 60, 61, 62, 63, 64, 65, 66, 67, 68, 69, 70, 71, 72, 73, 74, 75, 76, 77, 78, 79, 80, 81, 82, 83, 84, 85, 86] (.seq (.seq (.region (.take 0 .pure <| .take 1 .pure <| .take 2 .pure <| .take 3 .pure <| .take 4 .pure <| .guard 37 (.take 5 .pure <| .take 6 .pure <| .take 7 .pure .nil) 40 [38, 39] .nil)) (.cond (.none) (.none))) (.join (.block (.seq (.region (.take 0 .pure <| .take 1 .pure <| .take 2 (.val tAddr) <| .take 3 (.get (.one (.agg [.int .i64, .int .i64, .str, .slice]))) <| .eff 4 tAddr <| .effU 5 .nil)) (.join (.seq (.region (.take 0 .pure <| .take 1 (.get tInt) <| .take 2 .pure <| .take 3 .pure <| .guard 50 (.take 4 .pure <| .take 5 (.get tStr) <| .take 6 .pure <| .take 7 .pure <| .take 8 .pure .nil) 55 [51, 52, 53, 54] <| .take 9 .pure <| .guard 56 (.take 10 .pure <| .take 11 .pure <| .take 12 (.get tInt) <| .take 13 .pure <| .take 14 (.get tStr) <| .call 15 tInt <| .take 16 .pure <| .take 17 .pure .nil) 64 [57, 58, 59, 60, 61, 62, 63] <| .take 18 .pure <| .guard 65 (.take 19 .pure <| .take 20 (.get tInt) <| .take 21 .pure <| .take 22 .pure <| .take 23 .pure .nil) 70 [66, 67, 68, 69] .nil)) (.cond (.region (.take 0 .pure <| .take 1 .pure <| .take 2 (.get tStr) <| .call 3 tStr <| .eff 4 tSl <| .eff 5 tSl <| .take 6 .pure .nil)) (.none))) [(10, .leaf .slice)] [47, 48, 49, 50, 51, 52, 53, 54, 55, 56, 57, 58, 59, 60, 61, 62, 63, 64, 65, 66, 67, 68, 69, 70, 71, 72, 73, 74, 75, 76] (.seq (.region (.take 0 .pure <| .take 1 (.get tInt) <| .take 2 .pure .nil)) (.cond (.seq (.region (.take 0 .pure <| .call 1 tInt .nil)) (.region (.take 0 .pure <| .take 1 .pure <| .take 2 .pure <| .take 3 .pure <| .take 4 (.val tSl) <| .take 5 .pure .nil))) (.none)))))) [(10, .leaf .slice)] [12, 43, 44, 45, 46, 47, 48, 49, 50, 51, 52, 53, 54, 55, 56, 57, 58, 59, 60, 61, 62, 63, 64, 65, 66, 67, 68, 69, 70, 71, 72, 73, 74, 75, 76, 77, 78, 79, 80, 81, 82, 83, 84, 85, 86] (.region (.take 0 .pure <| .take 1 .pure <| .take 2 .pure .nil))))))) (.seq (.region (.take 0 .pure <| .call 1 tSl <| .take 2 .pure <| .take 3 .pure .nil)) (.seq (.seq (.region (.take 0 .pure <| .take 1 .pure <| .take 2 .pure <| .take 3 .pure <| .take 4 .pure <| .take 5 .pure <| .take 6 (.val tSl) <| .call 7 tInt <| .take 8 .pure .nil)) (.cond (.seq (.region (.take 0 .pure .nil)) (.none)) (.none))) (.seq (.region (.take 0 .pure <| .take 1 .pure <| .call 2 (.tup [.leaf .str, .leaf (.int .i64)]) <| .take 3 .pure <| .take 4 .pure <| .take 5 .pure <| .take 6 .pure <| .take 7 .pure .nil)) (.seq (.region (.take 0 .pure .nil)) (.seq (.seq (.region (.take 0 .pure .nil)) (.block (.loop [(16, .leaf .bool), (17, .leaf (.int .i64))] [105, 106, 107, 108, 109, 110, 111, 112, 113, 114, 115, 116, 117, 118, 119] (.seq (.seq (.region (.take 0 .pure <| .take 1 .pure <| .take 2 .pure <| .take 3 .pure .nil)) (.cond (.none) (.none))) (.seq (.block (.region (.take 0 .pure <| .take 1 .pure <| .guard 112 (.take 2 .pure <| .take 3 .pure <| .take 4 (.val tAddr) <| .take 5 (.get tStr) <| .take 6 .pure <| .take 7 .pure <| .take 8 .pure .nil) 119 [113, 114, 115, 116, 117, 118] <| .take 9 .pure .nil))) (.region (.take 0 .pure <| .take 1 .pure <| .take 2 .pure .nil))))))) (.seq (.region (.take 0 .pure <| .take 1 .pure <| .take 2 .pure <| .guard 122 (.take 3 .pure <| .take 4 .pure .nil) 124 [123] <| .take 5 .pure <| .guard 125 (.take 6 .pure <| .take 7 .pure <| .take 8 .pure <| .take 9 .pure .nil) 129 [126, 127, 128] <| .take 10 .pure <| .guard 130 (.take 11 .pure <| .call 12 tSl <| .take 13 .pure <| .take 14 .pure <| .take 15 .pure .nil) 135 [131, 132, 133, 134] <| .take 16 .pure <| .guard 136 (.call 17 tBool <| .take 18 .pure .nil) 138 [137] <| .take 19 .pure .nil)) (.none))))))))))))
def sh3 (p0 : Sl) (p1 : Sl) (p2 : Int) (k : Bool → Pr) : Pr :=
  CallP Try.prog 8 #[.int .i64 8] (.tup [.leaf .ptr, .leaf (.int .i64)]) fun t19 =>
  JoinP (S := Bool) (fun b27 => AnyP fun _ =>
  CondP b27 (
  k false) (
  CallP Try.prog 9 #[.string (⟨#[]⟩)] tStr fun t31 =>
  DoP Try.prog (vN (Instr.buildSlice 29 1 #[(0, .string t31)])) tSl fun t32 =>
  LoopP (S := Sl × Int) (fun next s => AnyP fun _ =>
  JoinP (S := Bool) (fun b40 => AnyP fun _ =>
  CondP b40 (
  JoinP (S := Sl) (fun s_2 => AnyP fun _ =>
  next (s_2, IntKind.i64.wrap (s.2 + 1))) fun J_3 =>
  ValP Try.prog (vN (Instr.indexAt 22 (.slice p0.a p0.len p0.cap) (.int .i64 s.2))) tAddr fun t45 =>
  GetP Try.prog (vN (Instr.loadAt 31 (.pointer (some t45)))) (.one (.agg [.int .i64, .int .i64, .str, .slice])) fun t46 =>
  DoP Try.prog (vN (Instr.alloc 31 true (.tuple #[]))) tAddr fun t12 =>
  DoU Try.prog (uN (Instr.storeAt 31 (.pointer (some t12)) (.agg #[.int .i64 t46.1, .int .i64 t46.2.1, .string t46.2.2.1, .slice t46.2.2.2.1.a t46.2.2.2.1.len t46.2.2.2.1.cap]))) <|
  JoinP (S := Sl) (fun s_3 => AnyP fun _ =>
  GetP Try.prog (vN (Instr.loadAt 3 (.pointer (some (Addr.add t12 0))))) tInt fun t78 =>
  CondP ((t78 : Int) == 2) (
  CallP Try.prog 11 #[.pointer t19.1] tInt fun t81 =>
  ValP Try.prog (vN (Instr.sliceAt 29 (.slice s_3.a s_3.len s_3.cap) (some (.int .i64 (IntKind.i64.wrap (s_3.len - 1)))) none none)) tSl fun t86 =>
  J_3 t86) (
  J_3 s_3)) fun J_4 =>
  GetP Try.prog (vN (Instr.loadAt 3 (.pointer (some (Addr.add t12 0))))) tInt fun t48 =>
  JoinP (S := Bool) (fun b55 => AnyP fun _ =>
  JoinP (S := Bool) (fun b64 => AnyP fun _ =>
  JoinP (S := Bool) (fun b70 => AnyP fun _ =>
  CondP b70 (
  GetP Try.prog (vN (Instr.loadAt 9 (.pointer (some (Addr.add t12 2))))) tStr fun t73 =>
  CallP Try.prog 9 #[.string t73] tStr fun t74 =>
  DoP Try.prog (vN (Instr.buildSlice 29 1 #[(0, .string t74)])) tSl fun t75 =>
  DoP Try.prog (vN (Builtin.append_ #[29, 29] 29 #[.slice s.1.a s.1.len s.1.cap, .slice t75.a t75.len t75.cap])) tSl fun t76 =>
  J_4 t76) (
  J_4 s.1)) fun J_7 =>
  CondP b64 (
  GetP Try.prog (vN (Instr.loadAt 3 (.pointer (some (Addr.add t12 1))))) tInt fun t67 =>
  J_7 ((t67 : Int) == (Int.tmod (IntKind.i64.wrap p2) 8))) (
  J_7 false)) fun J_6 =>
  CondP b55 (
  GetP Try.prog (vN (Instr.loadAt 3 (.pointer (some (Addr.add t12 1))))) tInt fun t59 =>
  GetP Try.prog (vN (Instr.loadAt 9 (.pointer (some (Addr.add t12 2))))) tStr fun t61 =>
  CallP Try.prog 10 #[.pointer t19.1, .int .i64 t59, .string t61] tInt fun t62 =>
  J_6 ((t62 : Int) == 0)) (
  J_6 false)) fun J_5 =>
  CondP ((t48 : Int) == 0) (
  GetP Try.prog (vN (Instr.loadAt 9 (.pointer (some (Addr.add t12 2))))) tStr fun t52 =>
  J_5 (decide ((t52.size : Int) ≤ 128))) (
  J_5 false)) (
  CallP Try.prog 12 #[.pointer t19.1] tSl fun t88 =>
  ValP Try.prog (vN (Instr.sliceAt 23 (.slice p1.a p1.len p1.cap) none (some (.int .i64 (if (t88.len : Int) < p1.len then t88.len else p1.len))) none)) tSl fun t96 =>
  CallP Try.prog 13 #[.pointer t19.1, .slice t96.a t96.len t96.cap] tInt fun t97 =>
  CondP ((t97 : Int) != 0) (
  k false) (
  CallP Try.prog 14 #[.pointer t19.1, .int .i64 (Int.tmod (IntKind.i64.wrap p2) 8)] (.tup [.leaf .str, .leaf (.int .i64)]) fun t102 =>
  LoopP (S := Bool × Int) (fun next_2 s_4 => AnyP fun _ =>
  CondP (decide ((s_4.2 : Int) < s.1.len)) (
  JoinP (S := Bool) (fun b119 => AnyP fun _ =>
  next_2 (b119, IntKind.i64.wrap (s_4.2 + 1))) fun J_8 =>
  CondP s_4.1 (
  J_8 true) (
  ValP Try.prog (vN (Instr.indexAt 29 (.slice s.1.a s.1.len s.1.cap) (.int .i64 s_4.2))) tAddr fun t115 =>
  GetP Try.prog (vN (Instr.loadAt 9 (.pointer (some t115)))) tStr fun t116 =>
  J_8 ((t116.toList == t102.1.toList)))) (
  JoinP (S := Bool) (fun b124 => AnyP fun _ =>
  JoinP (S := Bool) (fun b129 => AnyP fun _ =>
  JoinP (S := Bool) (fun b135 => AnyP fun _ =>
  JoinP (S := Bool) (fun b138 => AnyP fun _ =>
  k b138) fun J_12 =>
  CondP b135 (
  CallP Try.prog 15 #[] tBool fun t137 =>
  J_12 t137) (
  J_12 false)) fun J_11 =>
  CondP b129 (
  CallP Try.prog 12 #[.pointer t19.1] tSl fun t132 =>
  J_11 ((t132.len : Int) == 0)) (
  J_11 false)) fun J_10 =>
  CondP b124 (
  J_10 ((t102.1.size : Int) == 128)) (
  J_10 false)) fun J_9 =>
  CondP ((t102.2.1 : Int) == 0) (
  J_9 s_4.1) (
  J_9 false))) (false, 0)))) fun J_2 =>
  CondP (decide ((s.2 : Int) < p0.len)) (
  J_2 (decide ((s.2 : Int) < 40))) (
  J_2 false)) (t32, 0))) fun J =>
  CondP ((t19.2.1 : Int) != 0) (
  J true) (
  GetP Try.prog (cmpN .eql 24 (.tmp 25) (.const (.pointer none)) (.pointer t19.1) (.pointer none)) tBool fun t26 =>
  J t26)
theorem rd3 (p0 : Sl) (p1 : Sl) (p2 : Int) (k : Bool → Pr) (w : World) (h : sh3 p0 p1 p2 k w) :
    CallP Try.prog 3 #[.slice p0.a p0.len p0.cap, .slice p1.a p1.len p1.cap, .int .u8 p2] tBool k w :=
  CallP.of_eq (c := sa3.on (bodyOf Try.f3)) (S := sh3 p0 p1 p2 k) follows Try.func3 (by kernel_rfl) (by kernel_rfl) (by kernel_rfl) (by kernel_rfl) h

/-- memoir.memoirlaw07.DiskReads -/
def sa4 : SA := .seq (.region (.take 0 .pure .nil)) (.seq (.region (.call 0 (.tup [.leaf .ptr, .leaf (.int .i64)]) <| .take 1 .pure <| .take 2 .pure <| .take 3 .pure <| .take 4 .pure <| .take 5 .pure .nil)) (.seq (.seq (.region (.take 0 .pure <| .take 1 .pure <| .take 2 .pure <| .guard 25 (.take 3 .pure <| .take 4 (.get tBool) <| .take 5 .pure .nil) 28 [26, 27] <| .take 6 .pure <| .guard 29 (.take 7 .pure <| .take 8 .pure <| .take 9 .pure <| .take 10 .pure .nil) 33 [30, 31, 32] .nil)) (.cond (.seq (.region (.take 0 .pure <| .take 1 .pure <| .take 2 .pure <| .guard 36 (.take 3 .pure <| .take 4 (.get tBool) <| .take 5 .pure .nil) 39 [37, 38] <| .take 6 .pure <| .guard 40 (.call 7 tBool <| .take 8 .pure .nil) 42 [41] <| .take 9 .pure .nil)) (.none)) (.none))) (.seq (.seq (.region (.take 0 .pure .nil)) (.block (.loop [(9, .leaf (.int .i64))] [43, 44, 45, 46, 47, 48, 49, 50, 51, 52, 53, 54, 55, 56, 57, 58, 59, 60, 61, 62, 63, 64, 65, 66, 67, 68, 69, 70, 71, 72, 73, 74, 75, 76, 77, 78] (.seq (.seq (.region (.take 0 .pure <| .take 1 .pure <| .take 2 .pure <| .take 3 .pure <| .take 4 .pure <| .guard 47 (.take 5 .pure <| .take 6 .pure <| .take 7 .pure .nil) 50 [48, 49] .nil)) (.cond (.none) (.none))) (.join (.block (.join (.seq (.region (.take 0 .pure <| .take 1 .pure <| .take 2 (.val tAddr) <| .take 3 .pure <| .take 4 (.get tInt) <| .take 5 .pure .nil)) (.cond (.draw (.take 0 .pure <| .take 1 .pure <| .take 2 .pure <| .take 3 (.val tAddr) <| .take 4 .pure <| .take 5 (.get tInt) <| .take 6 .pure <| .take 7 .pure <| .take 8 (.val tAddr) <| .take 9 .pure <| .take 10 (.get tStr) <| .call 11 tInt [] .nil)) (.none))) [] [53, 54, 55, 56, 57, 58, 59, 60, 61, 62, 63, 64, 65, 66, 67, 68, 69, 70] (.seq (.region (.take 0 .pure <| .take 1 .pure <| .take 2 (.val tAddr) <| .take 3 .pure <| .take 4 (.get tInt) <| .take 5 .pure .nil)) (.cond (.region (.take 0 .pure <| .call 1 tInt .nil)) (.none))))) [] [53, 54, 55, 56, 57, 58, 59, 60, 61, 62, 63, 64, 65, 66, 67, 68, 69, 70, 71, 72, 73, 74, 75, 76, 77, 78] (.region (.take 0 .pure <| .take 1 .pure <| .take 2 .pure .nil))))))) (.seq (.region (.take 0 .pure .nil)) (.seq (.seq (.region (.take 0 .pure .nil)) (.block (.loop [(10, .leaf .slice), (11, .leaf (.int .i64))] [12, 13, 79, 80, 81, 82, 83, 84, 85, 86, 87, 88, 89, 90, 91, 92] (.seq (.seq (.region (.take 0 .pure <| .take 1 .pure .nil)) (.cond (.none) (.none))) (.seq (.block (.seq (.region (.take 0 .pure <| .take 1 .pure <| .call 2 (.tup [.leaf .str, .leaf (.int .i64)]) <| .take 3 .pure <| .take 4 .pure <| .take 5 .pure <| .take 6 .pure <| .take 7 .pure .nil)) (.region (.take 0 .pure <| .take 1 .pure <| .eff 2 tSl <| .eff 3 tSl <| .take 4 .pure .nil)))) (.region (.take 0 .pure <| .take 1 .pure <| .take 2 .pure .nil))))))) (.seq (.region (.take 0 .pure <| .take 1 .pure <| .take 2 .pure <| .take 3 .pure .nil)) (.seq (.region (.take 0 .pure <| .take 1 .pure <| .take 2 .pure <| .call 3 tInt <| .take 4 .pure .nil)) (.seq (.seq (.region (.take 0 .pure .nil)) (.block (.loop [(16, .leaf (.int .i64))] [6, 17, 18, 100, 101, 102, 103, 104, 105, 106, 107, 108, 109, 110, 111, 112, 113, 114, 115, 116, 117, 118, 119, 120, 121, 122, 123, 124, 125, 126, 127, 128, 129, 130, 131, 132, 133, 134, 135, 136, 137, 138, 139, 140, 141, 142, 143, 144, 145, 146, 147, 148] (.seq (.seq (.region (.take 0 .pure <| .take 1 .pure .nil)) (.cond (.none) (.none))) (.seq (.block (.seq (.region (.take 0 .pure <| .take 1 .pure <| .call 2 (.tup [.leaf .str, .leaf (.int .i64)]) <| .take 3 .pure <| .take 4 .pure <| .take 5 .pure <| .take 6 .pure <| .take 7 .pure .nil)) (.seq (.region (.take 0 .pure <| .take 1 .pure <| .take 2 .pure <| .guard 112 (.take 3 .pure <| .take 4 .pure <| .take 5 .pure <| .take 6 .pure .nil) 116 [113, 114, 115] <| .take 7 .pure <| .guard 117 (.take 8 .pure <| .take 9 .pure <| .take 10 .pure <| .take 11 .pure <| .guard 121 (.take 12 .pure <| .take 13 .pure <| .take 14 .pure .nil) 124 [122, 123] <| .take 15 .pure <| .guard 125 (.take 16 .pure <| .take 17 .pure <| .take 18 .pure <| .take 19 (.val tAddr) <| .take 20 (.get tStr) <| .take 21 .pure <| .take 22 .pure .nil) 132 [126, 127, 128, 129, 130, 131] <| .take 23 .pure .nil) 133 [118, 119, 120, 121, 122, 123, 124, 125, 126, 127, 128, 129, 130, 131, 132] <| .take 24 .pure <| .guard 134 (.take 25 .pure <| .take 26 .pure <| .take 27 .pure <| .take 28 .pure <| .guard 138 (.take 29 .pure <| .take 30 .pure <| .take 31 .pure .nil) 141 [139, 140] <| .take 32 .pure <| .guard 142 (.take 33 .pure <| .take 34 .pure <| .call 35 tStr <| .take 36 .pure <| .take 37 .pure .nil) 147 [143, 144, 145, 146] <| .take 38 .pure .nil) 148 [135, 136, 137, 138, 139, 140, 141, 142, 143, 144, 145, 146, 147] .nil)) (.cond (.seq (.region (.take 0 .pure .nil)) (.none)) (.none))))) (.region (.take 0 .pure <| .take 1 .pure <| .take 2 .pure .nil))))))) (.seq (.region (.take 0 .pure <| .take 1 .pure <| .take 2 .pure <| .take 3 .pure <| .take 4 .pure <| .take 5 .pure <| .take 6 .pure <| .guard 155 (.call 7 tBool <| .take 8 .pure .nil) 157 [156] <| .take 9 .pure .nil)) (.none))))))))))
def sh4 (p0 : Sl) (p1 : Int) (p2 : ByteArray) (k : Bool → Pr) : Pr :=
  CallP Try.prog 8 #[.int .i64 8] (.tup [.leaf .ptr, .leaf (.int .i64)]) fun t20 =>
  JoinP (S := Bool) (fun b28 => AnyP fun _ =>
  JoinP (S := Bool) (fun b33 => AnyP fun _ =>
  CondP b33 (
  JoinP (S := Bool) (fun b39 => AnyP fun _ =>
  JoinP (S := Bool) (fun b42 => AnyP fun _ =>
  k b42) fun J_4 =>
  CondP b39 (
  CallP Try.prog 15 #[] tBool fun t41 =>
  J_4 t41) (
  J_4 false)) fun J_3 =>
  CondP ((t20.2.1 : Int) == 0) (
  GetP Try.prog (cmpN .neq 24 (.tmp 37) (.const (.pointer none)) (.pointer t20.1) (.pointer none)) tBool fun t38 =>
  J_3 t38) (
  J_3 false)) (
  LoopP (S := Int) (fun next s => AnyP fun _ =>
  JoinP (S := Bool) (fun b50 => AnyP fun _ =>
  CondP b50 (
  JoinP (S := Unit) (fun s_2 => AnyP fun _ =>
  next (IntKind.i64.wrap (s + 1))) fun J_6 =>
  JoinP (S := Unit) (fun s_3 => AnyP fun _ =>
  ValP Try.prog (vN (Instr.indexAt 22 (.slice p0.a p0.len p0.cap) (.int .i64 s))) tAddr fun t73 =>
  GetP Try.prog (vN (Instr.loadAt 3 (.pointer (some (Addr.add t73 0))))) tInt fun t75 =>
  CondP ((t75 : Int) == 2) (
  CallP Try.prog 11 #[.pointer t20.1] tInt fun t78 =>
  J_6 ()) (
  J_6 ())) fun J_7 =>
  ValP Try.prog (vN (Instr.indexAt 22 (.slice p0.a p0.len p0.cap) (.int .i64 s))) tAddr fun t55 =>
  GetP Try.prog (vN (Instr.loadAt 3 (.pointer (some (Addr.add t55 0))))) tInt fun t57 =>
  CondP ((t57 : Int) == 0) (
  DrewP <|
  ValP Try.prog (vN (Instr.indexAt 22 (.slice p0.a p0.len p0.cap) (.int .i64 s))) tAddr fun t62 =>
  GetP Try.prog (vN (Instr.loadAt 3 (.pointer (some (Addr.add t62 1))))) tInt fun t64 =>
  ValP Try.prog (vN (Instr.indexAt 22 (.slice p0.a p0.len p0.cap) (.int .i64 s))) tAddr fun t67 =>
  GetP Try.prog (vN (Instr.loadAt 9 (.pointer (some (Addr.add t67 2))))) tStr fun t69 =>
  CallP Try.prog 10 #[.pointer t20.1, .int .i64 t64, .string t69] tInt fun t70 =>
  J_7 ()) (
  J_7 ())) (
  LoopP (S := Sl × Int) (fun next_2 s_4 => AnyP fun _ =>
  CondP (decide ((s_4.2 : Int) < 8)) (
  CallP Try.prog 14 #[.pointer t20.1, .int .i64 s_4.2] (.tup [.leaf .str, .leaf (.int .i64)]) fun t86 =>
  DoP Try.prog (vN (Instr.buildSlice 29 1 #[(0, .string t86.1)])) tSl fun t91 =>
  DoP Try.prog (vN (Builtin.append_ #[29, 29] 29 #[.slice s_4.1.a s_4.1.len s_4.1.cap, .slice t91.a t91.len t91.cap])) tSl fun t92 =>
  next_2 (t92, IntKind.i64.wrap (s_4.2 + 1))) (
  CallP Try.prog 10 #[.pointer t20.1, .int .i64 (Int.tmod (IntKind.i64.wrap p1) 8), .string p2] tInt fun t99 =>
  LoopP (S := Int) (fun next_3 s_5 => AnyP fun _ =>
  CondP (decide ((s_5 : Int) < 8)) (
  CallP Try.prog 14 #[.pointer t20.1, .int .i64 s_5] (.tup [.leaf .str, .leaf (.int .i64)]) fun t107 =>
  JoinP (S := Bool) (fun b116 => AnyP fun _ =>
  JoinP (S := Bool) (fun b133 => AnyP fun _ =>
  JoinP (S := Bool) (fun b148 => AnyP fun _ =>
  CondP b148 (
  k false) (
  next_3 (IntKind.i64.wrap (s_5 + 1)))) fun J_10 =>
  CondP b133 (
  J_10 true) (
  JoinP (S := Bool) (fun b141 => AnyP fun _ =>
  JoinP (S := Bool) (fun b147 => AnyP fun _ =>
  J_10 b147) fun J_12 =>
  CondP b141 (
  CallP Try.prog 9 #[.string p2] tStr fun t145 =>
  J_12 (!(t107.1.toList == t145.toList))) (
  J_12 false)) fun J_11 =>
  CondP ((s_5 : Int) == (Int.tmod (IntKind.i64.wrap p1) 8)) (
  J_11 ((t99 : Int) == 0)) (
  J_11 false))) fun J_9 =>
  CondP b116 (
  J_9 true) (
  JoinP (S := Bool) (fun b124 => AnyP fun _ =>
  JoinP (S := Bool) (fun b132 => AnyP fun _ =>
  J_9 b132) fun J_14 =>
  CondP b124 (
  ValP Try.prog (vN (Instr.indexAt 29 (.slice s_4.1.a s_4.1.len s_4.1.cap) (.int .i64 s_5))) tAddr fun t129 =>
  GetP Try.prog (vN (Instr.loadAt 9 (.pointer (some t129)))) tStr fun t130 =>
  J_14 (!(t107.1.toList == t130.toList))) (
  J_14 false)) fun J_13 =>
  CondP ((s_5 : Int) != (Int.tmod (IntKind.i64.wrap p1) 8)) (
  J_13 true) (
  J_13 ((t99 : Int) != 0)))) fun J_8 =>
  CondP ((t107.2.1 : Int) != 0) (
  J_8 true) (
  J_8 ((t107.1.size : Int) != 128))) (
  JoinP (S := Bool) (fun b157 => AnyP fun _ =>
  k b157) fun J_15 =>
  CondP ((((t99 : Int) == 0) : Bool) == (decide ((p2.size : Int) ≤ 128))) (
  CallP Try.prog 15 #[] tBool fun t156 =>
  J_15 t156) (
  J_15 false))) 0)) (⟨none, 0, 0⟩, 0))) fun J_5 =>
  CondP (decide ((s : Int) < p0.len)) (
  J_5 (decide ((s : Int) < 30))) (
  J_5 false)) 0)) fun J_2 =>
  CondP b28 (
  J_2 true) (
  J_2 (decide ((p2.size : Int) > 300)))) fun J =>
  CondP ((t20.2.1 : Int) != 0) (
  J true) (
  GetP Try.prog (cmpN .eql 24 (.tmp 26) (.const (.pointer none)) (.pointer t20.1) (.pointer none)) tBool fun t27 =>
  J t27)
theorem rd4 (p0 : Sl) (p1 : Int) (p2 : ByteArray) (k : Bool → Pr) (w : World) (h : sh4 p0 p1 p2 k w) :
    CallP Try.prog 4 #[.slice p0.a p0.len p0.cap, .int .u8 p1, .string p2] tBool k w :=
  CallP.of_eq (c := sa4.on (bodyOf Try.f4)) (S := sh4 p0 p1 p2 k) follows Try.func4 (by kernel_rfl) (by kernel_rfl) (by kernel_rfl) (by kernel_rfl) h

/-- memoir.memoirlaw07.DiskKeeps -/
def sa5 : SA := .seq (.region (.take 0 .pure .nil)) (.seq (.region (.call 0 (.tup [.leaf .ptr, .leaf (.int .i64)]) <| .take 1 .pure <| .take 2 .pure <| .take 3 .pure <| .take 4 .pure <| .take 5 .pure .nil)) (.seq (.seq (.region (.take 0 .pure <| .take 1 .pure <| .take 2 .pure <| .guard 26 (.take 3 .pure <| .take 4 (.get tBool) <| .take 5 .pure .nil) 29 [27, 28] .nil)) (.cond (.seq (.region (.take 0 .pure .nil)) (.none)) (.none))) (.seq (.seq (.region (.take 0 .pure .nil)) (.block (.loop [(5, .leaf (.int .i64))] [30, 31, 32, 33, 34, 35, 36, 37, 38, 39, 40, 41, 42, 43, 44, 45, 46, 47, 48, 49, 50, 51, 52, 53, 54, 55, 56, 57, 58, 59, 60, 61, 62, 63, 64, 65] (.seq (.seq (.region (.take 0 .pure <| .take 1 .pure <| .take 2 .pure <| .take 3 .pure <| .take 4 .pure <| .guard 34 (.take 5 .pure <| .take 6 .pure <| .take 7 .pure .nil) 37 [35, 36] .nil)) (.cond (.none) (.none))) (.join (.block (.join (.seq (.region (.take 0 .pure <| .take 1 .pure <| .take 2 (.val tAddr) <| .take 3 .pure <| .take 4 (.get tInt) <| .take 5 .pure .nil)) (.cond (.draw (.take 0 .pure <| .take 1 .pure <| .take 2 .pure <| .take 3 (.val tAddr) <| .take 4 .pure <| .take 5 (.get tInt) <| .take 6 .pure <| .take 7 .pure <| .take 8 (.val tAddr) <| .take 9 .pure <| .take 10 (.get tStr) <| .call 11 tInt [] .nil)) (.none))) [] [40, 41, 42, 43, 44, 45, 46, 47, 48, 49, 50, 51, 52, 53, 54, 55, 56, 57] (.seq (.region (.take 0 .pure <| .take 1 .pure <| .take 2 (.val tAddr) <| .take 3 .pure <| .take 4 (.get tInt) <| .take 5 .pure .nil)) (.cond (.region (.take 0 .pure <| .call 1 tInt .nil)) (.none))))) [] [40, 41, 42, 43, 44, 45, 46, 47, 48, 49, 50, 51, 52, 53, 54, 55, 56, 57, 58, 59, 60, 61, 62, 63, 64, 65] (.region (.take 0 .pure <| .take 1 .pure <| .take 2 .pure .nil))))))) (.seq (.region (.take 0 .pure <| .call 1 tPtr <| .take 2 .pure .nil)) (.seq (.region (.take 0 .pure <| .call 1 tPtr <| .take 2 .pure .nil)) (.seq (.seq (.region (.take 0 .pure <| .take 1 (.get tBool) <| .take 2 .pure <| .guard 72 (.take 3 .pure <| .take 4 (.get tBool) <| .take 5 .pure .nil) 75 [73, 74] .nil)) (.cond (.seq (.region (.take 0 .pure .nil)) (.none)) (.none))) (.seq (.region (.take 0 .pure <| .call 1 tInt .nil)) (.seq (.region (.take 0 .pure <| .call 1 tSl <| .take 2 .pure <| .eff 3 tSl <| .take 4 .pure .nil)) (.seq (.seq (.region (.take 0 .pure .nil)) (.block (.loop [(9, .leaf (.int .i64))] [82, 83, 84, 85, 86, 87, 88, 89, 90] (.seq (.seq (.region (.take 0 .pure <| .take 1 .pure <| .take 2 .pure <| .take 3 .pure .nil)) (.cond (.none) (.none))) (.seq (.block (.region (.take 0 .pure <| .take 1 .pure <| .take 2 (.val tAddr) <| .effU 3 .nil))) (.region (.take 0 .pure <| .take 1 .pure <| .take 2 .pure .nil))))))) (.seq (.region (.take 0 .pure <| .call 1 tPtr <| .take 2 .pure .nil)) (.seq (.seq (.region (.take 0 .pure <| .take 1 .pure <| .call 2 tInt <| .take 3 .pure <| .take 4 .pure <| .guard 97 (.take 5 .pure <| .call 6 tInt <| .take 7 .pure <| .take 8 .pure .nil) 101 [98, 99, 100] <| .take 9 .pure <| .guard 102 (.take 10 .pure <| .take 11 (.get tBool) <| .take 12 .pure .nil) 105 [103, 104] .nil)) (.cond (.seq (.region (.take 0 .pure .nil)) (.none)) (.none))) (.seq (.region (.take 0 .pure <| .take 1 .pure <| .take 2 .pure <| .eff 3 tSl <| .call 4 tInt .nil)) (.seq (.seq (.region (.take 0 .pure .nil)) (.block (.loop [(11, .leaf (.int .i64))] [2, 12, 13, 14, 15, 16, 17, 18, 19, 111, 112, 113, 114, 115, 116, 117, 118, 119, 120, 121, 122, 123, 124, 125, 126, 127, 128, 129, 130, 131, 132, 133, 134, 135, 136, 137, 138, 139, 140, 141, 142, 143, 144, 145, 146] (.seq (.seq (.region (.take 0 .pure <| .take 1 .pure .nil)) (.cond (.none) (.none))) (.seq (.block (.seq (.region (.take 0 .pure <| .take 1 .pure <| .call 2 (.tup [.leaf .str, .leaf (.int .i64)]) <| .take 3 .pure <| .take 4 .pure <| .take 5 .pure <| .take 6 .pure <| .take 7 .pure .nil)) (.seq (.region (.take 0 .pure <| .take 1 .pure <| .call 2 (.tup [.leaf .str, .leaf (.int .i64)]) <| .take 3 .pure <| .take 4 .pure <| .take 5 .pure <| .take 6 .pure <| .take 7 .pure .nil)) (.seq (.region (.take 0 .pure <| .take 1 .pure <| .call 2 (.tup [.leaf .str, .leaf (.int .i64)]) <| .take 3 .pure <| .take 4 .pure <| .take 5 .pure <| .take 6 .pure <| .take 7 .pure .nil)) (.seq (.region (.take 0 .pure <| .take 1 .pure <| .call 2 (.tup [.leaf .str, .leaf (.int .i64)]) <| .take 3 .pure <| .take 4 .pure <| .take 5 .pure <| .take 6 .pure <| .take 7 .pure .nil)) (.seq (.region (.take 0 .pure <| .take 1 .pure <| .take 2 .pure <| .take 3 .pure <| .guard 142 (.take 4 .pure <| .take 5 .pure <| .take 6 .pure <| .take 7 .pure .nil) 146 [143, 144, 145] .nil)) (.cond (.seq (.region (.take 0 .pure .nil)) (.none)) (.none)))))))) (.region (.take 0 .pure <| .take 1 .pure <| .take 2 .pure .nil))))))) (.seq (.region (.call 0 tBool <| .take 1 .pure .nil)) (.none)))))))))))))))
def sh5 (p0 : Sl) (k : Bool → Pr) : Pr :=
  CallP Try.prog 8 #[.int .i64 8] (.tup [.leaf .ptr, .leaf (.int .i64)]) fun t21 =>
  JoinP (S := Bool) (fun b29 => AnyP fun _ =>
  CondP b29 (
  k false) (
  LoopP (S := Int) (fun next s => AnyP fun _ =>
  JoinP (S := Bool) (fun b37 => AnyP fun _ =>
  CondP b37 (
  JoinP (S := Unit) (fun s_2 => AnyP fun _ =>
  next (IntKind.i64.wrap (s + 1))) fun J_3 =>
  JoinP (S := Unit) (fun s_3 => AnyP fun _ =>
  ValP Try.prog (vN (Instr.indexAt 22 (.slice p0.a p0.len p0.cap) (.int .i64 s))) tAddr fun t60 =>
  GetP Try.prog (vN (Instr.loadAt 3 (.pointer (some (Addr.add t60 0))))) tInt fun t62 =>
  CondP ((t62 : Int) == 2) (
  CallP Try.prog 11 #[.pointer t21.1] tInt fun t65 =>
  J_3 ()) (
  J_3 ())) fun J_4 =>
  ValP Try.prog (vN (Instr.indexAt 22 (.slice p0.a p0.len p0.cap) (.int .i64 s))) tAddr fun t42 =>
  GetP Try.prog (vN (Instr.loadAt 3 (.pointer (some (Addr.add t42 0))))) tInt fun t44 =>
  CondP ((t44 : Int) == 0) (
  DrewP <|
  ValP Try.prog (vN (Instr.indexAt 22 (.slice p0.a p0.len p0.cap) (.int .i64 s))) tAddr fun t49 =>
  GetP Try.prog (vN (Instr.loadAt 3 (.pointer (some (Addr.add t49 1))))) tInt fun t51 =>
  ValP Try.prog (vN (Instr.indexAt 22 (.slice p0.a p0.len p0.cap) (.int .i64 s))) tAddr fun t54 =>
  GetP Try.prog (vN (Instr.loadAt 9 (.pointer (some (Addr.add t54 2))))) tStr fun t56 =>
  CallP Try.prog 10 #[.pointer t21.1, .int .i64 t51, .string t56] tInt fun t57 =>
  J_4 ()) (
  J_4 ())) (
  CallP Try.prog 16 #[.pointer t21.1] tPtr fun t67 =>
  CallP Try.prog 16 #[.pointer t21.1] tPtr fun t69 =>
  GetP Try.prog (cmpN .eql 24 (.tmp 70) (.const (.pointer none)) (.pointer t67) (.pointer none)) tBool fun t71 =>
  JoinP (S := Bool) (fun b75 => AnyP fun _ =>
  CondP b75 (
  k false) (
  CallP Try.prog 11 #[.pointer t21.1] tInt fun t77 =>
  CallP Try.prog 12 #[.pointer t67] tSl fun t79 =>
  DoP Try.prog (vN (Instr.makeSlice 23 (.int .i64 t79.len) (.int .i64 t79.len))) tSl fun t81 =>
  LoopP (S := Int) (fun next_2 s_4 => AnyP fun _ =>
  CondP (decide ((s_4 : Int) < t81.len)) (
  ValP Try.prog (vN (Instr.indexAt 23 (.slice t81.a t81.len t81.cap) (.int .i64 s_4))) tAddr fun t90 =>
  DoU Try.prog (uN (Instr.storeAt 4 (.pointer (some t90)) (.bool true))) <|
  next_2 (IntKind.i64.wrap (s_4 + 1))) (
  CallP Try.prog 16 #[.pointer t69] tPtr fun t92 =>
  CallP Try.prog 13 #[.pointer t67, .slice t81.a t81.len t81.cap] tInt fun t95 =>
  JoinP (S := Bool) (fun b101 => AnyP fun _ =>
  JoinP (S := Bool) (fun b105 => AnyP fun _ =>
  CondP b105 (
  k false) (
  DoP Try.prog (vN (Instr.makeSlice 23 (.int .i64 t81.len) (.int .i64 t81.len))) tSl fun t109 =>
  CallP Try.prog 13 #[.pointer t92, .slice t109.a t109.len t109.cap] tInt fun t110 =>
  LoopP (S := Int) (fun next_3 s_5 => AnyP fun _ =>
  CondP (decide ((s_5 : Int) < 8)) (
  CallP Try.prog 14 #[.pointer t21.1, .int .i64 s_5] (.tup [.leaf .str, .leaf (.int .i64)]) fun t118 =>
  CallP Try.prog 14 #[.pointer t67, .int .i64 s_5] (.tup [.leaf .str, .leaf (.int .i64)]) fun t124 =>
  CallP Try.prog 14 #[.pointer t69, .int .i64 s_5] (.tup [.leaf .str, .leaf (.int .i64)]) fun t130 =>
  CallP Try.prog 14 #[.pointer t92, .int .i64 s_5] (.tup [.leaf .str, .leaf (.int .i64)]) fun t136 =>
  JoinP (S := Bool) (fun b146 => AnyP fun _ =>
  CondP b146 (
  k false) (
  next_3 (IntKind.i64.wrap (s_5 + 1)))) fun J_8 =>
  CondP (!(t118.1.toList == t124.1.toList)) (
  J_8 true) (
  J_8 (!(t130.1.toList == t136.1.toList)))) (
  CallP Try.prog 15 #[] tBool fun t147 =>
  k t147)) 0)) fun J_7 =>
  CondP b101 (
  J_7 true) (
  GetP Try.prog (cmpN .eql 24 (.tmp 103) (.const (.pointer none)) (.pointer t92) (.pointer none)) tBool fun t104 =>
  J_7 t104)) fun J_6 =>
  CondP ((t95 : Int) != 0) (
  J_6 true) (
  CallP Try.prog 13 #[.pointer t69, .slice none 0 0] tInt fun t99 =>
  J_6 ((t99 : Int) != 0)))) 0)) fun J_5 =>
  CondP t71 (
  J_5 true) (
  GetP Try.prog (cmpN .eql 24 (.tmp 73) (.const (.pointer none)) (.pointer t69) (.pointer none)) tBool fun t74 =>
  J_5 t74))) fun J_2 =>
  CondP (decide ((s : Int) < p0.len)) (
  J_2 (decide ((s : Int) < 40))) (
  J_2 false)) 0)) fun J =>
  CondP ((t21.2.1 : Int) != 0) (
  J true) (
  GetP Try.prog (cmpN .eql 24 (.tmp 27) (.const (.pointer none)) (.pointer t21.1) (.pointer none)) tBool fun t28 =>
  J t28)
theorem rd5 (p0 : Sl) (k : Bool → Pr) (w : World) (h : sh5 p0 k w) :
    CallP Try.prog 5 #[.slice p0.a p0.len p0.cap] tBool k w :=
  CallP.of_eq (c := sa5.on (bodyOf Try.f5)) (S := sh5 p0 k) follows Try.func5 (by kernel_rfl) (by kernel_rfl) (by kernel_rfl) (by kernel_rfl) h

/-- memoir.memoirlaw07.DiskNil -/
def sa6 : SA := .seq (.region (.take 0 .pure .nil)) (.seq (.region (.take 0 .pure .nil)) (.seq (.region (.take 0 .pure <| .eff 1 tAddr <| .take 2 .pure .nil)) (.seq (.region (.take 0 .pure <| .take 1 .pure <| .call 2 (.tup [.leaf .str, .leaf (.int .i64)]) <| .take 3 .pure <| .take 4 .pure <| .take 5 .pure <| .take 6 .pure <| .take 7 .pure .nil)) (.seq (.region (.take 0 .pure <| .take 1 .pure <| .call 2 (.tup [.leaf .str, .leaf (.int .i64)]) <| .take 3 .pure <| .take 4 .pure <| .take 5 .pure <| .take 6 .pure <| .take 7 .pure .nil)) (.seq (.region (.take 0 .pure <| .call 1 (.tup [.leaf (.int .i64), .leaf (.int .i64)]) <| .take 2 .pure <| .take 3 .pure <| .take 4 .pure <| .take 5 .pure <| .take 6 .pure .nil)) (.seq (.region (.take 0 .pure <| .take 1 .pure <| .take 2 .pure <| .guard 34 (.take 3 .pure <| .take 4 .pure <| .take 5 .pure .nil) 37 [35, 36] <| .take 6 .pure <| .guard 38 (.take 7 .pure <| .take 8 .pure <| .take 9 .pure <| .call 10 tInt <| .take 11 .pure <| .take 12 .pure .nil) 44 [39, 40, 41, 42, 43] <| .take 13 .pure <| .guard 45 (.take 14 .pure <| .take 15 .pure <| .take 16 .pure <| .call 17 tInt <| .take 18 .pure <| .take 19 .pure .nil) 51 [46, 47, 48, 49, 50] <| .take 20 .pure <| .guard 52 (.take 21 .pure <| .call 22 tInt <| .take 23 .pure <| .take 24 .pure .nil) 56 [53, 54, 55] <| .take 25 .pure <| .guard 57 (.take 26 .pure <| .call 27 tInt <| .take 28 .pure <| .take 29 .pure .nil) 61 [58, 59, 60] <| .take 30 .pure <| .guard 62 (.take 31 .pure <| .call 32 tInt <| .take 33 .pure <| .take 34 .pure .nil) 66 [63, 64, 65] <| .take 35 .pure <| .guard 67 (.take 36 .pure <| .call 37 tInt <| .take 38 .pure <| .take 39 .pure .nil) 71 [68, 69, 70] <| .take 40 .pure <| .guard 72 (.take 41 .pure <| .call 42 tSl <| .take 43 .pure <| .take 44 .pure <| .take 45 .pure .nil) 77 [73, 74, 75, 76] <| .take 46 .pure <| .guard 78 (.take 47 .pure <| .call 48 tInt <| .take 49 .pure <| .take 50 .pure .nil) 82 [79, 80, 81] <| .take 51 .pure <| .guard 83 (.take 52 .pure <| .take 53 .pure <| .take 54 .pure .nil) 86 [84, 85] <| .take 55 .pure <| .guard 87 (.take 56 .pure <| .take 57 .pure <| .take 58 .pure .nil) 90 [88, 89] <| .take 59 .pure <| .guard 91 (.take 60 .pure <| .call 61 tPtr <| .take 62 (.get tBool) <| .take 63 .pure .nil) 95 [92, 93, 94] <| .take 64 .pure <| .guard 96 (.take 65 .pure <| .call 66 tPtr <| .take 67 (.get tBool) <| .take 68 .pure .nil) 100 [97, 98, 99] <| .take 69 .pure <| .guard 101 (.call 70 tBool <| .take 71 .pure .nil) 103 [102] <| .take 72 .pure .nil)) (.none)))))))
def sh6 (p0 : Int) (p1 : ByteArray) (k : Bool → Pr) : Pr :=
  DoP Try.prog (vN (Instr.box 47 (.agg #[.int .i64 0, .map none, .slice none 0 0, .int .i64 0, .int .i64 0, .bool false, .int .i64 0]))) tAddr fun t14 =>
  CallP Try.prog 14 #[.pointer none, .int .i64 p0] (.tup [.leaf .str, .leaf (.int .i64)]) fun t18 =>
  CallP Try.prog 14 #[.pointer (some t14), .int .i64 p0] (.tup [.leaf .str, .leaf (.int .i64)]) fun t24 =>
  CallP Try.prog 17 #[.pointer (some t14)] (.tup [.leaf (.int .i64), .leaf (.int .i64)]) fun t29 =>
  JoinP (S := Bool) (fun b37 => AnyP fun _ =>
  JoinP (S := Bool) (fun b44 => AnyP fun _ =>
  JoinP (S := Bool) (fun b51 => AnyP fun _ =>
  JoinP (S := Bool) (fun b56 => AnyP fun _ =>
  JoinP (S := Bool) (fun b61 => AnyP fun _ =>
  JoinP (S := Bool) (fun b66 => AnyP fun _ =>
  JoinP (S := Bool) (fun b71 => AnyP fun _ =>
  JoinP (S := Bool) (fun b77 => AnyP fun _ =>
  JoinP (S := Bool) (fun b82 => AnyP fun _ =>
  JoinP (S := Bool) (fun b86 => AnyP fun _ =>
  JoinP (S := Bool) (fun b90 => AnyP fun _ =>
  JoinP (S := Bool) (fun b95 => AnyP fun _ =>
  JoinP (S := Bool) (fun b100 => AnyP fun _ =>
  JoinP (S := Bool) (fun b103 => AnyP fun _ =>
  k b103) fun J_14 =>
  CondP b100 (
  CallP Try.prog 15 #[] tBool fun t102 =>
  J_14 t102) (
  J_14 false)) fun J_13 =>
  CondP b95 (
  CallP Try.prog 16 #[.pointer (some t14)] tPtr fun t98 =>
  GetP Try.prog (cmpN .eql 24 (.tmp 98) (.const (.pointer none)) (.pointer t98) (.pointer none)) tBool fun t99 =>
  J_13 t99) (
  J_13 false)) fun J_12 =>
  CondP b90 (
  CallP Try.prog 16 #[.pointer none] tPtr fun t93 =>
  GetP Try.prog (cmpN .eql 24 (.tmp 93) (.const (.pointer none)) (.pointer t93) (.pointer none)) tBool fun t94 =>
  J_12 t94) (
  J_12 false)) fun J_11 =>
  CondP b86 (
  J_11 ((t29.2.1 : Int) == 0)) (
  J_11 false)) fun J_10 =>
  CondP b82 (
  J_10 ((t29.1 : Int) == 0)) (
  J_10 false)) fun J_9 =>
  CondP b77 (
  CallP Try.prog 18 #[.pointer none] tInt fun t80 =>
  J_9 ((t80 : Int) == 0)) (
  J_9 false)) fun J_8 =>
  CondP b71 (
  CallP Try.prog 12 #[.pointer none] tSl fun t74 =>
  J_8 ((t74.len : Int) == 0)) (
  J_8 false)) fun J_7 =>
  CondP b66 (
  CallP Try.prog 13 #[.pointer (some t14), .slice none 0 0] tInt fun t69 =>
  J_7 ((t69 : Int) == 13)) (
  J_7 false)) fun J_6 =>
  CondP b61 (
  CallP Try.prog 13 #[.pointer none, .slice none 0 0] tInt fun t64 =>
  J_6 ((t64 : Int) == 13)) (
  J_6 false)) fun J_5 =>
  CondP b56 (
  CallP Try.prog 11 #[.pointer (some t14)] tInt fun t59 =>
  J_5 ((t59 : Int) == 13)) (
  J_5 false)) fun J_4 =>
  CondP b51 (
  CallP Try.prog 11 #[.pointer none] tInt fun t54 =>
  J_4 ((t54 : Int) == 13)) (
  J_4 false)) fun J_3 =>
  CondP b44 (
  CallP Try.prog 10 #[.pointer (some t14), .int .i64 p0, .string p1] tInt fun t49 =>
  J_3 ((t49 : Int) == 13)) (
  J_3 false)) fun J_2 =>
  CondP b37 (
  CallP Try.prog 10 #[.pointer none, .int .i64 p0, .string p1] tInt fun t42 =>
  J_2 ((t42 : Int) == 13)) (
  J_2 false)) fun J =>
  CondP ((t18.2.1 : Int) == 13) (
  J ((t24.2.1 : Int) == 13)) (
  J false)
theorem rd6 (p0 : Int) (p1 : ByteArray) (k : Bool → Pr) (w : World) (h : sh6 p0 p1 k w) :
    CallP Try.prog 6 #[.int .i64 p0, .string p1] tBool k w :=
  CallP.of_eq (c := sa6.on (bodyOf Try.f6)) (S := sh6 p0 p1 k) follows Try.func6 (by kernel_rfl) (by kernel_rfl) (by kernel_rfl) (by kernel_rfl) h

/-- memoir.memoirlaw07.DiskPlays -/
def sa7 : SA := .seq (.region (.take 0 .pure .nil)) (.seq (.seq (.region (.take 0 .pure <| .take 1 .pure <| .take 2 .pure <| .guard 25 (.take 3 .pure <| .take 4 .pure <| .take 5 .pure .nil) 28 [26, 27] .nil)) (.cond (.seq (.region (.call 0 tBool <| .take 1 .pure .nil)) (.none)) (.none))) (.seq (.region (.take 0 .pure <| .call 1 (.tup [.leaf .ptr, .leaf (.int .i64)]) <| .take 2 .pure <| .take 3 .pure <| .take 4 .pure <| .take 5 .pure <| .take 6 .pure .nil)) (.seq (.region (.take 0 .pure <| .call 1 (.tup [.leaf .ptr, .leaf (.int .i64)]) <| .take 2 .pure <| .take 3 .pure <| .take 4 .pure <| .take 5 .pure <| .take 6 .pure .nil)) (.seq (.seq (.region (.take 0 .pure <| .take 1 .pure <| .take 2 .pure <| .take 3 .pure <| .guard 43 (.take 4 .pure <| .take 5 (.get tBool) <| .take 6 .pure <| .take 7 .pure <| .take 8 .pure <| .take 9 .pure .nil) 49 [44, 45, 46, 47, 48] .nil)) (.cond (.seq (.region (.take 0 .pure .nil)) (.none)) (.none))) (.seq (.seq (.region (.take 0 .pure .nil)) (.block (.loop [(5, .leaf .ptr), (9, .leaf (.int .i64))] [4, 10, 11, 12, 13, 14, 15, 16, 17, 18, 19, 20, 21, 22, 50, 51, 52, 53, 54, 55, 56, 57, 58, 59, 60, 61, 62, 63, 64, 65, 66, 67, 68, 69, 70, 71, 72, 73, 74, 75, 76, 77, 78, 79, 80, 81, 82, 83, 84, 85, 86, 87, 88, 89, 90, 91, 92, 93, 94, 95, 96, 97, 98, 99, 100, 101, 102, 103, 104, 105, 106, 107, 108, 109, 110, 111, 112, 113, 114, 115, 116, 117, 118, 119, 120, 121, 122, 123, 124, 125, 126, 127, 128, 129, 130, 131, 132, 133, 134, 135, 136, 137, 138, 139, 140, 141, 142, 143, 144, 145, 146, 147, 148, 149, 150, 151, 152, 153, 154, 155, 156, 157, 158, 159, 160, 161, 162, 163, 164, 165, 166, 167, 168, 169, 170, 171, 172, 173, 174, 175, 176, 177, 178, 179, 180, 181, 182, 183, 184, 185, 186, 187, 188, 189, 190, 191, 192, 193, 194, 195, 196, 197, 198, 199, 200, 201, 202, 203, 204, 205, 206, 207, 208, 209, 210, 211, 212, 213, 214, 215, 216, 217, 218] (.seq (.seq (.region (.take 0 .pure <| .take 1 .pure <| .take 2 .pure <| .take 3 .pure <| .take 4 .pure <| .guard 54 (.take 5 .pure <| .take 6 .pure <| .take 7 .pure .nil) 57 [55, 56] <| .take 8 .pure <| .guard 58 (.take 9 .pure <| .take 10 (.get tBool) <| .take 11 .pure .nil) 61 [59, 60] .nil)) (.cond (.none) (.none))) (.join (.block (.seq (.region (.take 0 .pure <| .take 1 .pure <| .take 2 (.val tAddr) <| .take 3 (.get (.one (.agg [.int .i64, .int .i64, .str, .slice]))) <| .eff 4 tAddr <| .effU 5 .nil)) (.seq (.seq (.region (.take 0 .pure <| .take 1 (.get tStr) <| .take 2 .pure <| .take 3 .pure <| .take 4 .pure <| .guard 72 (.take 5 .pure <| .take 6 (.get tSl) <| .take 7 .pure <| .take 8 .pure <| .take 9 .pure .nil) 77 [73, 74, 75, 76] .nil)) (.cond (.none) (.none))) (.join (.seq (.region (.take 0 .pure <| .take 1 (.get tInt) .nil)) (.block (.seq (.region (.take 0 .pure <| .take 1 .pure .nil)) (.cond (.seq (.draw (.take 0 .pure <| .take 1 .pure <| .take 2 (.get tInt) <| .take 3 .pure <| .take 4 (.get tStr) <| .take 6 .pure <| .take 7 .pure <| .take 8 (.get tInt) <| .take 9 .pure <| .take 10 (.get tStr) <| .call 5 tInt [8, 10] <| .call 11 tInt [] <| .take 12 .pure .nil)) (.cond (.seq (.region (.take 0 .pure .nil)) (.none)) (.none))) (.seq (.region (.take 0 .pure <| .take 1 .pure .nil)) (.cond (.seq (.region (.take 0 .pure <| .take 1 .pure <| .take 2 (.get tInt) <| .call 3 (.tup [.leaf .str, .leaf (.int .i64)]) <| .take 4 .pure <| .take 5 .pure <| .take 6 .pure <| .take 7 .pure <| .take 8 .pure .nil)) (.seq (.region (.take 0 .pure <| .take 1 .pure <| .take 2 (.get tInt) <| .call 3 (.tup [.leaf .str, .leaf (.int .i64)]) <| .take 4 .pure <| .take 5 .pure <| .take 6 .pure <| .take 7 .pure <| .take 8 .pure .nil)) (.seq (.region (.take 0 .pure <| .take 1 .pure <| .take 2 .pure <| .take 3 .pure <| .guard 125 (.take 4 .pure <| .take 5 .pure <| .take 6 .pure <| .take 7 .pure .nil) 129 [126, 127, 128] .nil)) (.cond (.seq (.region (.take 0 .pure .nil)) (.none)) (.none))))) (.seq (.region (.take 0 .pure <| .take 1 .pure .nil)) (.cond (.seq (.region (.take 0 .pure <| .call 1 tInt <| .take 2 .pure <| .call 3 tInt <| .take 4 .pure .nil)) (.cond (.seq (.region (.take 0 .pure .nil)) (.none)) (.none))) (.seq (.region (.take 0 .pure <| .take 1 .pure .nil)) (.cond (.seq (.draw (.take 0 .pure <| .take 1 .pure <| .take 2 (.get tSl) <| .take 4 .pure <| .take 5 .pure <| .take 6 (.get tSl) <| .call 3 tInt [6] <| .call 7 tInt [] <| .take 8 .pure .nil)) (.cond (.seq (.region (.take 0 .pure .nil)) (.none)) (.none))) (.seq (.region (.take 0 .pure <| .take 1 .pure .nil)) (.cond (.seq (.region (.take 0 .pure <| .take 1 .pure <| .take 2 (.get tInt) <| .call 3 (.tup []) .nil)) (.region (.take 0 .pure <| .take 1 .pure <| .take 2 (.get tInt) <| .call 3 (.tup []) .nil))) (.seq (.region (.take 0 .pure <| .call 1 tPtr <| .take 2 .pure .nil)) (.seq (.region (.take 0 .pure <| .take 1 .pure <| .take 2 (.get tInt) <| .call 3 tInt .nil)) (.seq (.region (.take 0 .pure <| .call 1 tInt .nil)) (.seq (.region (.take 0 .pure <| .take 1 .pure .nil)) (.seq (.region (.take 0 .pure <| .take 1 (.get tBool) .nil)) (.cond (.seq (.region (.take 0 .pure .nil)) (.none)) (.none))))))))))))))))))) [(5, .leaf .ptr)] [4, 11, 12, 13, 14, 15, 78, 79, 80, 81, 82, 83, 84, 85, 86, 87, 88, 89, 90, 91, 92, 93, 94, 95, 96, 97, 98, 99, 100, 101, 102, 103, 104, 105, 106, 107, 108, 109, 110, 111, 112, 113, 114, 115, 116, 117, 118, 119, 120, 121, 122, 123, 124, 125, 126, 127, 128, 129, 130, 131, 132, 133, 134, 135, 136, 137, 138, 139, 140, 141, 142, 143, 144, 145, 146, 147, 148, 149, 150, 151, 152, 153, 154, 155, 156, 157] (.seq (.region (.take 0 .pure <| .call 1 (.tup [.leaf (.int .i64), .leaf (.int .i64)]) <| .take 2 .pure <| .take 3 .pure <| .take 4 .pure <| .take 5 .pure <| .take 6 .pure .nil)) (.seq (.seq (.draw (.take 0 .pure <| .take 1 .pure <| .take 2 (.val tAddr) <| .take 3 .pure <| .take 4 (.get tInt) <| .take 5 .pure <| .take 6 .pure <| .split 169 <| .take 7 .pure <| .take 8 .pure <| .take 9 (.val tAddr) <| .take 10 .pure <| .take 11 (.get tInt) <| .take 12 .pure <| .take 13 .pure <| .take 14 .pure <| .split 177 <| .take 15 .pure <| .take 17 .pure <| .call 16 tSl [4, 11] <| .call 18 tSl [4, 11] <| .call 19 tBool [4, 11] <| .take 20 .pure <| .take 21 .pure <| .take 22 .pure <| .split 185 <| .take 23 .pure <| .take 25 .pure <| .take 26 (.val tAddr) <| .take 27 .pure <| .take 28 (.get tSl) <| .take 29 .pure <| .call 24 tInt [4, 11, 28] <| .take 30 .pure <| .take 31 .pure .nil)) (.cond (.seq (.region (.take 0 .pure .nil)) (.none)) (.none))) (.seq (.region (.take 0 .pure .nil)) (.block (.loop [(18, .leaf (.int .i64))] [4, 19, 20, 21, 22, 195, 196, 197, 198, 199, 200, 201, 202, 203, 204, 205, 206, 207, 208, 209, 210, 211, 212, 213, 214, 215, 216, 217, 218] (.seq (.seq (.region (.take 0 .pure <| .take 1 .pure <| .take 2 .pure <| .take 3 .pure <| .guard 198 (.take 4 .pure <| .take 5 .pure <| .take 6 .pure .nil) 201 [199, 200] .nil)) (.cond (.none) (.none))) (.seq (.block (.seq (.region (.take 0 .pure <| .take 1 .pure <| .call 2 (.tup [.leaf .str, .leaf (.int .i64)]) <| .take 3 .pure <| .take 4 .pure <| .take 5 .pure <| .take 6 .pure <| .take 7 .pure .nil)) (.seq (.region (.take 0 .pure <| .take 1 .pure <| .call 2 (.tup [.leaf .str, .leaf (.int .i64)]) <| .take 3 .pure <| .take 4 .pure <| .take 5 .pure <| .take 6 .pure <| .take 7 .pure .nil)) (.seq (.region (.take 0 .pure <| .take 1 .pure <| .take 2 .pure .nil)) (.cond (.seq (.region (.take 0 .pure .nil)) (.none)) (.none)))))) (.region (.take 0 .pure <| .take 1 .pure <| .take 2 .pure .nil))))))))))))) [(5, .leaf .ptr)] [4, 10, 11, 12, 13, 14, 15, 16, 17, 18, 19, 20, 21, 22, 64, 65, 66, 67, 68, 69, 70, 71, 72, 73, 74, 75, 76, 77, 78, 79, 80, 81, 82, 83, 84, 85, 86, 87, 88, 89, 90, 91, 92, 93, 94, 95, 96, 97, 98, 99, 100, 101, 102, 103, 104, 105, 106, 107, 108, 109, 110, 111, 112, 113, 114, 115, 116, 117, 118, 119, 120, 121, 122, 123, 124, 125, 126, 127, 128, 129, 130, 131, 132, 133, 134, 135, 136, 137, 138, 139, 140, 141, 142, 143, 144, 145, 146, 147, 148, 149, 150, 151, 152, 153, 154, 155, 156, 157, 158, 159, 160, 161, 162, 163, 164, 165, 166, 167, 168, 169, 170, 171, 172, 173, 174, 175, 176, 177, 178, 179, 180, 181, 182, 183, 184, 185, 186, 187, 188, 189, 190, 191, 192, 193, 194, 195, 196, 197, 198, 199, 200, 201, 202, 203, 204, 205, 206, 207, 208, 209, 210, 211, 212, 213, 214, 215, 216, 217, 218] (.region (.take 0 .pure <| .take 1 .pure <| .take 2 .pure .nil))))))) (.seq (.region (.call 0 tBool <| .take 1 .pure .nil)) (.none)))))))
def sh7 (p0 : Int) (p1 : Sl) (k : Bool → Pr) : Pr :=
  JoinP (S := Bool) (fun b28 => AnyP fun _ =>
  CondP b28 (
  CallP Try.prog 15 #[] tBool fun t29 =>
  k t29) (
  CallP Try.prog 8 #[.int .i64 p0] (.tup [.leaf .ptr, .leaf (.int .i64)]) fun t32 =>
  CallP Try.prog 19 #[.int .i64 p0] (.tup [.leaf .ptr, .leaf (.int .i64)]) fun t37 =>
  JoinP (S := Bool) (fun b49 => AnyP fun _ =>
  CondP b49 (
  k false) (
  LoopP (S := Option Addr × Int) (fun next s => AnyP fun _ =>
  JoinP (S := Bool) (fun b57 => AnyP fun _ =>
  JoinP (S := Bool) (fun b61 => AnyP fun _ =>
  CondP b61 (
  JoinP (S := Option Addr) (fun s_2 => AnyP fun _ =>
  next (s_2, IntKind.i64.wrap (s.2 + 1))) fun J_5 =>
  ValP Try.prog (vN (Instr.indexAt 22 (.slice p1.a p1.len p1.cap) (.int .i64 s.2))) tAddr fun t66 =>
  GetP Try.prog (vN (Instr.loadAt 31 (.pointer (some t66)))) (.one (.agg [.int .i64, .int .i64, .str, .slice])) fun t67 =>
  DoP Try.prog (vN (Instr.alloc 31 true (.tuple #[]))) tAddr fun t10 =>
  DoU Try.prog (uN (Instr.storeAt 31 (.pointer (some t10)) (.agg #[.int .i64 t67.1, .int .i64 t67.2.1, .string t67.2.2.1, .slice t67.2.2.2.1.a t67.2.2.2.1.len t67.2.2.2.1.cap]))) <|
  GetP Try.prog (vN (Instr.loadAt 9 (.pointer (some (Addr.add t10 2))))) tStr fun t69 =>
  JoinP (S := Bool) (fun b77 => AnyP fun _ =>
  CondP b77 (
  J_5 s.1) (
  JoinP (S := Option Addr) (fun s_3 => AnyP fun _ =>
  CallP Try.prog 17 #[.pointer s_3] (.tup [.leaf (.int .i64), .leaf (.int .i64)]) fun t160 =>
  DrewP <|
  ValP Try.prog (nilN (.pointer t37.1)) tAddr fun t165 =>
  GetP Try.prog (vN (Instr.loadAt 3 (.pointer (some (Addr.add t165 2))))) tInt fun t167 =>
  CondP ((t160.1 : Int) != t167) (
  CondP true (
  CondP true (
  CondP true (
  k false) (
  LoopP (S := Int) (fun next_2 s_4 => AnyP fun _ =>
  JoinP (S := Bool) (fun b201 => AnyP fun _ =>
  CondP b201 (
  CallP Try.prog 14 #[.pointer s_3, .int .i64 s_4] (.tup [.leaf .str, .leaf (.int .i64)]) fun t207 =>
  CallP Try.prog 21 #[.pointer t37.1, .int .i64 s_4] (.tup [.leaf .str, .leaf (.int .i64)]) fun t213 =>
  CondP (!(t207.1.toList == t213.1.toList)) (
  k false) (
  next_2 (IntKind.i64.wrap (s_4 + 1)))) (
  J_5 s_3)) fun J_8 =>
  CondP (decide ((s_4 : Int) < p0)) (
  J_8 (decide ((s_4 : Int) < 12))) (
  J_8 false)) 0)) (
  ValP Try.prog (nilN (.pointer t37.1)) tAddr fun t189 =>
  GetP Try.prog (vN (Instr.loadAt 29 (.pointer (some (Addr.add t189 0))))) tSl fun t191 =>
  CallP Try.prog 18 #[.pointer s_3] tInt fun t187 =>
  ChkP Try.prog (vN (Instr.loadAt 3 (.pointer (some (Addr.add t165 2))))) (.int .i64 t167) <|
  ChkP Try.prog (vN (Instr.loadAt 29 (.pointer (some (Addr.add t189 0))))) (.slice t191.a t191.len t191.cap) <|
  CondP ((t187 : Int) != t191.len) (
  k false) (
  LoopP (S := Int) (fun next_3 s_5 => AnyP fun _ =>
  JoinP (S := Bool) (fun b201_2 => AnyP fun _ =>
  CondP b201_2 (
  CallP Try.prog 14 #[.pointer s_3, .int .i64 s_5] (.tup [.leaf .str, .leaf (.int .i64)]) fun t207_2 =>
  CallP Try.prog 21 #[.pointer t37.1, .int .i64 s_5] (.tup [.leaf .str, .leaf (.int .i64)]) fun t213_2 =>
  CondP (!(t207_2.1.toList == t213_2.1.toList)) (
  k false) (
  next_3 (IntKind.i64.wrap (s_5 + 1)))) (
  J_5 s_3)) fun J_9 =>
  CondP (decide ((s_5 : Int) < p0)) (
  J_9 (decide ((s_5 : Int) < 12))) (
  J_9 false)) 0))) (
  CallP Try.prog 12 #[.pointer s_3] tSl fun t179 =>
  ChkP Try.prog (vN (Instr.loadAt 3 (.pointer (some (Addr.add t165 2))))) (.int .i64 t167) <|
  CallP Try.prog 27 #[.pointer t37.1] tSl fun t181 =>
  ChkP Try.prog (vN (Instr.loadAt 3 (.pointer (some (Addr.add t165 2))))) (.int .i64 t167) <|
  CallP Try.prog 26 #[.slice t179.a t179.len t179.cap, .slice t181.a t181.len t181.cap] tBool fun t182 =>
  ChkP Try.prog (vN (Instr.loadAt 3 (.pointer (some (Addr.add t165 2))))) (.int .i64 t167) <|
  CondP (!t182) (
  CondP true (
  k false) (
  LoopP (S := Int) (fun next_4 s_6 => AnyP fun _ =>
  JoinP (S := Bool) (fun b201_3 => AnyP fun _ =>
  CondP b201_3 (
  CallP Try.prog 14 #[.pointer s_3, .int .i64 s_6] (.tup [.leaf .str, .leaf (.int .i64)]) fun t207_3 =>
  CallP Try.prog 21 #[.pointer t37.1, .int .i64 s_6] (.tup [.leaf .str, .leaf (.int .i64)]) fun t213_3 =>
  CondP (!(t207_3.1.toList == t213_3.1.toList)) (
  k false) (
  next_4 (IntKind.i64.wrap (s_6 + 1)))) (
  J_5 s_3)) fun J_10 =>
  CondP (decide ((s_6 : Int) < p0)) (
  J_10 (decide ((s_6 : Int) < 12))) (
  J_10 false)) 0)) (
  ValP Try.prog (nilN (.pointer t37.1)) tAddr fun t189_2 =>
  GetP Try.prog (vN (Instr.loadAt 29 (.pointer (some (Addr.add t189_2 0))))) tSl fun t191_2 =>
  CallP Try.prog 18 #[.pointer s_3] tInt fun t187_2 =>
  ChkP Try.prog (vN (Instr.loadAt 3 (.pointer (some (Addr.add t165 2))))) (.int .i64 t167) <|
  ChkP Try.prog (vN (Instr.loadAt 29 (.pointer (some (Addr.add t189_2 0))))) (.slice t191_2.a t191_2.len t191_2.cap) <|
  CondP ((t187_2 : Int) != t191_2.len) (
  k false) (
  LoopP (S := Int) (fun next_5 s_7 => AnyP fun _ =>
  JoinP (S := Bool) (fun b201_4 => AnyP fun _ =>
  CondP b201_4 (
  CallP Try.prog 14 #[.pointer s_3, .int .i64 s_7] (.tup [.leaf .str, .leaf (.int .i64)]) fun t207_4 =>
  CallP Try.prog 21 #[.pointer t37.1, .int .i64 s_7] (.tup [.leaf .str, .leaf (.int .i64)]) fun t213_4 =>
  CondP (!(t207_4.1.toList == t213_4.1.toList)) (
  k false) (
  next_5 (IntKind.i64.wrap (s_7 + 1)))) (
  J_5 s_3)) fun J_11 =>
  CondP (decide ((s_7 : Int) < p0)) (
  J_11 (decide ((s_7 : Int) < 12))) (
  J_11 false)) 0)))) (
  ValP Try.prog (nilN (.pointer t37.1)) tAddr fun t172 =>
  GetP Try.prog (vN (Instr.loadAt 3 (.pointer (some (Addr.add t172 3))))) tInt fun t174 =>
  CondP ((t160.2.1 : Int) != t174) (
  CondP true (
  CondP true (
  k false) (
  LoopP (S := Int) (fun next_6 s_8 => AnyP fun _ =>
  JoinP (S := Bool) (fun b201_5 => AnyP fun _ =>
  CondP b201_5 (
  CallP Try.prog 14 #[.pointer s_3, .int .i64 s_8] (.tup [.leaf .str, .leaf (.int .i64)]) fun t207_5 =>
  CallP Try.prog 21 #[.pointer t37.1, .int .i64 s_8] (.tup [.leaf .str, .leaf (.int .i64)]) fun t213_5 =>
  CondP (!(t207_5.1.toList == t213_5.1.toList)) (
  k false) (
  next_6 (IntKind.i64.wrap (s_8 + 1)))) (
  J_5 s_3)) fun J_12 =>
  CondP (decide ((s_8 : Int) < p0)) (
  J_12 (decide ((s_8 : Int) < 12))) (
  J_12 false)) 0)) (
  ValP Try.prog (nilN (.pointer t37.1)) tAddr fun t189_3 =>
  GetP Try.prog (vN (Instr.loadAt 29 (.pointer (some (Addr.add t189_3 0))))) tSl fun t191_3 =>
  CallP Try.prog 18 #[.pointer s_3] tInt fun t187_3 =>
  ChkP Try.prog (vN (Instr.loadAt 3 (.pointer (some (Addr.add t165 2))))) (.int .i64 t167) <|
  ChkP Try.prog (vN (Instr.loadAt 3 (.pointer (some (Addr.add t172 3))))) (.int .i64 t174) <|
  ChkP Try.prog (vN (Instr.loadAt 29 (.pointer (some (Addr.add t189_3 0))))) (.slice t191_3.a t191_3.len t191_3.cap) <|
  CondP ((t187_3 : Int) != t191_3.len) (
  k false) (
  LoopP (S := Int) (fun next_7 s_9 => AnyP fun _ =>
  JoinP (S := Bool) (fun b201_6 => AnyP fun _ =>
  CondP b201_6 (
  CallP Try.prog 14 #[.pointer s_3, .int .i64 s_9] (.tup [.leaf .str, .leaf (.int .i64)]) fun t207_6 =>
  CallP Try.prog 21 #[.pointer t37.1, .int .i64 s_9] (.tup [.leaf .str, .leaf (.int .i64)]) fun t213_6 =>
  CondP (!(t207_6.1.toList == t213_6.1.toList)) (
  k false) (
  next_7 (IntKind.i64.wrap (s_9 + 1)))) (
  J_5 s_3)) fun J_13 =>
  CondP (decide ((s_9 : Int) < p0)) (
  J_13 (decide ((s_9 : Int) < 12))) (
  J_13 false)) 0))) (
  CallP Try.prog 12 #[.pointer s_3] tSl fun t179_2 =>
  ChkP Try.prog (vN (Instr.loadAt 3 (.pointer (some (Addr.add t165 2))))) (.int .i64 t167) <|
  ChkP Try.prog (vN (Instr.loadAt 3 (.pointer (some (Addr.add t172 3))))) (.int .i64 t174) <|
  CallP Try.prog 27 #[.pointer t37.1] tSl fun t181_2 =>
  ChkP Try.prog (vN (Instr.loadAt 3 (.pointer (some (Addr.add t165 2))))) (.int .i64 t167) <|
  ChkP Try.prog (vN (Instr.loadAt 3 (.pointer (some (Addr.add t172 3))))) (.int .i64 t174) <|
  CallP Try.prog 26 #[.slice t179_2.a t179_2.len t179_2.cap, .slice t181_2.a t181_2.len t181_2.cap] tBool fun t182_2 =>
  ChkP Try.prog (vN (Instr.loadAt 3 (.pointer (some (Addr.add t165 2))))) (.int .i64 t167) <|
  ChkP Try.prog (vN (Instr.loadAt 3 (.pointer (some (Addr.add t172 3))))) (.int .i64 t174) <|
  CondP (!t182_2) (
  CondP true (
  k false) (
  LoopP (S := Int) (fun next_8 s_10 => AnyP fun _ =>
  JoinP (S := Bool) (fun b201_7 => AnyP fun _ =>
  CondP b201_7 (
  CallP Try.prog 14 #[.pointer s_3, .int .i64 s_10] (.tup [.leaf .str, .leaf (.int .i64)]) fun t207_7 =>
  CallP Try.prog 21 #[.pointer t37.1, .int .i64 s_10] (.tup [.leaf .str, .leaf (.int .i64)]) fun t213_7 =>
  CondP (!(t207_7.1.toList == t213_7.1.toList)) (
  k false) (
  next_8 (IntKind.i64.wrap (s_10 + 1)))) (
  J_5 s_3)) fun J_14 =>
  CondP (decide ((s_10 : Int) < p0)) (
  J_14 (decide ((s_10 : Int) < 12))) (
  J_14 false)) 0)) (
  ValP Try.prog (nilN (.pointer t37.1)) tAddr fun t189_4 =>
  GetP Try.prog (vN (Instr.loadAt 29 (.pointer (some (Addr.add t189_4 0))))) tSl fun t191_4 =>
  CallP Try.prog 18 #[.pointer s_3] tInt fun t187_4 =>
  ChkP Try.prog (vN (Instr.loadAt 3 (.pointer (some (Addr.add t165 2))))) (.int .i64 t167) <|
  ChkP Try.prog (vN (Instr.loadAt 3 (.pointer (some (Addr.add t172 3))))) (.int .i64 t174) <|
  ChkP Try.prog (vN (Instr.loadAt 29 (.pointer (some (Addr.add t189_4 0))))) (.slice t191_4.a t191_4.len t191_4.cap) <|
  CondP ((t187_4 : Int) != t191_4.len) (
  k false) (
  LoopP (S := Int) (fun next_9 s_11 => AnyP fun _ =>
  JoinP (S := Bool) (fun b201_8 => AnyP fun _ =>
  CondP b201_8 (
  CallP Try.prog 14 #[.pointer s_3, .int .i64 s_11] (.tup [.leaf .str, .leaf (.int .i64)]) fun t207_8 =>
  CallP Try.prog 21 #[.pointer t37.1, .int .i64 s_11] (.tup [.leaf .str, .leaf (.int .i64)]) fun t213_8 =>
  CondP (!(t207_8.1.toList == t213_8.1.toList)) (
  k false) (
  next_9 (IntKind.i64.wrap (s_11 + 1)))) (
  J_5 s_3)) fun J_15 =>
  CondP (decide ((s_11 : Int) < p0)) (
  J_15 (decide ((s_11 : Int) < 12))) (
  J_15 false)) 0))))) fun J_7 =>
  GetP Try.prog (vN (Instr.loadAt 3 (.pointer (some (Addr.add t10 0))))) tInt fun t79 =>
  CondP ((t79 : Int) == 0) (
  DrewP <|
  GetP Try.prog (vN (Instr.loadAt 3 (.pointer (some (Addr.add t10 1))))) tInt fun t95 =>
  GetP Try.prog (vN (Instr.loadAt 9 (.pointer (some (Addr.add t10 2))))) tStr fun t97 =>
  GetP Try.prog (vN (Instr.loadAt 3 (.pointer (some (Addr.add t10 1))))) tInt fun t101 =>
  GetP Try.prog (vN (Instr.loadAt 9 (.pointer (some (Addr.add t10 2))))) tStr fun t103 =>
  CallP Try.prog 10 #[.pointer s.1, .int .i64 t95, .string t97] tInt fun t98 =>
  ChkP Try.prog (vN (Instr.loadAt 3 (.pointer (some (Addr.add t10 1))))) (.int .i64 t101) <|
  ChkP Try.prog (vN (Instr.loadAt 9 (.pointer (some (Addr.add t10 2))))) (.string t103) <|
  CallP Try.prog 20 #[.pointer t37.1, .int .i64 t101, .string t103] tInt fun t104 =>
  CondP ((t98 : Int) != t104) (
  k false) (
  J_7 s.1)) (
  CondP ((t79 : Int) == 1) (
  GetP Try.prog (vN (Instr.loadAt 3 (.pointer (some (Addr.add t10 1))))) tInt fun t111 =>
  CallP Try.prog 14 #[.pointer s.1, .int .i64 t111] (.tup [.leaf .str, .leaf (.int .i64)]) fun t112 =>
  GetP Try.prog (vN (Instr.loadAt 3 (.pointer (some (Addr.add t10 1))))) tInt fun t118 =>
  CallP Try.prog 21 #[.pointer t37.1, .int .i64 t118] (.tup [.leaf .str, .leaf (.int .i64)]) fun t119 =>
  JoinP (S := Bool) (fun b129 => AnyP fun _ =>
  CondP b129 (
  k false) (
  J_7 s.1)) fun J_16 =>
  CondP (!(t112.1.toList == t119.1.toList)) (
  J_16 true) (
  J_16 ((t112.2.1 : Int) != t119.2.1))) (
  CondP ((t79 : Int) == 2) (
  CallP Try.prog 11 #[.pointer s.1] tInt fun t133 =>
  CallP Try.prog 22 #[.pointer t37.1] tInt fun t135 =>
  CondP ((t133 : Int) != t135) (
  k false) (
  J_7 s.1)) (
  CondP ((t79 : Int) == 3) (
  DrewP <|
  GetP Try.prog (vN (Instr.loadAt 23 (.pointer (some (Addr.add t10 3))))) tSl fun t141 =>
  GetP Try.prog (vN (Instr.loadAt 23 (.pointer (some (Addr.add t10 3))))) tSl fun t145 =>
  CallP Try.prog 13 #[.pointer s.1, .slice t141.a t141.len t141.cap] tInt fun t142 =>
  ChkP Try.prog (vN (Instr.loadAt 23 (.pointer (some (Addr.add t10 3))))) (.slice t145.a t145.len t145.cap) <|
  CallP Try.prog 23 #[.pointer t37.1, .slice t145.a t145.len t145.cap] tInt fun t146 =>
  CondP ((t142 : Int) != t146) (
  k false) (
  J_7 s.1)) (
  CondP ((t79 : Int) == 4) (
  GetP Try.prog (vN (Instr.loadAt 3 (.pointer (some (Addr.add t10 1))))) tInt fun t152 =>
  CallP Try.prog 24 #[.pointer s.1, .int .i64 t152] (.tup []) fun t153 =>
  GetP Try.prog (vN (Instr.loadAt 3 (.pointer (some (Addr.add t10 1))))) tInt fun t156 =>
  CallP Try.prog 25 #[.pointer t37.1, .int .i64 t156] (.tup []) fun t157 =>
  J_7 s.1) (
  CallP Try.prog 16 #[.pointer s.1] tPtr fun t81 =>
  GetP Try.prog (vN (Instr.loadAt 3 (.pointer (some (Addr.add t10 1))))) tInt fun t84 =>
  CallP Try.prog 10 #[.pointer s.1, .int .i64 t84, .string (⟨#[108, 111, 115, 116]⟩)] tInt fun t85 =>
  CallP Try.prog 11 #[.pointer s.1] tInt fun t87 =>
  GetP Try.prog (cmpN .eql 24 (.tmp 89) (.const (.pointer none)) (.pointer t81) (.pointer none)) tBool fun t90 =>
  CondP t90 (
  k false) (
  J_7 t81)))))))) fun J_6 =>
  CondP (decide ((t69.size : Int) > 300)) (
  J_6 true) (
  GetP Try.prog (vN (Instr.loadAt 23 (.pointer (some (Addr.add t10 3))))) tSl fun t74 =>
  J_6 (decide ((t74.len : Int) > 100)))) (
  CallP Try.prog 15 #[] tBool fun t219 =>
  k t219)) fun J_4 =>
  CondP b57 (
  GetP Try.prog (cmpN .neq 24 (.tmp 59) (.const (.pointer none)) (.pointer s.1) (.pointer none)) tBool fun t60 =>
  J_4 t60) (
  J_4 false)) fun J_3 =>
  CondP (decide ((s.2 : Int) < p1.len)) (
  J_3 (decide ((s.2 : Int) < 60))) (
  J_3 false)) (t32.1, 0))) fun J_2 =>
  CondP ((t32.2.1 : Int) != t37.2.1) (
  J_2 true) (
  GetP Try.prog (cmpN .neq 24 (.tmp 44) (.const (.pointer none)) (.pointer t32.1) (.pointer none)) tBool fun t45 =>
  J_2 (!((t45 : Bool) == ((t37.2.1 : Int) == 0)))))) fun J =>
  CondP (decide ((p0 : Int) > 200)) (
  J (decide ((p0 : Int) ≤ 4096))) (
  J false)
theorem rd7 (p0 : Int) (p1 : Sl) (k : Bool → Pr) (w : World) (h : sh7 p0 p1 k w) :
    CallP Try.prog 7 #[.int .i64 p0, .slice p1.a p1.len p1.cap] tBool k w :=
  CallP.of_eq (c := sa7.on (bodyOf Try.f7)) (S := sh7 p0 p1 k) follows Try.func7 (by kernel_rfl) (by kernel_rfl) (by kernel_rfl) (by kernel_rfl) h

/-- memoir.disk.New -/
def sa8 : SA := .seq (.region (.take 0 .pure <| .take 1 .pure .nil)) (.seq (.seq (.region (.take 0 .pure <| .take 1 .pure <| .take 2 .pure <| .guard 6 (.take 3 .pure <| .take 4 .pure <| .take 5 .pure .nil) 9 [7, 8] .nil)) (.cond (.seq (.region (.take 0 .pure <| .take 1 .pure .nil)) (.none)) (.none))) (.seq (.region (.take 0 .pure <| .eff 1 tMap <| .take 2 .pure <| .eff 3 tAddr <| .take 4 .pure <| .take 5 .pure .nil)) (.none)))
def sh8 (p0 : Int) (k : (Option Addr × Int × Unit) → Pr) : Pr :=
  JoinP (S := Bool) (fun b9 => AnyP fun _ =>
  CondP b9 (
  k (none, 1, ())) (
  DoP Try.prog (vN (Instr.makeMap 44 none)) tMap fun t11 =>
  DoP Try.prog (vN (Instr.box 47 (.agg #[.int .i64 p0, .map t11, .slice none 0 0, .int .i64 0, .int .i64 0, .bool false, .int .i64 0]))) tAddr fun t13 =>
  k ((some t13), 0, ()))) fun J =>
  CondP (decide ((p0 : Int) < 1)) (
  J true) (
  J (decide ((p0 : Int) > 4096)))
theorem rd8 (p0 : Int) (k : (Option Addr × Int × Unit) → Pr) (w : World) (h : sh8 p0 k w) :
    CallP Try.prog 8 #[.int .i64 p0] (.tup [.leaf .ptr, .leaf (.int .i64)]) k w :=
  CallP.of_eq (c := sa8.on (bodyOf Try.f8)) (S := sh8 p0 k) follows Try.func8 (by kernel_rfl) (by kernel_rfl) (by kernel_rfl) (by kernel_rfl) h

/-- memoir.memoirref07.Pad -/
def sa9 : SA := .seq (.region (.take 0 .pure .nil)) (.seq (.block (.loop [(0, .leaf .str)] [3, 4, 5, 6, 7] (.seq (.seq (.region (.take 0 .pure <| .take 1 .pure <| .take 2 .pure .nil)) (.cond (.none) (.none))) (.block (.region (.take 0 .pure <| .take 1 (.val tStr) <| .take 2 .pure .nil)))))) (.seq (.region (.take 0 .pure <| .take 1 .pure .nil)) (.none)))
def sh9 (p0 : ByteArray) (k : ByteArray → Pr) : Pr :=
  LoopP (S := ByteArray) (fun next s => AnyP fun _ =>
  CondP (decide ((s.size : Int) < 128)) (
  ValP Try.prog (cmpN .add 9 (.tmp 6) (.const (.string (⟨#[0]⟩))) (.string s) (.string (⟨#[0]⟩))) tStr fun t7 =>
  next t7) (
  k s)) p0
theorem rd9 (p0 : ByteArray) (k : ByteArray → Pr) (w : World) (h : sh9 p0 k w) :
    CallP Try.prog 9 #[.string p0] tStr k w :=
  CallP.of_eq (c := sa9.on (bodyOf Try.f9)) (S := sh9 p0 k) follows Try.func9 (by kernel_rfl) (by kernel_rfl) (by kernel_rfl) (by kernel_rfl) h

/-- (*memoir.disk.Disk).Write -/
def sa10 : SA := .seq (.region (.take 0 .pure .nil)) (.seq (.region (.take 0 .pure <| .take 1 .pure <| .call 2 tInt <| .take 3 .pure .nil)) (.seq (.block (.seq (.region (.take 0 .pure <| .take 1 .pure <| .take 2 .pure .nil)) (.cond (.seq (.region (.take 0 .pure <| .take 1 .pure .nil)) (.none)) (.seq (.region (.take 0 .pure <| .take 1 .pure <| .take 2 .pure <| .take 3 .pure .nil)) (.cond (.seq (.region (.take 0 .pure .nil)) (.none)) (.seq (.region (.take 0 .pure <| .call 1 tBool <| .take 2 .pure .nil)) (.cond (.seq (.region (.take 0 .pure .nil)) (.none)) (.none)))))))) (.seq (.region (.take 0 .pure <| .take 1 (.val tAddr) <| .take 2 .pure <| .take 3 (.get tInt) <| .take 4 .pure <| .take 5 (.val tAddr) <| .take 6 .pure <| .effU 7 .nil)) (.seq (.draw (.take 0 .pure <| .take 1 .pure <| .take 2 (.val tAddr) <| .take 3 .pure <| .take 4 (.get tSl) <| .take 5 .pure <| .take 6 .pure <| .take 8 .pure <| .take 9 .pure <| .call 7 tStr [4] <| .take 10 (.val tStr) <| .take 11 (.val tStr) <| .take 12 .pure <| .eff 13 tSl [4] <| .eff 14 tSl [] <| .take 15 (.val tAddr) <| .take 16 .pure <| .effU 17 [] .nil)) (.seq (.region (.take 0 .pure <| .take 1 (.val tAddr) <| .take 2 .pure <| .take 3 (.get tInt) <| .take 4 .pure <| .take 5 (.val tAddr) <| .take 6 .pure <| .effU 7 .nil)) (.seq (.region (.take 0 .pure .nil)) (.none)))))))
def sh10 (p0 : Option Addr) (p1 : Int) (p2 : ByteArray) (k : Int → Pr) : Pr :=
  CallP Try.prog 28 #[.pointer p0, .int .i64 p1] tInt fun t10 =>
  CondP ((t10 : Int) != 0) (
  k t10) (
  CondP (decide ((p2.size : Int) > 128)) (
  k 19) (
  CallP Try.prog 29 #[.pointer p0] tBool fun t21 =>
  CondP t21 (
  k 6) (
  ValP Try.prog (nilN (.pointer p0)) tAddr fun t23 =>
  GetP Try.prog (vN (Instr.loadAt 3 (.pointer (some (Addr.add t23 6))))) tInt fun t25 =>
  ValP Try.prog (nilN (.pointer p0)) tAddr fun t27 =>
  DoU Try.prog (uN (Instr.storeAt 3 (.pointer (some (Addr.add t27 6))) (.int .i64 (IntKind.i64.wrap (t25 - 1))))) <|
  DrewP <|
  ValP Try.prog (nilN (.pointer p0)) tAddr fun t31 =>
  GetP Try.prog (vN (Instr.loadAt 45 (.pointer (some (Addr.add t31 2))))) tSl fun t33 =>
  CallP Try.prog 30 #[] tStr fun t36 =>
  ChkP Try.prog (vN (Instr.loadAt 45 (.pointer (some (Addr.add t31 2))))) (.slice t33.a t33.len t33.cap) <|
  ValP Try.prog (vN (Instr.sliceAt 9 (.string t36) (some (.int .i64 p2.size)) none none)) tStr fun t39 =>
  ValP Try.prog (cmpN .add 9 (.tmp 35) (.tmp 39) (.string p2) (.string t39)) tStr fun t40 =>
  DoP Try.prog (vN (Instr.buildSlice 45 1 #[(0, .agg #[.int .i64 p1, .string t40])])) tSl fun t42 =>
  ChkP Try.prog (vN (Instr.loadAt 45 (.pointer (some (Addr.add t31 2))))) (.slice t33.a t33.len t33.cap) <|
  DoP Try.prog (vN (Builtin.append_ #[45, 45] 45 #[.slice t33.a t33.len t33.cap, .slice t42.a t42.len t42.cap])) tSl fun t43 =>
  ValP Try.prog (nilN (.pointer p0)) tAddr fun t44 =>
  DoU Try.prog (uN (Instr.storeAt 45 (.pointer (some (Addr.add t44 2))) (.slice t43.a t43.len t43.cap))) <|
  ValP Try.prog (nilN (.pointer p0)) tAddr fun t47 =>
  GetP Try.prog (vN (Instr.loadAt 3 (.pointer (some (Addr.add t47 3))))) tInt fun t49 =>
  ValP Try.prog (nilN (.pointer p0)) tAddr fun t51 =>
  DoU Try.prog (uN (Instr.storeAt 3 (.pointer (some (Addr.add t51 3))) (.int .i64 (IntKind.i64.wrap (t49 + 1))))) <|
  k 0)))
theorem rd10 (p0 : Option Addr) (p1 : Int) (p2 : ByteArray) (k : Int → Pr) (w : World) (h : sh10 p0 p1 p2 k w) :
    CallP Try.prog 10 #[.pointer p0, .int .i64 p1, .string p2] tInt k w :=
  CallP.of_eq (c := sa10.on (bodyOf Try.f10)) (S := sh10 p0 p1 p2 k) follows Try.func10 (by kernel_rfl) (by kernel_rfl) (by kernel_rfl) (by kernel_rfl) h

/-- (*memoir.disk.Disk).Flush -/
def sa11 : SA := .seq (.region (.take 0 .pure .nil)) (.seq (.block (.seq (.region (.take 0 .pure <| .call 1 tInt <| .take 2 .pure <| .take 3 .pure .nil)) (.cond (.seq (.region (.take 0 .pure .nil)) (.none)) (.seq (.region (.take 0 .pure <| .call 1 tBool <| .take 2 .pure .nil)) (.cond (.seq (.region (.take 0 .pure .nil)) (.none)) (.none)))))) (.seq (.region (.take 0 .pure <| .take 1 (.val tAddr) <| .take 2 .pure <| .take 3 (.get tInt) <| .take 4 .pure <| .take 5 (.val tAddr) <| .take 6 .pure <| .effU 7 .nil)) (.seq (.seq (.region (.take 0 .pure <| .take 1 (.val tAddr) <| .take 2 .pure <| .take 3 (.get tSl) <| .take 4 .pure <| .take 5 .pure .nil)) (.block (.loop [(24, .leaf (.int .i64))] [4, 25, 26, 27, 28, 29, 30, 31] (.seq (.region (.take 0 .pure .nil)) (.seq (.cond (.none) (.none)) (.seq (.block (.seq (.region (.take 0 (.val tAddr) <| .take 1 (.get (.one (.agg [.int .i64, .str]))) <| .eff 2 tAddr <| .effU 3 .nil)) (.region (.take 0 .pure <| .take 1 (.get (.one (.agg [.int .i64, .str]))) <| .call 2 (.tup []) .nil)))) (.region (.take 0 .pure <| .take 1 .pure .nil)))))))) (.seq (.region (.take 0 .pure <| .take 1 (.val tAddr) <| .take 2 .pure <| .effU 3 .nil)) (.seq (.region (.take 0 .pure <| .take 1 (.val tAddr) <| .take 2 .pure <| .take 3 (.get tInt) <| .take 4 .pure <| .take 5 (.val tAddr) <| .take 6 .pure <| .effU 7 .nil)) (.seq (.region (.take 0 .pure .nil)) (.none)))))))
def sh11 (p0 : Option Addr) (k : Int → Pr) : Pr :=
  CallP Try.prog 18 #[.pointer p0] tInt fun t7 =>
  CondP ((t7 : Int) == 0) (
  k 13) (
  CallP Try.prog 29 #[.pointer p0] tBool fun t11 =>
  CondP t11 (
  k 6) (
  ValP Try.prog (nilN (.pointer p0)) tAddr fun t13 =>
  GetP Try.prog (vN (Instr.loadAt 3 (.pointer (some (Addr.add t13 6))))) tInt fun t15 =>
  ValP Try.prog (nilN (.pointer p0)) tAddr fun t17 =>
  DoU Try.prog (uN (Instr.storeAt 3 (.pointer (some (Addr.add t17 6))) (.int .i64 (IntKind.i64.wrap (t15 - 1))))) <|
  ValP Try.prog (nilN (.pointer p0)) tAddr fun t20 =>
  GetP Try.prog (vN (Instr.loadAt 45 (.pointer (some (Addr.add t20 2))))) tSl fun t22 =>
  LoopP (S := Int) (fun next s => AnyP fun _ =>
  CondP (decide ((s : Int) < t22.len)) (
  ValP Try.prog (vN (Instr.indexAt 45 (.slice t22.a t22.len t22.cap) (.int .i64 s))) tAddr fun t26 =>
  GetP Try.prog (vN (Instr.loadAt 64 (.pointer (some t26)))) (.one (.agg [.int .i64, .str])) fun t27 =>
  DoP Try.prog (vN (Instr.alloc 64 true (.tuple #[]))) tAddr fun t4 =>
  DoU Try.prog (uN (Instr.storeAt 64 (.pointer (some t4)) (.agg #[.int .i64 t27.1, .string t27.2.1]))) <|
  GetP Try.prog (vN (Instr.loadAt 64 (.pointer (some t4)))) (.one (.agg [.int .i64, .str])) fun t29 =>
  CallP Try.prog 31 #[.pointer p0, .agg #[.int .i64 t29.1, .string t29.2.1]] (.tup []) fun t30 =>
  next (IntKind.i64.wrap (s + 1))) (
  ValP Try.prog (nilN (.pointer p0)) tAddr fun t33 =>
  DoU Try.prog (uN (Instr.storeAt 45 (.pointer (some (Addr.add t33 2))) (.slice none 0 0))) <|
  ValP Try.prog (nilN (.pointer p0)) tAddr fun t36 =>
  GetP Try.prog (vN (Instr.loadAt 3 (.pointer (some (Addr.add t36 4))))) tInt fun t38 =>
  ValP Try.prog (nilN (.pointer p0)) tAddr fun t40 =>
  DoU Try.prog (uN (Instr.storeAt 3 (.pointer (some (Addr.add t40 4))) (.int .i64 (IntKind.i64.wrap (t38 + 1))))) <|
  k 0)) 0))
theorem rd11 (p0 : Option Addr) (k : Int → Pr) (w : World) (h : sh11 p0 k w) :
    CallP Try.prog 11 #[.pointer p0] tInt k w :=
  CallP.of_eq (c := sa11.on (bodyOf Try.f11)) (S := sh11 p0 k) follows Try.func11 (by kernel_rfl) (by kernel_rfl) (by kernel_rfl) (by kernel_rfl) h

/-- (*memoir.disk.Disk).Dirty -/
def sa12 : SA := .seq (.region (.take 0 .pure .nil)) (.seq (.seq (.region (.take 0 .pure <| .call 1 tInt <| .take 2 .pure .nil)) (.cond (.seq (.region (.take 0 .pure .nil)) (.none)) (.none))) (.seq (.region (.take 0 .pure .nil)) (.seq (.seq (.region (.take 0 .pure <| .take 1 (.val tAddr) <| .take 2 .pure <| .take 3 (.get tSl) <| .take 4 .pure <| .take 5 .pure .nil)) (.block (.loop [(3, .leaf .slice), (14, .leaf (.int .i64))] [5, 15, 16, 17, 18, 19, 20, 21, 22, 23] (.seq (.region (.take 0 .pure .nil)) (.seq (.cond (.none) (.none)) (.seq (.block (.seq (.region (.take 0 (.val tAddr) <| .take 1 (.get (.one (.agg [.int .i64, .str]))) <| .eff 2 tAddr <| .effU 3 .nil)) (.region (.take 0 .pure <| .take 1 .pure <| .take 2 (.get tInt) <| .eff 3 tSl <| .eff 4 tSl <| .take 5 .pure .nil)))) (.region (.take 0 .pure <| .take 1 .pure .nil)))))))) (.seq (.region (.take 0 .pure <| .take 1 .pure .nil)) (.none)))))
def sh12 (p0 : Option Addr) (k : Sl → Pr) : Pr :=
  CallP Try.prog 18 #[.pointer p0] tInt fun t7 =>
  CondP ((t7 : Int) == 0) (
  k (⟨none, 0, 0⟩)) (
  ValP Try.prog (nilN (.pointer p0)) tAddr fun t10 =>
  GetP Try.prog (vN (Instr.loadAt 45 (.pointer (some (Addr.add t10 2))))) tSl fun t12 =>
  LoopP (S := Sl × Int) (fun next s => AnyP fun _ =>
  CondP (decide ((s.2 : Int) < t12.len)) (
  ValP Try.prog (vN (Instr.indexAt 45 (.slice t12.a t12.len t12.cap) (.int .i64 s.2))) tAddr fun t16 =>
  GetP Try.prog (vN (Instr.loadAt 64 (.pointer (some t16)))) (.one (.agg [.int .i64, .str])) fun t17 =>
  DoP Try.prog (vN (Instr.alloc 64 true (.tuple #[]))) tAddr fun t5 =>
  DoU Try.prog (uN (Instr.storeAt 64 (.pointer (some t5)) (.agg #[.int .i64 t17.1, .string t17.2.1]))) <|
  GetP Try.prog (vN (Instr.loadAt 3 (.pointer (some (Addr.add t5 0))))) tInt fun t20 =>
  DoP Try.prog (vN (Instr.buildSlice 34 1 #[(0, .int .i64 t20)])) tSl fun t21 =>
  DoP Try.prog (vN (Builtin.append_ #[34, 34] 34 #[.slice s.1.a s.1.len s.1.cap, .slice t21.a t21.len t21.cap])) tSl fun t22 =>
  next (t22, IntKind.i64.wrap (s.2 + 1))) (
  k s.1)) (⟨none, 0, 0⟩, 0))
theorem rd12 (p0 : Option Addr) (k : Sl → Pr) (w : World) (h : sh12 p0 k w) :
    CallP Try.prog 12 #[.pointer p0] tSl k w :=
  CallP.of_eq (c := sa12.on (bodyOf Try.f12)) (S := sh12 p0 k) follows Try.func12 (by kernel_rfl) (by kernel_rfl) (by kernel_rfl) (by kernel_rfl) h

/-- (*memoir.disk.Disk).Crash -/
def sa13 : SA := .seq (.region (.take 0 .pure .nil)) (.seq (.block (.seq (.region (.take 0 .pure <| .call 1 tInt <| .take 2 .pure <| .take 3 .pure .nil)) (.cond (.seq (.region (.take 0 .pure .nil)) (.none)) (.seq (.region (.take 0 .pure <| .take 1 .pure <| .take 2 .pure <| .take 3 (.val tAddr) <| .take 4 .pure <| .take 5 (.get tSl) <| .take 6 .pure <| .take 7 .pure <| .take 8 .pure .nil)) (.cond (.seq (.region (.take 0 .pure .nil)) (.none)) (.none)))))) (.seq (.seq (.region (.take 0 .pure <| .take 1 .pure <| .take 2 .pure .nil)) (.block (.loop [(22, .leaf (.int .i64))] [5, 6, 23, 24, 25, 26, 27, 28, 29, 30, 31, 32, 33, 34, 35, 36, 37] (.seq (.region (.take 0 .pure .nil)) (.seq (.cond (.none) (.none)) (.join (.block (.seq (.region (.take 0 .pure <| .take 1 (.val tAddr) <| .take 2 (.get tBool) <| .take 3 .pure <| .take 4 .pure .nil)) (.seq (.region (.take 0 .pure .nil)) (.cond (.region (.take 0 .pure <| .take 1 .pure <| .take 2 (.val tAddr) <| .take 3 .pure <| .take 4 (.get tSl) <| .take 5 .pure <| .take 6 (.val tAddr) <| .take 7 (.get (.one (.agg [.int .i64, .str]))) <| .call 8 (.tup []) .nil)) (.none))))) [] [5, 6, 24, 25, 26, 27, 28, 29, 30, 31, 32, 33, 34, 35, 36] (.region (.take 0 .pure <| .take 1 .pure .nil)))))))) (.seq (.region (.take 0 .pure <| .take 1 .pure <| .take 2 (.val tAddr) <| .take 3 .pure <| .effU 4 <| .take 5 (.val tAddr) <| .take 6 .pure <| .effU 7 .nil)) (.seq (.region (.take 0 .pure .nil)) (.none)))))
def sh13 (p0 : Option Addr) (p1 : Sl) (k : Int → Pr) : Pr :=
  CallP Try.prog 18 #[.pointer p0] tInt fun t9 =>
  CondP ((t9 : Int) == 0) (
  k 13) (
  ValP Try.prog (nilN (.pointer p0)) tAddr fun t15 =>
  GetP Try.prog (vN (Instr.loadAt 45 (.pointer (some (Addr.add t15 2))))) tSl fun t17 =>
  CondP (decide ((p1.len : Int) > t17.len)) (
  k 1) (
  LoopP (S := Int) (fun next s => AnyP fun _ =>
  CondP (decide ((s : Int) < p1.len)) (
  JoinP (S := Unit) (fun s_2 => AnyP fun _ =>
  next (IntKind.i64.wrap (s + 1))) fun J =>
  ValP Try.prog (vN (Instr.indexAt 23 (.slice p1.a p1.len p1.cap) (.int .i64 s))) tAddr fun t25 =>
  GetP Try.prog (vN (Instr.loadAt 4 (.pointer (some t25)))) tBool fun t26 =>
  CondP t26 (
  ValP Try.prog (nilN (.pointer p0)) tAddr fun t30 =>
  GetP Try.prog (vN (Instr.loadAt 45 (.pointer (some (Addr.add t30 2))))) tSl fun t32 =>
  ValP Try.prog (vN (Instr.indexAt 45 (.slice t32.a t32.len t32.cap) (.int .i64 s))) tAddr fun t34 =>
  GetP Try.prog (vN (Instr.loadAt 64 (.pointer (some t34)))) (.one (.agg [.int .i64, .str])) fun t35 =>
  CallP Try.prog 31 #[.pointer p0, .agg #[.int .i64 t35.1, .string t35.2.1]] (.tup []) fun t36 =>
  J ()) (
  J ())) (
  ValP Try.prog (nilN (.pointer p0)) tAddr fun t40 =>
  DoU Try.prog (uN (Instr.storeAt 45 (.pointer (some (Addr.add t40 2))) (.slice none 0 0))) <|
  ValP Try.prog (nilN (.pointer p0)) tAddr fun t42 =>
  DoU Try.prog (uN (Instr.storeAt 4 (.pointer (some (Addr.add t42 5))) (.bool false))) <|
  k 0)) 0))
theorem rd13 (p0 : Option Addr) (p1 : Sl) (k : Int → Pr) (w : World) (h : sh13 p0 p1 k w) :
    CallP Try.prog 13 #[.pointer p0, .slice p1.a p1.len p1.cap] tInt k w :=
  CallP.of_eq (c := sa13.on (bodyOf Try.f13)) (S := sh13 p0 p1 k) follows Try.func13 (by kernel_rfl) (by kernel_rfl) (by kernel_rfl) (by kernel_rfl) h

/-- (*memoir.disk.Disk).Read -/
def sa14 : SA := .seq (.region (.take 0 .pure <| .take 1 .pure .nil)) (.seq (.seq (.region (.take 0 .pure <| .take 1 .pure <| .call 2 tInt <| .take 3 .pure .nil)) (.seq (.region (.take 0 .pure <| .take 1 .pure .nil)) (.cond (.seq (.region (.take 0 .pure <| .take 1 .pure <| .take 2 .pure .nil)) (.none)) (.none)))) (.seq (.seq (.region (.take 0 .pure <| .take 1 (.val tAddr) <| .take 2 .pure <| .take 3 (.get tSl) <| .take 4 .pure <| .take 5 .pure <| .take 6 .pure .nil)) (.block (.loop [(7, .leaf (.int .i64))] [4, 5, 22, 23, 24, 25, 26, 27, 28, 29, 30, 31, 32, 33, 34, 35, 36, 37, 38, 39, 40, 41, 42, 43] (.seq (.seq (.region (.take 0 .pure <| .take 1 .pure .nil)) (.cond (.none) (.none))) (.seq (.block (.seq (.region (.take 0 .pure <| .take 1 (.val tAddr) <| .take 2 .pure <| .take 3 (.get tSl) <| .take 4 .pure <| .take 5 (.val tAddr) <| .take 6 .pure <| .take 7 (.get tInt) <| .take 8 .pure <| .take 9 .pure .nil)) (.cond (.seq (.region (.take 0 .pure <| .take 1 (.val tAddr) <| .take 2 .pure <| .take 3 (.get tSl) <| .take 4 .pure <| .take 5 (.val tAddr) <| .take 6 .pure <| .take 7 (.get tStr) <| .take 8 .pure <| .take 9 .pure .nil)) (.none)) (.none)))) (.region (.take 0 .pure <| .take 1 .pure <| .take 2 .pure .nil))))))) (.seq (.region (.take 0 .pure <| .take 1 (.val tAddr) <| .take 2 .pure <| .take 3 (.get tMap) <| .take 4 .pure <| .take 5 (.get (.tup [.leaf .str, .leaf .bool])) <| .take 6 .pure <| .take 7 .pure <| .take 8 .pure <| .take 9 .pure <| .take 10 .pure .nil)) (.seq (.seq (.region (.take 0 .pure <| .take 1 .pure .nil)) (.cond (.seq (.region (.call 0 tStr <| .take 1 .pure <| .take 2 .pure .nil)) (.none)) (.none))) (.seq (.region (.take 0 .pure <| .take 1 .pure <| .take 2 .pure .nil)) (.none))))))
def sh14 (p0 : Option Addr) (p1 : Int) (k : (ByteArray × Int × Unit) → Pr) : Pr :=
  CallP Try.prog 28 #[.pointer p0, .int .i64 p1] tInt fun t12 =>
  CondP ((t12 : Int) != 0) (
  k ((⟨#[]⟩), t12, ())) (
  ValP Try.prog (nilN (.pointer p0)) tAddr fun t17 =>
  GetP Try.prog (vN (Instr.loadAt 45 (.pointer (some (Addr.add t17 2))))) tSl fun t19 =>
  LoopP (S := Int) (fun next s => AnyP fun _ =>
  CondP (decide ((s : Int) ≥ 0)) (
  ValP Try.prog (nilN (.pointer p0)) tAddr fun t27 =>
  GetP Try.prog (vN (Instr.loadAt 45 (.pointer (some (Addr.add t27 2))))) tSl fun t29 =>
  ValP Try.prog (vN (Instr.indexAt 45 (.slice t29.a t29.len t29.cap) (.int .i64 s))) tAddr fun t31 =>
  GetP Try.prog (vN (Instr.loadAt 3 (.pointer (some (Addr.add t31 0))))) tInt fun t33 =>
  CondP ((t33 : Int) == p1) (
  ValP Try.prog (nilN (.pointer p0)) tAddr fun t37 =>
  GetP Try.prog (vN (Instr.loadAt 45 (.pointer (some (Addr.add t37 2))))) tSl fun t39 =>
  ValP Try.prog (vN (Instr.indexAt 45 (.slice t39.a t39.len t39.cap) (.int .i64 s))) tAddr fun t41 =>
  GetP Try.prog (vN (Instr.loadAt 9 (.pointer (some (Addr.add t41 1))))) tStr fun t43 =>
  k (t43, 0, ())) (
  next (IntKind.i64.wrap (s - 1)))) (
  ValP Try.prog (nilN (.pointer p0)) tAddr fun t46 =>
  GetP Try.prog (vN (Instr.loadAt 44 (.pointer (some (Addr.add t46 1))))) tMap fun t48 =>
  GetP Try.prog (vN (Instr.lookup 44 (.map t48) (.int .i64 p1) true)) (.tup [.leaf .str, .leaf .bool]) fun t50 =>
  CondP (!t50.2.1) (
  CallP Try.prog 30 #[] tStr fun t55 =>
  k (t55, 0, ())) (
  k (t50.1, 0, ())))) (IntKind.i64.wrap (t19.len - 1)))
theorem rd14 (p0 : Option Addr) (p1 : Int) (k : (ByteArray × Int × Unit) → Pr) (w : World) (h : sh14 p0 p1 k w) :
    CallP Try.prog 14 #[.pointer p0, .int .i64 p1] (.tup [.leaf .str, .leaf (.int .i64)]) k w :=
  CallP.of_eq (c := sa14.on (bodyOf Try.f14)) (S := sh14 p0 p1 k) follows Try.func14 (by kernel_rfl) (by kernel_rfl) (by kernel_rfl) (by kernel_rfl) h

/-- memoir.memoirlaw07.known -/
def sa15 : SA := .seq (.region (.take 0 .pure .nil)) (.seq (.region (.call 0 (.tup [.leaf .ptr, .leaf (.int .i64)]) <| .take 1 .pure <| .take 2 .pure <| .take 3 .pure <| .take 4 .pure <| .take 5 .pure .nil)) (.seq (.region (.call 0 (.tup [.leaf .ptr, .leaf (.int .i64)]) <| .take 1 .pure <| .take 2 .pure <| .take 3 .pure <| .take 4 .pure <| .take 5 .pure .nil)) (.seq (.seq (.region (.take 0 .pure <| .take 1 .pure <| .take 2 .pure <| .guard 30 (.take 3 .pure <| .take 4 (.get tBool) <| .take 5 .pure .nil) 33 [31, 32] .nil)) (.cond (.seq (.region (.take 0 .pure .nil)) (.none)) (.none))) (.seq (.region (.take 0 .pure <| .call 1 tInt <| .take 2 .pure .nil)) (.seq (.region (.take 0 .pure <| .call 1 tInt <| .take 2 .pure .nil)) (.seq (.region (.take 0 .pure <| .call 1 tSl <| .take 2 .pure .nil)) (.seq (.region (.take 0 .pure <| .eff 1 tSl <| .call 2 tInt <| .take 3 .pure .nil)) (.seq (.region (.take 0 .pure <| .eff 1 tSl <| .call 2 tInt <| .take 3 .pure .nil)) (.seq (.region (.take 0 .pure <| .call 1 (.tup [.leaf .str, .leaf (.int .i64)]) <| .take 2 .pure <| .take 3 .pure <| .take 4 .pure <| .take 5 .pure <| .take 6 .pure .nil)) (.seq (.region (.take 0 .pure <| .call 1 tInt <| .take 2 .pure .nil)) (.seq (.region (.take 0 .pure <| .call 1 tInt <| .take 2 .pure .nil)) (.seq (.region (.take 0 .pure <| .call 1 tInt <| .take 2 .pure .nil)) (.seq (.region (.take 0 .pure <| .call 1 tInt <| .take 2 .pure .nil)) (.seq (.region (.take 0 .pure <| .call 1 (.tup [.leaf .str, .leaf (.int .i64)]) <| .take 2 .pure <| .take 3 .pure <| .take 4 .pure <| .take 5 .pure <| .take 6 .pure .nil)) (.seq (.region (.take 0 .pure <| .call 1 (.tup [.leaf (.int .i64), .leaf (.int .i64)]) <| .take 2 .pure <| .take 3 .pure <| .take 4 .pure <| .take 5 .pure <| .take 6 .pure .nil)) (.seq (.region (.take 0 .pure <| .take 1 .pure <| .take 2 .pure <| .guard 71 (.take 3 .pure <| .take 4 .pure <| .take 5 .pure .nil) 74 [72, 73] <| .take 6 .pure <| .guard 75 (.take 7 .pure <| .take 8 .pure <| .take 9 .pure .nil) 78 [76, 77] <| .take 10 .pure <| .guard 79 (.take 11 .pure <| .eff 12 tSl <| .call 13 tBool <| .take 14 .pure .nil) 83 [80, 81, 82] <| .take 15 .pure <| .guard 84 (.take 16 .pure <| .take 17 .pure <| .take 18 .pure .nil) 87 [85, 86] <| .take 19 .pure <| .guard 88 (.take 20 .pure <| .take 21 .pure <| .take 22 .pure .nil) 91 [89, 90] <| .take 23 .pure <| .guard 92 (.take 24 .pure <| .call 25 tStr <| .take 26 .pure <| .take 27 .pure .nil) 96 [93, 94, 95] <| .take 28 .pure <| .guard 97 (.take 29 .pure <| .take 30 .pure <| .take 31 .pure .nil) 100 [98, 99] <| .take 32 .pure <| .guard 101 (.take 33 .pure <| .take 34 .pure <| .take 35 .pure .nil) 104 [102, 103] <| .take 36 .pure <| .guard 105 (.take 37 .pure <| .take 38 .pure <| .take 39 .pure .nil) 108 [106, 107] <| .take 40 .pure <| .guard 109 (.take 41 .pure <| .take 42 .pure <| .take 43 .pure .nil) 112 [110, 111] <| .take 44 .pure <| .guard 113 (.take 45 .pure <| .take 46 .pure <| .take 47 .pure .nil) 116 [114, 115] <| .take 48 .pure <| .guard 117 (.take 49 .pure <| .call 50 tStr <| .take 51 .pure <| .take 52 .pure .nil) 121 [118, 119, 120] <| .take 53 .pure <| .guard 122 (.take 54 .pure <| .take 55 .pure <| .take 56 .pure .nil) 125 [123, 124] <| .take 57 .pure <| .guard 126 (.take 58 .pure <| .take 59 .pure <| .take 60 .pure .nil) 129 [127, 128] <| .take 61 .pure <| .guard 130 (.take 62 .pure <| .call 63 tInt <| .take 64 .pure <| .take 65 .pure .nil) 134 [131, 132, 133] <| .take 66 .pure <| .guard 135 (.take 67 .pure <| .call 68 tSl <| .take 69 .pure <| .take 70 .pure <| .take 71 .pure .nil) 140 [136, 137, 138, 139] <| .take 72 .pure .nil)) (.none)))))))))))))))))
def sh15  (k : Bool → Pr) : Pr :=
  CallP Try.prog 8 #[.int .i64 4] (.tup [.leaf .ptr, .leaf (.int .i64)]) fun t21 =>
  CallP Try.prog 8 #[.int .i64 0] (.tup [.leaf .ptr, .leaf (.int .i64)]) fun t25 =>
  JoinP (S := Bool) (fun b33 => AnyP fun _ =>
  CondP b33 (
  k false) (
  CallP Try.prog 10 #[.pointer t21.1, .int .i64 3, .string (⟨#[97, 98]⟩)] tInt fun t35 =>
  CallP Try.prog 10 #[.pointer t21.1, .int .i64 3, .string (⟨#[99, 100]⟩)] tInt fun t37 =>
  CallP Try.prog 12 #[.pointer t21.1] tSl fun t39 =>
  DoP Try.prog (vN (Instr.buildSlice 23 3 #[(0, .bool true), (1, .bool false), (2, .bool true)])) tSl fun t41 =>
  CallP Try.prog 13 #[.pointer t21.1, .slice t41.a t41.len t41.cap] tInt fun t42 =>
  DoP Try.prog (vN (Instr.buildSlice 23 1 #[(0, .bool true)])) tSl fun t44 =>
  CallP Try.prog 13 #[.pointer t21.1, .slice t44.a t44.len t44.cap] tInt fun t45 =>
  CallP Try.prog 14 #[.pointer t21.1, .int .i64 3] (.tup [.leaf .str, .leaf (.int .i64)]) fun t48 =>
  CallP Try.prog 10 #[.pointer t21.1, .int .i64 4, .string (⟨#[120]⟩)] tInt fun t52 =>
  CallP Try.prog 10 #[.pointer t21.1, .int .i64 1, .string (⟨#[120, 121]⟩)] tInt fun t54 =>
  CallP Try.prog 11 #[.pointer t21.1] tInt fun t56 =>
  CallP Try.prog 13 #[.pointer t21.1, .slice none 0 0] tInt fun t58 =>
  CallP Try.prog 14 #[.pointer t21.1, .int .i64 1] (.tup [.leaf .str, .leaf (.int .i64)]) fun t61 =>
  CallP Try.prog 17 #[.pointer t21.1] (.tup [.leaf (.int .i64), .leaf (.int .i64)]) fun t66 =>
  JoinP (S := Bool) (fun b74 => AnyP fun _ =>
  JoinP (S := Bool) (fun b78 => AnyP fun _ =>
  JoinP (S := Bool) (fun b83 => AnyP fun _ =>
  JoinP (S := Bool) (fun b87 => AnyP fun _ =>
  JoinP (S := Bool) (fun b91 => AnyP fun _ =>
  JoinP (S := Bool) (fun b96 => AnyP fun _ =>
  JoinP (S := Bool) (fun b100 => AnyP fun _ =>
  JoinP (S := Bool) (fun b104 => AnyP fun _ =>
  JoinP (S := Bool) (fun b108 => AnyP fun _ =>
  JoinP (S := Bool) (fun b112 => AnyP fun _ =>
  JoinP (S := Bool) (fun b116 => AnyP fun _ =>
  JoinP (S := Bool) (fun b121 => AnyP fun _ =>
  JoinP (S := Bool) (fun b125 => AnyP fun _ =>
  JoinP (S := Bool) (fun b129 => AnyP fun _ =>
  JoinP (S := Bool) (fun b134 => AnyP fun _ =>
  JoinP (S := Bool) (fun b140 => AnyP fun _ =>
  k b140) fun J_17 =>
  CondP b134 (
  CallP Try.prog 12 #[.pointer t21.1] tSl fun t137 =>
  J_17 ((t137.len : Int) == 0)) (
  J_17 false)) fun J_16 =>
  CondP b129 (
  CallP Try.prog 18 #[.pointer t21.1] tInt fun t132 =>
  J_16 ((t132 : Int) == 4)) (
  J_16 false)) fun J_15 =>
  CondP b125 (
  J_15 ((t66.2.1 : Int) == 1)) (
  J_15 false)) fun J_14 =>
  CondP b121 (
  J_14 ((t66.1 : Int) == 3)) (
  J_14 false)) fun J_13 =>
  CondP b116 (
  CallP Try.prog 9 #[.string (⟨#[120, 121]⟩)] tStr fun t119 =>
  J_13 ((t61.1.toList == t119.toList))) (
  J_13 false)) fun J_12 =>
  CondP b112 (
  J_12 ((t58 : Int) == 0)) (
  J_12 false)) fun J_11 =>
  CondP b108 (
  J_11 ((t56 : Int) == 0)) (
  J_11 false)) fun J_10 =>
  CondP b104 (
  J_10 ((t54 : Int) == 0)) (
  J_10 false)) fun J_9 =>
  CondP b100 (
  J_9 ((t52 : Int) == 2)) (
  J_9 false)) fun J_8 =>
  CondP b96 (
  J_8 ((t48.2.1 : Int) == 0)) (
  J_8 false)) fun J_7 =>
  CondP b91 (
  CallP Try.prog 9 #[.string (⟨#[97, 98]⟩)] tStr fun t94 =>
  J_7 ((t48.1.toList == t94.toList))) (
  J_7 false)) fun J_6 =>
  CondP b87 (
  J_6 ((t45 : Int) == 0)) (
  J_6 false)) fun J_5 =>
  CondP b83 (
  J_5 ((t42 : Int) == 1)) (
  J_5 false)) fun J_4 =>
  CondP b78 (
  DoP Try.prog (vN (Instr.buildSlice 34 2 #[(0, .int .i64 3), (1, .int .i64 3)])) tSl fun t81 =>
  CallP Try.prog 26 #[.slice t39.a t39.len t39.cap, .slice t81.a t81.len t81.cap] tBool fun t82 =>
  J_4 t82) (
  J_4 false)) fun J_3 =>
  CondP b74 (
  J_3 ((t37 : Int) == 0)) (
  J_3 false)) fun J_2 =>
  CondP ((t25.2.1 : Int) == 1) (
  J_2 ((t35 : Int) == 0)) (
  J_2 false))) fun J =>
  CondP ((t21.2.1 : Int) != 0) (
  J true) (
  GetP Try.prog (cmpN .eql 24 (.tmp 31) (.const (.pointer none)) (.pointer t21.1) (.pointer none)) tBool fun t32 =>
  J t32)
theorem rd15  (k : Bool → Pr) (w : World) (h : sh15  k w) :
    CallP Try.prog 15 #[] tBool k w :=
  CallP.of_eq (c := sa15.on (bodyOf Try.f15)) (S := sh15  k) follows Try.func15 (by kernel_rfl) (by kernel_rfl) (by kernel_rfl) (by kernel_rfl) h

/-- (*memoir.disk.Disk).Copy -/
def sa16 : SA := .seq (.region (.take 0 .pure .nil)) (.seq (.seq (.region (.take 0 .pure <| .call 1 tInt <| .take 2 .pure .nil)) (.cond (.seq (.region (.take 0 .pure .nil)) (.none)) (.none))) (.seq (.region (.take 0 .pure <| .take 1 (.val tAddr) <| .take 2 (.get (.one (.agg [.int .i64, .map, .slice, .int .i64, .int .i64, .bool, .int .i64]))) <| .eff 3 tAddr <| .effU 4 .nil)) (.seq (.region (.eff 0 tMap <| .take 1 .pure <| .take 2 (.val tAddr) <| .take 3 .pure <| .take 4 (.get tSl) <| .eff 5 tSl <| .take 6 .pure <| .effU 7 <| .take 8 .pure <| .effU 9 .nil)) (.join (.seq (.region (.take 0 .pure <| .take 1 (.val tAddr) <| .take 2 .pure <| .take 3 (.get tMap) <| .eff 4 tAddr .nil)) (.block (.loop [] [4, 5, 25, 26, 27, 28, 29, 30, 31, 32, 33] (.seq (.region (.next 0 [.leaf (.int .i64), .leaf .str] <| .take 1 .pure .nil)) (.seq (.cond (.none) (.none)) (.block (.seq (.region (.take 0 (.get (.tup [.leaf (.int .i64), .leaf .str])) <| .take 1 .pure <| .take 2 .pure <| .take 3 .pure <| .take 4 .pure .nil)) (.region (.take 0 .pure <| .take 1 (.get tMap) <| .take 2 .pure <| .take 3 .pure <| .effU 4 .nil))))))))) [] [4, 5, 20, 21, 22, 23, 24, 25, 26, 27, 28, 29, 30, 31, 32, 33] (.seq (.region (.take 0 .pure .nil)) (.none))))))
def sh16 (p0 : Option Addr) (k : (Option Addr) → Pr) : Pr :=
  CallP Try.prog 18 #[.pointer p0] tInt fun t7 =>
  CondP ((t7 : Int) == 0) (
  k none) (
  ValP Try.prog (nilN (.pointer p0)) tAddr fun t10 =>
  GetP Try.prog (vN (Instr.loadAt 47 (.pointer (some t10)))) (.one (.agg [.int .i64, .map, .slice, .int .i64, .int .i64, .bool, .int .i64])) fun t11 =>
  DoP Try.prog (vN (Instr.alloc 47 true (.tuple #[]))) tAddr fun t3 =>
  DoU Try.prog (uN (Instr.storeAt 47 (.pointer (some t3)) (.agg #[.int .i64 t11.1, .map t11.2.1, .slice t11.2.2.1.a t11.2.2.1.len t11.2.2.1.cap, .int .i64 t11.2.2.2.1, .int .i64 t11.2.2.2.2.1, .bool t11.2.2.2.2.2.1, .int .i64 t11.2.2.2.2.2.2.1]))) <|
  DoP Try.prog (vN (Instr.makeMap 44 none)) tMap fun t12 =>
  ValP Try.prog (nilN (.pointer p0)) tAddr fun t14 =>
  GetP Try.prog (vN (Instr.loadAt 45 (.pointer (some (Addr.add t14 2))))) tSl fun t16 =>
  DoP Try.prog (vN (Builtin.append_ #[45, 45] 45 #[.slice none 0 0, .slice t16.a t16.len t16.cap])) tSl fun t17 =>
  DoU Try.prog (uN (Instr.storeAt 44 (.pointer (some (Addr.add t3 1))) (.map t12))) <|
  DoU Try.prog (uN (Instr.storeAt 45 (.pointer (some (Addr.add t3 2))) (.slice t17.a t17.len t17.cap))) <|
  JoinP (S := Unit) (fun s => AnyP fun _ =>
  k (some t3)) fun J =>
  ValP Try.prog (nilN (.pointer p0)) tAddr fun t21 =>
  GetP Try.prog (vN (Instr.loadAt 44 (.pointer (some (Addr.add t21 1))))) tMap fun t23 =>
  DoP Try.prog (vN (Instr.range 44 (.map t23))) tAddr fun t24 =>
  LoopP (S := Unit) (fun next s_2 => AnyP fun _ =>
  NextP Try.prog (vN (Instr.next (.pointer (some t24)) false 0)) [.leaf (.int .i64), .leaf .str] (
  CondP false (
  GetP Try.prog (vN (Instr.entry (.pointer (some t24)))) (.tup [.leaf (.int .i64), .leaf .str]) fun t27 =>
  GetP Try.prog (vN (Instr.loadAt 44 (.pointer (some (Addr.add t3 1))))) tMap fun t31 =>
  DoU Try.prog (uN (Instr.mapUpdate 44 (.map t31) (.int .i64 t27.1) (.string t27.2.1))) <|
  next ()) (
  J ())) fun t25 =>
  CondP true (
  GetP Try.prog (vN (Instr.entry (.pointer (some t24)))) (.tup [.leaf (.int .i64), .leaf .str]) fun t27_2 =>
  GetP Try.prog (vN (Instr.loadAt 44 (.pointer (some (Addr.add t3 1))))) tMap fun t31_2 =>
  DoU Try.prog (uN (Instr.mapUpdate 44 (.map t31_2) (.int .i64 t27_2.1) (.string t27_2.2.1))) <|
  next ()) (
  J ())) ())
theorem rd16 (p0 : Option Addr) (k : (Option Addr) → Pr) (w : World) (h : sh16 p0 k w) :
    CallP Try.prog 16 #[.pointer p0] tPtr k w :=
  CallP.of_eq (c := sa16.on (bodyOf Try.f16)) (S := sh16 p0 k) follows Try.func16 (by kernel_rfl) (by kernel_rfl) (by kernel_rfl) (by kernel_rfl) h

/-- (*memoir.disk.Disk).Count -/
def sa17 : SA := .seq (.region (.take 0 .pure <| .take 1 .pure .nil)) (.seq (.seq (.region (.take 0 .pure <| .take 1 (.get tBool) .nil)) (.cond (.seq (.region (.take 0 .pure <| .take 1 .pure .nil)) (.none)) (.none))) (.seq (.draw (.take 0 .pure <| .take 1 (.val tAddr) <| .take 2 .pure <| .take 3 (.get tInt) <| .take 4 .pure <| .take 5 (.val tAddr) <| .take 6 .pure <| .take 7 (.get tInt) <| .now 8 .pure [7] <| .now 9 .pure [] .nil)) (.none)))
def sh17 (p0 : Option Addr) (k : (Int × Int × Unit) → Pr) : Pr :=
  GetP Try.prog (cmpN .eql 24 (.tmp 4) (.const (.pointer none)) (.pointer p0) (.pointer none)) tBool fun t5 =>
  CondP t5 (
  k (0, 0, ())) (
  DrewP <|
  ValP Try.prog (nilN (.pointer p0)) tAddr fun t7 =>
  GetP Try.prog (vN (Instr.loadAt 3 (.pointer (some (Addr.add t7 3))))) tInt fun t9 =>
  ValP Try.prog (nilN (.pointer p0)) tAddr fun t11 =>
  GetP Try.prog (vN (Instr.loadAt 3 (.pointer (some (Addr.add t11 4))))) tInt fun t13 =>
  ChkP Try.prog (vN (Instr.loadAt 3 (.pointer (some (Addr.add t11 4))))) (.int .i64 t13) <|
  k (t9, t13, ()))
theorem rd17 (p0 : Option Addr) (k : (Int × Int × Unit) → Pr) (w : World) (h : sh17 p0 k w) :
    CallP Try.prog 17 #[.pointer p0] (.tup [.leaf (.int .i64), .leaf (.int .i64)]) k w :=
  CallP.of_eq (c := sa17.on (bodyOf Try.f17)) (S := sh17 p0 k) follows Try.func17 (by kernel_rfl) (by kernel_rfl) (by kernel_rfl) (by kernel_rfl) h

/-- (*memoir.disk.Disk).Len -/
def sa18 : SA := .seq (.region (.take 0 .pure .nil)) (.seq (.seq (.region (.take 0 .pure <| .take 1 (.get tBool) .nil)) (.cond (.seq (.region (.take 0 .pure .nil)) (.none)) (.none))) (.seq (.region (.take 0 .pure <| .take 1 (.val tAddr) <| .take 2 .pure <| .take 3 (.get tInt) <| .take 4 .pure .nil)) (.none)))
def sh18 (p0 : Option Addr) (k : Int → Pr) : Pr :=
  GetP Try.prog (cmpN .eql 24 (.tmp 3) (.const (.pointer none)) (.pointer p0) (.pointer none)) tBool fun t4 =>
  CondP t4 (
  k 0) (
  ValP Try.prog (nilN (.pointer p0)) tAddr fun t6 =>
  GetP Try.prog (vN (Instr.loadAt 3 (.pointer (some (Addr.add t6 0))))) tInt fun t8 =>
  k t8)
theorem rd18 (p0 : Option Addr) (k : Int → Pr) (w : World) (h : sh18 p0 k w) :
    CallP Try.prog 18 #[.pointer p0] tInt k w :=
  CallP.of_eq (c := sa18.on (bodyOf Try.f18)) (S := sh18 p0 k) follows Try.func18 (by kernel_rfl) (by kernel_rfl) (by kernel_rfl) (by kernel_rfl) h

/-- memoir.memoirref07.New -/
def sa19 : SA := .seq (.region (.take 0 .pure <| .take 1 .pure .nil)) (.seq (.region (.take 0 .pure <| .eff 1 tAddr <| .take 2 .pure .nil)) (.seq (.seq (.region (.take 0 .pure <| .take 1 .pure <| .take 2 .pure <| .guard 11 (.take 3 .pure <| .take 4 .pure <| .take 5 .pure .nil) 14 [12, 13] .nil)) (.cond (.seq (.region (.take 0 .pure <| .take 1 .pure <| .take 2 .pure .nil)) (.none)) (.none))) (.seq (.region (.call 0 tStr <| .take 1 .pure .nil)) (.seq (.seq (.region (.take 0 .pure .nil)) (.block (.loop [(6, .leaf (.int .i64))] [17, 18, 19, 20, 21, 22, 23, 24, 25, 26, 27, 28, 29, 30, 31] (.seq (.seq (.region (.take 0 .pure <| .take 1 .pure <| .take 2 .pure .nil)) (.cond (.none) (.none))) (.seq (.block (.region (.take 0 .pure <| .take 1 .pure <| .take 2 (.val tAddr) <| .take 3 .pure <| .take 4 (.get tSl) <| .take 5 .pure <| .eff 6 tSl <| .eff 7 tSl <| .take 8 (.val tAddr) <| .take 9 .pure <| .effU 10 .nil))) (.region (.take 0 .pure <| .take 1 .pure <| .take 2 .pure .nil))))))) (.seq (.region (.take 0 .pure <| .take 1 .pure <| .take 2 .pure .nil)) (.none))))))
def sh19 (p0 : Int) (k : (Option Addr × Int × Unit) → Pr) : Pr :=
  DoP Try.prog (vN (Instr.box 58 (.agg #[.slice none 0 0, .slice none 0 0, .int .i64 0, .int .i64 0, .bool false, .int .i64 0]))) tAddr fun t8 =>
  JoinP (S := Bool) (fun b14 => AnyP fun _ =>
  CondP b14 (
  k ((some t8), 1, ())) (
  CallP Try.prog 9 #[.string (⟨#[]⟩)] tStr fun t16 =>
  LoopP (S := Int) (fun next s => AnyP fun _ =>
  CondP (decide ((s : Int) < p0)) (
  ValP Try.prog (nilN (.pointer (some t8))) tAddr fun t24 =>
  GetP Try.prog (vN (Instr.loadAt 29 (.pointer (some (Addr.add t24 0))))) tSl fun t26 =>
  DoP Try.prog (vN (Instr.buildSlice 29 1 #[(0, .string t16)])) tSl fun t28 =>
  DoP Try.prog (vN (Builtin.append_ #[29, 29] 29 #[.slice t26.a t26.len t26.cap, .slice t28.a t28.len t28.cap])) tSl fun t29 =>
  ValP Try.prog (nilN (.pointer (some t8))) tAddr fun t30 =>
  DoU Try.prog (uN (Instr.storeAt 29 (.pointer (some (Addr.add t30 0))) (.slice t29.a t29.len t29.cap))) <|
  next (IntKind.i64.wrap (s + 1))) (
  k ((some t8), 0, ()))) 0)) fun J =>
  CondP (decide ((p0 : Int) < 1)) (
  J true) (
  J (decide ((p0 : Int) > 4096)))
theorem rd19 (p0 : Int) (k : (Option Addr × Int × Unit) → Pr) (w : World) (h : sh19 p0 k w) :
    CallP Try.prog 19 #[.int .i64 p0] (.tup [.leaf .ptr, .leaf (.int .i64)]) k w :=
  CallP.of_eq (c := sa19.on (bodyOf Try.f19)) (S := sh19 p0 k) follows Try.func19 (by kernel_rfl) (by kernel_rfl) (by kernel_rfl) (by kernel_rfl) h

/-- (*memoir.memoirref07.Disk).Write -/
def sa20 : SA := .seq (.region (.take 0 .pure .nil)) (.seq (.seq (.region (.take 0 .pure <| .take 1 .pure <| .take 2 .pure <| .guard 9 (.take 3 .pure <| .take 4 .pure <| .take 5 (.val tAddr) <| .take 6 .pure <| .take 7 (.get tSl) <| .take 8 .pure <| .take 9 .pure <| .take 10 .pure .nil) 17 [10, 11, 12, 13, 14, 15, 16] .nil)) (.cond (.seq (.region (.take 0 .pure .nil)) (.none)) (.none))) (.seq (.seq (.region (.take 0 .pure <| .take 1 .pure <| .take 2 .pure .nil)) (.cond (.seq (.region (.take 0 .pure .nil)) (.none)) (.none))) (.seq (.seq (.region (.take 0 .pure <| .call 1 tBool .nil)) (.cond (.seq (.region (.take 0 .pure .nil)) (.none)) (.none))) (.seq (.draw (.take 0 .pure <| .take 1 .pure <| .take 2 (.val tAddr) <| .take 3 .pure <| .take 4 (.get tSl) <| .take 5 .pure <| .take 6 .pure <| .call 7 tStr [4] <| .take 8 .pure <| .eff 9 tSl [4] <| .eff 10 tSl [] <| .take 11 (.val tAddr) <| .take 12 .pure <| .effU 13 [] .nil)) (.seq (.region (.take 0 .pure <| .take 1 (.val tAddr) <| .take 2 .pure <| .take 3 (.get tInt) <| .take 4 .pure <| .take 5 (.val tAddr) <| .take 6 .pure <| .effU 7 .nil)) (.seq (.region (.take 0 .pure .nil)) (.none)))))))
def sh20 (p0 : Option Addr) (p1 : Int) (p2 : ByteArray) (k : Int → Pr) : Pr :=
  JoinP (S := Bool) (fun b17 => AnyP fun _ =>
  CondP b17 (
  k 2) (
  CondP (decide ((p2.size : Int) > 128)) (
  k 19) (
  CallP Try.prog 32 #[.pointer p0] tBool fun t22 =>
  CondP t22 (
  k 6) (
  DrewP <|
  ValP Try.prog (nilN (.pointer p0)) tAddr fun t25 =>
  GetP Try.prog (vN (Instr.loadAt 56 (.pointer (some (Addr.add t25 1))))) tSl fun t27 =>
  CallP Try.prog 9 #[.string p2] tStr fun t30 =>
  ChkP Try.prog (vN (Instr.loadAt 56 (.pointer (some (Addr.add t25 1))))) (.slice t27.a t27.len t27.cap) <|
  DoP Try.prog (vN (Instr.buildSlice 56 1 #[(0, .agg #[.int .i64 p1, .string t30])])) tSl fun t32 =>
  ChkP Try.prog (vN (Instr.loadAt 56 (.pointer (some (Addr.add t25 1))))) (.slice t27.a t27.len t27.cap) <|
  DoP Try.prog (vN (Builtin.append_ #[56, 56] 56 #[.slice t27.a t27.len t27.cap, .slice t32.a t32.len t32.cap])) tSl fun t33 =>
  ValP Try.prog (nilN (.pointer p0)) tAddr fun t34 =>
  DoU Try.prog (uN (Instr.storeAt 56 (.pointer (some (Addr.add t34 1))) (.slice t33.a t33.len t33.cap))) <|
  ValP Try.prog (nilN (.pointer p0)) tAddr fun t37 =>
  GetP Try.prog (vN (Instr.loadAt 3 (.pointer (some (Addr.add t37 2))))) tInt fun t39 =>
  ValP Try.prog (nilN (.pointer p0)) tAddr fun t41 =>
  DoU Try.prog (uN (Instr.storeAt 3 (.pointer (some (Addr.add t41 2))) (.int .i64 (IntKind.i64.wrap (t39 + 1))))) <|
  k 0)))) fun J =>
  CondP (decide ((p1 : Int) < 0)) (
  J true) (
  ValP Try.prog (nilN (.pointer p0)) tAddr fun t12 =>
  GetP Try.prog (vN (Instr.loadAt 29 (.pointer (some (Addr.add t12 0))))) tSl fun t14 =>
  J (decide ((p1 : Int) ≥ t14.len)))
theorem rd20 (p0 : Option Addr) (p1 : Int) (p2 : ByteArray) (k : Int → Pr) (w : World) (h : sh20 p0 p1 p2 k w) :
    CallP Try.prog 20 #[.pointer p0, .int .i64 p1, .string p2] tInt k w :=
  CallP.of_eq (c := sa20.on (bodyOf Try.f20)) (S := sh20 p0 p1 p2 k) follows Try.func20 (by kernel_rfl) (by kernel_rfl) (by kernel_rfl) (by kernel_rfl) h

/-- (*memoir.memoirref07.Disk).Read -/
def sa21 : SA := .seq (.region (.take 0 .pure <| .take 1 .pure .nil)) (.seq (.seq (.region (.take 0 .pure <| .take 1 .pure <| .take 2 .pure <| .guard 9 (.take 3 .pure <| .take 4 .pure <| .take 5 (.val tAddr) <| .take 6 .pure <| .take 7 (.get tSl) <| .take 8 .pure <| .take 9 .pure <| .take 10 .pure .nil) 17 [10, 11, 12, 13, 14, 15, 16] .nil)) (.cond (.seq (.region (.take 0 .pure <| .take 1 .pure .nil)) (.none)) (.none))) (.seq (.seq (.region (.take 0 .pure <| .take 1 (.val tAddr) <| .take 2 .pure <| .take 3 (.get tSl) <| .take 4 .pure <| .take 5 .pure <| .take 6 .pure .nil)) (.block (.loop [(6, .leaf (.int .i64))] [4, 5, 24, 25, 26, 27, 28, 29, 30, 31, 32, 33, 34, 35, 36, 37, 38, 39, 40, 41, 42, 43, 44, 45] (.seq (.seq (.region (.take 0 .pure <| .take 1 .pure .nil)) (.cond (.none) (.none))) (.seq (.block (.seq (.region (.take 0 .pure <| .take 1 (.val tAddr) <| .take 2 .pure <| .take 3 (.get tSl) <| .take 4 .pure <| .take 5 (.val tAddr) <| .take 6 .pure <| .take 7 (.get tInt) <| .take 8 .pure <| .take 9 .pure .nil)) (.cond (.seq (.region (.take 0 .pure <| .take 1 (.val tAddr) <| .take 2 .pure <| .take 3 (.get tSl) <| .take 4 .pure <| .take 5 (.val tAddr) <| .take 6 .pure <| .take 7 (.get tStr) <| .take 8 .pure <| .take 9 .pure .nil)) (.none)) (.none)))) (.region (.take 0 .pure <| .take 1 .pure <| .take 2 .pure .nil))))))) (.seq (.region (.take 0 .pure <| .take 1 (.val tAddr) <| .take 2 .pure <| .take 3 (.get tSl) <| .take 4 .pure <| .take 5 (.val tAddr) <| .take 6 (.get tStr) <| .take 7 .pure <| .take 8 .pure .nil)) (.none))))
def sh21 (p0 : Option Addr) (p1 : Int) (k : (ByteArray × Int × Unit) → Pr) : Pr :=
  JoinP (S := Bool) (fun b17 => AnyP fun _ =>
  CondP b17 (
  k ((⟨#[]⟩), 2, ())) (
  ValP Try.prog (nilN (.pointer p0)) tAddr fun t19 =>
  GetP Try.prog (vN (Instr.loadAt 56 (.pointer (some (Addr.add t19 1))))) tSl fun t21 =>
  LoopP (S := Int) (fun next s => AnyP fun _ =>
  CondP (decide ((s : Int) ≥ 0)) (
  ValP Try.prog (nilN (.pointer p0)) tAddr fun t29 =>
  GetP Try.prog (vN (Instr.loadAt 56 (.pointer (some (Addr.add t29 1))))) tSl fun t31 =>
  ValP Try.prog (vN (Instr.indexAt 56 (.slice t31.a t31.len t31.cap) (.int .i64 s))) tAddr fun t33 =>
  GetP Try.prog (vN (Instr.loadAt 3 (.pointer (some (Addr.add t33 0))))) tInt fun t35 =>
  CondP ((t35 : Int) == p1) (
  ValP Try.prog (nilN (.pointer p0)) tAddr fun t39 =>
  GetP Try.prog (vN (Instr.loadAt 56 (.pointer (some (Addr.add t39 1))))) tSl fun t41 =>
  ValP Try.prog (vN (Instr.indexAt 56 (.slice t41.a t41.len t41.cap) (.int .i64 s))) tAddr fun t43 =>
  GetP Try.prog (vN (Instr.loadAt 9 (.pointer (some (Addr.add t43 1))))) tStr fun t45 =>
  k (t45, 0, ())) (
  next (IntKind.i64.wrap (s - 1)))) (
  ValP Try.prog (nilN (.pointer p0)) tAddr fun t47 =>
  GetP Try.prog (vN (Instr.loadAt 29 (.pointer (some (Addr.add t47 0))))) tSl fun t49 =>
  ValP Try.prog (vN (Instr.indexAt 29 (.slice t49.a t49.len t49.cap) (.int .i64 p1))) tAddr fun t51 =>
  GetP Try.prog (vN (Instr.loadAt 9 (.pointer (some t51)))) tStr fun t52 =>
  k (t52, 0, ()))) (IntKind.i64.wrap (t21.len - 1)))) fun J =>
  CondP (decide ((p1 : Int) < 0)) (
  J true) (
  ValP Try.prog (nilN (.pointer p0)) tAddr fun t12 =>
  GetP Try.prog (vN (Instr.loadAt 29 (.pointer (some (Addr.add t12 0))))) tSl fun t14 =>
  J (decide ((p1 : Int) ≥ t14.len)))
theorem rd21 (p0 : Option Addr) (p1 : Int) (k : (ByteArray × Int × Unit) → Pr) (w : World) (h : sh21 p0 p1 k w) :
    CallP Try.prog 21 #[.pointer p0, .int .i64 p1] (.tup [.leaf .str, .leaf (.int .i64)]) k w :=
  CallP.of_eq (c := sa21.on (bodyOf Try.f21)) (S := sh21 p0 p1 k) follows Try.func21 (by kernel_rfl) (by kernel_rfl) (by kernel_rfl) (by kernel_rfl) h

/-- (*memoir.memoirref07.Disk).Flush -/
def sa22 : SA := .seq (.region (.take 0 .pure .nil)) (.seq (.seq (.region (.take 0 .pure <| .call 1 tBool .nil)) (.cond (.seq (.region (.take 0 .pure .nil)) (.none)) (.none))) (.seq (.seq (.region (.take 0 .pure .nil)) (.block (.loop [(3, .leaf (.int .i64))] [6, 7, 8, 9, 10, 11, 12, 13, 14, 15, 16, 17, 18, 19, 20, 21, 22, 23, 24, 25, 26, 27, 28, 29, 30, 31, 32, 33, 34, 35] (.seq (.seq (.region (.take 0 .pure <| .take 1 .pure <| .take 2 (.val tAddr) <| .take 3 .pure <| .take 4 (.get tSl) <| .take 5 .pure <| .take 6 .pure .nil)) (.cond (.none) (.none))) (.seq (.block (.draw (.take 0 .pure <| .take 1 (.val tAddr) <| .take 2 .pure <| .take 3 (.get tSl) <| .take 4 .pure <| .take 5 (.val tAddr) <| .take 6 .pure <| .take 7 (.get tSl) <| .take 8 .pure <| .take 9 (.val tAddr) <| .take 10 .pure <| .take 11 (.get tInt) <| .take 12 .pure <| .take 13 (.val tAddr) <| .take 14 .pure <| .take 15 (.get tSl) <| .take 16 .pure <| .take 17 (.val tAddr) <| .take 18 .pure <| .take 19 (.get tStr) <| .take 20 (.val tAddr) <| .effU 21 [] .nil))) (.region (.take 0 .pure <| .take 1 .pure <| .take 2 .pure .nil))))))) (.seq (.region (.take 0 .pure <| .take 1 (.val tAddr) <| .take 2 .pure <| .effU 3 .nil)) (.seq (.region (.take 0 .pure <| .take 1 (.val tAddr) <| .take 2 .pure <| .take 3 (.get tInt) <| .take 4 .pure <| .take 5 (.val tAddr) <| .take 6 .pure <| .effU 7 .nil)) (.seq (.region (.take 0 .pure .nil)) (.none))))))
def sh22 (p0 : Option Addr) (k : Int → Pr) : Pr :=
  CallP Try.prog 32 #[.pointer p0] tBool fun t5 =>
  CondP t5 (
  k 6) (
  LoopP (S := Int) (fun next s => AnyP fun _ =>
  ValP Try.prog (nilN (.pointer p0)) tAddr fun t8 =>
  GetP Try.prog (vN (Instr.loadAt 56 (.pointer (some (Addr.add t8 1))))) tSl fun t10 =>
  CondP (decide ((s : Int) < t10.len)) (
  DrewP <|
  ValP Try.prog (nilN (.pointer p0)) tAddr fun t16 =>
  GetP Try.prog (vN (Instr.loadAt 29 (.pointer (some (Addr.add t16 0))))) tSl fun t18 =>
  ValP Try.prog (nilN (.pointer p0)) tAddr fun t20 =>
  GetP Try.prog (vN (Instr.loadAt 56 (.pointer (some (Addr.add t20 1))))) tSl fun t22 =>
  ValP Try.prog (vN (Instr.indexAt 56 (.slice t22.a t22.len t22.cap) (.int .i64 s))) tAddr fun t24 =>
  GetP Try.prog (vN (Instr.loadAt 3 (.pointer (some (Addr.add t24 0))))) tInt fun t26 =>
  ValP Try.prog (nilN (.pointer p0)) tAddr fun t28 =>
  GetP Try.prog (vN (Instr.loadAt 56 (.pointer (some (Addr.add t28 1))))) tSl fun t30 =>
  ValP Try.prog (vN (Instr.indexAt 56 (.slice t30.a t30.len t30.cap) (.int .i64 s))) tAddr fun t32 =>
  GetP Try.prog (vN (Instr.loadAt 9 (.pointer (some (Addr.add t32 1))))) tStr fun t34 =>
  ValP Try.prog (vN (Instr.indexAt 29 (.slice t18.a t18.len t18.cap) (.int .i64 t26))) tAddr fun t35 =>
  DoU Try.prog (uN (Instr.storeAt 9 (.pointer (some t35)) (.string t34))) <|
  next (IntKind.i64.wrap (s + 1))) (
  ValP Try.prog (nilN (.pointer p0)) tAddr fun t37 =>
  DoU Try.prog (uN (Instr.storeAt 56 (.pointer (some (Addr.add t37 1))) (.slice none 0 0))) <|
  ValP Try.prog (nilN (.pointer p0)) tAddr fun t40 =>
  GetP Try.prog (vN (Instr.loadAt 3 (.pointer (some (Addr.add t40 3))))) tInt fun t42 =>
  ValP Try.prog (nilN (.pointer p0)) tAddr fun t44 =>
  DoU Try.prog (uN (Instr.storeAt 3 (.pointer (some (Addr.add t44 3))) (.int .i64 (IntKind.i64.wrap (t42 + 1))))) <|
  k 0)) 0)
theorem rd22 (p0 : Option Addr) (k : Int → Pr) (w : World) (h : sh22 p0 k w) :
    CallP Try.prog 22 #[.pointer p0] tInt k w :=
  CallP.of_eq (c := sa22.on (bodyOf Try.f22)) (S := sh22 p0 k) follows Try.func22 (by kernel_rfl) (by kernel_rfl) (by kernel_rfl) (by kernel_rfl) h

/-- (*memoir.memoirref07.Disk).Crash -/
def sa23 : SA := .seq (.region (.take 0 .pure .nil)) (.seq (.seq (.region (.take 0 .pure <| .take 1 .pure <| .take 2 .pure <| .take 3 (.val tAddr) <| .take 4 .pure <| .take 5 (.get tSl) <| .take 6 .pure <| .take 7 .pure .nil)) (.cond (.seq (.region (.take 0 .pure .nil)) (.none)) (.none))) (.seq (.seq (.region (.take 0 .pure .nil)) (.block (.loop [(5, .leaf (.int .i64))] [14, 15, 16, 17, 18, 19, 20, 21, 22, 23, 24, 25, 26, 27, 28, 29, 30, 31, 32, 33, 34, 35, 36, 37, 38, 39, 40, 41, 42, 43, 44] (.seq (.seq (.region (.take 0 .pure <| .take 1 .pure <| .take 2 .pure <| .take 3 .pure .nil)) (.cond (.none) (.none))) (.join (.block (.seq (.region (.take 0 .pure <| .take 1 .pure <| .take 2 (.val tAddr) <| .take 3 (.get tBool) .nil)) (.cond (.draw (.take 0 .pure <| .take 1 (.val tAddr) <| .take 2 .pure <| .take 3 (.get tSl) <| .take 4 .pure <| .take 5 (.val tAddr) <| .take 6 .pure <| .take 7 (.get tSl) <| .take 8 .pure <| .take 9 (.val tAddr) <| .take 10 .pure <| .take 11 (.get tInt) <| .take 12 .pure <| .take 13 (.val tAddr) <| .take 14 .pure <| .take 15 (.get tSl) <| .take 16 .pure <| .take 17 (.val tAddr) <| .take 18 .pure <| .take 19 (.get tStr) <| .take 20 (.val tAddr) <| .effU 21 [] .nil)) (.none)))) [] [20, 21, 22, 23, 24, 25, 26, 27, 28, 29, 30, 31, 32, 33, 34, 35, 36, 37, 38, 39, 40, 41, 42, 43, 44] (.region (.take 0 .pure <| .take 1 .pure <| .take 2 .pure .nil))))))) (.seq (.region (.take 0 .pure <| .take 1 (.val tAddr) <| .take 2 .pure <| .effU 3 .nil)) (.seq (.region (.take 0 .pure <| .take 1 (.val tAddr) <| .take 2 .pure <| .effU 3 .nil)) (.seq (.region (.take 0 .pure .nil)) (.none))))))
def sh23 (p0 : Option Addr) (p1 : Sl) (k : Int → Pr) : Pr :=
  ValP Try.prog (nilN (.pointer p0)) tAddr fun t9 =>
  GetP Try.prog (vN (Instr.loadAt 56 (.pointer (some (Addr.add t9 1))))) tSl fun t11 =>
  CondP (decide ((p1.len : Int) > t11.len)) (
  k 1) (
  LoopP (S := Int) (fun next s => AnyP fun _ =>
  CondP (decide ((s : Int) < p1.len)) (
  JoinP (S := Unit) (fun s_2 => AnyP fun _ =>
  next (IntKind.i64.wrap (s + 1))) fun J =>
  ValP Try.prog (vN (Instr.indexAt 23 (.slice p1.a p1.len p1.cap) (.int .i64 s))) tAddr fun t22 =>
  GetP Try.prog (vN (Instr.loadAt 4 (.pointer (some t22)))) tBool fun t23 =>
  CondP t23 (
  DrewP <|
  ValP Try.prog (nilN (.pointer p0)) tAddr fun t25 =>
  GetP Try.prog (vN (Instr.loadAt 29 (.pointer (some (Addr.add t25 0))))) tSl fun t27 =>
  ValP Try.prog (nilN (.pointer p0)) tAddr fun t29 =>
  GetP Try.prog (vN (Instr.loadAt 56 (.pointer (some (Addr.add t29 1))))) tSl fun t31 =>
  ValP Try.prog (vN (Instr.indexAt 56 (.slice t31.a t31.len t31.cap) (.int .i64 s))) tAddr fun t33 =>
  GetP Try.prog (vN (Instr.loadAt 3 (.pointer (some (Addr.add t33 0))))) tInt fun t35 =>
  ValP Try.prog (nilN (.pointer p0)) tAddr fun t37 =>
  GetP Try.prog (vN (Instr.loadAt 56 (.pointer (some (Addr.add t37 1))))) tSl fun t39 =>
  ValP Try.prog (vN (Instr.indexAt 56 (.slice t39.a t39.len t39.cap) (.int .i64 s))) tAddr fun t41 =>
  GetP Try.prog (vN (Instr.loadAt 9 (.pointer (some (Addr.add t41 1))))) tStr fun t43 =>
  ValP Try.prog (vN (Instr.indexAt 29 (.slice t27.a t27.len t27.cap) (.int .i64 t35))) tAddr fun t44 =>
  DoU Try.prog (uN (Instr.storeAt 9 (.pointer (some t44)) (.string t43))) <|
  J ()) (
  J ())) (
  ValP Try.prog (nilN (.pointer p0)) tAddr fun t46 =>
  DoU Try.prog (uN (Instr.storeAt 56 (.pointer (some (Addr.add t46 1))) (.slice none 0 0))) <|
  ValP Try.prog (nilN (.pointer p0)) tAddr fun t49 =>
  DoU Try.prog (uN (Instr.storeAt 4 (.pointer (some (Addr.add t49 4))) (.bool false))) <|
  k 0)) 0)
theorem rd23 (p0 : Option Addr) (p1 : Sl) (k : Int → Pr) (w : World) (h : sh23 p0 p1 k w) :
    CallP Try.prog 23 #[.pointer p0, .slice p1.a p1.len p1.cap] tInt k w :=
  CallP.of_eq (c := sa23.on (bodyOf Try.f23)) (S := sh23 p0 p1 k) follows Try.func23 (by kernel_rfl) (by kernel_rfl) (by kernel_rfl) (by kernel_rfl) h

/-- (*memoir.disk.Disk).Fuse -/
def sa24 : SA := .seq (.region (.take 0 .pure <| .call 1 tInt <| .take 2 .pure .nil)) (.cond (.region (.take 0 .pure <| .take 1 .pure <| .take 2 .pure <| .take 3 .pure <| .take 4 (.val tAddr) <| .take 5 .pure <| .effU 6 <| .take 7 (.val tAddr) <| .take 8 .pure <| .effU 9 .nil)) (.none))
def sh24 (p0 : Option Addr) (p1 : Int) (k : (Unit) → Pr) : Pr :=
  CallP Try.prog 18 #[.pointer p0] tInt fun t5 =>
  CondP (decide ((t5 : Int) > 0)) (
  ValP Try.prog (nilN (.pointer p0)) tAddr fun t11 =>
  DoU Try.prog (uN (Instr.storeAt 4 (.pointer (some (Addr.add t11 5))) (.bool true))) <|
  ValP Try.prog (nilN (.pointer p0)) tAddr fun t13 =>
  DoU Try.prog (uN (Instr.storeAt 3 (.pointer (some (Addr.add t13 6))) (.int .i64 (if (0 : Int) > p1 then 0 else p1)))) <|
  k ()) (
  k ())
theorem rd24 (p0 : Option Addr) (p1 : Int) (k : (Unit) → Pr) (w : World) (h : sh24 p0 p1 k w) :
    CallP Try.prog 24 #[.pointer p0, .int .i64 p1] (.tup []) k w :=
  CallP.of_eq (c := sa24.on (bodyOf Try.f24)) (S := sh24 p0 p1 k) follows Try.func24 (by kernel_rfl) (by kernel_rfl) (by kernel_rfl) (by kernel_rfl) h

/-- (*memoir.memoirref07.Disk).Fuse -/
def sa25 : SA := .seq (.region (.take 0 .pure <| .take 1 (.val tAddr) <| .take 2 .pure <| .effU 3 .nil)) (.region (.take 0 .pure <| .take 1 .pure <| .take 2 .pure <| .take 3 (.val tAddr) <| .take 4 .pure <| .effU 5 .nil))
def sh25 (p0 : Option Addr) (p1 : Int) (k : (Unit) → Pr) : Pr :=
  ValP Try.prog (nilN (.pointer p0)) tAddr fun t5 =>
  DoU Try.prog (uN (Instr.storeAt 4 (.pointer (some (Addr.add t5 4))) (.bool true))) <|
  ValP Try.prog (nilN (.pointer p0)) tAddr fun t10 =>
  DoU Try.prog (uN (Instr.storeAt 3 (.pointer (some (Addr.add t10 5))) (.int .i64 (if (p1 : Int) > 0 then p1 else 0)))) <|
  k ()
theorem rd25 (p0 : Option Addr) (p1 : Int) (k : (Unit) → Pr) (w : World) (h : sh25 p0 p1 k w) :
    CallP Try.prog 25 #[.pointer p0, .int .i64 p1] (.tup []) k w :=
  CallP.of_eq (c := sa25.on (bodyOf Try.f25)) (S := sh25 p0 p1 k) follows Try.func25 (by kernel_rfl) (by kernel_rfl) (by kernel_rfl) (by kernel_rfl) h

/-- memoir.memoirref07.Ints -/
def sa26 : SA := .seq (.region (.take 0 .pure .nil)) (.seq (.seq (.region (.take 0 .pure <| .take 1 .pure <| .take 2 .pure <| .take 3 .pure <| .take 4 .pure .nil)) (.cond (.seq (.region (.take 0 .pure .nil)) (.none)) (.none))) (.seq (.seq (.region (.take 0 .pure .nil)) (.block (.loop [(5, .leaf (.int .i64))] [4, 11, 12, 13, 14, 15, 16, 17, 18, 19, 20, 21, 22, 23, 24, 25] (.seq (.seq (.region (.take 0 .pure <| .take 1 .pure <| .take 2 .pure <| .take 3 .pure .nil)) (.cond (.none) (.none))) (.seq (.block (.seq (.draw (.take 0 .pure <| .take 1 .pure <| .take 2 (.val tAddr) <| .take 3 (.get tInt) <| .take 4 .pure <| .take 5 .pure <| .take 6 (.val tAddr) <| .take 7 (.get tInt) <| .take 8 .pure .nil)) (.cond (.seq (.region (.take 0 .pure .nil)) (.none)) (.none)))) (.region (.take 0 .pure <| .take 1 .pure <| .take 2 .pure .nil))))))) (.seq (.region (.take 0 .pure .nil)) (.none))))
def sh26 (p0 : Sl) (p1 : Sl) (k : Bool → Pr) : Pr :=
  CondP ((p0.len : Int) != p1.len) (
  k false) (
  LoopP (S := Int) (fun next s => AnyP fun _ =>
  CondP (decide ((s : Int) < p0.len)) (
  DrewP <|
  ValP Try.prog (vN (Instr.indexAt 34 (.slice p0.a p0.len p0.cap) (.int .i64 s))) tAddr fun t19 =>
  GetP Try.prog (vN (Instr.loadAt 3 (.pointer (some t19)))) tInt fun t20 =>
  ValP Try.prog (vN (Instr.indexAt 34 (.slice p1.a p1.len p1.cap) (.int .i64 s))) tAddr fun t23 =>
  GetP Try.prog (vN (Instr.loadAt 3 (.pointer (some t23)))) tInt fun t24 =>
  CondP ((t20 : Int) != t24) (
  k false) (
  next (IntKind.i64.wrap (s + 1)))) (
  k true)) 0)
theorem rd26 (p0 : Sl) (p1 : Sl) (k : Bool → Pr) (w : World) (h : sh26 p0 p1 k w) :
    CallP Try.prog 26 #[.slice p0.a p0.len p0.cap, .slice p1.a p1.len p1.cap] tBool k w :=
  CallP.of_eq (c := sa26.on (bodyOf Try.f26)) (S := sh26 p0 p1 k) follows Try.func26 (by kernel_rfl) (by kernel_rfl) (by kernel_rfl) (by kernel_rfl) h

/-- (*memoir.memoirref07.Disk).Dirty -/
def sa27 : SA := .seq (.region (.take 0 .pure .nil)) (.seq (.region (.take 0 .pure .nil)) (.seq (.seq (.region (.take 0 .pure .nil)) (.block (.loop [(3, .leaf .slice), (4, .leaf (.int .i64))] [5, 6, 7, 8, 9, 10, 11, 12, 13, 14, 15, 16, 17, 18, 19, 20, 21, 22, 23, 24] (.seq (.seq (.region (.take 0 .pure <| .take 1 .pure <| .take 2 (.val tAddr) <| .take 3 .pure <| .take 4 (.get tSl) <| .take 5 .pure <| .take 6 .pure .nil)) (.cond (.none) (.none))) (.seq (.block (.region (.take 0 .pure <| .take 1 .pure <| .take 2 (.val tAddr) <| .take 3 .pure <| .take 4 (.get tSl) <| .take 5 .pure <| .take 6 (.val tAddr) <| .take 7 .pure <| .take 8 (.get tInt) <| .eff 9 tSl <| .eff 10 tSl <| .take 11 .pure .nil))) (.region (.take 0 .pure <| .take 1 .pure <| .take 2 .pure .nil))))))) (.seq (.region (.take 0 .pure <| .take 1 .pure .nil)) (.none))))
def sh27 (p0 : Option Addr) (k : Sl → Pr) : Pr :=
  LoopP (S := Sl × Int) (fun next s => AnyP fun _ =>
  ValP Try.prog (nilN (.pointer p0)) tAddr fun t7 =>
  GetP Try.prog (vN (Instr.loadAt 56 (.pointer (some (Addr.add t7 1))))) tSl fun t9 =>
  CondP (decide ((s.2 : Int) < t9.len)) (
  ValP Try.prog (nilN (.pointer p0)) tAddr fun t16 =>
  GetP Try.prog (vN (Instr.loadAt 56 (.pointer (some (Addr.add t16 1))))) tSl fun t18 =>
  ValP Try.prog (vN (Instr.indexAt 56 (.slice t18.a t18.len t18.cap) (.int .i64 s.2))) tAddr fun t20 =>
  GetP Try.prog (vN (Instr.loadAt 3 (.pointer (some (Addr.add t20 0))))) tInt fun t22 =>
  DoP Try.prog (vN (Instr.buildSlice 34 1 #[(0, .int .i64 t22)])) tSl fun t23 =>
  DoP Try.prog (vN (Builtin.append_ #[34, 34] 34 #[.slice s.1.a s.1.len s.1.cap, .slice t23.a t23.len t23.cap])) tSl fun t24 =>
  next (t24, IntKind.i64.wrap (s.2 + 1))) (
  k s.1)) (⟨none, 0, 0⟩, 0)
theorem rd27 (p0 : Option Addr) (k : Sl → Pr) (w : World) (h : sh27 p0 k w) :
    CallP Try.prog 27 #[.pointer p0] tSl k w :=
  CallP.of_eq (c := sa27.on (bodyOf Try.f27)) (S := sh27 p0 k) follows Try.func27 (by kernel_rfl) (by kernel_rfl) (by kernel_rfl) (by kernel_rfl) h

/-- (*memoir.disk.Disk).right -/
def sa28 : SA := .seq (.region (.take 0 .pure .nil)) (.seq (.block (.seq (.region (.take 0 .pure <| .call 1 tInt <| .take 2 .pure <| .take 3 .pure .nil)) (.cond (.seq (.region (.take 0 .pure .nil)) (.none)) (.seq (.region (.take 0 .pure <| .take 1 .pure <| .take 2 .pure <| .guard 12 (.take 3 .pure <| .take 4 .pure <| .take 5 (.val tAddr) <| .take 6 .pure <| .take 7 (.get tInt) <| .take 8 .pure <| .take 9 .pure .nil) 19 [13, 14, 15, 16, 17, 18] <| .take 10 .pure .nil)) (.cond (.seq (.region (.take 0 .pure .nil)) (.none)) (.none)))))) (.seq (.region (.take 0 .pure .nil)) (.none)))
def sh28 (p0 : Option Addr) (p1 : Int) (k : Int → Pr) : Pr :=
  CallP Try.prog 18 #[.pointer p0] tInt fun t7 =>
  CondP ((t7 : Int) == 0) (
  k 13) (
  JoinP (S := Bool) (fun b19 => AnyP fun _ =>
  CondP b19 (
  k 2) (
  k 0)) fun J =>
  CondP (decide ((p1 : Int) < 0)) (
  J true) (
  ValP Try.prog (nilN (.pointer p0)) tAddr fun t15 =>
  GetP Try.prog (vN (Instr.loadAt 3 (.pointer (some (Addr.add t15 0))))) tInt fun t17 =>
  J (decide ((p1 : Int) ≥ t17))))
theorem rd28 (p0 : Option Addr) (p1 : Int) (k : Int → Pr) (w : World) (h : sh28 p0 p1 k w) :
    CallP Try.prog 28 #[.pointer p0, .int .i64 p1] tInt k w :=
  CallP.of_eq (c := sa28.on (bodyOf Try.f28)) (S := sh28 p0 p1 k) follows Try.func28 (by kernel_rfl) (by kernel_rfl) (by kernel_rfl) (by kernel_rfl) h

/-- (*memoir.disk.Disk).burnt -/
def sa29 : SA := .seq (.region (.take 0 .pure .nil)) (.seq (.region (.take 0 .pure <| .take 1 (.val tAddr) <| .take 2 .pure <| .take 3 (.get tBool) <| .take 4 .pure <| .guard 7 (.take 5 .pure <| .take 6 (.val tAddr) <| .take 7 .pure <| .take 8 (.get tInt) <| .take 9 .pure <| .take 10 .pure .nil) 13 [8, 9, 10, 11, 12] <| .take 11 .pure .nil)) (.none))
def sh29 (p0 : Option Addr) (k : Bool → Pr) : Pr :=
  ValP Try.prog (nilN (.pointer p0)) tAddr fun t4 =>
  GetP Try.prog (vN (Instr.loadAt 4 (.pointer (some (Addr.add t4 5))))) tBool fun t6 =>
  JoinP (S := Bool) (fun b13 => AnyP fun _ =>
  k b13) fun J =>
  CondP t6 (
  ValP Try.prog (nilN (.pointer p0)) tAddr fun t9 =>
  GetP Try.prog (vN (Instr.loadAt 3 (.pointer (some (Addr.add t9 6))))) tInt fun t11 =>
  J ((t11 : Int) == 0)) (
  J false)
theorem rd29 (p0 : Option Addr) (k : Bool → Pr) (w : World) (h : sh29 p0 k w) :
    CallP Try.prog 29 #[.pointer p0] tBool k w :=
  CallP.of_eq (c := sa29.on (bodyOf Try.f29)) (S := sh29 p0 k) follows Try.func29 (by kernel_rfl) (by kernel_rfl) (by kernel_rfl) (by kernel_rfl) h

/-- memoir.disk.empty -/
def sa30 : SA := .seq (.region (.take 0 .pure .nil)) (.seq (.region (.eff 0 tSl <| .take 1 (.get tStr) <| .take 2 .pure .nil)) (.none))
def sh30  (k : ByteArray → Pr) : Pr :=
  DoP Try.prog (vN (Instr.makeSlice 69 (.int .i64 128) (.int .i64 128))) tSl fun t1 =>
  GetP Try.prog (vN (Go.convert 69 9 (.slice t1.a t1.len t1.cap))) tStr fun t2 =>
  k t2
theorem rd30  (k : ByteArray → Pr) (w : World) (h : sh30  k w) :
    CallP Try.prog 30 #[] tStr k w :=
  CallP.of_eq (c := sa30.on (bodyOf Try.f30)) (S := sh30  k) follows Try.func30 (by kernel_rfl) (by kernel_rfl) (by kernel_rfl) (by kernel_rfl) h

/-- (*memoir.disk.Disk).lay -/
def sa31 : SA := .seq (.region (.eff 0 tAddr .nil)) (.seq (.seq (.draw (.take 0 .pure <| .take 1 (.get tStr) <| .call 2 tStr [1] <| .take 3 .pure .nil)) (.cond (.seq (.draw (.take 0 .pure <| .take 1 (.val tAddr) <| .take 2 .pure <| .take 3 (.get tMap) <| .take 4 .pure <| .take 5 (.get tInt) <| .eff 6 (.tup []) [] .nil)) (.none)) (.none))) (.draw (.take 0 .pure <| .take 1 (.val tAddr) <| .take 2 .pure <| .take 3 (.get tMap) <| .take 4 .pure <| .take 5 (.get tInt) <| .take 6 .pure <| .take 7 (.get tStr) <| .effU 8 [] .nil)))
def sh31 (p0 : Option Addr) (p1 : (Int × ByteArray × Unit)) (k : (Unit) → Pr) : Pr :=
  DoP Try.prog (vN (Instr.box 64 (.agg #[.int .i64 p1.1, .string p1.2.1]))) tAddr fun t3 =>
  DrewP <|
  GetP Try.prog (vN (Instr.loadAt 9 (.pointer (some (Addr.add t3 1))))) tStr fun t5 =>
  CallP Try.prog 30 #[] tStr fun t6 =>
  ChkP Try.prog (vN (Instr.loadAt 9 (.pointer (some (Addr.add t3 1))))) (.string t5) <|
  CondP ((t5.toList == t6.toList)) (
  DrewP <|
  ValP Try.prog (nilN (.pointer p0)) tAddr fun t9 =>
  GetP Try.prog (vN (Instr.loadAt 44 (.pointer (some (Addr.add t9 1))))) tMap fun t11 =>
  GetP Try.prog (vN (Instr.loadAt 3 (.pointer (some (Addr.add t3 0))))) tInt fun t13 =>
  DoP Try.prog (vN (Builtin.delete_ #[44, 3] 0 #[.map t11, .int .i64 t13])) (.tup []) fun u =>
  k ()) (
  DrewP <|
  ValP Try.prog (nilN (.pointer p0)) tAddr fun t15 =>
  GetP Try.prog (vN (Instr.loadAt 44 (.pointer (some (Addr.add t15 1))))) tMap fun t17 =>
  GetP Try.prog (vN (Instr.loadAt 3 (.pointer (some (Addr.add t3 0))))) tInt fun t19 =>
  GetP Try.prog (vN (Instr.loadAt 9 (.pointer (some (Addr.add t3 1))))) tStr fun t21 =>
  DoU Try.prog (uN (Instr.mapUpdate 44 (.map t17) (.int .i64 t19) (.string t21))) <|
  k ())
theorem rd31 (p0 : Option Addr) (p1 : (Int × ByteArray × Unit)) (k : (Unit) → Pr) (w : World) (h : sh31 p0 p1 k w) :
    CallP Try.prog 31 #[.pointer p0, .agg #[.int .i64 p1.1, .string p1.2.1]] (.tup []) k w :=
  CallP.of_eq (c := sa31.on (bodyOf Try.f31)) (S := sh31 p0 p1 k) follows Try.func31 (by kernel_rfl) (by kernel_rfl) (by kernel_rfl) (by kernel_rfl) h

/-- (*memoir.memoirref07.Disk).burnt -/
def sa32 : SA := .seq (.region (.take 0 .pure .nil)) (.seq (.seq (.region (.take 0 .pure <| .take 1 (.val tAddr) <| .take 2 .pure <| .take 3 (.get tBool) <| .take 4 .pure <| .guard 7 (.take 5 .pure <| .take 6 (.val tAddr) <| .take 7 .pure <| .take 8 (.get tInt) <| .take 9 .pure <| .take 10 .pure .nil) 13 [8, 9, 10, 11, 12] .nil)) (.cond (.seq (.region (.take 0 .pure .nil)) (.none)) (.none))) (.seq (.region (.take 0 .pure <| .take 1 .pure <| .take 2 (.val tAddr) <| .take 3 .pure <| .take 4 (.get tInt) <| .take 5 .pure <| .take 6 (.val tAddr) <| .take 7 .pure <| .effU 8 .nil)) (.seq (.region (.take 0 .pure .nil)) (.none))))
def sh32 (p0 : Option Addr) (k : Bool → Pr) : Pr :=
  ValP Try.prog (nilN (.pointer p0)) tAddr fun t4 =>
  GetP Try.prog (vN (Instr.loadAt 4 (.pointer (some (Addr.add t4 4))))) tBool fun t6 =>
  JoinP (S := Bool) (fun b13 => AnyP fun _ =>
  CondP b13 (
  k true) (
  ValP Try.prog (nilN (.pointer p0)) tAddr fun t16 =>
  GetP Try.prog (vN (Instr.loadAt 3 (.pointer (some (Addr.add t16 5))))) tInt fun t18 =>
  ValP Try.prog (nilN (.pointer p0)) tAddr fun t20 =>
  DoU Try.prog (uN (Instr.storeAt 3 (.pointer (some (Addr.add t20 5))) (.int .i64 (IntKind.i64.wrap (t18 - 1))))) <|
  k false)) fun J =>
  CondP t6 (
  ValP Try.prog (nilN (.pointer p0)) tAddr fun t9 =>
  GetP Try.prog (vN (Instr.loadAt 3 (.pointer (some (Addr.add t9 5))))) tInt fun t11 =>
  J ((t11 : Int) == 0)) (
  J false)
theorem rd32 (p0 : Option Addr) (k : Bool → Pr) (w : World) (h : sh32 p0 k w) :
    CallP Try.prog 32 #[.pointer p0] tBool k w :=
  CallP.of_eq (c := sa32.on (bodyOf Try.f32)) (S := sh32 p0 k) follows Try.func32 (by kernel_rfl) (by kernel_rfl) (by kernel_rfl) (by kernel_rfl) h

end Go.Proofs.Ytebicdddbeneoaa
