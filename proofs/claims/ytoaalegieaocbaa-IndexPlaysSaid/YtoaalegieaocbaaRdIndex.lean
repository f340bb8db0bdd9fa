/- The shallow reading of functions, printed by program (gen.py); the kernel compares each with the model's own. -/
import Derived.Test.YtoaalegieaocbaaShC
import Derived.Test.YtoaalegieaocbaaProg
set_option linter.unusedVariables false
namespace Go.Proofs.Ytoaalegieaocbaa
open Go.Sh
theorem follows : Try.prog.follows .mixedOrders = true := by kernel_rfl
/-- memoir.index.New -/
def sa10 : SA := .seq (.region (.take 0 .pure <| .take 1 .pure .nil)) (.seq (.seq (.region (.take 0 .pure <| .take 1 .pure <| .take 2 .pure <| .guard 6 (.take 3 .pure <| .take 4 .pure <| .take 5 .pure .nil) 9 [7, 8] .nil)) (.cond (.seq (.region (.take 0 .pure <| .take 1 .pure .nil)) (.none)) (.none))) (.seq (.region (.take 0 .pure <| .take 1 .pure <| .eff 2 tAddr <| .take 3 .pure <| .take 4 .pure .nil)) (.none)))
def sh10 (p0 : Int) (k : (Option Addr × Int × Unit) → Pr) : Pr :=
  JoinP (S := Bool) (fun b9 => AnyP fun _ =>
  CondP b9 (
  k (none, 1, ())) (
  DoP Try.prog (vN (Instr.box 68 (.agg #[.int .i64 p0, .slice none 0 0]))) tAddr fun t12 =>
  k ((some t12), 0, ()))) fun J =>
  CondP (decide ((p0 : Int) < 2)) (
  J true) (
  J (decide ((p0 : Int) > 100)))
theorem rd10 (p0 : Int) (k : (Option Addr × Int × Unit) → Pr) (w : World) (h : sh10 p0 k w) :
    CallP Try.prog 10 #[.int .i64 p0] (.tup [.leaf .ptr, .leaf (.int .i64)]) k w :=
  CallP.of_eq (c := sa10.on (bodyOf Try.f10)) (S := sh10 p0 k) follows Try.func10 (by kernel_rfl) (by kernel_rfl) (by kernel_rfl) (by kernel_rfl) h

/-- memoir.memoirref13.New -/
def sa11 : SA := .seq (.region (.take 0 .pure <| .take 1 .pure .nil)) (.seq (.seq (.region (.take 0 .pure <| .take 1 .pure <| .take 2 .pure <| .guard 6 (.take 3 .pure <| .take 4 .pure <| .take 5 .pure .nil) 9 [7, 8] .nil)) (.cond (.seq (.region (.take 0 .pure <| .eff 1 tAddr <| .take 2 .pure <| .take 3 .pure .nil)) (.none)) (.none))) (.seq (.region (.take 0 .pure <| .eff 1 tAddr <| .take 2 .pure <| .take 3 .pure .nil)) (.none)))
def sh11 (p0 : Int) (k : (Option Addr × Int × Unit) → Pr) : Pr :=
  JoinP (S := Bool) (fun b9 => AnyP fun _ =>
  CondP b9 (
  DoP Try.prog (vN (Instr.box 55 (.agg #[.slice none 0 0]))) tAddr fun t11 =>
  k ((some t11), 1, ())) (
  DoP Try.prog (vN (Instr.box 55 (.agg #[.slice none 0 0]))) tAddr fun t13 =>
  k ((some t13), 0, ()))) fun J =>
  CondP (decide ((p0 : Int) < 2)) (
  J true) (
  J (decide ((p0 : Int) > 100)))
theorem rd11 (p0 : Int) (k : (Option Addr × Int × Unit) → Pr) (w : World) (h : sh11 p0 k w) :
    CallP Try.prog 11 #[.int .i64 p0] (.tup [.leaf .ptr, .leaf (.int .i64)]) k w :=
  CallP.of_eq (c := sa11.on (bodyOf Try.f11)) (S := sh11 p0 k) follows Try.func11 (by kernel_rfl) (by kernel_rfl) (by kernel_rfl) (by kernel_rfl) h

/-- (*memoir.index.Index).Insert -/
def sa12 : SA := .seq (.region (.eff 0 tAddr <| .take 1 .pure .nil)) (.seq (.block (.seq (.region (.take 0 .pure <| .call 1 tBool <| .take 2 .pure <| .take 3 .pure .nil)) (.cond (.seq (.region (.take 0 .pure .nil)) (.none)) (.seq (.region (.take 0 .pure <| .take 1 (.get tInt) <| .take 2 .pure <| .take 3 .pure <| .guard 16 (.take 4 .pure <| .take 5 (.get tInt) <| .take 6 .pure <| .take 7 (.get tInt) <| .take 8 .pure <| .take 9 .pure .nil) 22 [17, 18, 19, 20, 21] <| .take 10 .pure <| .guard 23 (.take 11 .pure <| .take 12 (.get tInt) <| .take 13 .pure <| .take 14 .pure .nil) 27 [24, 25, 26] <| .take 15 .pure .nil)) (.cond (.seq (.region (.take 0 .pure .nil)) (.none)) (.none)))))) (.seq (.seq (.region (.take 0 .pure <| .take 1 (.val tAddr) <| .take 2 .pure <| .take 3 (.get tSl) <| .take 4 .pure <| .take 5 .pure .nil)) (.cond (.seq (.region (.take 0 .pure <| .take 1 (.get (.one (.agg [.str, .int .i64, .int .i64, .int .i64]))) <| .eff 2 tSl <| .call 3 (.one (.agg [.slice, .int .i64])) <| .eff 4 tSl <| .take 5 (.val tAddr) <| .take 6 .pure <| .effU 7 .nil)) (.seq (.region (.take 0 .pure .nil)) (.none))) (.none))) (.seq (.region (.take 0 .pure <| .take 1 .pure <| .take 2 (.get tStr) <| .take 3 .pure <| .take 4 (.get tInt) <| .take 5 .pure <| .call 6 (.tup [.leaf (.int .i64), .leaf (.int .i64), .leaf .bool]) <| .take 7 .pure <| .take 8 .pure <| .take 9 .pure <| .take 10 .pure <| .take 11 .pure <| .take 12 .pure <| .take 13 .pure .nil)) (.seq (.seq (.region (.take 0 .pure .nil)) (.cond (.seq (.region (.take 0 .pure .nil)) (.none)) (.none))) (.seq (.draw (.take 0 .pure <| .take 1 (.val tAddr) <| .take 2 .pure <| .take 3 (.get tSl) <| .take 4 .pure <| .take 5 .pure <| .take 6 (.val tAddr) <| .take 7 .pure <| .take 8 (.get tSl) <| .take 9 .pure <| .take 10 (.val tAddr) <| .take 11 .pure <| .take 12 (.get tSl) <| .take 13 .pure <| .take 14 (.get (.one (.agg [.str, .int .i64, .int .i64, .int .i64]))) <| .eff 15 tSl [3, 8, 12] <| .call 16 tSl [3, 8] <| .call 17 (.one (.agg [.slice, .int .i64])) [3, 8] <| .take 18 (.val tAddr) <| .effU 19 [] .nil)) (.seq (.region (.take 0 .pure <| .take 1 .pure <| .call 2 (.tup []) .nil)) (.seq (.region (.take 0 .pure .nil)) (.none))))))))
def sh12 (p0 : Option Addr) (p1 : (ByteArray × Int × Int × Int × Unit)) (k : Int → Pr) : Pr :=
  DoP Try.prog (vN (Instr.box 31 (.agg #[.string p1.1, .int .i64 p1.2.1, .int .i64 p1.2.2.1, .int .i64 p1.2.2.2.1]))) tAddr fun t3 =>
  CallP Try.prog 33 #[.pointer p0] tBool fun t10 =>
  CondP (!t10) (
  k 13) (
  GetP Try.prog (vN (Instr.loadAt 3 (.pointer (some (Addr.add t3 1))))) tInt fun t14 =>
  JoinP (S := Bool) (fun b22 => AnyP fun _ =>
  JoinP (S := Bool) (fun b27 => AnyP fun _ =>
  CondP b27 (
  k 1) (
  ValP Try.prog (nilN (.pointer p0)) tAddr fun t29 =>
  GetP Try.prog (vN (Instr.loadAt 66 (.pointer (some (Addr.add t29 1))))) tSl fun t31 =>
  CondP ((t31.len : Int) == 0) (
  GetP Try.prog (vN (Instr.loadAt 31 (.pointer (some t3)))) (.one (.agg [.str, .int .i64, .int .i64, .int .i64])) fun t35 =>
  DoP Try.prog (vN (Instr.buildSlice 72 1 #[(0, .agg #[.string t35.1, .int .i64 t35.2.1, .int .i64 t35.2.2.1, .int .i64 t35.2.2.2.1])])) tSl fun t36 =>
  CallP Try.prog 34 #[.slice t36.a t36.len t36.cap] (.one (.agg [.slice, .int .i64])) fun t37 =>
  DoP Try.prog (vN (Instr.buildSlice 66 1 #[(0, .agg #[.slice t37.1.a t37.1.len t37.1.cap, .int .i64 t37.2.1])])) tSl fun t38 =>
  ValP Try.prog (nilN (.pointer p0)) tAddr fun t39 =>
  DoU Try.prog (uN (Instr.storeAt 66 (.pointer (some (Addr.add t39 1))) (.slice t38.a t38.len t38.cap))) <|
  k 0) (
  GetP Try.prog (vN (Instr.loadAt 9 (.pointer (some (Addr.add t3 0))))) tStr fun t44 =>
  GetP Try.prog (vN (Instr.loadAt 3 (.pointer (some (Addr.add t3 1))))) tInt fun t46 =>
  CallP Try.prog 35 #[.pointer p0, .agg #[.string t44, .int .i64 t46]] (.tup [.leaf (.int .i64), .leaf (.int .i64), .leaf .bool]) fun t48 =>
  CondP t48.2.2.1 (
  k 5) (
  DrewP <|
  ValP Try.prog (nilN (.pointer p0)) tAddr fun t54 =>
  GetP Try.prog (vN (Instr.loadAt 66 (.pointer (some (Addr.add t54 1))))) tSl fun t56 =>
  ValP Try.prog (nilN (.pointer p0)) tAddr fun t59 =>
  GetP Try.prog (vN (Instr.loadAt 66 (.pointer (some (Addr.add t59 1))))) tSl fun t61 =>
  ValP Try.prog (vN (Instr.indexAt 66 (.slice t61.a t61.len t61.cap) (.int .i64 t48.1))) tAddr fun t63 =>
  GetP Try.prog (vN (Instr.loadAt 72 (.pointer (some (Addr.add t63 0))))) tSl fun t65 =>
  GetP Try.prog (vN (Instr.loadAt 31 (.pointer (some t3)))) (.one (.agg [.str, .int .i64, .int .i64, .int .i64])) fun t67 =>
  DoP Try.prog (vN (Instr.buildSlice 42 1 #[(0, .agg #[.string t67.1, .int .i64 t67.2.1, .int .i64 t67.2.2.1, .int .i64 t67.2.2.2.1])])) tSl fun t68 =>
  ChkP Try.prog (vN (Instr.loadAt 66 (.pointer (some (Addr.add t54 1))))) (.slice t56.a t56.len t56.cap) <|
  ChkP Try.prog (vN (Instr.loadAt 66 (.pointer (some (Addr.add t59 1))))) (.slice t61.a t61.len t61.cap) <|
  ChkP Try.prog (vN (Instr.loadAt 72 (.pointer (some (Addr.add t63 0))))) (.slice t65.a t65.len t65.cap) <|
  CallP Try.prog 36 #[.slice t65.a t65.len t65.cap, .int .i64 t48.2.1, .slice t68.a t68.len t68.cap] tSl fun t69 =>
  ChkP Try.prog (vN (Instr.loadAt 66 (.pointer (some (Addr.add t54 1))))) (.slice t56.a t56.len t56.cap) <|
  ChkP Try.prog (vN (Instr.loadAt 66 (.pointer (some (Addr.add t59 1))))) (.slice t61.a t61.len t61.cap) <|
  CallP Try.prog 34 #[.slice t69.a t69.len t69.cap] (.one (.agg [.slice, .int .i64])) fun t70 =>
  ChkP Try.prog (vN (Instr.loadAt 66 (.pointer (some (Addr.add t54 1))))) (.slice t56.a t56.len t56.cap) <|
  ChkP Try.prog (vN (Instr.loadAt 66 (.pointer (some (Addr.add t59 1))))) (.slice t61.a t61.len t61.cap) <|
  ValP Try.prog (vN (Instr.indexAt 66 (.slice t56.a t56.len t56.cap) (.int .i64 t48.1))) tAddr fun t71 =>
  DoU Try.prog (uN (Instr.storeAt 74 (.pointer (some t71)) (.agg #[.slice t70.1.a t70.1.len t70.1.cap, .int .i64 t70.2.1]))) <|
  CallP Try.prog 37 #[.pointer p0, .int .i64 t48.1] (.tup []) fun t74 =>
  k 0)))) fun J_2 =>
  CondP b22 (
  J_2 true) (
  GetP Try.prog (vN (Instr.loadAt 3 (.pointer (some (Addr.add t3 2))))) tInt fun t25 =>
  J_2 (decide ((t25 : Int) > 1099511627776)))) fun J =>
  CondP (decide ((t14 : Int) < 0)) (
  J true) (
  GetP Try.prog (vN (Instr.loadAt 3 (.pointer (some (Addr.add t3 2))))) tInt fun t18 =>
  GetP Try.prog (vN (Instr.loadAt 3 (.pointer (some (Addr.add t3 1))))) tInt fun t20 =>
  J (decide ((t18 : Int) ≤ t20))))
theorem rd12 (p0 : Option Addr) (p1 : (ByteArray × Int × Int × Int × Unit)) (k : Int → Pr) (w : World) (h : sh12 p0 p1 k w) :
    CallP Try.prog 12 #[.pointer p0, .agg #[.string p1.1, .int .i64 p1.2.1, .int .i64 p1.2.2.1, .int .i64 p1.2.2.2.1]] tInt k w :=
  CallP.of_eq (c := sa12.on (bodyOf Try.f12)) (S := sh12 p0 p1 k) follows Try.func12 (by kernel_rfl) (by kernel_rfl) (by kernel_rfl) (by kernel_rfl) h

/-- (*memoir.memoirref13.Index).Insert -/
def sa13 : SA := .seq (.region (.eff 0 tAddr <| .take 1 .pure .nil)) (.seq (.seq (.region (.take 0 .pure <| .take 1 (.get tInt) <| .take 2 .pure <| .take 3 .pure <| .guard 11 (.take 4 .pure <| .take 5 (.get tInt) <| .take 6 .pure <| .take 7 (.get tInt) <| .take 8 .pure <| .take 9 .pure .nil) 17 [12, 13, 14, 15, 16] <| .take 10 .pure <| .guard 18 (.take 11 .pure <| .take 12 (.get tInt) <| .take 13 .pure <| .take 14 .pure .nil) 22 [19, 20, 21] .nil)) (.cond (.seq (.region (.take 0 .pure .nil)) (.none)) (.none))) (.seq (.region (.take 0 .pure <| .take 1 .pure <| .take 2 (.get tStr) <| .take 3 .pure <| .take 4 (.get tInt) <| .call 5 (.tup [.leaf (.int .i64), .leaf .bool]) <| .take 6 .pure <| .take 7 .pure <| .take 8 .pure <| .take 9 .pure <| .take 10 .pure .nil)) (.seq (.seq (.region (.take 0 .pure .nil)) (.cond (.seq (.region (.take 0 .pure .nil)) (.none)) (.none))) (.seq (.region (.take 0 .pure .nil)) (.seq (.region (.take 0 .pure <| .take 1 .pure <| .take 2 (.val tAddr) <| .take 3 .pure <| .take 4 (.get tSl) <| .take 5 .pure <| .take 6 (.val tSl) <| .eff 7 tSl <| .take 8 .pure .nil)) (.seq (.region (.take 0 .pure <| .take 1 (.get (.one (.agg [.str, .int .i64, .int .i64, .int .i64]))) <| .eff 2 tSl <| .eff 3 tSl <| .take 4 .pure .nil)) (.seq (.region (.take 0 .pure <| .take 1 .pure <| .take 2 (.val tAddr) <| .take 3 .pure <| .take 4 (.get tSl) <| .take 5 .pure <| .take 6 (.val tSl) <| .eff 7 tSl <| .take 8 .pure .nil)) (.seq (.region (.take 0 .pure <| .take 1 .pure <| .take 2 (.val tAddr) <| .take 3 .pure <| .effU 4 .nil)) (.seq (.region (.take 0 .pure .nil)) (.none))))))))))
def sh13 (p0 : Option Addr) (p1 : (ByteArray × Int × Int × Int × Unit)) (k : Int → Pr) : Pr :=
  DoP Try.prog (vN (Instr.box 36 (.agg #[.string p1.1, .int .i64 p1.2.1, .int .i64 p1.2.2.1, .int .i64 p1.2.2.2.1]))) tAddr fun t3 =>
  GetP Try.prog (vN (Instr.loadAt 3 (.pointer (some (Addr.add t3 1))))) tInt fun t9 =>
  JoinP (S := Bool) (fun b17 => AnyP fun _ =>
  JoinP (S := Bool) (fun b22 => AnyP fun _ =>
  CondP b22 (
  k 1) (
  GetP Try.prog (vN (Instr.loadAt 9 (.pointer (some (Addr.add t3 0))))) tStr fun t26 =>
  GetP Try.prog (vN (Instr.loadAt 3 (.pointer (some (Addr.add t3 1))))) tInt fun t28 =>
  CallP Try.prog 38 #[.pointer p0, .string t26, .int .i64 t28] (.tup [.leaf (.int .i64), .leaf .bool]) fun t29 =>
  CondP t29.2.1 (
  k 5) (
  ValP Try.prog (nilN (.pointer p0)) tAddr fun t35 =>
  GetP Try.prog (vN (Instr.loadAt 40 (.pointer (some (Addr.add t35 0))))) tSl fun t37 =>
  ValP Try.prog (vN (Instr.sliceAt 40 (.slice t37.a t37.len t37.cap) none (some (.int .i64 t29.1)) none)) tSl fun t39 =>
  DoP Try.prog (vN (Builtin.append_ #[40, 40] 40 #[.slice none 0 0, .slice t39.a t39.len t39.cap])) tSl fun t40 =>
  GetP Try.prog (vN (Instr.loadAt 36 (.pointer (some t3)))) (.one (.agg [.str, .int .i64, .int .i64, .int .i64])) fun t42 =>
  DoP Try.prog (vN (Instr.buildSlice 40 1 #[(0, .agg #[.string t42.1, .int .i64 t42.2.1, .int .i64 t42.2.2.1, .int .i64 t42.2.2.2.1])])) tSl fun t43 =>
  DoP Try.prog (vN (Builtin.append_ #[40, 40] 40 #[.slice t40.a t40.len t40.cap, .slice t43.a t43.len t43.cap])) tSl fun t44 =>
  ValP Try.prog (nilN (.pointer p0)) tAddr fun t47 =>
  GetP Try.prog (vN (Instr.loadAt 40 (.pointer (some (Addr.add t47 0))))) tSl fun t49 =>
  ValP Try.prog (vN (Instr.sliceAt 40 (.slice t49.a t49.len t49.cap) (some (.int .i64 t29.1)) none none)) tSl fun t51 =>
  DoP Try.prog (vN (Builtin.append_ #[40, 40] 40 #[.slice t44.a t44.len t44.cap, .slice t51.a t51.len t51.cap])) tSl fun t52 =>
  ValP Try.prog (nilN (.pointer p0)) tAddr fun t55 =>
  DoU Try.prog (uN (Instr.storeAt 40 (.pointer (some (Addr.add t55 0))) (.slice t52.a t52.len t52.cap))) <|
  k 0))) fun J_2 =>
  CondP b17 (
  J_2 true) (
  GetP Try.prog (vN (Instr.loadAt 3 (.pointer (some (Addr.add t3 2))))) tInt fun t20 =>
  J_2 (decide ((t20 : Int) > 1099511627776)))) fun J =>
  CondP (decide ((t9 : Int) < 0)) (
  J true) (
  GetP Try.prog (vN (Instr.loadAt 3 (.pointer (some (Addr.add t3 2))))) tInt fun t13 =>
  GetP Try.prog (vN (Instr.loadAt 3 (.pointer (some (Addr.add t3 1))))) tInt fun t15 =>
  J (decide ((t13 : Int) ≤ t15)))
theorem rd13 (p0 : Option Addr) (p1 : (ByteArray × Int × Int × Int × Unit)) (k : Int → Pr) (w : World) (h : sh13 p0 p1 k w) :
    CallP Try.prog 13 #[.pointer p0, .agg #[.string p1.1, .int .i64 p1.2.1, .int .i64 p1.2.2.1, .int .i64 p1.2.2.2.1]] tInt k w :=
  CallP.of_eq (c := sa13.on (bodyOf Try.f13)) (S := sh13 p0 p1 k) follows Try.func13 (by kernel_rfl) (by kernel_rfl) (by kernel_rfl) (by kernel_rfl) h

/-- (*memoir.index.Index).Close -/
def sa14 : SA := .seq (.region (.take 0 .pure .nil)) (.seq (.region (.take 0 .pure <| .take 1 .pure <| .take 2 .pure <| .call 3 (.tup [.agg [.str, .int .i64, .int .i64, .int .i64], .leaf (.int .i64)]) <| .take 4 .pure <| .take 5 .pure <| .take 6 .pure <| .eff 7 tAddr <| .effU 8 <| .take 9 .pure .nil)) (.seq (.block (.seq (.region (.take 0 .pure <| .take 1 .pure <| .take 2 .pure .nil)) (.cond (.seq (.region (.take 0 .pure <| .take 1 .pure .nil)) (.none)) (.seq (.region (.take 0 .pure <| .take 1 (.get tInt) <| .take 2 .pure <| .take 3 .pure .nil)) (.cond (.seq (.region (.take 0 .pure .nil)) (.none)) (.seq (.region (.take 0 .pure <| .take 1 .pure <| .take 2 .pure <| .take 3 .pure <| .guard 33 (.take 4 .pure <| .take 5 .pure <| .take 6 .pure .nil) 36 [34, 35] <| .take 7 .pure .nil)) (.cond (.seq (.region (.take 0 .pure .nil)) (.none)) (.none)))))))) (.seq (.region (.take 0 .pure <| .take 1 .pure <| .take 2 .pure <| .take 3 .pure <| .call 4 (.tup [.leaf (.int .i64), .leaf (.int .i64), .leaf .bool]) <| .take 5 .pure <| .take 6 .pure <| .take 7 .pure <| .take 8 .pure <| .take 9 .pure <| .take 10 .pure <| .take 11 .pure .nil)) (.seq (.region (.take 0 .pure <| .take 1 .pure <| .effU 2 .nil)) (.seq (.draw (.take 0 .pure <| .take 1 (.val tAddr) <| .take 2 .pure <| .take 3 (.get tSl) <| .take 4 .pure <| .take 5 .pure <| .take 6 (.val tAddr) <| .take 7 .pure <| .take 8 (.get tSl) <| .take 9 .pure <| .take 10 (.val tAddr) <| .take 11 .pure <| .take 12 (.get tSl) <| .take 13 .pure <| .take 15 .pure <| .take 16 (.get (.one (.agg [.str, .int .i64, .int .i64, .int .i64]))) <| .alt (.call 14 tSl [3, 8, 16] <| .eff 17 tSl [3, 8] <| .call 18 tSl [3, 8] <| .call 19 (.one (.agg [.slice, .int .i64])) [3, 8] <| .take 20 (.val tAddr) <| .effU 21 [] .nil) (.eff 17 tSl [3, 8, 12] <| .call 14 tSl [3, 8] <| .call 18 tSl [3, 8] <| .call 19 (.one (.agg [.slice, .int .i64])) [3, 8] <| .take 20 (.val tAddr) <| .effU 21 [] .nil))) (.seq (.region (.take 0 .pure .nil)) (.none)))))))
def sh14 (p0 : Option Addr) (p1 : ByteArray) (p2 : Int) (p3 : Int) (k : Int → Pr) : Pr :=
  CallP Try.prog 24 #[.pointer p0, .string p1, .int .i64 p2] (.tup [.agg [.str, .int .i64, .int .i64, .int .i64], .leaf (.int .i64)]) fun t18 =>
  DoP Try.prog (vN (Instr.alloc 31 true (.tuple #[]))) tAddr fun t9 =>
  DoU Try.prog (uN (Instr.storeAt 31 (.pointer (some t9)) (.agg #[.string t18.1.1, .int .i64 t18.1.2.1, .int .i64 t18.1.2.2.1, .int .i64 t18.1.2.2.2.1]))) <|
  CondP ((t18.2.1 : Int) != 0) (
  k t18.2.1) (
  GetP Try.prog (vN (Instr.loadAt 3 (.pointer (some (Addr.add t9 2))))) tInt fun t27 =>
  CondP ((t27 : Int) != 1099511627776) (
  k 6) (
  JoinP (S := Bool) (fun b36 => AnyP fun _ =>
  CondP b36 (
  k 1) (
  CallP Try.prog 35 #[.pointer p0, .agg #[.string p1, .int .i64 p2]] (.tup [.leaf (.int .i64), .leaf (.int .i64), .leaf .bool]) fun t42 =>
  DoU Try.prog (uN (Instr.storeAt 3 (.pointer (some (Addr.add t9 2))) (.int .i64 p3))) <|
  DrewP <|
  ValP Try.prog (nilN (.pointer p0)) tAddr fun t49 =>
  GetP Try.prog (vN (Instr.loadAt 66 (.pointer (some (Addr.add t49 1))))) tSl fun t51 =>
  ValP Try.prog (nilN (.pointer p0)) tAddr fun t54 =>
  GetP Try.prog (vN (Instr.loadAt 66 (.pointer (some (Addr.add t54 1))))) tSl fun t56 =>
  ValP Try.prog (vN (Instr.indexAt 66 (.slice t56.a t56.len t56.cap) (.int .i64 t42.1))) tAddr fun t58 =>
  GetP Try.prog (vN (Instr.loadAt 72 (.pointer (some (Addr.add t58 0))))) tSl fun t60 =>
  GetP Try.prog (vN (Instr.loadAt 31 (.pointer (some t9)))) (.one (.agg [.str, .int .i64, .int .i64, .int .i64])) fun t64 =>
  BothP (
  CallP Try.prog 39 #[.slice t60.a t60.len t60.cap, .int .i64 t42.2.1, .int .i64 1] tSl fun t62 =>
  ChkP Try.prog (vN (Instr.loadAt 66 (.pointer (some (Addr.add t49 1))))) (.slice t51.a t51.len t51.cap) <|
  ChkP Try.prog (vN (Instr.loadAt 66 (.pointer (some (Addr.add t54 1))))) (.slice t56.a t56.len t56.cap) <|
  ChkP Try.prog (vN (Instr.loadAt 31 (.pointer (some t9)))) (.agg #[.string t64.1, .int .i64 t64.2.1, .int .i64 t64.2.2.1, .int .i64 t64.2.2.2.1]) <|
  DoP Try.prog (vN (Instr.buildSlice 42 1 #[(0, .agg #[.string t64.1, .int .i64 t64.2.1, .int .i64 t64.2.2.1, .int .i64 t64.2.2.2.1])])) tSl fun t65 =>
  ChkP Try.prog (vN (Instr.loadAt 66 (.pointer (some (Addr.add t49 1))))) (.slice t51.a t51.len t51.cap) <|
  ChkP Try.prog (vN (Instr.loadAt 66 (.pointer (some (Addr.add t54 1))))) (.slice t56.a t56.len t56.cap) <|
  CallP Try.prog 36 #[.slice t62.a t62.len t62.cap, .int .i64 t42.2.1, .slice t65.a t65.len t65.cap] tSl fun t66 =>
  ChkP Try.prog (vN (Instr.loadAt 66 (.pointer (some (Addr.add t49 1))))) (.slice t51.a t51.len t51.cap) <|
  ChkP Try.prog (vN (Instr.loadAt 66 (.pointer (some (Addr.add t54 1))))) (.slice t56.a t56.len t56.cap) <|
  CallP Try.prog 34 #[.slice t66.a t66.len t66.cap] (.one (.agg [.slice, .int .i64])) fun t67 =>
  ChkP Try.prog (vN (Instr.loadAt 66 (.pointer (some (Addr.add t49 1))))) (.slice t51.a t51.len t51.cap) <|
  ChkP Try.prog (vN (Instr.loadAt 66 (.pointer (some (Addr.add t54 1))))) (.slice t56.a t56.len t56.cap) <|
  ValP Try.prog (vN (Instr.indexAt 66 (.slice t51.a t51.len t51.cap) (.int .i64 t42.1))) tAddr fun t68 =>
  DoU Try.prog (uN (Instr.storeAt 74 (.pointer (some t68)) (.agg #[.slice t67.1.a t67.1.len t67.1.cap, .int .i64 t67.2.1]))) <|
  k 0) (
  DoP Try.prog (vN (Instr.buildSlice 42 1 #[(0, .agg #[.string t64.1, .int .i64 t64.2.1, .int .i64 t64.2.2.1, .int .i64 t64.2.2.2.1])])) tSl fun t65_2 =>
  ChkP Try.prog (vN (Instr.loadAt 66 (.pointer (some (Addr.add t49 1))))) (.slice t51.a t51.len t51.cap) <|
  ChkP Try.prog (vN (Instr.loadAt 66 (.pointer (some (Addr.add t54 1))))) (.slice t56.a t56.len t56.cap) <|
  ChkP Try.prog (vN (Instr.loadAt 72 (.pointer (some (Addr.add t58 0))))) (.slice t60.a t60.len t60.cap) <|
  CallP Try.prog 39 #[.slice t60.a t60.len t60.cap, .int .i64 t42.2.1, .int .i64 1] tSl fun t62_2 =>
  ChkP Try.prog (vN (Instr.loadAt 66 (.pointer (some (Addr.add t49 1))))) (.slice t51.a t51.len t51.cap) <|
  ChkP Try.prog (vN (Instr.loadAt 66 (.pointer (some (Addr.add t54 1))))) (.slice t56.a t56.len t56.cap) <|
  CallP Try.prog 36 #[.slice t62_2.a t62_2.len t62_2.cap, .int .i64 t42.2.1, .slice t65_2.a t65_2.len t65_2.cap] tSl fun t66_2 =>
  ChkP Try.prog (vN (Instr.loadAt 66 (.pointer (some (Addr.add t49 1))))) (.slice t51.a t51.len t51.cap) <|
  ChkP Try.prog (vN (Instr.loadAt 66 (.pointer (some (Addr.add t54 1))))) (.slice t56.a t56.len t56.cap) <|
  CallP Try.prog 34 #[.slice t66_2.a t66_2.len t66_2.cap] (.one (.agg [.slice, .int .i64])) fun t67_2 =>
  ChkP Try.prog (vN (Instr.loadAt 66 (.pointer (some (Addr.add t49 1))))) (.slice t51.a t51.len t51.cap) <|
  ChkP Try.prog (vN (Instr.loadAt 66 (.pointer (some (Addr.add t54 1))))) (.slice t56.a t56.len t56.cap) <|
  ValP Try.prog (vN (Instr.indexAt 66 (.slice t51.a t51.len t51.cap) (.int .i64 t42.1))) tAddr fun t68_2 =>
  DoU Try.prog (uN (Instr.storeAt 74 (.pointer (some t68_2)) (.agg #[.slice t67_2.1.a t67_2.1.len t67_2.1.cap, .int .i64 t67_2.2.1]))) <|
  k 0))) fun J =>
  CondP (decide ((p3 : Int) ≤ p2)) (
  J true) (
  J (decide ((p3 : Int) ≥ 1099511627776)))))
theorem rd14 (p0 : Option Addr) (p1 : ByteArray) (p2 : Int) (p3 : Int) (k : Int → Pr) (w : World) (h : sh14 p0 p1 p2 p3 k w) :
    CallP Try.prog 14 #[.pointer p0, .string p1, .int .i64 p2, .int .i64 p3] tInt k w :=
  CallP.of_eq (c := sa14.on (bodyOf Try.f14)) (S := sh14 p0 p1 p2 p3 k) follows Try.func14 (by kernel_rfl) (by kernel_rfl) (by kernel_rfl) (by kernel_rfl) h

/-- (*memoir.memoirref13.Index).Close -/
def sa15 : SA := .seq (.region (.take 0 .pure .nil)) (.seq (.region (.take 0 .pure <| .take 1 .pure <| .take 2 .pure <| .call 3 (.tup [.leaf (.int .i64), .leaf .bool]) <| .take 4 .pure <| .take 5 .pure <| .take 6 .pure <| .take 7 .pure <| .take 8 .pure .nil)) (.seq (.seq (.region (.take 0 .pure <| .take 1 .pure .nil)) (.cond (.seq (.region (.take 0 .pure .nil)) (.none)) (.none))) (.seq (.seq (.region (.take 0 .pure <| .take 1 (.val tAddr) <| .take 2 .pure <| .take 3 (.get tSl) <| .take 4 .pure <| .take 5 (.val tAddr) <| .take 6 .pure <| .take 7 (.get tInt) <| .take 8 .pure .nil)) (.cond (.seq (.region (.take 0 .pure .nil)) (.none)) (.none))) (.seq (.seq (.region (.take 0 .pure <| .take 1 .pure <| .take 2 .pure <| .take 3 .pure <| .guard 32 (.take 4 .pure <| .take 5 .pure <| .take 6 .pure .nil) 35 [33, 34] .nil)) (.cond (.seq (.region (.take 0 .pure .nil)) (.none)) (.none))) (.seq (.region (.take 0 .pure <| .take 1 (.val tAddr) <| .take 2 .pure <| .take 3 (.get tSl) <| .take 4 .pure <| .take 5 .pure <| .take 6 (.val tAddr) <| .take 7 .pure <| .effU 8 .nil)) (.seq (.region (.take 0 .pure .nil)) (.none)))))))
def sh15 (p0 : Option Addr) (p1 : ByteArray) (p2 : Int) (p3 : Int) (k : Int → Pr) : Pr :=
  CallP Try.prog 38 #[.pointer p0, .string p1, .int .i64 p2] (.tup [.leaf (.int .i64), .leaf .bool]) fun t15 =>
  CondP (!t15.2.1) (
  k 4) (
  ValP Try.prog (nilN (.pointer p0)) tAddr fun t21 =>
  GetP Try.prog (vN (Instr.loadAt 40 (.pointer (some (Addr.add t21 0))))) tSl fun t23 =>
  ValP Try.prog (vN (Instr.indexAt 40 (.slice t23.a t23.len t23.cap) (.int .i64 t15.1))) tAddr fun t25 =>
  GetP Try.prog (vN (Instr.loadAt 3 (.pointer (some (Addr.add t25 2))))) tInt fun t27 =>
  CondP ((t27 : Int) != 1099511627776) (
  k 6) (
  JoinP (S := Bool) (fun b35 => AnyP fun _ =>
  CondP b35 (
  k 1) (
  ValP Try.prog (nilN (.pointer p0)) tAddr fun t37 =>
  GetP Try.prog (vN (Instr.loadAt 40 (.pointer (some (Addr.add t37 0))))) tSl fun t39 =>
  ValP Try.prog (vN (Instr.indexAt 40 (.slice t39.a t39.len t39.cap) (.int .i64 t15.1))) tAddr fun t42 =>
  DoU Try.prog (uN (Instr.storeAt 3 (.pointer (some (Addr.add t42 2))) (.int .i64 p3))) <|
  k 0)) fun J =>
  CondP (decide ((p3 : Int) ≤ p2)) (
  J true) (
  J (decide ((p3 : Int) ≥ 1099511627776)))))
theorem rd15 (p0 : Option Addr) (p1 : ByteArray) (p2 : Int) (p3 : Int) (k : Int → Pr) (w : World) (h : sh15 p0 p1 p2 p3 k w) :
    CallP Try.prog 15 #[.pointer p0, .string p1, .int .i64 p2, .int .i64 p3] tInt k w :=
  CallP.of_eq (c := sa15.on (bodyOf Try.f15)) (S := sh15 p0 p1 p2 p3 k) follows Try.func15 (by kernel_rfl) (by kernel_rfl) (by kernel_rfl) (by kernel_rfl) h

/-- (*memoir.index.Index).Delete -/
def sa16 : SA := .seq (.region (.take 0 .pure .nil)) (.seq (.seq (.region (.take 0 .pure <| .take 1 .pure <| .take 2 .pure <| .call 3 (.tup [.agg [.str, .int .i64, .int .i64, .int .i64], .leaf (.int .i64)]) <| .take 4 .pure <| .take 5 .pure <| .take 6 .pure <| .eff 7 tAddr <| .effU 8 <| .take 9 .pure .nil)) (.seq (.region (.take 0 .pure <| .take 1 .pure .nil)) (.cond (.seq (.region (.take 0 .pure <| .take 1 .pure .nil)) (.none)) (.none)))) (.seq (.region (.take 0 .pure <| .take 1 .pure <| .take 2 .pure <| .take 3 .pure <| .call 4 (.tup [.leaf (.int .i64), .leaf (.int .i64), .leaf .bool]) <| .take 5 .pure <| .take 6 .pure <| .take 7 .pure <| .take 8 .pure <| .take 9 .pure <| .take 10 .pure <| .take 11 .pure .nil)) (.seq (.region (.take 0 .pure <| .take 1 (.val tAddr) <| .take 2 .pure <| .take 3 (.get tSl) <| .take 4 .pure <| .take 5 (.val tAddr) <| .take 6 .pure <| .take 7 (.get tSl) <| .take 8 .pure <| .call 9 tSl <| .take 10 .pure .nil)) (.seq (.seq (.region (.take 0 .pure <| .take 1 .pure <| .take 2 .pure .nil)) (.cond (.seq (.region (.take 0 .pure <| .take 1 .pure <| .take 2 (.val tAddr) <| .take 3 .pure <| .take 4 (.get tSl) <| .take 5 .pure <| .call 6 tSl <| .take 7 (.val tAddr) <| .take 8 .pure <| .effU 9 .nil)) (.seq (.region (.take 0 .pure <| .take 1 .pure <| .take 2 .pure <| .call 3 (.tup []) .nil)) (.seq (.region (.take 0 .pure .nil)) (.none)))) (.none))) (.seq (.draw (.take 0 .pure <| .take 1 (.val tAddr) <| .take 2 .pure <| .take 3 (.get tSl) <| .take 4 .pure <| .take 5 .pure <| .call 6 (.one (.agg [.slice, .int .i64])) [3] <| .take 7 (.val tAddr) <| .effU 8 [] .nil)) (.seq (.region (.take 0 .pure <| .take 1 .pure <| .call 2 (.tup []) .nil)) (.seq (.region (.take 0 .pure <| .take 1 .pure <| .take 2 .pure <| .call 3 (.tup []) .nil)) (.seq (.region (.take 0 .pure .nil)) (.none)))))))))
def sh16 (p0 : Option Addr) (p1 : ByteArray) (p2 : Int) (k : Int → Pr) : Pr :=
  CallP Try.prog 24 #[.pointer p0, .string p1, .int .i64 p2] (.tup [.agg [.str, .int .i64, .int .i64, .int .i64], .leaf (.int .i64)]) fun t17 =>
  DoP Try.prog (vN (Instr.alloc 31 true (.tuple #[]))) tAddr fun t7 =>
  DoU Try.prog (uN (Instr.storeAt 31 (.pointer (some t7)) (.agg #[.string t17.1.1, .int .i64 t17.1.2.1, .int .i64 t17.1.2.2.1, .int .i64 t17.1.2.2.2.1]))) <|
  CondP ((t17.2.1 : Int) != 0) (
  k t17.2.1) (
  CallP Try.prog 35 #[.pointer p0, .agg #[.string p1, .int .i64 p2]] (.tup [.leaf (.int .i64), .leaf (.int .i64), .leaf .bool]) fun t28 =>
  ValP Try.prog (nilN (.pointer p0)) tAddr fun t33 =>
  GetP Try.prog (vN (Instr.loadAt 66 (.pointer (some (Addr.add t33 1))))) tSl fun t35 =>
  ValP Try.prog (vN (Instr.indexAt 66 (.slice t35.a t35.len t35.cap) (.int .i64 t28.1))) tAddr fun t37 =>
  GetP Try.prog (vN (Instr.loadAt 72 (.pointer (some (Addr.add t37 0))))) tSl fun t39 =>
  CallP Try.prog 39 #[.slice t39.a t39.len t39.cap, .int .i64 t28.2.1, .int .i64 1] tSl fun t41 =>
  CondP ((t41.len : Int) == 0) (
  ValP Try.prog (nilN (.pointer p0)) tAddr fun t47 =>
  GetP Try.prog (vN (Instr.loadAt 66 (.pointer (some (Addr.add t47 1))))) tSl fun t49 =>
  CallP Try.prog 40 #[.slice t49.a t49.len t49.cap, .int .i64 t28.1, .int .i64 1] tSl fun t51 =>
  ValP Try.prog (nilN (.pointer p0)) tAddr fun t52 =>
  DoU Try.prog (uN (Instr.storeAt 66 (.pointer (some (Addr.add t52 1))) (.slice t51.a t51.len t51.cap))) <|
  CallP Try.prog 41 #[.pointer p0, .int .i64 (IntKind.i64.wrap (t28.1 - 1))] (.tup []) fun t57 =>
  k 0) (
  DrewP <|
  ValP Try.prog (nilN (.pointer p0)) tAddr fun t59 =>
  GetP Try.prog (vN (Instr.loadAt 66 (.pointer (some (Addr.add t59 1))))) tSl fun t61 =>
  CallP Try.prog 34 #[.slice t41.a t41.len t41.cap] (.one (.agg [.slice, .int .i64])) fun t64 =>
  ChkP Try.prog (vN (Instr.loadAt 66 (.pointer (some (Addr.add t59 1))))) (.slice t61.a t61.len t61.cap) <|
  ValP Try.prog (vN (Instr.indexAt 66 (.slice t61.a t61.len t61.cap) (.int .i64 t28.1))) tAddr fun t65 =>
  DoU Try.prog (uN (Instr.storeAt 74 (.pointer (some t65)) (.agg #[.slice t64.1.a t64.1.len t64.1.cap, .int .i64 t64.2.1]))) <|
  CallP Try.prog 41 #[.pointer p0, .int .i64 t28.1] (.tup []) fun t68 =>
  CallP Try.prog 41 #[.pointer p0, .int .i64 (IntKind.i64.wrap (t28.1 - 1))] (.tup []) fun t72 =>
  k 0))
theorem rd16 (p0 : Option Addr) (p1 : ByteArray) (p2 : Int) (k : Int → Pr) (w : World) (h : sh16 p0 p1 p2 k w) :
    CallP Try.prog 16 #[.pointer p0, .string p1, .int .i64 p2] tInt k w :=
  CallP.of_eq (c := sa16.on (bodyOf Try.f16)) (S := sh16 p0 p1 p2 k) follows Try.func16 (by kernel_rfl) (by kernel_rfl) (by kernel_rfl) (by kernel_rfl) h

/-- (*memoir.memoirref13.Index).Delete -/
def sa17 : SA := .seq (.region (.take 0 .pure .nil)) (.seq (.region (.take 0 .pure <| .take 1 .pure <| .take 2 .pure <| .call 3 (.tup [.leaf (.int .i64), .leaf .bool]) <| .take 4 .pure <| .take 5 .pure <| .take 6 .pure <| .take 7 .pure <| .take 8 .pure .nil)) (.seq (.seq (.region (.take 0 .pure <| .take 1 .pure .nil)) (.cond (.seq (.region (.take 0 .pure .nil)) (.none)) (.none))) (.seq (.region (.take 0 .pure .nil)) (.seq (.region (.take 0 .pure <| .take 1 .pure <| .take 2 (.val tAddr) <| .take 3 .pure <| .take 4 (.get tSl) <| .take 5 .pure <| .take 6 (.val tSl) <| .eff 7 tSl <| .take 8 .pure .nil)) (.seq (.region (.take 0 .pure <| .take 1 .pure <| .take 2 (.val tAddr) <| .take 3 .pure <| .take 4 (.get tSl) <| .take 5 .pure <| .take 6 .pure <| .take 7 (.val tSl) <| .eff 8 tSl <| .take 9 .pure .nil)) (.seq (.region (.take 0 .pure <| .take 1 .pure <| .take 2 (.val tAddr) <| .take 3 .pure <| .effU 4 .nil)) (.seq (.region (.take 0 .pure .nil)) (.none))))))))
def sh17 (p0 : Option Addr) (p1 : ByteArray) (p2 : Int) (k : Int → Pr) : Pr :=
  CallP Try.prog 38 #[.pointer p0, .string p1, .int .i64 p2] (.tup [.leaf (.int .i64), .leaf .bool]) fun t14 =>
  CondP (!t14.2.1) (
  k 4) (
  ValP Try.prog (nilN (.pointer p0)) tAddr fun t21 =>
  GetP Try.prog (vN (Instr.loadAt 40 (.pointer (some (Addr.add t21 0))))) tSl fun t23 =>
  ValP Try.prog (vN (Instr.sliceAt 40 (.slice t23.a t23.len t23.cap) none (some (.int .i64 t14.1)) none)) tSl fun t25 =>
  DoP Try.prog (vN (Builtin.append_ #[40, 40] 40 #[.slice none 0 0, .slice t25.a t25.len t25.cap])) tSl fun t26 =>
  ValP Try.prog (nilN (.pointer p0)) tAddr fun t29 =>
  GetP Try.prog (vN (Instr.loadAt 40 (.pointer (some (Addr.add t29 0))))) tSl fun t31 =>
  ValP Try.prog (vN (Instr.sliceAt 40 (.slice t31.a t31.len t31.cap) (some (.int .i64 (IntKind.i64.wrap (t14.1 + 1)))) none none)) tSl fun t34 =>
  DoP Try.prog (vN (Builtin.append_ #[40, 40] 40 #[.slice t26.a t26.len t26.cap, .slice t34.a t34.len t34.cap])) tSl fun t35 =>
  ValP Try.prog (nilN (.pointer p0)) tAddr fun t38 =>
  DoU Try.prog (uN (Instr.storeAt 40 (.pointer (some (Addr.add t38 0))) (.slice t35.a t35.len t35.cap))) <|
  k 0)
theorem rd17 (p0 : Option Addr) (p1 : ByteArray) (p2 : Int) (k : Int → Pr) (w : World) (h : sh17 p0 p1 p2 k w) :
    CallP Try.prog 17 #[.pointer p0, .string p1, .int .i64 p2] tInt k w :=
  CallP.of_eq (c := sa17.on (bodyOf Try.f17)) (S := sh17 p0 p1 p2 k) follows Try.func17 (by kernel_rfl) (by kernel_rfl) (by kernel_rfl) (by kernel_rfl) h

/-- memoir.memoirref13.Same -/
def sa18 : SA := .seq (.region (.take 0 .pure .nil)) (.seq (.seq (.region (.take 0 .pure <| .take 1 .pure <| .take 2 .pure <| .take 3 .pure <| .take 4 .pure .nil)) (.cond (.seq (.region (.take 0 .pure .nil)) (.none)) (.none))) (.seq (.seq (.region (.take 0 .pure .nil)) (.block (.loop [(5, .leaf (.int .i64))] [4, 11, 12, 13, 14, 15, 16, 17, 18, 19, 20, 21, 22, 23, 24, 25] (.seq (.seq (.region (.take 0 .pure <| .take 1 .pure <| .take 2 .pure <| .take 3 .pure .nil)) (.cond (.none) (.none))) (.seq (.block (.seq (.draw (.take 0 .pure <| .take 1 .pure <| .take 2 (.val tAddr) <| .take 3 (.get (.one (.agg [.str, .int .i64, .int .i64, .int .i64]))) <| .take 4 .pure <| .take 5 .pure <| .take 6 (.val tAddr) <| .take 7 (.get (.one (.agg [.str, .int .i64, .int .i64, .int .i64]))) <| .take 8 (.val tBool) .nil)) (.cond (.seq (.region (.take 0 .pure .nil)) (.none)) (.none)))) (.region (.take 0 .pure <| .take 1 .pure <| .take 2 .pure .nil))))))) (.seq (.region (.take 0 .pure .nil)) (.none))))
def sh18 (p0 : Sl) (p1 : Sl) (k : Bool → Pr) : Pr :=
  CondP ((p0.len : Int) != p1.len) (
  k false) (
  LoopP (S := Int) (fun next s => AnyP fun _ =>
  CondP (decide ((s : Int) < p0.len)) (
  DrewP <|
  ValP Try.prog (vN (Instr.indexAt 40 (.slice p0.a p0.len p0.cap) (.int .i64 s))) tAddr fun t19 =>
  GetP Try.prog (vN (Instr.loadAt 36 (.pointer (some t19)))) (.one (.agg [.str, .int .i64, .int .i64, .int .i64])) fun t20 =>
  ValP Try.prog (vN (Instr.indexAt 40 (.slice p1.a p1.len p1.cap) (.int .i64 s))) tAddr fun t23 =>
  GetP Try.prog (vN (Instr.loadAt 36 (.pointer (some t23)))) (.one (.agg [.str, .int .i64, .int .i64, .int .i64])) fun t24 =>
  ValP Try.prog (cmpN .neq 36 (.tmp 20) (.tmp 24) (.agg #[.string t20.1, .int .i64 t20.2.1, .int .i64 t20.2.2.1, .int .i64 t20.2.2.2.1]) (.agg #[.string t24.1, .int .i64 t24.2.1, .int .i64 t24.2.2.1, .int .i64 t24.2.2.2.1])) tBool fun t25 =>
  CondP t25 (
  k false) (
  next (IntKind.i64.wrap (s + 1)))) (
  k true)) 0)
theorem rd18 (p0 : Sl) (p1 : Sl) (k : Bool → Pr) (w : World) (h : sh18 p0 p1 k w) :
    CallP Try.prog 18 #[.slice p0.a p0.len p0.cap, .slice p1.a p1.len p1.cap] tBool k w :=
  CallP.of_eq (c := sa18.on (bodyOf Try.f18)) (S := sh18 p0 p1 k) follows Try.func18 (by kernel_rfl) (by kernel_rfl) (by kernel_rfl) (by kernel_rfl) h

/-- memoir.memoirlaw13.plain -/
def sa19 : SA := .seq (.region (.take 0 .pure .nil)) (.seq (.region (.take 0 .pure .nil)) (.seq (.seq (.region (.take 0 .pure .nil)) (.block (.loop [(3, .leaf .slice), (4, .leaf (.int .i64))] [5, 6, 7, 8, 9, 10, 11, 12, 13, 14, 15, 16, 17, 18, 19, 20, 21, 22, 23, 24, 25, 26, 27, 28, 29, 30, 31, 32, 33, 34] (.seq (.seq (.region (.take 0 .pure <| .take 1 .pure <| .take 2 .pure <| .take 3 .pure .nil)) (.cond (.none) (.none))) (.seq (.block (.draw (.take 0 .pure <| .take 1 .pure <| .take 2 .pure <| .take 3 (.val tAddr) <| .take 4 .pure <| .take 5 (.get tStr) <| .take 6 .pure <| .take 7 .pure <| .take 8 (.val tAddr) <| .take 9 .pure <| .take 10 (.get tInt) <| .take 11 .pure <| .take 12 .pure <| .take 13 (.val tAddr) <| .take 14 .pure <| .take 15 (.get tInt) <| .take 16 .pure <| .take 17 .pure <| .take 18 (.val tAddr) <| .take 19 .pure <| .take 20 (.get tInt) <| .take 21 .pure <| .eff 22 tSl [5, 10, 15, 20] <| .eff 23 tSl [5, 10, 15, 20] <| .now 24 .pure [] .nil))) (.region (.take 0 .pure <| .take 1 .pure <| .take 2 .pure .nil))))))) (.seq (.region (.take 0 .pure <| .take 1 .pure .nil)) (.none))))
def sh19 (p0 : Sl) (k : Sl → Pr) : Pr :=
  LoopP (S := Sl × Int) (fun next s => AnyP fun _ =>
  CondP (decide ((s.2 : Int) < p0.len)) (
  DrewP <|
  ValP Try.prog (vN (Instr.indexAt 42 (.slice p0.a p0.len p0.cap) (.int .i64 s.2))) tAddr fun t14 =>
  GetP Try.prog (vN (Instr.loadAt 9 (.pointer (some (Addr.add t14 0))))) tStr fun t16 =>
  ValP Try.prog (vN (Instr.indexAt 42 (.slice p0.a p0.len p0.cap) (.int .i64 s.2))) tAddr fun t19 =>
  GetP Try.prog (vN (Instr.loadAt 3 (.pointer (some (Addr.add t19 1))))) tInt fun t21 =>
  ValP Try.prog (vN (Instr.indexAt 42 (.slice p0.a p0.len p0.cap) (.int .i64 s.2))) tAddr fun t24 =>
  GetP Try.prog (vN (Instr.loadAt 3 (.pointer (some (Addr.add t24 2))))) tInt fun t26 =>
  ValP Try.prog (vN (Instr.indexAt 42 (.slice p0.a p0.len p0.cap) (.int .i64 s.2))) tAddr fun t29 =>
  GetP Try.prog (vN (Instr.loadAt 3 (.pointer (some (Addr.add t29 3))))) tInt fun t31 =>
  DoP Try.prog (vN (Instr.buildSlice 40 1 #[(0, .agg #[.string t16, .int .i64 t21, .int .i64 t26, .int .i64 t31])])) tSl fun t33 =>
  ChkP Try.prog (vN (Instr.loadAt 9 (.pointer (some (Addr.add t14 0))))) (.string t16) <|
  ChkP Try.prog (vN (Instr.loadAt 3 (.pointer (some (Addr.add t19 1))))) (.int .i64 t21) <|
  ChkP Try.prog (vN (Instr.loadAt 3 (.pointer (some (Addr.add t24 2))))) (.int .i64 t26) <|
  ChkP Try.prog (vN (Instr.loadAt 3 (.pointer (some (Addr.add t29 3))))) (.int .i64 t31) <|
  DoP Try.prog (vN (Builtin.append_ #[40, 40] 40 #[.slice s.1.a s.1.len s.1.cap, .slice t33.a t33.len t33.cap])) tSl fun t34 =>
  ChkP Try.prog (vN (Instr.loadAt 9 (.pointer (some (Addr.add t14 0))))) (.string t16) <|
  ChkP Try.prog (vN (Instr.loadAt 3 (.pointer (some (Addr.add t19 1))))) (.int .i64 t21) <|
  ChkP Try.prog (vN (Instr.loadAt 3 (.pointer (some (Addr.add t24 2))))) (.int .i64 t26) <|
  ChkP Try.prog (vN (Instr.loadAt 3 (.pointer (some (Addr.add t29 3))))) (.int .i64 t31) <|
  next (t34, IntKind.i64.wrap (s.2 + 1))) (
  k s.1)) (⟨none, 0, 0⟩, 0)
theorem rd19 (p0 : Sl) (k : Sl → Pr) (w : World) (h : sh19 p0 k w) :
    CallP Try.prog 19 #[.slice p0.a p0.len p0.cap] tSl k w :=
  CallP.of_eq (c := sa19.on (bodyOf Try.f19)) (S := sh19 p0 k) follows Try.func19 (by kernel_rfl) (by kernel_rfl) (by kernel_rfl) (by kernel_rfl) h

/-- (*memoir.memoirref13.Index).Stab -/
def sa21 : SA := .seq (.region (.take 0 .pure .nil)) (.seq (.region (.take 0 .pure .nil)) (.seq (.seq (.region (.take 0 .pure .nil)) (.block (.loop [(9, .leaf .slice), (10, .leaf (.int .i64))] [11, 12, 13, 14, 15, 16, 17, 18, 19, 20, 21, 22, 23, 24, 25, 26, 27, 28, 29, 30, 31, 32, 33, 34, 35, 36, 37, 38, 39, 40, 41, 42, 43, 44, 45, 46, 47, 48] (.seq (.seq (.region (.take 0 .pure <| .take 1 .pure <| .take 2 (.val tAddr) <| .take 3 .pure <| .take 4 (.get tSl) <| .take 5 .pure <| .take 6 .pure .nil)) (.cond (.none) (.none))) (.join (.block (.seq (.region (.take 0 .pure <| .take 1 (.val tAddr) <| .take 2 .pure <| .take 3 (.get tSl) <| .take 4 .pure <| .take 5 (.val tAddr) <| .take 6 (.get (.one (.agg [.str, .int .i64, .int .i64, .int .i64]))) <| .eff 7 tAddr <| .effU 8 .nil)) (.seq (.region (.take 0 .pure <| .take 1 (.get tStr) <| .take 2 .pure <| .take 3 .pure <| .call 4 tBool <| .take 5 .pure <| .guard 33 (.take 6 .pure <| .take 7 (.get tInt) <| .take 8 .pure <| .take 9 .pure <| .take 10 .pure .nil) 38 [34, 35, 36, 37] <| .take 11 .pure <| .guard 39 (.take 12 .pure <| .take 13 .pure <| .take 14 (.get tInt) <| .take 15 .pure <| .take 16 .pure .nil) 44 [40, 41, 42, 43] .nil)) (.cond (.region (.take 0 .pure <| .take 1 (.get (.one (.agg [.str, .int .i64, .int .i64, .int .i64]))) <| .eff 2 tSl <| .eff 3 tSl <| .take 4 .pure .nil)) (.none))))) [(9, .leaf .slice)] [11, 21, 22, 23, 24, 25, 26, 27, 28, 29, 30, 31, 32, 33, 34, 35, 36, 37, 38, 39, 40, 41, 42, 43, 44, 45, 46, 47, 48] (.region (.take 0 .pure <| .take 1 .pure <| .take 2 .pure .nil))))))) (.seq (.region (.take 0 .pure <| .take 1 .pure .nil)) (.none))))
def sh21 (p0 : Option Addr) (p1 : ByteArray) (p2 : ByteArray) (p3 : Int) (k : Sl → Pr) : Pr :=
  LoopP (S := Sl × Int) (fun next s => AnyP fun _ =>
  ValP Try.prog (nilN (.pointer p0)) tAddr fun t14 =>
  GetP Try.prog (vN (Instr.loadAt 40 (.pointer (some (Addr.add t14 0))))) tSl fun t16 =>
  CondP (decide ((s.2 : Int) < t16.len)) (
  JoinP (S := Sl) (fun s_2 => AnyP fun _ =>
  next (s_2, IntKind.i64.wrap (s.2 + 1))) fun J =>
  ValP Try.prog (nilN (.pointer p0)) tAddr fun t22 =>
  GetP Try.prog (vN (Instr.loadAt 40 (.pointer (some (Addr.add t22 0))))) tSl fun t24 =>
  ValP Try.prog (vN (Instr.indexAt 40 (.slice t24.a t24.len t24.cap) (.int .i64 s.2))) tAddr fun t26 =>
  GetP Try.prog (vN (Instr.loadAt 36 (.pointer (some t26)))) (.one (.agg [.str, .int .i64, .int .i64, .int .i64])) fun t27 =>
  DoP Try.prog (vN (Instr.alloc 36 true (.tuple #[]))) tAddr fun t11 =>
  DoU Try.prog (uN (Instr.storeAt 36 (.pointer (some t11)) (.agg #[.string t27.1, .int .i64 t27.2.1, .int .i64 t27.2.2.1, .int .i64 t27.2.2.2.1]))) <|
  GetP Try.prog (vN (Instr.loadAt 9 (.pointer (some (Addr.add t11 0))))) tStr fun t29 =>
  CallP Try.prog 43 #[.string t29, .string p1, .string p2] tBool fun t32 =>
  JoinP (S := Bool) (fun b38 => AnyP fun _ =>
  JoinP (S := Bool) (fun b44 => AnyP fun _ =>
  CondP b44 (
  GetP Try.prog (vN (Instr.loadAt 36 (.pointer (some t11)))) (.one (.agg [.str, .int .i64, .int .i64, .int .i64])) fun t46 =>
  DoP Try.prog (vN (Instr.buildSlice 40 1 #[(0, .agg #[.string t46.1, .int .i64 t46.2.1, .int .i64 t46.2.2.1, .int .i64 t46.2.2.2.1])])) tSl fun t47 =>
  DoP Try.prog (vN (Builtin.append_ #[40, 40] 40 #[.slice s.1.a s.1.len s.1.cap, .slice t47.a t47.len t47.cap])) tSl fun t48 =>
  J t48) (
  J s.1)) fun J_3 =>
  CondP b38 (
  GetP Try.prog (vN (Instr.loadAt 3 (.pointer (some (Addr.add t11 2))))) tInt fun t42 =>
  J_3 (decide ((p3 : Int) < t42))) (
  J_3 false)) fun J_2 =>
  CondP t32 (
  GetP Try.prog (vN (Instr.loadAt 3 (.pointer (some (Addr.add t11 1))))) tInt fun t35 =>
  J_2 (decide ((t35 : Int) ≤ p3))) (
  J_2 false)) (
  k s.1)) (⟨none, 0, 0⟩, 0)
theorem rd21 (p0 : Option Addr) (p1 : ByteArray) (p2 : ByteArray) (p3 : Int) (k : Sl → Pr) (w : World) (h : sh21 p0 p1 p2 p3 k w) :
    CallP Try.prog 21 #[.pointer p0, .string p1, .string p2, .int .i64 p3] tSl k w :=
  CallP.of_eq (c := sa21.on (bodyOf Try.f21)) (S := sh21 p0 p1 p2 p3 k) follows Try.func21 (by kernel_rfl) (by kernel_rfl) (by kernel_rfl) (by kernel_rfl) h

/-- (*memoir.memoirref13.Index).Overlap -/
def sa23 : SA := .seq (.region (.eff 0 tAddr <| .take 1 .pure .nil)) (.seq (.region (.take 0 .pure .nil)) (.seq (.seq (.region (.take 0 .pure .nil)) (.block (.loop [(9, .leaf .slice), (10, .leaf (.int .i64))] [11, 12, 13, 14, 15, 16, 17, 18, 19, 20, 21, 22, 23, 24, 25, 26, 27, 28, 29, 30, 31, 32, 33, 34, 35, 36, 37, 38, 39, 40, 41, 42, 43, 44, 45, 46, 47, 48, 49] (.seq (.seq (.region (.take 0 .pure <| .take 1 .pure <| .take 2 (.val tAddr) <| .take 3 .pure <| .take 4 (.get tSl) <| .take 5 .pure <| .take 6 .pure .nil)) (.cond (.none) (.none))) (.join (.block (.seq (.region (.take 0 .pure <| .take 1 (.val tAddr) <| .take 2 .pure <| .take 3 (.get tSl) <| .take 4 .pure <| .take 5 (.val tAddr) <| .take 6 (.get (.one (.agg [.str, .int .i64, .int .i64, .int .i64]))) <| .eff 7 tAddr <| .effU 8 .nil)) (.seq (.region (.take 0 .pure <| .take 1 (.get tStr) <| .take 2 .pure <| .take 3 .pure <| .call 4 tBool <| .take 5 .pure <| .guard 33 (.take 6 .pure <| .take 7 (.get tInt) <| .take 8 .pure <| .take 9 (.get tInt) <| .take 10 .pure <| .take 11 .pure <| .take 12 (.get tInt) <| .take 13 .pure <| .take 14 (.get tInt) <| .take 15 .pure <| .take 16 .pure <| .take 17 .pure .nil) 45 [34, 35, 36, 37, 38, 39, 40, 41, 42, 43, 44] .nil)) (.cond (.region (.take 0 .pure <| .take 1 (.get (.one (.agg [.str, .int .i64, .int .i64, .int .i64]))) <| .eff 2 tSl <| .eff 3 tSl <| .take 4 .pure .nil)) (.none))))) [(9, .leaf .slice)] [11, 21, 22, 23, 24, 25, 26, 27, 28, 29, 30, 31, 32, 33, 34, 35, 36, 37, 38, 39, 40, 41, 42, 43, 44, 45, 46, 47, 48, 49] (.region (.take 0 .pure <| .take 1 .pure <| .take 2 .pure .nil))))))) (.seq (.region (.take 0 .pure <| .take 1 .pure .nil)) (.none))))
def sh23 (p0 : Option Addr) (p1 : ByteArray) (p2 : ByteArray) (p3 : (Int × Int × Unit)) (k : Sl → Pr) : Pr :=
  DoP Try.prog (vN (Instr.box 46 (.agg #[.int .i64 p3.1, .int .i64 p3.2.1]))) tAddr fun t7 =>
  LoopP (S := Sl × Int) (fun next s => AnyP fun _ =>
  ValP Try.prog (nilN (.pointer p0)) tAddr fun t14 =>
  GetP Try.prog (vN (Instr.loadAt 40 (.pointer (some (Addr.add t14 0))))) tSl fun t16 =>
  CondP (decide ((s.2 : Int) < t16.len)) (
  JoinP (S := Sl) (fun s_2 => AnyP fun _ =>
  next (s_2, IntKind.i64.wrap (s.2 + 1))) fun J =>
  ValP Try.prog (nilN (.pointer p0)) tAddr fun t22 =>
  GetP Try.prog (vN (Instr.loadAt 40 (.pointer (some (Addr.add t22 0))))) tSl fun t24 =>
  ValP Try.prog (vN (Instr.indexAt 40 (.slice t24.a t24.len t24.cap) (.int .i64 s.2))) tAddr fun t26 =>
  GetP Try.prog (vN (Instr.loadAt 36 (.pointer (some t26)))) (.one (.agg [.str, .int .i64, .int .i64, .int .i64])) fun t27 =>
  DoP Try.prog (vN (Instr.alloc 36 true (.tuple #[]))) tAddr fun t11 =>
  DoU Try.prog (uN (Instr.storeAt 36 (.pointer (some t11)) (.agg #[.string t27.1, .int .i64 t27.2.1, .int .i64 t27.2.2.1, .int .i64 t27.2.2.2.1]))) <|
  GetP Try.prog (vN (Instr.loadAt 9 (.pointer (some (Addr.add t11 0))))) tStr fun t29 =>
  CallP Try.prog 43 #[.string t29, .string p1, .string p2] tBool fun t32 =>
  JoinP (S := Bool) (fun b45 => AnyP fun _ =>
  CondP b45 (
  GetP Try.prog (vN (Instr.loadAt 36 (.pointer (some t11)))) (.one (.agg [.str, .int .i64, .int .i64, .int .i64])) fun t47 =>
  DoP Try.prog (vN (Instr.buildSlice 40 1 #[(0, .agg #[.string t47.1, .int .i64 t47.2.1, .int .i64 t47.2.2.1, .int .i64 t47.2.2.2.1])])) tSl fun t48 =>
  DoP Try.prog (vN (Builtin.append_ #[40, 40] 40 #[.slice s.1.a s.1.len s.1.cap, .slice t48.a t48.len t48.cap])) tSl fun t49 =>
  J t49) (
  J s.1)) fun J_2 =>
  CondP t32 (
  GetP Try.prog (vN (Instr.loadAt 3 (.pointer (some (Addr.add t11 1))))) tInt fun t35 =>
  GetP Try.prog (vN (Instr.loadAt 3 (.pointer (some (Addr.add t7 0))))) tInt fun t37 =>
  GetP Try.prog (vN (Instr.loadAt 3 (.pointer (some (Addr.add t11 2))))) tInt fun t40 =>
  GetP Try.prog (vN (Instr.loadAt 3 (.pointer (some (Addr.add t7 1))))) tInt fun t42 =>
  J_2 (decide (((if (t37 : Int) > t35 then t37 else t35) : Int) < (if (t42 : Int) < t40 then t42 else t40)))) (
  J_2 false)) (
  k s.1)) (⟨none, 0, 0⟩, 0)
theorem rd23 (p0 : Option Addr) (p1 : ByteArray) (p2 : ByteArray) (p3 : (Int × Int × Unit)) (k : Sl → Pr) (w : World) (h : sh23 p0 p1 p2 p3 k w) :
    CallP Try.prog 23 #[.pointer p0, .string p1, .string p2, .agg #[.int .i64 p3.1, .int .i64 p3.2.1]] tSl k w :=
  CallP.of_eq (c := sa23.on (bodyOf Try.f23)) (S := sh23 p0 p1 p2 p3 k) follows Try.func23 (by kernel_rfl) (by kernel_rfl) (by kernel_rfl) (by kernel_rfl) h

/-- (*memoir.index.Index).Get -/
def sa24 : SA := .seq (.region (.eff 0 tAddr <| .take 1 .pure .nil)) (.seq (.seq (.region (.take 0 .pure <| .call 1 tBool <| .take 2 .pure .nil)) (.cond (.seq (.region (.take 0 .pure <| .effU 1 <| .take 2 .pure .nil)) (.none)) (.none))) (.seq (.region (.take 0 .pure <| .take 1 .pure <| .take 2 .pure <| .take 3 .pure <| .call 4 (.tup [.leaf (.int .i64), .leaf (.int .i64), .leaf .bool]) <| .take 5 .pure <| .take 6 .pure <| .take 7 .pure <| .take 8 .pure <| .take 9 .pure <| .take 10 .pure <| .take 11 .pure .nil)) (.seq (.seq (.region (.take 0 .pure <| .take 1 .pure .nil)) (.cond (.seq (.region (.take 0 .pure <| .effU 1 <| .take 2 .pure .nil)) (.none)) (.none))) (.seq (.region (.take 0 .pure <| .take 1 (.val tAddr) <| .take 2 .pure <| .take 3 (.get tSl) <| .take 4 .pure <| .take 5 (.val tAddr) <| .take 6 .pure <| .take 7 (.get tSl) <| .take 8 .pure <| .take 9 (.val tAddr) <| .take 10 (.get (.one (.agg [.str, .int .i64, .int .i64, .int .i64]))) <| .effU 11 <| .take 12 .pure .nil)) (.none)))))
def sh24 (p0 : Option Addr) (p1 : ByteArray) (p2 : Int) (k : ((ByteArray × Int × Int × Int × Unit) × Int × Unit) → Pr) : Pr :=
  DoP Try.prog (vN (Instr.alloc 31 true (.tuple #[]))) tAddr fun t6 =>
  CallP Try.prog 33 #[.pointer p0] tBool fun t12 =>
  CondP (!t12) (
  DoU Try.prog (uN (Instr.storeAt 31 (.pointer (some t6)) (.agg #[.string (⟨#[]⟩), .int .i64 0, .int .i64 0, .int .i64 0]))) <|
  GetP Try.prog (vN (resSem [.cell (.pointer (some t6)) 31, .val (.int .i64 13)])) (.tup [.agg [.str, .int .i64, .int .i64, .int .i64], .leaf (.int .i64)]) k) (
  CallP Try.prog 35 #[.pointer p0, .agg #[.string p1, .int .i64 p2]] (.tup [.leaf (.int .i64), .leaf (.int .i64), .leaf .bool]) fun t20 =>
  CondP (!t20.2.2.1) (
  DoU Try.prog (uN (Instr.storeAt 31 (.pointer (some t6)) (.agg #[.string (⟨#[]⟩), .int .i64 0, .int .i64 0, .int .i64 0]))) <|
  GetP Try.prog (vN (resSem [.cell (.pointer (some t6)) 31, .val (.int .i64 4)])) (.tup [.agg [.str, .int .i64, .int .i64, .int .i64], .leaf (.int .i64)]) k) (
  ValP Try.prog (nilN (.pointer p0)) tAddr fun t28 =>
  GetP Try.prog (vN (Instr.loadAt 66 (.pointer (some (Addr.add t28 1))))) tSl fun t30 =>
  ValP Try.prog (vN (Instr.indexAt 66 (.slice t30.a t30.len t30.cap) (.int .i64 t20.1))) tAddr fun t32 =>
  GetP Try.prog (vN (Instr.loadAt 72 (.pointer (some (Addr.add t32 0))))) tSl fun t34 =>
  ValP Try.prog (vN (Instr.indexAt 72 (.slice t34.a t34.len t34.cap) (.int .i64 t20.2.1))) tAddr fun t36 =>
  GetP Try.prog (vN (Instr.loadAt 31 (.pointer (some t36)))) (.one (.agg [.str, .int .i64, .int .i64, .int .i64])) fun t37 =>
  DoU Try.prog (uN (Instr.storeAt 31 (.pointer (some t6)) (.agg #[.string t37.1, .int .i64 t37.2.1, .int .i64 t37.2.2.1, .int .i64 t37.2.2.2.1]))) <|
  GetP Try.prog (vN (resSem [.cell (.pointer (some t6)) 31, .val (.int .i64 0)])) (.tup [.agg [.str, .int .i64, .int .i64, .int .i64], .leaf (.int .i64)]) k))
theorem rd24 (p0 : Option Addr) (p1 : ByteArray) (p2 : Int) (k : ((ByteArray × Int × Int × Int × Unit) × Int × Unit) → Pr) (w : World) (h : sh24 p0 p1 p2 k w) :
    CallP Try.prog 24 #[.pointer p0, .string p1, .int .i64 p2] (.tup [.agg [.str, .int .i64, .int .i64, .int .i64], .leaf (.int .i64)]) k w :=
  CallP.of_eq (c := sa24.on (bodyOf Try.f24)) (S := sh24 p0 p1 p2 k) follows Try.func24 (by kernel_rfl) (by kernel_rfl) (by kernel_rfl) (by kernel_rfl) h

/-- (*memoir.memoirref13.Index).Get -/
def sa25 : SA := .seq (.region (.eff 0 tAddr <| .take 1 .pure .nil)) (.seq (.region (.take 0 .pure <| .take 1 .pure <| .take 2 .pure <| .call 3 (.tup [.leaf (.int .i64), .leaf .bool]) <| .take 4 .pure <| .take 5 .pure <| .take 6 .pure <| .take 7 .pure <| .take 8 .pure .nil)) (.seq (.seq (.region (.take 0 .pure <| .take 1 .pure .nil)) (.cond (.seq (.region (.take 0 .pure <| .effU 1 <| .take 2 .pure .nil)) (.none)) (.none))) (.seq (.region (.take 0 .pure <| .take 1 (.val tAddr) <| .take 2 .pure <| .take 3 (.get tSl) <| .take 4 .pure <| .take 5 (.val tAddr) <| .take 6 (.get (.one (.agg [.str, .int .i64, .int .i64, .int .i64]))) <| .effU 7 <| .take 8 .pure .nil)) (.none))))
def sh25 (p0 : Option Addr) (p1 : ByteArray) (p2 : Int) (k : ((ByteArray × Int × Int × Int × Unit) × Int × Unit) → Pr) : Pr :=
  DoP Try.prog (vN (Instr.alloc 36 true (.tuple #[]))) tAddr fun t6 =>
  CallP Try.prog 38 #[.pointer p0, .string p1, .int .i64 p2] (.tup [.leaf (.int .i64), .leaf .bool]) fun t14 =>
  CondP (!t14.2.1) (
  DoU Try.prog (uN (Instr.storeAt 36 (.pointer (some t6)) (.agg #[.string (⟨#[]⟩), .int .i64 0, .int .i64 0, .int .i64 0]))) <|
  GetP Try.prog (vN (resSem [.cell (.pointer (some t6)) 36, .val (.int .i64 4)])) (.tup [.agg [.str, .int .i64, .int .i64, .int .i64], .leaf (.int .i64)]) k) (
  ValP Try.prog (nilN (.pointer p0)) tAddr fun t21 =>
  GetP Try.prog (vN (Instr.loadAt 40 (.pointer (some (Addr.add t21 0))))) tSl fun t23 =>
  ValP Try.prog (vN (Instr.indexAt 40 (.slice t23.a t23.len t23.cap) (.int .i64 t14.1))) tAddr fun t25 =>
  GetP Try.prog (vN (Instr.loadAt 36 (.pointer (some t25)))) (.one (.agg [.str, .int .i64, .int .i64, .int .i64])) fun t26 =>
  DoU Try.prog (uN (Instr.storeAt 36 (.pointer (some t6)) (.agg #[.string t26.1, .int .i64 t26.2.1, .int .i64 t26.2.2.1, .int .i64 t26.2.2.2.1]))) <|
  GetP Try.prog (vN (resSem [.cell (.pointer (some t6)) 36, .val (.int .i64 0)])) (.tup [.agg [.str, .int .i64, .int .i64, .int .i64], .leaf (.int .i64)]) k)
theorem rd25 (p0 : Option Addr) (p1 : ByteArray) (p2 : Int) (k : ((ByteArray × Int × Int × Int × Unit) × Int × Unit) → Pr) (w : World) (h : sh25 p0 p1 p2 k w) :
    CallP Try.prog 25 #[.pointer p0, .string p1, .int .i64 p2] (.tup [.agg [.str, .int .i64, .int .i64, .int .i64], .leaf (.int .i64)]) k w :=
  CallP.of_eq (c := sa25.on (bodyOf Try.f25)) (S := sh25 p0 p1 p2 k) follows Try.func25 (by kernel_rfl) (by kernel_rfl) (by kernel_rfl) (by kernel_rfl) h

/-- (*memoir.index.Index).Len -/
def sa26 : SA := .seq (.region (.take 0 .pure .nil)) (.seq (.region (.take 0 .pure .nil)) (.seq (.seq (.region (.take 0 .pure <| .call 1 tSl <| .take 2 .pure <| .take 3 .pure .nil)) (.block (.loop [(3, .leaf (.int .i64)), (9, .leaf (.int .i64))] [5, 10, 11, 12, 13, 14, 15, 16] (.seq (.region (.take 0 .pure .nil)) (.seq (.cond (.none) (.none)) (.seq (.block (.seq (.region (.take 0 (.val tAddr) <| .take 1 (.get tInt) <| .take 2 .pure .nil)) (.region (.take 0 .pure <| .take 1 .pure <| .take 2 .pure <| .take 3 .pure .nil)))) (.region (.take 0 .pure <| .take 1 .pure .nil)))))))) (.seq (.region (.take 0 .pure <| .take 1 .pure .nil)) (.none))))
def sh26 (p0 : Option Addr) (k : Int → Pr) : Pr :=
  CallP Try.prog 32 #[.pointer p0] tSl fun t7 =>
  LoopP (S := Int × Int) (fun next s => AnyP fun _ =>
  CondP (decide ((s.2 : Int) < t7.len)) (
  ValP Try.prog (vN (Instr.indexAt 60 (.slice t7.a t7.len t7.cap) (.int .i64 s.2))) tAddr fun t11 =>
  GetP Try.prog (vN (Instr.loadAt 3 (.pointer (some t11)))) tInt fun t12 =>
  next (IntKind.i64.wrap (s.1 + t12), IntKind.i64.wrap (s.2 + 1))) (
  k s.1)) (0, 0)
theorem rd26 (p0 : Option Addr) (k : Int → Pr) (w : World) (h : sh26 p0 k w) :
    CallP Try.prog 26 #[.pointer p0] tInt k w :=
  CallP.of_eq (c := sa26.on (bodyOf Try.f26)) (S := sh26 p0 k) follows Try.func26 (by kernel_rfl) (by kernel_rfl) (by kernel_rfl) (by kernel_rfl) h

/-- (*memoir.index.Index).Max -/
def sa27 : SA := .seq (.region (.take 0 .pure .nil)) (.seq (.seq (.region (.take 0 .pure <| .call 1 tBool <| .take 2 .pure .nil)) (.cond (.seq (.region (.take 0 .pure .nil)) (.none)) (.none))) (.seq (.region (.take 0 .pure .nil)) (.seq (.seq (.region (.take 0 .pure <| .take 1 (.val tAddr) <| .take 2 .pure <| .take 3 (.get tSl) <| .take 4 .pure <| .take 5 .pure .nil)) (.block (.loop [(3, .leaf (.int .i64)), (14, .leaf (.int .i64))] [5, 15, 16, 17, 18, 19, 20, 21, 22] (.seq (.region (.take 0 .pure .nil)) (.seq (.cond (.none) (.none)) (.seq (.block (.seq (.region (.take 0 (.val tAddr) <| .take 1 (.get (.one (.agg [.slice, .int .i64]))) <| .eff 2 tAddr <| .effU 3 .nil)) (.region (.take 0 .pure <| .take 1 .pure <| .take 2 (.get tInt) <| .take 3 .pure <| .take 4 .pure .nil)))) (.region (.take 0 .pure <| .take 1 .pure .nil)))))))) (.seq (.region (.take 0 .pure <| .take 1 .pure .nil)) (.none)))))
def sh27 (p0 : Option Addr) (k : Int → Pr) : Pr :=
  CallP Try.prog 33 #[.pointer p0] tBool fun t7 =>
  CondP (!t7) (
  k 0) (
  ValP Try.prog (nilN (.pointer p0)) tAddr fun t10 =>
  GetP Try.prog (vN (Instr.loadAt 66 (.pointer (some (Addr.add t10 1))))) tSl fun t12 =>
  LoopP (S := Int × Int) (fun next s => AnyP fun _ =>
  CondP (decide ((s.2 : Int) < t12.len)) (
  ValP Try.prog (vN (Instr.indexAt 66 (.slice t12.a t12.len t12.cap) (.int .i64 s.2))) tAddr fun t16 =>
  GetP Try.prog (vN (Instr.loadAt 74 (.pointer (some t16)))) (.one (.agg [.slice, .int .i64])) fun t17 =>
  DoP Try.prog (vN (Instr.alloc 74 true (.tuple #[]))) tAddr fun t5 =>
  DoU Try.prog (uN (Instr.storeAt 74 (.pointer (some t5)) (.agg #[.slice t17.1.a t17.1.len t17.1.cap, .int .i64 t17.2.1]))) <|
  GetP Try.prog (vN (Instr.loadAt 3 (.pointer (some (Addr.add t5 1))))) tInt fun t20 =>
  next (if (t20 : Int) > s.1 then t20 else s.1, IntKind.i64.wrap (s.2 + 1))) (
  k s.1)) (0, 0))
theorem rd27 (p0 : Option Addr) (k : Int → Pr) (w : World) (h : sh27 p0 k w) :
    CallP Try.prog 27 #[.pointer p0] tInt k w :=
  CallP.of_eq (c := sa27.on (bodyOf Try.f27)) (S := sh27 p0 k) follows Try.func27 (by kernel_rfl) (by kernel_rfl) (by kernel_rfl) (by kernel_rfl) h

/-- (*memoir.memoirref13.Index).Max -/
def sa28 : SA := .seq (.region (.take 0 .pure .nil)) (.seq (.region (.take 0 .pure .nil)) (.seq (.seq (.region (.take 0 .pure .nil)) (.block (.loop [(3, .leaf (.int .i64)), (4, .leaf (.int .i64))] [5, 6, 7, 8, 9, 10, 11, 12, 13, 14, 15, 16, 17, 18, 19, 20, 21, 22, 23] (.seq (.seq (.region (.take 0 .pure <| .take 1 .pure <| .take 2 (.val tAddr) <| .take 3 .pure <| .take 4 (.get tSl) <| .take 5 .pure <| .take 6 .pure .nil)) (.cond (.none) (.none))) (.seq (.block (.region (.take 0 .pure <| .take 1 .pure <| .take 2 (.val tAddr) <| .take 3 .pure <| .take 4 (.get tSl) <| .take 5 .pure <| .take 6 (.val tAddr) <| .take 7 .pure <| .take 8 (.get tInt) <| .take 9 .pure <| .take 10 .pure .nil))) (.region (.take 0 .pure <| .take 1 .pure <| .take 2 .pure .nil))))))) (.seq (.region (.take 0 .pure <| .take 1 .pure .nil)) (.none))))
def sh28 (p0 : Option Addr) (k : Int → Pr) : Pr :=
  LoopP (S := Int × Int) (fun next s => AnyP fun _ =>
  ValP Try.prog (nilN (.pointer p0)) tAddr fun t7 =>
  GetP Try.prog (vN (Instr.loadAt 40 (.pointer (some (Addr.add t7 0))))) tSl fun t9 =>
  CondP (decide ((s.2 : Int) < t9.len)) (
  ValP Try.prog (nilN (.pointer p0)) tAddr fun t16 =>
  GetP Try.prog (vN (Instr.loadAt 40 (.pointer (some (Addr.add t16 0))))) tSl fun t18 =>
  ValP Try.prog (vN (Instr.indexAt 40 (.slice t18.a t18.len t18.cap) (.int .i64 s.2))) tAddr fun t20 =>
  GetP Try.prog (vN (Instr.loadAt 3 (.pointer (some (Addr.add t20 2))))) tInt fun t22 =>
  next (if (t22 : Int) > s.1 then t22 else s.1, IntKind.i64.wrap (s.2 + 1))) (
  k s.1)) (0, 0)
theorem rd28 (p0 : Option Addr) (k : Int → Pr) (w : World) (h : sh28 p0 k w) :
    CallP Try.prog 28 #[.pointer p0] tInt k w :=
  CallP.of_eq (c := sa28.on (bodyOf Try.f28)) (S := sh28 p0 k) follows Try.func28 (by kernel_rfl) (by kernel_rfl) (by kernel_rfl) (by kernel_rfl) h

/-- memoir.memoirlaw13.known -/
def sa30 : SA := .seq (.region (.take 0 .pure .nil)) (.seq (.region (.call 0 (.tup [.leaf .ptr, .leaf (.int .i64)]) <| .take 1 .pure <| .take 2 .pure <| .take 3 .pure <| .take 4 .pure <| .take 5 .pure .nil)) (.seq (.region (.call 0 (.tup [.leaf .ptr, .leaf (.int .i64)]) <| .take 1 .pure <| .take 2 .pure <| .take 3 .pure <| .take 4 .pure <| .take 5 .pure .nil)) (.seq (.seq (.region (.take 0 .pure <| .take 1 .pure <| .take 2 .pure <| .guard 27 (.take 3 .pure <| .take 4 (.get tBool) <| .take 5 .pure .nil) 30 [28, 29] .nil)) (.cond (.seq (.region (.take 0 .pure .nil)) (.none)) (.none))) (.seq (.region (.take 0 .pure <| .take 1 .pure <| .call 2 tInt <| .take 3 .pure .nil)) (.seq (.region (.take 0 .pure <| .take 1 .pure <| .call 2 tInt <| .take 3 .pure .nil)) (.seq (.region (.take 0 .pure <| .take 1 .pure <| .call 2 tInt <| .take 3 .pure .nil)) (.seq (.region (.take 0 .pure <| .call 1 tSl <| .take 2 .pure .nil)) (.seq (.region (.take 0 .pure <| .call 1 tInt <| .take 2 .pure .nil)) (.seq (.region (.take 0 .pure <| .call 1 tInt <| .take 2 .pure .nil)) (.seq (.region (.take 0 .pure <| .take 1 .pure <| .call 2 tSl <| .take 3 .pure .nil)) (.seq (.region (.take 0 .pure <| .call 1 tInt <| .take 2 .pure .nil)) (.seq (.region (.take 0 .pure <| .call 1 (.tup [.agg [.str, .int .i64, .int .i64, .int .i64], .leaf (.int .i64)]) <| .take 2 .pure <| .take 3 .pure <| .take 4 .pure <| .eff 5 tAddr <| .effU 6 <| .take 7 .pure .nil)) (.seq (.region (.take 0 .pure <| .call 1 (.tup [.agg [.str, .int .i64, .int .i64, .int .i64], .leaf (.int .i64)]) <| .take 2 .pure <| .take 3 .pure <| .take 4 .pure <| .eff 5 tAddr <| .effU 6 <| .take 7 .pure .nil)) (.seq (.region (.take 0 .pure <| .take 1 .pure <| .take 2 .pure <| .guard 63 (.take 3 .pure <| .take 4 .pure <| .take 5 .pure .nil) 66 [64, 65] <| .take 6 .pure <| .guard 67 (.take 7 .pure <| .take 8 .pure <| .take 9 .pure .nil) 70 [68, 69] <| .take 10 .pure <| .guard 71 (.take 11 .pure <| .take 12 .pure <| .take 13 .pure .nil) 74 [72, 73] <| .take 14 .pure <| .guard 75 (.take 15 .pure <| .take 16 .pure <| .take 17 .pure <| .take 18 .pure .nil) 79 [76, 77, 78] <| .take 19 .pure <| .guard 80 (.take 20 .pure <| .take 21 (.val tAddr) <| .take 22 .pure <| .take 23 (.get tInt) <| .take 24 .pure <| .take 25 .pure .nil) 86 [81, 82, 83, 84, 85] <| .take 26 .pure <| .guard 87 (.take 27 .pure <| .take 28 .pure <| .take 29 .pure .nil) 90 [88, 89] <| .take 30 .pure <| .guard 91 (.take 31 .pure <| .take 32 .pure <| .take 33 .pure .nil) 94 [92, 93] <| .take 34 .pure <| .guard 95 (.take 35 .pure <| .take 36 .pure <| .take 37 .pure <| .take 38 .pure .nil) 99 [96, 97, 98] <| .take 39 .pure <| .guard 100 (.take 40 .pure <| .take 41 (.val tAddr) <| .take 42 .pure <| .take 43 (.get tInt) <| .take 44 .pure <| .take 45 .pure .nil) 106 [101, 102, 103, 104, 105] <| .take 46 .pure <| .guard 107 (.take 47 .pure <| .take 48 .pure <| .take 49 .pure .nil) 110 [108, 109] <| .take 50 .pure <| .guard 111 (.take 51 (.get (.one (.agg [.str, .int .i64, .int .i64, .int .i64]))) <| .take 52 .pure <| .take 53 (.val tBool) <| .take 54 .pure .nil) 115 [112, 113, 114] <| .take 55 .pure <| .guard 116 (.take 56 .pure <| .take 57 .pure <| .take 58 .pure .nil) 119 [117, 118] <| .take 59 .pure <| .guard 120 (.take 60 .pure <| .take 61 .pure <| .take 62 .pure .nil) 123 [121, 122] <| .take 63 .pure <| .guard 124 (.take 64 .pure <| .call 65 tInt <| .take 66 .pure <| .take 67 .pure .nil) 128 [125, 126, 127] <| .take 68 .pure <| .guard 129 (.take 69 .pure <| .call 70 tInt <| .take 71 .pure <| .take 72 .pure .nil) 133 [130, 131, 132] <| .take 73 .pure <| .guard 134 (.take 74 .pure <| .call 75 tSl <| .take 76 .pure <| .take 77 .pure <| .take 78 .pure .nil) 139 [135, 136, 137, 138] <| .take 79 .pure <| .guard 140 (.take 80 .pure <| .call 81 tSl <| .take 82 .pure <| .take 83 .pure <| .take 84 .pure .nil) 145 [141, 142, 143, 144] <| .take 85 .pure .nil)) (.none)))))))))))))))
def sh30  (k : Bool → Pr) : Pr :=
  CallP Try.prog 10 #[.int .i64 2] (.tup [.leaf .ptr, .leaf (.int .i64)]) fun t18 =>
  CallP Try.prog 10 #[.int .i64 1] (.tup [.leaf .ptr, .leaf (.int .i64)]) fun t22 =>
  JoinP (S := Bool) (fun b30 => AnyP fun _ =>
  CondP b30 (
  k false) (
  CallP Try.prog 12 #[.pointer t18.1, .agg #[.string (⟨#[97]⟩), .int .i64 3, .int .i64 1099511627776, .int .i64 1]] tInt fun t33 =>
  CallP Try.prog 12 #[.pointer t18.1, .agg #[.string (⟨#[97]⟩), .int .i64 0, .int .i64 3, .int .i64 2]] tInt fun t36 =>
  CallP Try.prog 12 #[.pointer t18.1, .agg #[.string (⟨#[97]⟩), .int .i64 3, .int .i64 4, .int .i64 0]] tInt fun t39 =>
  CallP Try.prog 20 #[.pointer t18.1, .string (⟨#[]⟩), .string (⟨#[]⟩), .int .i64 2] tSl fun t41 =>
  CallP Try.prog 14 #[.pointer t18.1, .string (⟨#[97]⟩), .int .i64 3, .int .i64 9] tInt fun t43 =>
  CallP Try.prog 14 #[.pointer t18.1, .string (⟨#[97]⟩), .int .i64 3, .int .i64 9] tInt fun t45 =>
  CallP Try.prog 22 #[.pointer t18.1, .string (⟨#[97]⟩), .string (⟨#[98]⟩), .agg #[.int .i64 2, .int .i64 4]] tSl fun t48 =>
  CallP Try.prog 16 #[.pointer t18.1, .string (⟨#[97]⟩), .int .i64 0] tInt fun t50 =>
  CallP Try.prog 24 #[.pointer t18.1, .string (⟨#[97]⟩), .int .i64 3] (.tup [.agg [.str, .int .i64, .int .i64, .int .i64], .leaf (.int .i64)]) fun t53 =>
  DoP Try.prog (vN (Instr.alloc 31 true (.tuple #[]))) tAddr fun t13 =>
  DoU Try.prog (uN (Instr.storeAt 31 (.pointer (some t13)) (.agg #[.string t53.1.1, .int .i64 t53.1.2.1, .int .i64 t53.1.2.2.1, .int .i64 t53.1.2.2.2.1]))) <|
  CallP Try.prog 24 #[.pointer t18.1, .string (⟨#[97]⟩), .int .i64 0] (.tup [.agg [.str, .int .i64, .int .i64, .int .i64], .leaf (.int .i64)]) fun t58 =>
  DoP Try.prog (vN (Instr.alloc 31 true (.tuple #[]))) tAddr fun t15 =>
  DoU Try.prog (uN (Instr.storeAt 31 (.pointer (some t15)) (.agg #[.string t58.1.1, .int .i64 t58.1.2.1, .int .i64 t58.1.2.2.1, .int .i64 t58.1.2.2.2.1]))) <|
  JoinP (S := Bool) (fun b66 => AnyP fun _ =>
  JoinP (S := Bool) (fun b70 => AnyP fun _ =>
  JoinP (S := Bool) (fun b74 => AnyP fun _ =>
  JoinP (S := Bool) (fun b79 => AnyP fun _ =>
  JoinP (S := Bool) (fun b86 => AnyP fun _ =>
  JoinP (S := Bool) (fun b90 => AnyP fun _ =>
  JoinP (S := Bool) (fun b94 => AnyP fun _ =>
  JoinP (S := Bool) (fun b99 => AnyP fun _ =>
  JoinP (S := Bool) (fun b106 => AnyP fun _ =>
  JoinP (S := Bool) (fun b110 => AnyP fun _ =>
  JoinP (S := Bool) (fun b115 => AnyP fun _ =>
  JoinP (S := Bool) (fun b119 => AnyP fun _ =>
  JoinP (S := Bool) (fun b123 => AnyP fun _ =>
  JoinP (S := Bool) (fun b128 => AnyP fun _ =>
  JoinP (S := Bool) (fun b133 => AnyP fun _ =>
  JoinP (S := Bool) (fun b139 => AnyP fun _ =>
  JoinP (S := Bool) (fun b145 => AnyP fun _ =>
  k b145) fun J_18 =>
  CondP b139 (
  CallP Try.prog 29 #[.pointer t18.1] tSl fun t142 =>
  J_18 ((t142.len : Int) == 1)) (
  J_18 false)) fun J_17 =>
  CondP b133 (
  CallP Try.prog 32 #[.pointer t18.1] tSl fun t136 =>
  J_17 ((t136.len : Int) == 1)) (
  J_17 false)) fun J_16 =>
  CondP b128 (
  CallP Try.prog 27 #[.pointer t18.1] tInt fun t131 =>
  J_16 ((t131 : Int) == 9)) (
  J_16 false)) fun J_15 =>
  CondP b123 (
  CallP Try.prog 26 #[.pointer t18.1] tInt fun t126 =>
  J_15 ((t126 : Int) == 1)) (
  J_15 false)) fun J_14 =>
  CondP b119 (
  J_14 ((t58.2.1 : Int) == 4)) (
  J_14 false)) fun J_13 =>
  CondP b115 (
  J_13 ((t53.2.1 : Int) == 0)) (
  J_13 false)) fun J_12 =>
  CondP b110 (
  GetP Try.prog (vN (Instr.loadAt 31 (.pointer (some t13)))) (.one (.agg [.str, .int .i64, .int .i64, .int .i64])) fun t112 =>
  ValP Try.prog (cmpN .eql 31 (.tmp 112) (.tmp 113) (.agg #[.string t112.1, .int .i64 t112.2.1, .int .i64 t112.2.2.1, .int .i64 t112.2.2.2.1]) (.agg #[.string (⟨#[97]⟩), .int .i64 3, .int .i64 9, .int .i64 1])) tBool fun t114 =>
  J_12 t114) (
  J_12 false)) fun J_11 =>
  CondP b106 (
  J_11 ((t50 : Int) == 0)) (
  J_11 false)) fun J_10 =>
  CondP b99 (
  ValP Try.prog (vN (Instr.indexAt 42 (.slice t48.a t48.len t48.cap) (.int .i64 0))) tAddr fun t102 =>
  GetP Try.prog (vN (Instr.loadAt 3 (.pointer (some (Addr.add t102 3))))) tInt fun t104 =>
  J_10 ((t104 : Int) == 2)) (
  J_10 false)) fun J_9 =>
  CondP b94 (
  J_9 ((t48.len : Int) == 2)) (
  J_9 false)) fun J_8 =>
  CondP b90 (
  J_8 ((t45 : Int) == 6)) (
  J_8 false)) fun J_7 =>
  CondP b86 (
  J_7 ((t43 : Int) == 0)) (
  J_7 false)) fun J_6 =>
  CondP b79 (
  ValP Try.prog (vN (Instr.indexAt 42 (.slice t41.a t41.len t41.cap) (.int .i64 0))) tAddr fun t82 =>
  GetP Try.prog (vN (Instr.loadAt 3 (.pointer (some (Addr.add t82 3))))) tInt fun t84 =>
  J_6 ((t84 : Int) == 2)) (
  J_6 false)) fun J_5 =>
  CondP b74 (
  J_5 ((t41.len : Int) == 1)) (
  J_5 false)) fun J_4 =>
  CondP b70 (
  J_4 ((t39 : Int) == 5)) (
  J_4 false)) fun J_3 =>
  CondP b66 (
  J_3 ((t36 : Int) == 0)) (
  J_3 false)) fun J_2 =>
  CondP ((t22.2.1 : Int) == 1) (
  J_2 ((t33 : Int) == 0)) (
  J_2 false))) fun J =>
  CondP ((t18.2.1 : Int) != 0) (
  J true) (
  GetP Try.prog (cmpN .eql 23 (.tmp 28) (.const (.pointer none)) (.pointer t18.1) (.pointer none)) tBool fun t29 =>
  J t29)
theorem rd30  (k : Bool → Pr) (w : World) (h : sh30  k w) :
    CallP Try.prog 30 #[] tBool k w :=
  CallP.of_eq (c := sa30.on (bodyOf Try.f30)) (S := sh30  k) follows Try.func30 (by kernel_rfl) (by kernel_rfl) (by kernel_rfl) (by kernel_rfl) h

/-- memoir.memoirlaw13.build -/
def sa31 : SA := .seq (.region (.take 0 .pure .nil)) (.block (.loop [(4, .leaf (.int .i64))] [5, 6, 7, 8, 9, 10, 11, 12, 13, 14, 15, 16, 17, 18, 19, 20, 21, 22, 23, 24, 25, 26, 27, 28, 29, 30, 31, 32, 33, 34, 35, 36, 37, 38, 39, 40, 41, 42, 43, 44, 45, 46, 47, 48, 49, 50, 51, 52, 53, 54, 55, 56] (.seq (.seq (.region (.take 0 .pure <| .take 1 .pure <| .take 2 .pure <| .take 3 .pure <| .take 4 .pure <| .guard 10 (.take 5 .pure <| .take 6 .pure <| .take 7 .pure .nil) 13 [11, 12] .nil)) (.cond (.none) (.none))) (.join (.block (.seq (.region (.take 0 .pure <| .take 1 .pure <| .take 2 (.val tAddr) <| .take 3 (.get (.one (.agg [.int .i64, .str, .int .i64, .int .i64, .int .i64, .str, .int .i64, .int .i64]))) <| .eff 4 tAddr <| .effU 5 .nil)) (.seq (.seq (.region (.take 0 .pure <| .take 1 .pure <| .take 2 (.get tStr) <| .take 3 .pure <| .take 4 .pure .nil)) (.cond (.none) (.none))) (.join (.seq (.region (.take 0 .pure <| .take 1 (.get tInt) <| .take 2 .pure .nil)) (.cond (.region (.take 0 .pure <| .take 1 .pure <| .take 2 (.get (.one (.agg [.str, .int .i64, .int .i64, .int .i64]))) <| .call 3 tInt .nil)) (.none))) [] [25, 26, 27, 28, 29, 30, 31] (.join (.seq (.region (.take 0 .pure <| .take 1 (.get tInt) <| .take 2 .pure .nil)) (.cond (.region (.take 0 .pure <| .take 1 .pure <| .take 2 .pure <| .take 3 (.get tStr) <| .take 4 .pure <| .take 5 .pure <| .take 6 (.get tInt) <| .take 7 .pure <| .take 8 .pure <| .take 9 (.get tInt) <| .call 10 tInt .nil)) (.none))) [] [32, 33, 34, 35, 36, 37, 38, 39, 40, 41, 42, 43, 44, 45] (.seq (.region (.take 0 .pure <| .take 1 (.get tInt) <| .take 2 .pure .nil)) (.cond (.region (.take 0 .pure <| .take 1 .pure <| .take 2 .pure <| .take 3 (.get tStr) <| .take 4 .pure <| .take 5 .pure <| .take 6 (.get tInt) <| .call 7 tInt .nil)) (.none)))))))) [] [5, 16, 17, 18, 19, 20, 21, 22, 23, 24, 25, 26, 27, 28, 29, 30, 31, 32, 33, 34, 35, 36, 37, 38, 39, 40, 41, 42, 43, 44, 45, 46, 47, 48, 49, 50, 51, 52, 53, 54, 55, 56] (.region (.take 0 .pure <| .take 1 .pure <| .take 2 .pure .nil))))))
def sh31 (p0 : Option Addr) (p1 : Sl) (k : (Unit) → Pr) : Pr :=
  LoopP (S := Int) (fun next s => AnyP fun _ =>
  JoinP (S := Bool) (fun b13 => AnyP fun _ =>
  CondP b13 (
  JoinP (S := Unit) (fun s_2 => AnyP fun _ =>
  next (IntKind.i64.wrap (s + 1))) fun J_2 =>
  ValP Try.prog (vN (Instr.indexAt 22 (.slice p1.a p1.len p1.cap) (.int .i64 s))) tAddr fun t18 =>
  GetP Try.prog (vN (Instr.loadAt 33 (.pointer (some t18)))) (.one (.agg [.int .i64, .str, .int .i64, .int .i64, .int .i64, .str, .int .i64, .int .i64])) fun t19 =>
  DoP Try.prog (vN (Instr.alloc 33 true (.tuple #[]))) tAddr fun t5 =>
  DoU Try.prog (uN (Instr.storeAt 33 (.pointer (some t5)) (.agg #[.int .i64 t19.1, .string t19.2.1, .int .i64 t19.2.2.1, .int .i64 t19.2.2.2.1, .int .i64 t19.2.2.2.2.1, .string t19.2.2.2.2.2.1, .int .i64 t19.2.2.2.2.2.2.1, .int .i64 t19.2.2.2.2.2.2.2.1]))) <|
  GetP Try.prog (vN (Instr.loadAt 9 (.pointer (some (Addr.add (Addr.add t5 1) 0))))) tStr fun t22 =>
  CondP (decide ((t22.size : Int) > 100)) (
  J_2 ()) (
  JoinP (S := Unit) (fun s_3 => AnyP fun _ =>
  JoinP (S := Unit) (fun s_4 => AnyP fun _ =>
  GetP Try.prog (vN (Instr.loadAt 3 (.pointer (some (Addr.add t5 0))))) tInt fun t47 =>
  CondP ((t47 : Int) == 2) (
  GetP Try.prog (vN (Instr.loadAt 9 (.pointer (some (Addr.add (Addr.add t5 1) 0))))) tStr fun t52 =>
  GetP Try.prog (vN (Instr.loadAt 3 (.pointer (some (Addr.add (Addr.add t5 1) 1))))) tInt fun t55 =>
  CallP Try.prog 16 #[.pointer p0, .string t52, .int .i64 t55] tInt fun t56 =>
  J_2 ()) (
  J_2 ())) fun J_4 =>
  GetP Try.prog (vN (Instr.loadAt 3 (.pointer (some (Addr.add t5 0))))) tInt fun t33 =>
  CondP ((t33 : Int) == 1) (
  GetP Try.prog (vN (Instr.loadAt 9 (.pointer (some (Addr.add (Addr.add t5 1) 0))))) tStr fun t38 =>
  GetP Try.prog (vN (Instr.loadAt 3 (.pointer (some (Addr.add (Addr.add t5 1) 1))))) tInt fun t41 =>
  GetP Try.prog (vN (Instr.loadAt 3 (.pointer (some (Addr.add (Addr.add t5 1) 2))))) tInt fun t44 =>
  CallP Try.prog 14 #[.pointer p0, .string t38, .int .i64 t41, .int .i64 t44] tInt fun t45 =>
  J_4 ()) (
  J_4 ())) fun J_3 =>
  GetP Try.prog (vN (Instr.loadAt 3 (.pointer (some (Addr.add t5 0))))) tInt fun t26 =>
  CondP ((t26 : Int) == 0) (
  GetP Try.prog (vN (Instr.loadAt 31 (.pointer (some (Addr.add t5 1))))) (.one (.agg [.str, .int .i64, .int .i64, .int .i64])) fun t30 =>
  CallP Try.prog 12 #[.pointer p0, .agg #[.string t30.1, .int .i64 t30.2.1, .int .i64 t30.2.2.1, .int .i64 t30.2.2.2.1]] tInt fun t31 =>
  J_3 ()) (
  J_3 ()))) (
  k ())) fun J =>
  CondP (decide ((s : Int) < p1.len)) (
  J (decide ((s : Int) < 200))) (
  J false)) 0
theorem rd31 (p0 : Option Addr) (p1 : Sl) (k : (Unit) → Pr) (w : World) (h : sh31 p0 p1 k w) :
    CallP Try.prog 31 #[.pointer p0, .slice p1.a p1.len p1.cap] (.tup []) k w :=
  CallP.of_eq (c := sa31.on (bodyOf Try.f31)) (S := sh31 p0 p1 k) follows Try.func31 (by kernel_rfl) (by kernel_rfl) (by kernel_rfl) (by kernel_rfl) h

/-- (*memoir.index.Index).Blocks -/
def sa32 : SA := .seq (.region (.take 0 .pure .nil)) (.seq (.seq (.region (.take 0 .pure <| .call 1 tBool <| .take 2 .pure .nil)) (.cond (.seq (.region (.take 0 .pure .nil)) (.none)) (.none))) (.seq (.region (.take 0 .pure .nil)) (.seq (.seq (.region (.take 0 .pure <| .take 1 (.val tAddr) <| .take 2 .pure <| .take 3 (.get tSl) <| .take 4 .pure <| .take 5 .pure .nil)) (.block (.loop [(3, .leaf .slice), (14, .leaf (.int .i64))] [5, 15, 16, 17, 18, 19, 20, 21, 22, 23, 24] (.seq (.region (.take 0 .pure .nil)) (.seq (.cond (.none) (.none)) (.seq (.block (.seq (.region (.take 0 (.val tAddr) <| .take 1 (.get (.one (.agg [.slice, .int .i64]))) <| .eff 2 tAddr <| .effU 3 .nil)) (.region (.take 0 .pure <| .take 1 .pure <| .take 2 (.get tSl) <| .take 3 .pure <| .eff 4 tSl <| .eff 5 tSl <| .take 6 .pure .nil)))) (.region (.take 0 .pure <| .take 1 .pure .nil)))))))) (.seq (.region (.take 0 .pure <| .take 1 .pure .nil)) (.none)))))
def sh32 (p0 : Option Addr) (k : Sl → Pr) : Pr :=
  CallP Try.prog 33 #[.pointer p0] tBool fun t7 =>
  CondP (!t7) (
  k (⟨none, 0, 0⟩)) (
  ValP Try.prog (nilN (.pointer p0)) tAddr fun t10 =>
  GetP Try.prog (vN (Instr.loadAt 66 (.pointer (some (Addr.add t10 1))))) tSl fun t12 =>
  LoopP (S := Sl × Int) (fun next s => AnyP fun _ =>
  CondP (decide ((s.2 : Int) < t12.len)) (
  ValP Try.prog (vN (Instr.indexAt 66 (.slice t12.a t12.len t12.cap) (.int .i64 s.2))) tAddr fun t16 =>
  GetP Try.prog (vN (Instr.loadAt 74 (.pointer (some t16)))) (.one (.agg [.slice, .int .i64])) fun t17 =>
  DoP Try.prog (vN (Instr.alloc 74 true (.tuple #[]))) tAddr fun t5 =>
  DoU Try.prog (uN (Instr.storeAt 74 (.pointer (some t5)) (.agg #[.slice t17.1.a t17.1.len t17.1.cap, .int .i64 t17.2.1]))) <|
  GetP Try.prog (vN (Instr.loadAt 72 (.pointer (some (Addr.add t5 0))))) tSl fun t20 =>
  DoP Try.prog (vN (Instr.buildSlice 60 1 #[(0, .int .i64 t20.len)])) tSl fun t22 =>
  DoP Try.prog (vN (Builtin.append_ #[60, 60] 60 #[.slice s.1.a s.1.len s.1.cap, .slice t22.a t22.len t22.cap])) tSl fun t23 =>
  next (t23, IntKind.i64.wrap (s.2 + 1))) (
  k s.1)) (⟨none, 0, 0⟩, 0))
theorem rd32 (p0 : Option Addr) (k : Sl → Pr) (w : World) (h : sh32 p0 k w) :
    CallP Try.prog 32 #[.pointer p0] tSl k w :=
  CallP.of_eq (c := sa32.on (bodyOf Try.f32)) (S := sh32 p0 k) follows Try.func32 (by kernel_rfl) (by kernel_rfl) (by kernel_rfl) (by kernel_rfl) h

/-- (*memoir.index.Index).there -/
def sa33 : SA := .seq (.region (.take 0 .pure .nil)) (.seq (.region (.take 0 .pure <| .take 1 (.get tBool) <| .take 2 .pure <| .guard 5 (.take 3 .pure <| .take 4 (.val tAddr) <| .take 5 .pure <| .take 6 (.get tInt) <| .take 7 .pure <| .take 8 .pure .nil) 11 [6, 7, 8, 9, 10] <| .take 9 .pure .nil)) (.none))
def sh33 (p0 : Option Addr) (k : Bool → Pr) : Pr :=
  GetP Try.prog (cmpN .neq 23 (.tmp 3) (.const (.pointer none)) (.pointer p0) (.pointer none)) tBool fun t4 =>
  JoinP (S := Bool) (fun b11 => AnyP fun _ =>
  k b11) fun J =>
  CondP t4 (
  ValP Try.prog (nilN (.pointer p0)) tAddr fun t7 =>
  GetP Try.prog (vN (Instr.loadAt 3 (.pointer (some (Addr.add t7 0))))) tInt fun t9 =>
  J (decide ((t9 : Int) > 0))) (
  J false)
theorem rd33 (p0 : Option Addr) (k : Bool → Pr) (w : World) (h : sh33 p0 k w) :
    CallP Try.prog 33 #[.pointer p0] tBool k w :=
  CallP.of_eq (c := sa33.on (bodyOf Try.f33)) (S := sh33 p0 k) follows Try.func33 (by kernel_rfl) (by kernel_rfl) (by kernel_rfl) (by kernel_rfl) h

/-- memoir.index.of -/
def sa34 : SA := .seq (.region (.eff 0 tAddr .nil)) (.seq (.region (.take 0 .pure <| .take 1 .pure <| .eff 2 tAddr <| .effU 3 .nil)) (.seq (.seq (.region (.take 0 .pure <| .take 1 .pure <| .take 2 .pure .nil)) (.block (.loop [(10, .leaf (.int .i64))] [5, 11, 12, 13, 14, 15, 16, 17, 18, 19, 20] (.seq (.region (.take 0 .pure .nil)) (.seq (.cond (.none) (.none)) (.seq (.block (.seq (.region (.take 0 (.val tAddr) <| .take 1 (.get (.one (.agg [.str, .int .i64, .int .i64, .int .i64]))) <| .eff 2 tAddr <| .effU 3 .nil)) (.region (.take 0 .pure <| .take 1 (.get tInt) <| .take 2 .pure <| .take 3 (.get tInt) <| .take 4 .pure <| .take 5 .pure <| .effU 6 .nil)))) (.region (.take 0 .pure <| .take 1 .pure .nil)))))))) (.seq (.region (.take 0 (.get (.one (.agg [.slice, .int .i64]))) <| .effU 1 .nil)) (.none))))
def sh34 (p0 : Sl) (k : ((Sl × Int × Unit)) → Pr) : Pr :=
  DoP Try.prog (vN (Instr.alloc 74 true (.tuple #[]))) tAddr fun t2 =>
  DoP Try.prog (vN (Instr.alloc 74 true (.tuple #[]))) tAddr fun t3 =>
  DoU Try.prog (uN (Instr.storeAt 74 (.pointer (some t3)) (.agg #[.slice p0.a p0.len p0.cap, .int .i64 0]))) <|
  LoopP (S := Int) (fun next s => AnyP fun _ =>
  CondP (decide ((s : Int) < p0.len)) (
  ValP Try.prog (vN (Instr.indexAt 72 (.slice p0.a p0.len p0.cap) (.int .i64 s))) tAddr fun t12 =>
  GetP Try.prog (vN (Instr.loadAt 31 (.pointer (some t12)))) (.one (.agg [.str, .int .i64, .int .i64, .int .i64])) fun t13 =>
  DoP Try.prog (vN (Instr.alloc 31 true (.tuple #[]))) tAddr fun t5 =>
  DoU Try.prog (uN (Instr.storeAt 31 (.pointer (some t5)) (.agg #[.string t13.1, .int .i64 t13.2.1, .int .i64 t13.2.2.1, .int .i64 t13.2.2.2.1]))) <|
  GetP Try.prog (vN (Instr.loadAt 3 (.pointer (some (Addr.add t3 1))))) tInt fun t15 =>
  GetP Try.prog (vN (Instr.loadAt 3 (.pointer (some (Addr.add t5 2))))) tInt fun t17 =>
  DoU Try.prog (uN (Instr.storeAt 3 (.pointer (some (Addr.add t3 1))) (.int .i64 (if (t17 : Int) > t15 then t17 else t15)))) <|
  next (IntKind.i64.wrap (s + 1))) (
  GetP Try.prog (vN (Instr.loadAt 74 (.pointer (some t3)))) (.one (.agg [.slice, .int .i64])) fun t21 =>
  DoU Try.prog (uN (Instr.storeAt 74 (.pointer (some t2)) (.agg #[.slice t21.1.a t21.1.len t21.1.cap, .int .i64 t21.2.1]))) <|
  GetP Try.prog (vN (resSem [.cell (.pointer (some t2)) 74])) (.one (.agg [.slice, .int .i64])) k)) 0
theorem rd34 (p0 : Sl) (k : ((Sl × Int × Unit)) → Pr) (w : World) (h : sh34 p0 k w) :
    CallP Try.prog 34 #[.slice p0.a p0.len p0.cap] (.one (.agg [.slice, .int .i64])) k w :=
  CallP.of_eq (c := sa34.on (bodyOf Try.f34)) (S := sh34 p0 k) follows Try.func34 (by kernel_rfl) (by kernel_rfl) (by kernel_rfl) (by kernel_rfl) h

/-- (*memoir.index.Index).find -/
def sa35 : SA := .seq (.region (.eff 0 tAddr <| .take 1 .pure <| .take 2 .pure <| .take 3 .pure .nil)) (.seq (.region (.take 0 .pure .nil)) (.seq (.block (.loop [(7, .leaf (.int .i64))] [10, 11, 12, 13, 14, 15, 16, 17, 18, 19, 20, 21, 22, 23, 24, 25, 26, 27, 28, 29, 30, 31, 32, 33, 34, 35, 36, 37, 38, 39] (.seq (.seq (.draw (.take 0 .pure <| .take 1 .pure <| .take 2 (.val tAddr) <| .take 3 .pure <| .take 4 (.get tSl) <| .take 5 .pure <| .take 6 .pure <| .take 7 .pure <| .take 8 .pure <| .split 18 <| .take 9 .pure <| .take 10 (.val tAddr) <| .take 11 .pure <| .take 12 (.get tSl) <| .take 13 .pure <| .take 14 .pure <| .take 15 (.val tAddr) <| .take 16 .pure <| .take 17 (.get tSl) <| .take 18 (.val tAddr) <| .take 19 (.get (.one (.agg [.str, .int .i64, .int .i64, .int .i64]))) <| .take 20 .pure <| .take 21 (.get tStr) <| .take 22 .pure <| .take 23 (.get tInt) <| .take 24 .pure <| .take 25 .pure <| .call 26 tBool [4, 12, 17, 21, 23] <| .take 27 .pure .nil)) (.cond (.none) (.none))) (.block (.region (.take 0 .pure <| .take 1 .pure <| .take 2 .pure .nil)))))) (.seq (.seq (.region (.take 0 .pure <| .take 1 .pure <| .take 2 (.val tAddr) <| .take 3 .pure <| .take 4 (.get tSl) <| .take 5 .pure <| .take 6 .pure .nil)) (.cond (.seq (.region (.take 0 .pure <| .take 1 .pure <| .take 2 .pure .nil)) (.none)) (.none))) (.seq (.region (.take 0 .pure <| .take 1 (.val tAddr) <| .take 2 .pure <| .take 3 (.get tSl) <| .take 4 .pure <| .take 5 (.val tAddr) <| .take 6 .pure <| .take 7 (.get tSl) <| .take 8 .pure .nil)) (.seq (.region (.take 0 .pure .nil)) (.seq (.block (.loop [(9, .leaf (.int .i64))] [55, 56, 57, 58, 59, 60, 61, 62, 63, 64, 65, 66, 67, 68] (.seq (.seq (.draw (.take 0 .pure <| .take 1 .pure <| .take 2 .pure <| .take 3 .pure <| .take 4 .pure <| .split 59 <| .take 5 .pure <| .take 6 .pure <| .take 7 (.val tAddr) <| .take 8 (.get (.one (.agg [.str, .int .i64, .int .i64, .int .i64]))) <| .take 9 (.get (.one (.agg [.str, .int .i64]))) <| .call 10 tBool [] <| .take 11 .pure .nil)) (.cond (.none) (.none))) (.block (.region (.take 0 .pure <| .take 1 .pure <| .take 2 .pure .nil)))))) (.seq (.draw (.take 0 .pure <| .take 1 .pure <| .take 2 .pure <| .take 3 .pure <| .take 4 .pure <| .take 5 .pure <| .take 6 .pure <| .split 75 <| .take 7 .pure <| .take 8 .pure <| .take 9 (.val tAddr) <| .take 10 .pure <| .take 11 (.get tStr) <| .take 12 .pure <| .take 13 (.get tStr) <| .take 14 .pure <| .take 15 .pure <| .take 16 .pure <| .split 85 <| .take 17 .pure <| .take 18 .pure <| .take 19 (.val tAddr) <| .take 20 .pure <| .take 21 (.get tInt) <| .take 22 .pure <| .take 23 (.get tInt) <| .take 24 .pure <| .take 25 .pure <| .now 26 .pure [11, 13, 21, 23] <| .now 27 .pure [11, 13, 21, 23] <| .now 28 .pure [] .nil)) (.none))))))))
def sh35 (p0 : Option Addr) (p1 : (ByteArray × Int × Unit)) (k : (Int × Int × Bool × Unit) → Pr) : Pr :=
  DoP Try.prog (vN (Instr.box 79 (.agg #[.string p1.1, .int .i64 p1.2.1]))) tAddr fun t3 =>
  LoopP (S := Int) (fun next s => AnyP fun _ =>
  DrewP <|
  ValP Try.prog (nilN (.pointer p0)) tAddr fun t12 =>
  GetP Try.prog (vN (Instr.loadAt 66 (.pointer (some (Addr.add t12 1))))) tSl fun t14 =>
  CondP (decide ((s : Int) < (IntKind.i64.wrap (t14.len - 1)))) (
  ValP Try.prog (nilN (.pointer p0)) tAddr fun t20 =>
  GetP Try.prog (vN (Instr.loadAt 66 (.pointer (some (Addr.add t20 1))))) tSl fun t22 =>
  ValP Try.prog (vN (Instr.indexAt 66 (.slice t22.a t22.len t22.cap) (.int .i64 (IntKind.i64.wrap (s + 1))))) tAddr fun t25 =>
  GetP Try.prog (vN (Instr.loadAt 72 (.pointer (some (Addr.add t25 0))))) tSl fun t27 =>
  ValP Try.prog (vN (Instr.indexAt 72 (.slice t27.a t27.len t27.cap) (.int .i64 0))) tAddr fun t28 =>
  GetP Try.prog (vN (Instr.loadAt 31 (.pointer (some t28)))) (.one (.agg [.str, .int .i64, .int .i64, .int .i64])) fun t29 =>
  GetP Try.prog (vN (Instr.loadAt 9 (.pointer (some (Addr.add t3 0))))) tStr fun t31 =>
  GetP Try.prog (vN (Instr.loadAt 3 (.pointer (some (Addr.add t3 1))))) tInt fun t33 =>
  CallP Try.prog 44 #[.agg #[.string t29.1, .int .i64 t29.2.1, .int .i64 t29.2.2.1, .int .i64 t29.2.2.2.1], .agg #[.string t31, .int .i64 (IntKind.i64.wrap (t33 + 1))]] tBool fun t36 =>
  ChkP Try.prog (vN (Instr.loadAt 66 (.pointer (some (Addr.add t12 1))))) (.slice t14.a t14.len t14.cap) <|
  ChkP Try.prog (vN (Instr.loadAt 66 (.pointer (some (Addr.add t20 1))))) (.slice t22.a t22.len t22.cap) <|
  ChkP Try.prog (vN (Instr.loadAt 72 (.pointer (some (Addr.add t25 0))))) (.slice t27.a t27.len t27.cap) <|
  ChkP Try.prog (vN (Instr.loadAt 9 (.pointer (some (Addr.add t3 0))))) (.string t31) <|
  ChkP Try.prog (vN (Instr.loadAt 3 (.pointer (some (Addr.add t3 1))))) (.int .i64 t33) <|
  CondP t36 (
  next (IntKind.i64.wrap (s + 1))) (
  ValP Try.prog (nilN (.pointer p0)) tAddr fun t42 =>
  GetP Try.prog (vN (Instr.loadAt 66 (.pointer (some (Addr.add t42 1))))) tSl fun t44 =>
  CondP ((s : Int) == t44.len) (
  k (0, 0, false, ())) (
  ValP Try.prog (nilN (.pointer p0)) tAddr fun t48 =>
  GetP Try.prog (vN (Instr.loadAt 66 (.pointer (some (Addr.add t48 1))))) tSl fun t50 =>
  ValP Try.prog (vN (Instr.indexAt 66 (.slice t50.a t50.len t50.cap) (.int .i64 s))) tAddr fun t52 =>
  GetP Try.prog (vN (Instr.loadAt 72 (.pointer (some (Addr.add t52 0))))) tSl fun t54 =>
  LoopP (S := Int) (fun next_2 s_2 => AnyP fun _ =>
  DrewP <|
  CondP (decide ((s_2 : Int) < t54.len)) (
  ValP Try.prog (vN (Instr.indexAt 72 (.slice t54.a t54.len t54.cap) (.int .i64 s_2))) tAddr fun t62 =>
  GetP Try.prog (vN (Instr.loadAt 31 (.pointer (some t62)))) (.one (.agg [.str, .int .i64, .int .i64, .int .i64])) fun t63 =>
  GetP Try.prog (vN (Instr.loadAt 79 (.pointer (some t3)))) (.one (.agg [.str, .int .i64])) fun t64 =>
  CallP Try.prog 44 #[.agg #[.string t63.1, .int .i64 t63.2.1, .int .i64 t63.2.2.1, .int .i64 t63.2.2.2.1], .agg #[.string t64.1, .int .i64 t64.2.1]] tBool fun t65 =>
  CondP t65 (
  next_2 (IntKind.i64.wrap (s_2 + 1))) (
  DrewP <|
  CondP (decide ((s_2 : Int) < t54.len)) (
  ValP Try.prog (vN (Instr.indexAt 72 (.slice t54.a t54.len t54.cap) (.int .i64 s_2))) tAddr fun t78 =>
  GetP Try.prog (vN (Instr.loadAt 9 (.pointer (some (Addr.add t78 0))))) tStr fun t80 =>
  GetP Try.prog (vN (Instr.loadAt 9 (.pointer (some (Addr.add t3 0))))) tStr fun t82 =>
  CondP ((t80.toList == t82.toList)) (
  ValP Try.prog (vN (Instr.indexAt 72 (.slice t54.a t54.len t54.cap) (.int .i64 s_2))) tAddr fun t88 =>
  GetP Try.prog (vN (Instr.loadAt 3 (.pointer (some (Addr.add t88 1))))) tInt fun t90 =>
  GetP Try.prog (vN (Instr.loadAt 3 (.pointer (some (Addr.add t3 1))))) tInt fun t92 =>
  ChkP Try.prog (vN (Instr.loadAt 9 (.pointer (some (Addr.add t78 0))))) (.string t80) <|
  ChkP Try.prog (vN (Instr.loadAt 9 (.pointer (some (Addr.add t3 0))))) (.string t82) <|
  ChkP Try.prog (vN (Instr.loadAt 3 (.pointer (some (Addr.add t88 1))))) (.int .i64 t90) <|
  ChkP Try.prog (vN (Instr.loadAt 3 (.pointer (some (Addr.add t3 1))))) (.int .i64 t92) <|
  ChkP Try.prog (vN (Instr.loadAt 9 (.pointer (some (Addr.add t78 0))))) (.string t80) <|
  ChkP Try.prog (vN (Instr.loadAt 9 (.pointer (some (Addr.add t3 0))))) (.string t82) <|
  ChkP Try.prog (vN (Instr.loadAt 3 (.pointer (some (Addr.add t88 1))))) (.int .i64 t90) <|
  ChkP Try.prog (vN (Instr.loadAt 3 (.pointer (some (Addr.add t3 1))))) (.int .i64 t92) <|
  k (s, s_2, (t90 : Int) == t92, ())) (
  ChkP Try.prog (vN (Instr.loadAt 9 (.pointer (some (Addr.add t78 0))))) (.string t80) <|
  ChkP Try.prog (vN (Instr.loadAt 9 (.pointer (some (Addr.add t3 0))))) (.string t82) <|
  ChkP Try.prog (vN (Instr.loadAt 9 (.pointer (some (Addr.add t78 0))))) (.string t80) <|
  ChkP Try.prog (vN (Instr.loadAt 9 (.pointer (some (Addr.add t3 0))))) (.string t82) <|
  k (s, s_2, false, ()))) (
  CondP false (
  ValP Try.prog (vN (Instr.indexAt 72 (.slice t54.a t54.len t54.cap) (.int .i64 s_2))) tAddr fun t88_2 =>
  GetP Try.prog (vN (Instr.loadAt 3 (.pointer (some (Addr.add t88_2 1))))) tInt fun t90_2 =>
  GetP Try.prog (vN (Instr.loadAt 3 (.pointer (some (Addr.add t3 1))))) tInt fun t92_2 =>
  ChkP Try.prog (vN (Instr.loadAt 3 (.pointer (some (Addr.add t88_2 1))))) (.int .i64 t90_2) <|
  ChkP Try.prog (vN (Instr.loadAt 3 (.pointer (some (Addr.add t3 1))))) (.int .i64 t92_2) <|
  ChkP Try.prog (vN (Instr.loadAt 3 (.pointer (some (Addr.add t88_2 1))))) (.int .i64 t90_2) <|
  ChkP Try.prog (vN (Instr.loadAt 3 (.pointer (some (Addr.add t3 1))))) (.int .i64 t92_2) <|
  k (s, s_2, (t90_2 : Int) == t92_2, ())) (
  k (s, s_2, false, ()))))) (
  CondP false (
  next_2 (IntKind.i64.wrap (s_2 + 1))) (
  DrewP <|
  CondP (decide ((s_2 : Int) < t54.len)) (
  ValP Try.prog (vN (Instr.indexAt 72 (.slice t54.a t54.len t54.cap) (.int .i64 s_2))) tAddr fun t78_2 =>
  GetP Try.prog (vN (Instr.loadAt 9 (.pointer (some (Addr.add t78_2 0))))) tStr fun t80_2 =>
  GetP Try.prog (vN (Instr.loadAt 9 (.pointer (some (Addr.add t3 0))))) tStr fun t82_2 =>
  CondP ((t80_2.toList == t82_2.toList)) (
  ValP Try.prog (vN (Instr.indexAt 72 (.slice t54.a t54.len t54.cap) (.int .i64 s_2))) tAddr fun t88_3 =>
  GetP Try.prog (vN (Instr.loadAt 3 (.pointer (some (Addr.add t88_3 1))))) tInt fun t90_3 =>
  GetP Try.prog (vN (Instr.loadAt 3 (.pointer (some (Addr.add t3 1))))) tInt fun t92_3 =>
  ChkP Try.prog (vN (Instr.loadAt 9 (.pointer (some (Addr.add t78_2 0))))) (.string t80_2) <|
  ChkP Try.prog (vN (Instr.loadAt 9 (.pointer (some (Addr.add t3 0))))) (.string t82_2) <|
  ChkP Try.prog (vN (Instr.loadAt 3 (.pointer (some (Addr.add t88_3 1))))) (.int .i64 t90_3) <|
  ChkP Try.prog (vN (Instr.loadAt 3 (.pointer (some (Addr.add t3 1))))) (.int .i64 t92_3) <|
  ChkP Try.prog (vN (Instr.loadAt 9 (.pointer (some (Addr.add t78_2 0))))) (.string t80_2) <|
  ChkP Try.prog (vN (Instr.loadAt 9 (.pointer (some (Addr.add t3 0))))) (.string t82_2) <|
  ChkP Try.prog (vN (Instr.loadAt 3 (.pointer (some (Addr.add t88_3 1))))) (.int .i64 t90_3) <|
  ChkP Try.prog (vN (Instr.loadAt 3 (.pointer (some (Addr.add t3 1))))) (.int .i64 t92_3) <|
  k (s, s_2, (t90_3 : Int) == t92_3, ())) (
  ChkP Try.prog (vN (Instr.loadAt 9 (.pointer (some (Addr.add t78_2 0))))) (.string t80_2) <|
  ChkP Try.prog (vN (Instr.loadAt 9 (.pointer (some (Addr.add t3 0))))) (.string t82_2) <|
  ChkP Try.prog (vN (Instr.loadAt 9 (.pointer (some (Addr.add t78_2 0))))) (.string t80_2) <|
  ChkP Try.prog (vN (Instr.loadAt 9 (.pointer (some (Addr.add t3 0))))) (.string t82_2) <|
  k (s, s_2, false, ()))) (
  CondP false (
  ValP Try.prog (vN (Instr.indexAt 72 (.slice t54.a t54.len t54.cap) (.int .i64 s_2))) tAddr fun t88_4 =>
  GetP Try.prog (vN (Instr.loadAt 3 (.pointer (some (Addr.add t88_4 1))))) tInt fun t90_4 =>
  GetP Try.prog (vN (Instr.loadAt 3 (.pointer (some (Addr.add t3 1))))) tInt fun t92_4 =>
  ChkP Try.prog (vN (Instr.loadAt 3 (.pointer (some (Addr.add t88_4 1))))) (.int .i64 t90_4) <|
  ChkP Try.prog (vN (Instr.loadAt 3 (.pointer (some (Addr.add t3 1))))) (.int .i64 t92_4) <|
  ChkP Try.prog (vN (Instr.loadAt 3 (.pointer (some (Addr.add t88_4 1))))) (.int .i64 t90_4) <|
  ChkP Try.prog (vN (Instr.loadAt 3 (.pointer (some (Addr.add t3 1))))) (.int .i64 t92_4) <|
  k (s, s_2, (t90_4 : Int) == t92_4, ())) (
  k (s, s_2, false, ())))))) 0))) (
  CondP false (
  next (IntKind.i64.wrap (s + 1))) (
  ValP Try.prog (nilN (.pointer p0)) tAddr fun t42_2 =>
  GetP Try.prog (vN (Instr.loadAt 66 (.pointer (some (Addr.add t42_2 1))))) tSl fun t44_2 =>
  CondP ((s : Int) == t44_2.len) (
  k (0, 0, false, ())) (
  ValP Try.prog (nilN (.pointer p0)) tAddr fun t48_2 =>
  GetP Try.prog (vN (Instr.loadAt 66 (.pointer (some (Addr.add t48_2 1))))) tSl fun t50_2 =>
  ValP Try.prog (vN (Instr.indexAt 66 (.slice t50_2.a t50_2.len t50_2.cap) (.int .i64 s))) tAddr fun t52_2 =>
  GetP Try.prog (vN (Instr.loadAt 72 (.pointer (some (Addr.add t52_2 0))))) tSl fun t54_2 =>
  LoopP (S := Int) (fun next_3 s_3 => AnyP fun _ =>
  DrewP <|
  CondP (decide ((s_3 : Int) < t54_2.len)) (
  ValP Try.prog (vN (Instr.indexAt 72 (.slice t54_2.a t54_2.len t54_2.cap) (.int .i64 s_3))) tAddr fun t62_2 =>
  GetP Try.prog (vN (Instr.loadAt 31 (.pointer (some t62_2)))) (.one (.agg [.str, .int .i64, .int .i64, .int .i64])) fun t63_2 =>
  GetP Try.prog (vN (Instr.loadAt 79 (.pointer (some t3)))) (.one (.agg [.str, .int .i64])) fun t64_2 =>
  CallP Try.prog 44 #[.agg #[.string t63_2.1, .int .i64 t63_2.2.1, .int .i64 t63_2.2.2.1, .int .i64 t63_2.2.2.2.1], .agg #[.string t64_2.1, .int .i64 t64_2.2.1]] tBool fun t65_2 =>
  CondP t65_2 (
  next_3 (IntKind.i64.wrap (s_3 + 1))) (
  DrewP <|
  CondP (decide ((s_3 : Int) < t54_2.len)) (
  ValP Try.prog (vN (Instr.indexAt 72 (.slice t54_2.a t54_2.len t54_2.cap) (.int .i64 s_3))) tAddr fun t78_3 =>
  GetP Try.prog (vN (Instr.loadAt 9 (.pointer (some (Addr.add t78_3 0))))) tStr fun t80_3 =>
  GetP Try.prog (vN (Instr.loadAt 9 (.pointer (some (Addr.add t3 0))))) tStr fun t82_3 =>
  CondP ((t80_3.toList == t82_3.toList)) (
  ValP Try.prog (vN (Instr.indexAt 72 (.slice t54_2.a t54_2.len t54_2.cap) (.int .i64 s_3))) tAddr fun t88_5 =>
  GetP Try.prog (vN (Instr.loadAt 3 (.pointer (some (Addr.add t88_5 1))))) tInt fun t90_5 =>
  GetP Try.prog (vN (Instr.loadAt 3 (.pointer (some (Addr.add t3 1))))) tInt fun t92_5 =>
  ChkP Try.prog (vN (Instr.loadAt 9 (.pointer (some (Addr.add t78_3 0))))) (.string t80_3) <|
  ChkP Try.prog (vN (Instr.loadAt 9 (.pointer (some (Addr.add t3 0))))) (.string t82_3) <|
  ChkP Try.prog (vN (Instr.loadAt 3 (.pointer (some (Addr.add t88_5 1))))) (.int .i64 t90_5) <|
  ChkP Try.prog (vN (Instr.loadAt 3 (.pointer (some (Addr.add t3 1))))) (.int .i64 t92_5) <|
  ChkP Try.prog (vN (Instr.loadAt 9 (.pointer (some (Addr.add t78_3 0))))) (.string t80_3) <|
  ChkP Try.prog (vN (Instr.loadAt 9 (.pointer (some (Addr.add t3 0))))) (.string t82_3) <|
  ChkP Try.prog (vN (Instr.loadAt 3 (.pointer (some (Addr.add t88_5 1))))) (.int .i64 t90_5) <|
  ChkP Try.prog (vN (Instr.loadAt 3 (.pointer (some (Addr.add t3 1))))) (.int .i64 t92_5) <|
  k (s, s_3, (t90_5 : Int) == t92_5, ())) (
  ChkP Try.prog (vN (Instr.loadAt 9 (.pointer (some (Addr.add t78_3 0))))) (.string t80_3) <|
  ChkP Try.prog (vN (Instr.loadAt 9 (.pointer (some (Addr.add t3 0))))) (.string t82_3) <|
  ChkP Try.prog (vN (Instr.loadAt 9 (.pointer (some (Addr.add t78_3 0))))) (.string t80_3) <|
  ChkP Try.prog (vN (Instr.loadAt 9 (.pointer (some (Addr.add t3 0))))) (.string t82_3) <|
  k (s, s_3, false, ()))) (
  CondP false (
  ValP Try.prog (vN (Instr.indexAt 72 (.slice t54_2.a t54_2.len t54_2.cap) (.int .i64 s_3))) tAddr fun t88_6 =>
  GetP Try.prog (vN (Instr.loadAt 3 (.pointer (some (Addr.add t88_6 1))))) tInt fun t90_6 =>
  GetP Try.prog (vN (Instr.loadAt 3 (.pointer (some (Addr.add t3 1))))) tInt fun t92_6 =>
  ChkP Try.prog (vN (Instr.loadAt 3 (.pointer (some (Addr.add t88_6 1))))) (.int .i64 t90_6) <|
  ChkP Try.prog (vN (Instr.loadAt 3 (.pointer (some (Addr.add t3 1))))) (.int .i64 t92_6) <|
  ChkP Try.prog (vN (Instr.loadAt 3 (.pointer (some (Addr.add t88_6 1))))) (.int .i64 t90_6) <|
  ChkP Try.prog (vN (Instr.loadAt 3 (.pointer (some (Addr.add t3 1))))) (.int .i64 t92_6) <|
  k (s, s_3, (t90_6 : Int) == t92_6, ())) (
  k (s, s_3, false, ()))))) (
  CondP false (
  next_3 (IntKind.i64.wrap (s_3 + 1))) (
  DrewP <|
  CondP (decide ((s_3 : Int) < t54_2.len)) (
  ValP Try.prog (vN (Instr.indexAt 72 (.slice t54_2.a t54_2.len t54_2.cap) (.int .i64 s_3))) tAddr fun t78_4 =>
  GetP Try.prog (vN (Instr.loadAt 9 (.pointer (some (Addr.add t78_4 0))))) tStr fun t80_4 =>
  GetP Try.prog (vN (Instr.loadAt 9 (.pointer (some (Addr.add t3 0))))) tStr fun t82_4 =>
  CondP ((t80_4.toList == t82_4.toList)) (
  ValP Try.prog (vN (Instr.indexAt 72 (.slice t54_2.a t54_2.len t54_2.cap) (.int .i64 s_3))) tAddr fun t88_7 =>
  GetP Try.prog (vN (Instr.loadAt 3 (.pointer (some (Addr.add t88_7 1))))) tInt fun t90_7 =>
  GetP Try.prog (vN (Instr.loadAt 3 (.pointer (some (Addr.add t3 1))))) tInt fun t92_7 =>
  ChkP Try.prog (vN (Instr.loadAt 9 (.pointer (some (Addr.add t78_4 0))))) (.string t80_4) <|
  ChkP Try.prog (vN (Instr.loadAt 9 (.pointer (some (Addr.add t3 0))))) (.string t82_4) <|
  ChkP Try.prog (vN (Instr.loadAt 3 (.pointer (some (Addr.add t88_7 1))))) (.int .i64 t90_7) <|
  ChkP Try.prog (vN (Instr.loadAt 3 (.pointer (some (Addr.add t3 1))))) (.int .i64 t92_7) <|
  ChkP Try.prog (vN (Instr.loadAt 9 (.pointer (some (Addr.add t78_4 0))))) (.string t80_4) <|
  ChkP Try.prog (vN (Instr.loadAt 9 (.pointer (some (Addr.add t3 0))))) (.string t82_4) <|
  ChkP Try.prog (vN (Instr.loadAt 3 (.pointer (some (Addr.add t88_7 1))))) (.int .i64 t90_7) <|
  ChkP Try.prog (vN (Instr.loadAt 3 (.pointer (some (Addr.add t3 1))))) (.int .i64 t92_7) <|
  k (s, s_3, (t90_7 : Int) == t92_7, ())) (
  ChkP Try.prog (vN (Instr.loadAt 9 (.pointer (some (Addr.add t78_4 0))))) (.string t80_4) <|
  ChkP Try.prog (vN (Instr.loadAt 9 (.pointer (some (Addr.add t3 0))))) (.string t82_4) <|
  ChkP Try.prog (vN (Instr.loadAt 9 (.pointer (some (Addr.add t78_4 0))))) (.string t80_4) <|
  ChkP Try.prog (vN (Instr.loadAt 9 (.pointer (some (Addr.add t3 0))))) (.string t82_4) <|
  k (s, s_3, false, ()))) (
  CondP false (
  ValP Try.prog (vN (Instr.indexAt 72 (.slice t54_2.a t54_2.len t54_2.cap) (.int .i64 s_3))) tAddr fun t88_8 =>
  GetP Try.prog (vN (Instr.loadAt 3 (.pointer (some (Addr.add t88_8 1))))) tInt fun t90_8 =>
  GetP Try.prog (vN (Instr.loadAt 3 (.pointer (some (Addr.add t3 1))))) tInt fun t92_8 =>
  ChkP Try.prog (vN (Instr.loadAt 3 (.pointer (some (Addr.add t88_8 1))))) (.int .i64 t90_8) <|
  ChkP Try.prog (vN (Instr.loadAt 3 (.pointer (some (Addr.add t3 1))))) (.int .i64 t92_8) <|
  ChkP Try.prog (vN (Instr.loadAt 3 (.pointer (some (Addr.add t88_8 1))))) (.int .i64 t90_8) <|
  ChkP Try.prog (vN (Instr.loadAt 3 (.pointer (some (Addr.add t3 1))))) (.int .i64 t92_8) <|
  k (s, s_3, (t90_8 : Int) == t92_8, ())) (
  k (s, s_3, false, ())))))) 0)))) 0
theorem rd35 (p0 : Option Addr) (p1 : (ByteArray × Int × Unit)) (k : (Int × Int × Bool × Unit) → Pr) (w : World) (h : sh35 p0 p1 k w) :
    CallP Try.prog 35 #[.pointer p0, .agg #[.string p1.1, .int .i64 p1.2.1]] (.tup [.leaf (.int .i64), .leaf (.int .i64), .leaf .bool]) k w :=
  CallP.of_eq (c := sa35.on (bodyOf Try.f35)) (S := sh35 p0 p1 k) follows Try.func35 (by kernel_rfl) (by kernel_rfl) (by kernel_rfl) (by kernel_rfl) h

/-- (memoir.index.row[memoir.index.Item]).put -/
def sa36 : SA := .seq (.region (.take 0 .pure .nil)) (.seq (.region (.take 0 .pure <| .take 1 .pure <| .take 2 (.val tSl) <| .eff 3 tSl <| .take 4 .pure .nil)) (.seq (.draw (.take 0 .pure <| .take 1 .pure <| .take 3 .pure <| .take 4 .pure <| .take 5 (.val tSl) <| .eff 2 tSl [] <| .eff 6 tSl [] <| .now 7 .pure [] .nil)) (.none)))
def sh36 (p0 : Sl) (p1 : Int) (p2 : Sl) (k : Sl → Pr) : Pr :=
  ValP Try.prog (vN (Instr.sliceAt 72 (.slice p0.a p0.len p0.cap) none (some (.int .i64 p1)) none)) tSl fun t10 =>
  DoP Try.prog (vN (Builtin.append_ #[72, 72] 72 #[.slice none 0 0, .slice t10.a t10.len t10.cap])) tSl fun t11 =>
  DrewP <|
  ValP Try.prog (vN (Instr.sliceAt 72 (.slice p0.a p0.len p0.cap) (some (.int .i64 p1)) none none)) tSl fun t17 =>
  DoP Try.prog (vN (Builtin.append_ #[72, 42] 72 #[.slice t11.a t11.len t11.cap, .slice p2.a p2.len p2.cap])) tSl fun t14 =>
  DoP Try.prog (vN (Builtin.append_ #[72, 72] 72 #[.slice t14.a t14.len t14.cap, .slice t17.a t17.len t17.cap])) tSl fun t18 =>
  k t18
theorem rd36 (p0 : Sl) (p1 : Int) (p2 : Sl) (k : Sl → Pr) (w : World) (h : sh36 p0 p1 p2 k w) :
    CallP Try.prog 36 #[.slice p0.a p0.len p0.cap, .int .i64 p1, .slice p2.a p2.len p2.cap] tSl k w :=
  CallP.of_eq (c := sa36.on (bodyOf Try.f36)) (S := sh36 p0 p1 p2 k) follows Try.func36 (by kernel_rfl) (by kernel_rfl) (by kernel_rfl) (by kernel_rfl) h

/-- (*memoir.index.Index).split -/
def sa37 : SA := .seq (.region (.take 0 .pure <| .take 1 (.val tAddr) <| .take 2 .pure <| .take 3 (.get tSl) <| .take 4 .pure <| .take 5 (.val tAddr) <| .take 6 .pure <| .take 7 (.get tSl) <| .take 8 .pure .nil)) (.seq (.seq (.region (.take 0 .pure <| .take 1 .pure <| .take 2 .pure <| .take 3 (.val tAddr) <| .take 4 .pure <| .take 5 (.get tInt) <| .take 6 .pure <| .take 7 .pure .nil)) (.cond (.none) (.none))) (.seq (.region (.take 0 .pure <| .take 1 .pure <| .take 2 .pure <| .take 3 .pure .nil)) (.draw (.take 0 .pure <| .take 1 .pure <| .take 2 (.val tAddr) <| .take 3 .pure <| .take 4 (.get tSl) <| .take 5 .pure <| .take 7 .pure <| .take 8 .pure <| .take 9 .pure <| .take 10 .pure <| .take 11 (.val tSl) <| .take 13 .pure <| .take 14 .pure <| .take 15 (.val tSl) <| .call 6 tSl [] <| .call 12 (.one (.agg [.slice, .int .i64])) [] <| .call 16 (.one (.agg [.slice, .int .i64])) [] <| .eff 17 tSl [] <| .call 18 tSl [] <| .take 19 (.val tAddr) <| .take 20 .pure <| .effU 21 [] .nil))))
def sh37 (p0 : Option Addr) (p1 : Int) (k : (Unit) → Pr) : Pr :=
  ValP Try.prog (nilN (.pointer p0)) tAddr fun t7 =>
  GetP Try.prog (vN (Instr.loadAt 66 (.pointer (some (Addr.add t7 1))))) tSl fun t9 =>
  ValP Try.prog (vN (Instr.indexAt 66 (.slice t9.a t9.len t9.cap) (.int .i64 p1))) tAddr fun t11 =>
  GetP Try.prog (vN (Instr.loadAt 72 (.pointer (some (Addr.add t11 0))))) tSl fun t13 =>
  ValP Try.prog (nilN (.pointer p0)) tAddr fun t17 =>
  GetP Try.prog (vN (Instr.loadAt 3 (.pointer (some (Addr.add t17 0))))) tInt fun t19 =>
  CondP (decide ((t13.len : Int) ≤ (IntKind.i64.wrap (2 * t19)))) (
  k ()) (
  DrewP <|
  ValP Try.prog (nilN (.pointer p0)) tAddr fun t27 =>
  GetP Try.prog (vN (Instr.loadAt 66 (.pointer (some (Addr.add t27 1))))) tSl fun t29 =>
  ValP Try.prog (vN (Instr.sliceAt 72 (.slice t13.a t13.len t13.cap) none (some (.int .i64 (IntKind.i64.wrap (Int.tdiv t13.len 2)))) (some (.int .i64 (IntKind.i64.wrap (Int.tdiv t13.len 2)))))) tSl fun t36 =>
  ValP Try.prog (vN (Instr.sliceAt 72 (.slice t13.a t13.len t13.cap) (some (.int .i64 (IntKind.i64.wrap (Int.tdiv t13.len 2)))) none none)) tSl fun t40 =>
  CallP Try.prog 40 #[.slice t29.a t29.len t29.cap, .int .i64 p1, .int .i64 1] tSl fun t31 =>
  CallP Try.prog 34 #[.slice t36.a t36.len t36.cap] (.one (.agg [.slice, .int .i64])) fun t37 =>
  CallP Try.prog 34 #[.slice t40.a t40.len t40.cap] (.one (.agg [.slice, .int .i64])) fun t41 =>
  DoP Try.prog (vN (Instr.buildSlice 65 2 #[(0, .agg #[.slice t37.1.a t37.1.len t37.1.cap, .int .i64 t37.2.1]), (1, .agg #[.slice t41.1.a t41.1.len t41.1.cap, .int .i64 t41.2.1])])) tSl fun t42 =>
  CallP Try.prog 45 #[.slice t31.a t31.len t31.cap, .int .i64 p1, .slice t42.a t42.len t42.cap] tSl fun t43 =>
  ValP Try.prog (nilN (.pointer p0)) tAddr fun t44 =>
  DoU Try.prog (uN (Instr.storeAt 66 (.pointer (some (Addr.add t44 1))) (.slice t43.a t43.len t43.cap))) <|
  k ())
theorem rd37 (p0 : Option Addr) (p1 : Int) (k : (Unit) → Pr) (w : World) (h : sh37 p0 p1 k w) :
    CallP Try.prog 37 #[.pointer p0, .int .i64 p1] (.tup []) k w :=
  CallP.of_eq (c := sa37.on (bodyOf Try.f37)) (S := sh37 p0 p1 k) follows Try.func37 (by kernel_rfl) (by kernel_rfl) (by kernel_rfl) (by kernel_rfl) h

/-- (*memoir.memoirref13.Index).find -/
def sa38 : SA := .seq (.region (.take 0 .pure <| .take 1 .pure .nil)) (.seq (.region (.take 0 .pure .nil)) (.seq (.block (.loop [(8, .leaf (.int .i64))] [9, 10, 11, 12, 13, 14, 15, 16, 17, 18, 19, 20, 21, 22, 23, 24, 25, 26, 27, 28, 29] (.seq (.seq (.region (.take 0 .pure <| .take 1 .pure <| .take 2 (.val tAddr) <| .take 3 .pure <| .take 4 (.get tSl) <| .take 5 .pure <| .take 6 .pure <| .take 7 .pure <| .guard 16 (.take 8 .pure <| .take 9 (.val tAddr) <| .take 10 .pure <| .take 11 (.get tSl) <| .take 12 .pure <| .take 13 (.val tAddr) <| .take 14 (.get (.one (.agg [.str, .int .i64, .int .i64, .int .i64]))) <| .take 15 .pure <| .take 16 .pure <| .call 17 tBool <| .take 18 .pure .nil) 27 [17, 18, 19, 20, 21, 22, 23, 24, 25, 26] .nil)) (.cond (.none) (.none))) (.block (.region (.take 0 .pure <| .take 1 .pure <| .take 2 .pure .nil)))))) (.seq (.draw (.take 0 .pure <| .take 1 .pure <| .take 2 .pure <| .take 3 (.val tAddr) <| .take 4 .pure <| .take 5 (.get tSl) <| .take 6 .pure <| .take 7 .pure <| .take 8 .pure <| .split 38 <| .take 9 .pure <| .take 10 (.val tAddr) <| .take 11 .pure <| .take 12 (.get tSl) <| .take 13 .pure <| .take 14 (.val tAddr) <| .take 15 .pure <| .take 16 (.get tStr) <| .take 17 .pure <| .take 18 .pure <| .take 19 .pure <| .take 20 .pure <| .split 50 <| .take 21 .pure <| .take 22 (.val tAddr) <| .take 23 .pure <| .take 24 (.get tSl) <| .take 25 .pure <| .take 26 (.val tAddr) <| .take 27 .pure <| .take 28 (.get tInt) <| .take 29 .pure <| .take 30 .pure <| .take 31 .pure <| .now 32 .pure [5, 12, 16, 24, 28] <| .now 33 .pure [] .nil)) (.none))))
def sh38 (p0 : Option Addr) (p1 : ByteArray) (p2 : Int) (k : (Int × Bool × Unit) → Pr) : Pr :=
  LoopP (S := Int) (fun next s => AnyP fun _ =>
  ValP Try.prog (nilN (.pointer p0)) tAddr fun t11 =>
  GetP Try.prog (vN (Instr.loadAt 40 (.pointer (some (Addr.add t11 0))))) tSl fun t13 =>
  JoinP (S := Bool) (fun b27 => AnyP fun _ =>
  CondP b27 (
  next (IntKind.i64.wrap (s + 1))) (
  DrewP <|
  ValP Try.prog (nilN (.pointer p0)) tAddr fun t33 =>
  GetP Try.prog (vN (Instr.loadAt 40 (.pointer (some (Addr.add t33 0))))) tSl fun t35 =>
  CondP (decide ((s : Int) < t35.len)) (
  ValP Try.prog (nilN (.pointer p0)) tAddr fun t40 =>
  GetP Try.prog (vN (Instr.loadAt 40 (.pointer (some (Addr.add t40 0))))) tSl fun t42 =>
  ValP Try.prog (vN (Instr.indexAt 40 (.slice t42.a t42.len t42.cap) (.int .i64 s))) tAddr fun t44 =>
  GetP Try.prog (vN (Instr.loadAt 9 (.pointer (some (Addr.add t44 0))))) tStr fun t46 =>
  CondP ((t46.toList == p1.toList)) (
  ValP Try.prog (nilN (.pointer p0)) tAddr fun t52 =>
  GetP Try.prog (vN (Instr.loadAt 40 (.pointer (some (Addr.add t52 0))))) tSl fun t54 =>
  ValP Try.prog (vN (Instr.indexAt 40 (.slice t54.a t54.len t54.cap) (.int .i64 s))) tAddr fun t56 =>
  GetP Try.prog (vN (Instr.loadAt 3 (.pointer (some (Addr.add t56 1))))) tInt fun t58 =>
  ChkP Try.prog (vN (Instr.loadAt 40 (.pointer (some (Addr.add t33 0))))) (.slice t35.a t35.len t35.cap) <|
  ChkP Try.prog (vN (Instr.loadAt 40 (.pointer (some (Addr.add t40 0))))) (.slice t42.a t42.len t42.cap) <|
  ChkP Try.prog (vN (Instr.loadAt 9 (.pointer (some (Addr.add t44 0))))) (.string t46) <|
  ChkP Try.prog (vN (Instr.loadAt 40 (.pointer (some (Addr.add t52 0))))) (.slice t54.a t54.len t54.cap) <|
  ChkP Try.prog (vN (Instr.loadAt 3 (.pointer (some (Addr.add t56 1))))) (.int .i64 t58) <|
  k (s, (t58 : Int) == p2, ())) (
  ChkP Try.prog (vN (Instr.loadAt 40 (.pointer (some (Addr.add t33 0))))) (.slice t35.a t35.len t35.cap) <|
  ChkP Try.prog (vN (Instr.loadAt 40 (.pointer (some (Addr.add t40 0))))) (.slice t42.a t42.len t42.cap) <|
  ChkP Try.prog (vN (Instr.loadAt 9 (.pointer (some (Addr.add t44 0))))) (.string t46) <|
  k (s, false, ()))) (
  CondP false (
  ValP Try.prog (nilN (.pointer p0)) tAddr fun t52_2 =>
  GetP Try.prog (vN (Instr.loadAt 40 (.pointer (some (Addr.add t52_2 0))))) tSl fun t54_2 =>
  ValP Try.prog (vN (Instr.indexAt 40 (.slice t54_2.a t54_2.len t54_2.cap) (.int .i64 s))) tAddr fun t56_2 =>
  GetP Try.prog (vN (Instr.loadAt 3 (.pointer (some (Addr.add t56_2 1))))) tInt fun t58_2 =>
  ChkP Try.prog (vN (Instr.loadAt 40 (.pointer (some (Addr.add t33 0))))) (.slice t35.a t35.len t35.cap) <|
  ChkP Try.prog (vN (Instr.loadAt 40 (.pointer (some (Addr.add t52_2 0))))) (.slice t54_2.a t54_2.len t54_2.cap) <|
  ChkP Try.prog (vN (Instr.loadAt 3 (.pointer (some (Addr.add t56_2 1))))) (.int .i64 t58_2) <|
  k (s, (t58_2 : Int) == p2, ())) (
  ChkP Try.prog (vN (Instr.loadAt 40 (.pointer (some (Addr.add t33 0))))) (.slice t35.a t35.len t35.cap) <|
  k (s, false, ()))))) fun J =>
  CondP (decide ((s : Int) < t13.len)) (
  ValP Try.prog (nilN (.pointer p0)) tAddr fun t18 =>
  GetP Try.prog (vN (Instr.loadAt 40 (.pointer (some (Addr.add t18 0))))) tSl fun t20 =>
  ValP Try.prog (vN (Instr.indexAt 40 (.slice t20.a t20.len t20.cap) (.int .i64 s))) tAddr fun t22 =>
  GetP Try.prog (vN (Instr.loadAt 36 (.pointer (some t22)))) (.one (.agg [.str, .int .i64, .int .i64, .int .i64])) fun t23 =>
  CallP Try.prog 46 #[.agg #[.string t23.1, .int .i64 t23.2.1, .int .i64 t23.2.2.1, .int .i64 t23.2.2.2.1], .string p1, .int .i64 p2] tBool fun t26 =>
  J t26) (
  J false)) 0
theorem rd38 (p0 : Option Addr) (p1 : ByteArray) (p2 : Int) (k : (Int × Bool × Unit) → Pr) (w : World) (h : sh38 p0 p1 p2 k w) :
    CallP Try.prog 38 #[.pointer p0, .string p1, .int .i64 p2] (.tup [.leaf (.int .i64), .leaf .bool]) k w :=
  CallP.of_eq (c := sa38.on (bodyOf Try.f38)) (S := sh38 p0 p1 p2 k) follows Try.func38 (by kernel_rfl) (by kernel_rfl) (by kernel_rfl) (by kernel_rfl) h

/-- (memoir.index.row[memoir.index.Item]).cut -/
def sa39 : SA := .seq (.region (.take 0 .pure .nil)) (.seq (.draw (.take 0 .pure <| .take 1 .pure <| .take 2 (.val tSl) <| .take 4 .pure <| .take 5 .pure <| .take 6 .pure <| .take 7 .pure <| .take 8 (.val tSl) <| .eff 3 tSl [] <| .eff 9 tSl [] <| .now 10 .pure [] .nil)) (.none))
def sh39 (p0 : Sl) (p1 : Int) (p2 : Int) (k : Sl → Pr) : Pr :=
  DrewP <|
  ValP Try.prog (vN (Instr.sliceAt 72 (.slice p0.a p0.len p0.cap) none (some (.int .i64 p1)) none)) tSl fun t9 =>
  ValP Try.prog (vN (Instr.sliceAt 72 (.slice p0.a p0.len p0.cap) (some (.int .i64 (IntKind.i64.wrap (p1 + p2)))) none none)) tSl fun t15 =>
  DoP Try.prog (vN (Builtin.append_ #[72, 72] 72 #[.slice none 0 0, .slice t9.a t9.len t9.cap])) tSl fun t10 =>
  DoP Try.prog (vN (Builtin.append_ #[72, 72] 72 #[.slice t10.a t10.len t10.cap, .slice t15.a t15.len t15.cap])) tSl fun t16 =>
  k t16
theorem rd39 (p0 : Sl) (p1 : Int) (p2 : Int) (k : Sl → Pr) (w : World) (h : sh39 p0 p1 p2 k w) :
    CallP Try.prog 39 #[.slice p0.a p0.len p0.cap, .int .i64 p1, .int .i64 p2] tSl k w :=
  CallP.of_eq (c := sa39.on (bodyOf Try.f39)) (S := sh39 p0 p1 p2 k) follows Try.func39 (by kernel_rfl) (by kernel_rfl) (by kernel_rfl) (by kernel_rfl) h

/-- (memoir.index.row[memoir.index.block]).cut -/
def sa40 : SA := .seq (.region (.take 0 .pure .nil)) (.seq (.draw (.take 0 .pure <| .take 1 .pure <| .take 2 (.val tSl) <| .take 4 .pure <| .take 5 .pure <| .take 6 .pure <| .take 7 .pure <| .take 8 (.val tSl) <| .eff 3 tSl [] <| .eff 9 tSl [] <| .now 10 .pure [] .nil)) (.none))
def sh40 (p0 : Sl) (p1 : Int) (p2 : Int) (k : Sl → Pr) : Pr :=
  DrewP <|
  ValP Try.prog (vN (Instr.sliceAt 66 (.slice p0.a p0.len p0.cap) none (some (.int .i64 p1)) none)) tSl fun t9 =>
  ValP Try.prog (vN (Instr.sliceAt 66 (.slice p0.a p0.len p0.cap) (some (.int .i64 (IntKind.i64.wrap (p1 + p2)))) none none)) tSl fun t15 =>
  DoP Try.prog (vN (Builtin.append_ #[66, 66] 66 #[.slice none 0 0, .slice t9.a t9.len t9.cap])) tSl fun t10 =>
  DoP Try.prog (vN (Builtin.append_ #[66, 66] 66 #[.slice t10.a t10.len t10.cap, .slice t15.a t15.len t15.cap])) tSl fun t16 =>
  k t16
theorem rd40 (p0 : Sl) (p1 : Int) (p2 : Int) (k : Sl → Pr) (w : World) (h : sh40 p0 p1 p2 k w) :
    CallP Try.prog 40 #[.slice p0.a p0.len p0.cap, .int .i64 p1, .int .i64 p2] tSl k w :=
  CallP.of_eq (c := sa40.on (bodyOf Try.f40)) (S := sh40 p0 p1 p2 k) follows Try.func40 (by kernel_rfl) (by kernel_rfl) (by kernel_rfl) (by kernel_rfl) h

/-- (*memoir.index.Index).merge -/
def sa41 : SA := .seq (.seq (.region (.take 0 .pure <| .take 1 .pure <| .take 2 .pure <| .guard 8 (.take 3 .pure <| .take 4 .pure <| .take 5 .pure <| .take 6 (.val tAddr) <| .take 7 .pure <| .take 8 (.get tSl) <| .take 9 .pure <| .take 10 .pure <| .take 11 .pure .nil) 17 [9, 10, 11, 12, 13, 14, 15, 16] .nil)) (.cond (.none) (.none))) (.seq (.draw (.take 0 .pure <| .take 1 (.val tAddr) <| .take 2 .pure <| .take 3 (.get tSl) <| .take 4 .pure <| .take 5 (.val tAddr) <| .take 6 .pure <| .take 7 (.get tSl) <| .take 8 .pure <| .take 9 (.val tAddr) <| .take 10 .pure <| .take 11 (.get tSl) <| .take 12 .pure <| .take 13 .pure <| .take 14 (.val tAddr) <| .take 15 .pure <| .take 16 (.get tSl) <| .now 17 .pure [11, 16] <| .now 18 .pure [] .nil)) (.seq (.seq (.region (.take 0 .pure <| .take 1 .pure <| .take 2 .pure <| .take 3 .pure <| .take 4 .pure <| .take 5 .pure <| .take 6 (.val tAddr) <| .take 7 .pure <| .take 8 (.get tInt) <| .take 9 .pure .nil)) (.cond (.none) (.none))) (.region (.take 0 .pure <| .take 1 .pure <| .take 2 (.val tAddr) <| .take 3 .pure <| .take 4 (.get tSl) <| .take 5 .pure <| .call 6 tSl <| .take 7 .pure <| .take 8 .pure <| .take 9 .pure <| .take 10 .pure <| .take 11 .pure <| .call 12 tSl <| .call 13 (.one (.agg [.slice, .int .i64])) <| .eff 14 tSl <| .call 15 tSl <| .take 16 (.val tAddr) <| .take 17 .pure <| .effU 18 .nil))))
def sh41 (p0 : Option Addr) (p1 : Int) (k : (Unit) → Pr) : Pr :=
  JoinP (S := Bool) (fun b17 => AnyP fun _ =>
  CondP b17 (
  k ()) (
  DrewP <|
  ValP Try.prog (nilN (.pointer p0)) tAddr fun t19 =>
  GetP Try.prog (vN (Instr.loadAt 66 (.pointer (some (Addr.add t19 1))))) tSl fun t21 =>
  ValP Try.prog (vN (Instr.indexAt 66 (.slice t21.a t21.len t21.cap) (.int .i64 p1))) tAddr fun t23 =>
  GetP Try.prog (vN (Instr.loadAt 72 (.pointer (some (Addr.add t23 0))))) tSl fun t25 =>
  ValP Try.prog (nilN (.pointer p0)) tAddr fun t27 =>
  GetP Try.prog (vN (Instr.loadAt 66 (.pointer (some (Addr.add t27 1))))) tSl fun t29 =>
  ValP Try.prog (vN (Instr.indexAt 66 (.slice t29.a t29.len t29.cap) (.int .i64 (IntKind.i64.wrap (p1 + 1))))) tAddr fun t32 =>
  GetP Try.prog (vN (Instr.loadAt 72 (.pointer (some (Addr.add t32 0))))) tSl fun t34 =>
  ChkP Try.prog (vN (Instr.loadAt 66 (.pointer (some (Addr.add t27 1))))) (.slice t29.a t29.len t29.cap) <|
  ChkP Try.prog (vN (Instr.loadAt 72 (.pointer (some (Addr.add t32 0))))) (.slice t34.a t34.len t34.cap) <|
  ValP Try.prog (nilN (.pointer p0)) tAddr fun t41 =>
  GetP Try.prog (vN (Instr.loadAt 3 (.pointer (some (Addr.add t41 0))))) tInt fun t43 =>
  CondP (decide (((IntKind.i64.wrap (t25.len + t34.len)) : Int) > t43)) (
  k ()) (
  ValP Try.prog (nilN (.pointer p0)) tAddr fun t47 =>
  GetP Try.prog (vN (Instr.loadAt 66 (.pointer (some (Addr.add t47 1))))) tSl fun t49 =>
  CallP Try.prog 40 #[.slice t49.a t49.len t49.cap, .int .i64 p1, .int .i64 2] tSl fun t51 =>
  CallP Try.prog 36 #[.slice t25.a t25.len t25.cap, .int .i64 t25.len, .slice t34.a t34.len t34.cap] tSl fun t57 =>
  CallP Try.prog 34 #[.slice t57.a t57.len t57.cap] (.one (.agg [.slice, .int .i64])) fun t58 =>
  DoP Try.prog (vN (Instr.buildSlice 65 1 #[(0, .agg #[.slice t58.1.a t58.1.len t58.1.cap, .int .i64 t58.2.1])])) tSl fun t59 =>
  CallP Try.prog 45 #[.slice t51.a t51.len t51.cap, .int .i64 p1, .slice t59.a t59.len t59.cap] tSl fun t60 =>
  ValP Try.prog (nilN (.pointer p0)) tAddr fun t61 =>
  DoU Try.prog (uN (Instr.storeAt 66 (.pointer (some (Addr.add t61 1))) (.slice t60.a t60.len t60.cap))) <|
  k ()))) fun J =>
  CondP (decide ((p1 : Int) < 0)) (
  J true) (
  ValP Try.prog (nilN (.pointer p0)) tAddr fun t12 =>
  GetP Try.prog (vN (Instr.loadAt 66 (.pointer (some (Addr.add t12 1))))) tSl fun t14 =>
  J (decide (((IntKind.i64.wrap (p1 + 1)) : Int) ≥ t14.len)))
theorem rd41 (p0 : Option Addr) (p1 : Int) (k : (Unit) → Pr) (w : World) (h : sh41 p0 p1 k w) :
    CallP Try.prog 41 #[.pointer p0, .int .i64 p1] (.tup []) k w :=
  CallP.of_eq (c := sa41.on (bodyOf Try.f41)) (S := sh41 p0 p1 k) follows Try.func41 (by kernel_rfl) (by kernel_rfl) (by kernel_rfl) (by kernel_rfl) h

/-- (*memoir.index.Index).each -/
def sa42 : SA := .seq (.region (.eff 0 tAddr <| .eff 1 tAddr <| .eff 2 tAddr <| .eff 3 tAddr <| .take 4 .pure .nil)) (.seq (.region (.take 0 .pure <| .take 1 .pure .nil)) (.none))
def sh42 (p0 : Option Addr) (p1 : ByteArray) (p2 : ByteArray) (p3 : Int) (k : Value → Pr) : Pr :=
  DoP Try.prog (vN (Instr.box 23 (.pointer p0))) tAddr fun t4 =>
  DoP Try.prog (vN (Instr.box 9 (.string p1))) tAddr fun t5 =>
  DoP Try.prog (vN (Instr.box 9 (.string p2))) tAddr fun t6 =>
  DoP Try.prog (vN (Instr.box 3 (.int .i64 p3))) tAddr fun t7 =>
  k (.func (.func 47) #[] #[.pointer (some t4), .pointer (some t7), .pointer (some t5), .pointer (some t6)])
theorem rd42 (p0 : Option Addr) (p1 : ByteArray) (p2 : ByteArray) (p3 : Int) (k : Value → Pr) (w : World) (h : sh42 p0 p1 p2 p3 k w) :
    CallP Try.prog 42 #[.pointer p0, .string p1, .string p2, .int .i64 p3] tRaw k w :=
  CallP.of_eq (c := sa42.on (bodyOf Try.f42)) (S := sh42 p0 p1 p2 p3 k) follows Try.func42 (by kernel_rfl) (by kernel_rfl) (by kernel_rfl) (by kernel_rfl) h

/-- memoir.memoirref13.among -/
def sa43 : SA := .seq (.region (.take 0 .pure .nil)) (.seq (.region (.take 0 .pure <| .take 1 .pure <| .call 2 tInt <| .take 3 .pure <| .take 4 .pure <| .guard 11 (.take 5 .pure <| .take 6 .pure <| .take 7 .pure <| .guard 14 (.take 8 .pure <| .take 9 .pure <| .call 10 tInt <| .take 11 .pure <| .take 12 .pure .nil) 19 [15, 16, 17, 18] <| .take 13 .pure .nil) 20 [12, 13, 14, 15, 16, 17, 18, 19] <| .take 14 .pure .nil)) (.none))
def sh43 (p0 : ByteArray) (p1 : ByteArray) (p2 : ByteArray) (k : Bool → Pr) : Pr :=
  CallP Try.prog 48 #[.string p0, .string p1] tInt fun t9 =>
  JoinP (S := Bool) (fun b20 => AnyP fun _ =>
  k b20) fun J =>
  CondP (decide ((t9 : Int) ≥ 0)) (
  JoinP (S := Bool) (fun b19 => AnyP fun _ =>
  J b19) fun J_2 =>
  CondP ((p2.toList == (⟨#[]⟩ : ByteArray).toList)) (
  J_2 true) (
  CallP Try.prog 48 #[.string p0, .string p2] tInt fun t17 =>
  J_2 (decide ((t17 : Int) < 0)))) (
  J false)
theorem rd43 (p0 : ByteArray) (p1 : ByteArray) (p2 : ByteArray) (k : Bool → Pr) (w : World) (h : sh43 p0 p1 p2 k w) :
    CallP Try.prog 43 #[.string p0, .string p1, .string p2] tBool k w :=
  CallP.of_eq (c := sa43.on (bodyOf Try.f43)) (S := sh43 p0 p1 p2 k) follows Try.func43 (by kernel_rfl) (by kernel_rfl) (by kernel_rfl) (by kernel_rfl) h

/-- (memoir.index.Item).ahead -/
def sa44 : SA := .seq (.region (.eff 0 tAddr <| .eff 1 tAddr <| .take 2 .pure .nil)) (.seq (.region (.take 0 .pure <| .take 1 (.get tStr) <| .take 2 .pure <| .take 3 (.get tStr) <| .take 4 .pure <| .take 5 .pure <| .guard 10 (.take 6 .pure <| .take 7 (.get tStr) <| .take 8 .pure <| .take 9 (.get tStr) <| .take 10 .pure <| .take 11 .pure <| .guard 16 (.take 12 .pure <| .take 13 (.get tInt) <| .take 14 .pure <| .take 15 (.get tInt) <| .take 16 .pure <| .take 17 .pure .nil) 22 [17, 18, 19, 20, 21] <| .take 18 .pure .nil) 23 [11, 12, 13, 14, 15, 16, 17, 18, 19, 20, 21, 22] <| .take 19 .pure .nil)) (.none))
def sh44 (p0 : (ByteArray × Int × Int × Int × Unit)) (p1 : (ByteArray × Int × Unit)) (k : Bool → Pr) : Pr :=
  DoP Try.prog (vN (Instr.box 31 (.agg #[.string p0.1, .int .i64 p0.2.1, .int .i64 p0.2.2.1, .int .i64 p0.2.2.2.1]))) tAddr fun t2 =>
  DoP Try.prog (vN (Instr.box 79 (.agg #[.string p1.1, .int .i64 p1.2.1]))) tAddr fun t3 =>
  GetP Try.prog (vN (Instr.loadAt 9 (.pointer (some (Addr.add t2 0))))) tStr fun t6 =>
  GetP Try.prog (vN (Instr.loadAt 9 (.pointer (some (Addr.add t3 0))))) tStr fun t8 =>
  JoinP (S := Bool) (fun b23 => AnyP fun _ =>
  k b23) fun J =>
  CondP (Op.bytesLess t6.toList t8.toList) (
  J true) (
  GetP Try.prog (vN (Instr.loadAt 9 (.pointer (some (Addr.add t2 0))))) tStr fun t12 =>
  GetP Try.prog (vN (Instr.loadAt 9 (.pointer (some (Addr.add t3 0))))) tStr fun t14 =>
  JoinP (S := Bool) (fun b22 => AnyP fun _ =>
  J b22) fun J_2 =>
  CondP ((t12.toList == t14.toList)) (
  GetP Try.prog (vN (Instr.loadAt 3 (.pointer (some (Addr.add t2 1))))) tInt fun t18 =>
  GetP Try.prog (vN (Instr.loadAt 3 (.pointer (some (Addr.add t3 1))))) tInt fun t20 =>
  J_2 (decide ((t18 : Int) < t20))) (
  J_2 false))
theorem rd44 (p0 : (ByteArray × Int × Int × Int × Unit)) (p1 : (ByteArray × Int × Unit)) (k : Bool → Pr) (w : World) (h : sh44 p0 p1 k w) :
    CallP Try.prog 44 #[.agg #[.string p0.1, .int .i64 p0.2.1, .int .i64 p0.2.2.1, .int .i64 p0.2.2.2.1], .agg #[.string p1.1, .int .i64 p1.2.1]] tBool k w :=
  CallP.of_eq (c := sa44.on (bodyOf Try.f44)) (S := sh44 p0 p1 k) follows Try.func44 (by kernel_rfl) (by kernel_rfl) (by kernel_rfl) (by kernel_rfl) h

/-- (memoir.index.row[memoir.index.block]).put -/
def sa45 : SA := .seq (.region (.take 0 .pure .nil)) (.seq (.region (.take 0 .pure <| .take 1 .pure <| .take 2 (.val tSl) <| .eff 3 tSl <| .take 4 .pure .nil)) (.seq (.draw (.take 0 .pure <| .take 1 .pure <| .take 3 .pure <| .take 4 .pure <| .take 5 (.val tSl) <| .eff 2 tSl [] <| .eff 6 tSl [] <| .now 7 .pure [] .nil)) (.none)))
def sh45 (p0 : Sl) (p1 : Int) (p2 : Sl) (k : Sl → Pr) : Pr :=
  ValP Try.prog (vN (Instr.sliceAt 66 (.slice p0.a p0.len p0.cap) none (some (.int .i64 p1)) none)) tSl fun t10 =>
  DoP Try.prog (vN (Builtin.append_ #[66, 66] 66 #[.slice none 0 0, .slice t10.a t10.len t10.cap])) tSl fun t11 =>
  DrewP <|
  ValP Try.prog (vN (Instr.sliceAt 66 (.slice p0.a p0.len p0.cap) (some (.int .i64 p1)) none none)) tSl fun t17 =>
  DoP Try.prog (vN (Builtin.append_ #[66, 65] 66 #[.slice t11.a t11.len t11.cap, .slice p2.a p2.len p2.cap])) tSl fun t14 =>
  DoP Try.prog (vN (Builtin.append_ #[66, 66] 66 #[.slice t14.a t14.len t14.cap, .slice t17.a t17.len t17.cap])) tSl fun t18 =>
  k t18
theorem rd45 (p0 : Sl) (p1 : Int) (p2 : Sl) (k : Sl → Pr) (w : World) (h : sh45 p0 p1 p2 k w) :
    CallP Try.prog 45 #[.slice p0.a p0.len p0.cap, .int .i64 p1, .slice p2.a p2.len p2.cap] tSl k w :=
  CallP.of_eq (c := sa45.on (bodyOf Try.f45)) (S := sh45 p0 p1 p2 k) follows Try.func45 (by kernel_rfl) (by kernel_rfl) (by kernel_rfl) (by kernel_rfl) h

/-- memoir.memoirref13.ahead -/
def sa46 : SA := .seq (.region (.eff 0 tAddr <| .take 1 .pure .nil)) (.seq (.region (.take 0 .pure <| .take 1 (.get tStr) <| .take 2 .pure <| .call 3 tInt <| .take 4 .pure .nil)) (.seq (.region (.take 0 .pure <| .take 1 .pure <| .take 2 .pure <| .guard 14 (.take 3 .pure <| .take 4 .pure <| .take 5 .pure <| .guard 17 (.take 6 .pure <| .take 7 (.get tInt) <| .take 8 .pure <| .take 9 .pure <| .take 10 .pure .nil) 22 [18, 19, 20, 21] <| .take 11 .pure .nil) 23 [15, 16, 17, 18, 19, 20, 21, 22] <| .take 12 .pure .nil)) (.none)))
def sh46 (p0 : (ByteArray × Int × Int × Int × Unit)) (p1 : ByteArray) (p2 : Int) (k : Bool → Pr) : Pr :=
  DoP Try.prog (vN (Instr.box 36 (.agg #[.string p0.1, .int .i64 p0.2.1, .int .i64 p0.2.2.1, .int .i64 p0.2.2.2.1]))) tAddr fun t3 =>
  GetP Try.prog (vN (Instr.loadAt 9 (.pointer (some (Addr.add t3 0))))) tStr fun t9 =>
  CallP Try.prog 48 #[.string t9, .string p1] tInt fun t11 =>
  JoinP (S := Bool) (fun b23 => AnyP fun _ =>
  k b23) fun J =>
  CondP (decide ((t11 : Int) < 0)) (
  J true) (
  JoinP (S := Bool) (fun b22 => AnyP fun _ =>
  J b22) fun J_2 =>
  CondP ((t11 : Int) == 0) (
  GetP Try.prog (vN (Instr.loadAt 3 (.pointer (some (Addr.add t3 1))))) tInt fun t19 =>
  J_2 (decide ((t19 : Int) < p2))) (
  J_2 false))
theorem rd46 (p0 : (ByteArray × Int × Int × Int × Unit)) (p1 : ByteArray) (p2 : Int) (k : Bool → Pr) (w : World) (h : sh46 p0 p1 p2 k w) :
    CallP Try.prog 46 #[.agg #[.string p0.1, .int .i64 p0.2.1, .int .i64 p0.2.2.1, .int .i64 p0.2.2.2.1], .string p1, .int .i64 p2] tBool k w :=
  CallP.of_eq (c := sa46.on (bodyOf Try.f46)) (S := sh46 p0 p1 p2 k) follows Try.func46 (by kernel_rfl) (by kernel_rfl) (by kernel_rfl) (by kernel_rfl) h

/-- memoir.memoirref01.Bytes -/
def sa48 : SA := .seq (.region (.take 0 .pure .nil)) (.seq (.seq (.region (.take 0 .pure .nil)) (.block (.loop [(5, .leaf (.int .i64))] [4, 6, 7, 8, 9, 10, 11, 12, 13, 14, 15, 16, 17, 18, 19, 20, 21, 22, 23, 24, 25, 26, 27, 28, 29, 30, 31] (.seq (.seq (.region (.take 0 .pure <| .take 1 .pure <| .take 2 .pure <| .take 3 .pure <| .take 4 .pure <| .guard 10 (.take 5 .pure <| .take 6 .pure <| .take 7 .pure <| .take 8 .pure <| .take 9 .pure .nil) 15 [11, 12, 13, 14] .nil)) (.cond (.none) (.none))) (.seq (.block (.seq (.draw (.take 0 .pure <| .take 1 .pure <| .take 2 (.val (.one (.leaf (.int .u8)))) <| .take 3 .pure <| .take 4 .pure <| .take 5 (.val (.one (.leaf (.int .u8)))) <| .take 6 .pure .nil)) (.cond (.seq (.seq (.draw (.take 0 .pure <| .take 1 .pure <| .take 2 (.val (.one (.leaf (.int .u8)))) <| .take 3 .pure <| .take 4 .pure <| .take 5 (.val (.one (.leaf (.int .u8)))) <| .take 6 .pure .nil)) (.cond (.seq (.region (.take 0 .pure .nil)) (.none)) (.none))) (.seq (.region (.take 0 .pure .nil)) (.none))) (.none)))) (.region (.take 0 .pure <| .take 1 .pure <| .take 2 .pure .nil))))))) (.seq (.seq (.region (.take 0 .pure <| .take 1 .pure <| .take 2 .pure <| .take 3 .pure <| .take 4 .pure .nil)) (.cond (.seq (.region (.take 0 .pure .nil)) (.none)) (.none))) (.seq (.seq (.region (.take 0 .pure <| .take 1 .pure <| .take 2 .pure <| .take 3 .pure <| .take 4 .pure .nil)) (.cond (.seq (.region (.take 0 .pure .nil)) (.none)) (.none))) (.seq (.region (.take 0 .pure .nil)) (.none)))))
def sh48 (p0 : ByteArray) (p1 : ByteArray) (k : Int → Pr) : Pr :=
  LoopP (S := Int) (fun next s => AnyP fun _ =>
  JoinP (S := Bool) (fun b15 => AnyP fun _ =>
  CondP b15 (
  DrewP <|
  ValP Try.prog (vN (Instr.index 9 (.string p0) (.int .i64 s))) (.one (.leaf (.int .u8))) fun t20 =>
  ValP Try.prog (vN (Instr.index 9 (.string p1) (.int .i64 s))) (.one (.leaf (.int .u8))) fun t23 =>
  CondP ((t20 : Int) != t23) (
  DrewP <|
  ValP Try.prog (vN (Instr.index 9 (.string p0) (.int .i64 s))) (.one (.leaf (.int .u8))) fun t27 =>
  ValP Try.prog (vN (Instr.index 9 (.string p1) (.int .i64 s))) (.one (.leaf (.int .u8))) fun t30 =>
  CondP (decide ((t27 : Int) < t30)) (
  k (-1)) (
  k 1)) (
  next (IntKind.i64.wrap (s + 1)))) (
  CondP ((p0.size : Int) == p1.size) (
  k 0) (
  CondP (decide ((p0.size : Int) < p1.size)) (
  k (-1)) (
  k 1)))) fun J =>
  CondP (decide ((s : Int) < p0.size)) (
  J (decide ((s : Int) < p1.size))) (
  J false)) 0
theorem rd48 (p0 : ByteArray) (p1 : ByteArray) (k : Int → Pr) (w : World) (h : sh48 p0 p1 k w) :
    CallP Try.prog 48 #[.string p0, .string p1] tInt k w :=
  CallP.of_eq (c := sa48.on (bodyOf Try.f48)) (S := sh48 p0 p1 k) follows Try.func48 (by kernel_rfl) (by kernel_rfl) (by kernel_rfl) (by kernel_rfl) h

/-- memoir.memoirlaw13.IndexPlays -/
def sa3 : SA := .seq (.region (.take 0 .pure .nil)) (.seq (.region (.take 0 .pure <| .call 1 (.tup [.leaf .ptr, .leaf (.int .i64)]) <| .take 2 .pure <| .take 3 .pure <| .take 4 .pure <| .take 5 .pure <| .take 6 .pure .nil)) (.seq (.region (.take 0 .pure <| .call 1 (.tup [.leaf .ptr, .leaf (.int .i64)]) <| .take 2 .pure <| .take 3 .pure <| .take 4 .pure <| .take 5 .pure <| .take 6 .pure .nil)) (.seq (.seq (.region (.take 0 .pure <| .take 1 .pure <| .take 2 .pure <| .take 3 .pure <| .guard 29 (.take 4 .pure <| .take 5 (.get tBool) <| .take 6 .pure <| .take 7 .pure <| .take 8 .pure <| .take 9 .pure .nil) 35 [30, 31, 32, 33, 34] .nil)) (.cond (.seq (.region (.take 0 .pure .nil)) (.none)) (.none))) (.seq (.seq (.region (.take 0 .pure .nil)) (.block (.loop [(9, .leaf (.int .i64))] [4, 10, 11, 12, 13, 14, 15, 36, 37, 38, 39, 40, 41, 42, 43, 44, 45, 46, 47, 48, 49, 50, 51, 52, 53, 54, 55, 56, 57, 58, 59, 60, 61, 62, 63, 64, 65, 66, 67, 68, 69, 70, 71, 72, 73, 74, 75, 76, 77, 78, 79, 80, 81, 82, 83, 84, 85, 86, 87, 88, 89, 90, 91, 92, 93, 94, 95, 96, 97, 98, 99, 100, 101, 102, 103, 104, 105, 106, 107, 108, 109, 110, 111, 112, 113, 114, 115, 116, 117, 118, 119, 120, 121, 122, 123, 124, 125, 126, 127, 128, 129, 130, 131, 132, 133, 134, 135, 136, 137, 138, 139, 140, 141, 142, 143, 144, 145, 146, 147, 148, 149, 150, 151, 152, 153, 154, 155, 156, 157, 158, 159, 160, 161, 162, 163, 164, 165, 166, 167, 168, 169, 170, 171, 172, 173, 174, 175, 176, 177, 178, 179, 180, 181, 182, 183, 184, 185, 186, 187, 188, 189, 190, 191, 192, 193, 194, 195, 196, 197, 198, 199, 200, 201, 202, 203, 204, 205, 206, 207, 208, 209, 210, 211, 212, 213, 214, 215, 216, 217, 218, 219, 220, 221, 222, 223, 224, 225, 226, 227, 228, 229, 230, 231, 232, 233, 234, 235, 236, 237, 238, 239, 240, 241, 242, 243, 244, 245] (.seq (.seq (.region (.take 0 .pure <| .take 1 .pure <| .take 2 .pure <| .take 3 .pure <| .take 4 .pure <| .guard 40 (.take 5 .pure <| .take 6 .pure <| .take 7 .pure .nil) 43 [41, 42] <| .take 8 .pure <| .guard 44 (.take 9 .pure <| .take 10 (.get tBool) <| .take 11 .pure .nil) 47 [45, 46] .nil)) (.cond (.none) (.none))) (.join (.block (.seq (.region (.take 0 .pure <| .take 1 .pure <| .take 2 (.val tAddr) <| .take 3 (.get (.one (.agg [.int .i64, .str, .int .i64, .int .i64, .int .i64, .str, .int .i64, .int .i64]))) <| .eff 4 tAddr <| .effU 5 .nil)) (.seq (.seq (.region (.take 0 .pure <| .take 1 .pure <| .take 2 (.get tStr) <| .take 3 .pure <| .take 4 .pure <| .take 5 .pure <| .guard 59 (.take 6 .pure <| .take 7 (.get tStr) <| .take 8 .pure <| .take 9 .pure <| .take 10 .pure .nil) 64 [60, 61, 62, 63] .nil)) (.cond (.none) (.none))) (.join (.seq (.region (.take 0 .pure <| .take 1 (.get tInt) .nil)) (.block (.seq (.region (.take 0 .pure <| .take 1 .pure .nil)) (.cond (.seq (.draw (.take 0 .pure <| .take 1 .pure <| .take 2 (.get (.one (.agg [.str, .int .i64, .int .i64, .int .i64]))) <| .take 4 .pure <| .take 5 .pure <| .take 6 .pure <| .take 7 (.get tStr) <| .take 8 .pure <| .take 9 .pure <| .take 10 (.get tInt) <| .take 11 .pure <| .take 12 .pure <| .take 13 (.get tInt) <| .take 14 .pure <| .take 15 .pure <| .take 16 (.get tInt) <| .take 17 .pure <| .call 3 tInt [7, 10, 13, 16] <| .call 18 tInt [7, 10, 13, 16] <| .take 19 .pure .nil)) (.cond (.seq (.region (.take 0 .pure .nil)) (.none)) (.none))) (.seq (.region (.take 0 .pure <| .take 1 .pure .nil)) (.cond (.seq (.draw (.take 0 .pure <| .take 1 .pure <| .take 2 .pure <| .take 3 (.get tStr) <| .take 4 .pure <| .take 5 .pure <| .take 6 (.get tInt) <| .take 7 .pure <| .take 8 .pure <| .take 9 (.get tInt) <| .take 11 .pure <| .take 12 .pure <| .take 13 .pure <| .take 14 (.get tStr) <| .take 15 .pure <| .take 16 .pure <| .take 17 (.get tInt) <| .take 18 .pure <| .take 19 .pure <| .take 20 (.get tInt) <| .call 10 tInt [14, 17, 20] <| .call 21 tInt [] <| .take 22 .pure .nil)) (.cond (.seq (.region (.take 0 .pure .nil)) (.none)) (.none))) (.seq (.region (.take 0 .pure <| .take 1 .pure .nil)) (.cond (.seq (.draw (.take 0 .pure <| .take 1 .pure <| .take 2 .pure <| .take 3 (.get tStr) <| .take 4 .pure <| .take 5 .pure <| .take 6 (.get tInt) <| .take 8 .pure <| .take 9 .pure <| .take 10 .pure <| .take 11 (.get tStr) <| .take 12 .pure <| .take 13 .pure <| .take 14 (.get tInt) <| .call 7 tInt [11, 14] <| .call 15 tInt [] <| .take 16 .pure .nil)) (.cond (.seq (.region (.take 0 .pure .nil)) (.none)) (.none))) (.seq (.region (.take 0 .pure <| .take 1 .pure .nil)) (.cond (.seq (.draw (.take 0 .pure <| .take 1 .pure <| .take 2 .pure <| .take 3 (.get tStr) <| .take 4 .pure <| .take 5 (.get tStr) <| .take 6 .pure <| .take 7 (.get tInt) <| .take 10 .pure <| .take 11 .pure <| .take 12 .pure <| .take 13 (.get tStr) <| .take 14 .pure <| .take 15 (.get tStr) <| .take 16 .pure <| .take 17 (.get tInt) <| .call 8 tSl [13, 15, 17] <| .call 9 tSl [13, 15, 17] <| .call 18 tSl [] <| .call 19 tBool [] <| .take 20 .pure .nil)) (.cond (.seq (.region (.take 0 .pure .nil)) (.none)) (.none))) (.seq (.region (.take 0 .pure <| .take 1 .pure .nil)) (.cond (.seq (.region (.take 0 .pure <| .take 1 (.get tInt) <| .take 2 .pure <| .take 3 (.get tInt) <| .take 4 .pure <| .eff 5 tAddr <| .effU 6 .nil)) (.seq (.draw (.take 0 .pure <| .take 1 .pure <| .take 2 .pure <| .take 3 (.get tStr) <| .take 4 .pure <| .take 5 (.get tStr) <| .take 6 (.get (.one (.agg [.int .i64, .int .i64]))) <| .take 9 .pure <| .take 10 .pure <| .take 11 .pure <| .take 12 (.get tStr) <| .take 13 .pure <| .take 14 (.get tStr) <| .take 15 (.get (.one (.agg [.int .i64, .int .i64]))) <| .call 7 tSl [12, 14, 15] <| .call 8 tSl [12, 14, 15] <| .call 16 tSl [] <| .call 17 tBool [] <| .take 18 .pure .nil)) (.cond (.seq (.region (.take 0 .pure .nil)) (.none)) (.none)))) (.seq (.region (.take 0 .pure <| .take 1 .pure <| .take 2 .pure <| .take 3 (.get tStr) <| .take 4 .pure <| .take 5 .pure <| .take 6 (.get tInt) <| .call 7 (.tup [.agg [.str, .int .i64, .int .i64, .int .i64], .leaf (.int .i64)]) <| .take 8 .pure <| .take 9 .pure <| .take 10 .pure <| .eff 11 tAddr <| .effU 12 <| .take 13 .pure .nil)) (.seq (.region (.take 0 .pure <| .take 1 .pure <| .take 2 .pure <| .take 3 (.get tStr) <| .take 4 .pure <| .take 5 .pure <| .take 6 (.get tInt) <| .call 7 (.tup [.agg [.str, .int .i64, .int .i64, .int .i64], .leaf (.int .i64)]) <| .take 8 .pure <| .take 9 .pure <| .take 10 .pure <| .eff 11 tAddr <| .effU 12 <| .take 13 .pure .nil)) (.seq (.region (.take 0 .pure <| .take 1 .pure <| .take 2 .pure <| .take 3 .pure <| .guard 92 (.take 4 .pure <| .take 5 (.get tStr) <| .take 6 .pure <| .take 7 (.get tInt) <| .take 8 .pure <| .take 9 (.get tInt) <| .take 10 .pure <| .take 11 (.get tInt) <| .take 12 .pure <| .take 13 (.get (.one (.agg [.str, .int .i64, .int .i64, .int .i64]))) <| .take 14 (.val tBool) <| .take 15 .pure .nil) 104 [93, 94, 95, 96, 97, 98, 99, 100, 101, 102, 103] .nil)) (.cond (.seq (.region (.take 0 .pure .nil)) (.none)) (.none))))))))))))))))) [] [4, 11, 12, 13, 14, 15, 65, 66, 67, 68, 69, 70, 71, 72, 73, 74, 75, 76, 77, 78, 79, 80, 81, 82, 83, 84, 85, 86, 87, 88, 89, 90, 91, 92, 93, 94, 95, 96, 97, 98, 99, 100, 101, 102, 103, 104, 105, 106, 107, 108, 109, 110, 111, 112, 113, 114, 115, 116, 117, 118, 119, 120, 121, 122, 123, 124, 125, 126, 127, 128, 129, 130, 131, 132, 133, 134, 135, 136, 137, 138, 139, 140, 141, 142, 143, 144, 145, 146, 147, 148, 149, 150, 151, 152, 153, 154, 155, 156, 157, 158, 159, 160, 161, 162, 163, 164, 165, 166, 167, 168, 169, 170, 171, 172, 173, 174, 175, 176, 177, 178, 179, 180, 181, 182, 183, 184, 185, 186, 187, 188, 189, 190, 191, 192, 193, 194, 195, 196, 197, 198, 199, 200, 201, 202, 203, 204, 205, 206, 207, 208, 209, 210, 211, 212, 213, 214, 215, 216, 217, 218, 219] (.seq (.draw (.take 0 .pure <| .take 2 .pure <| .take 3 (.val tAddr) <| .take 4 .pure <| .take 5 (.get tSl) <| .take 6 .pure <| .call 1 tInt [5] <| .take 7 .pure <| .take 8 .pure <| .split 228 <| .take 9 .pure <| .take 11 .pure <| .call 10 tInt [5] <| .call 12 tInt [5] <| .take 13 .pure <| .take 14 .pure <| .take 15 .pure <| .split 235 <| .take 16 .pure <| .take 19 .pure <| .take 20 (.val tAddr) <| .take 21 .pure <| .take 22 (.get tSl) <| .call 17 tSl [5, 22] <| .call 18 tSl [5, 22] <| .call 23 tBool [5] <| .take 24 .pure <| .take 25 .pure .nil)) (.cond (.seq (.region (.take 0 .pure .nil)) (.none)) (.none))))))) [] [4, 10, 11, 12, 13, 14, 15, 50, 51, 52, 53, 54, 55, 56, 57, 58, 59, 60, 61, 62, 63, 64, 65, 66, 67, 68, 69, 70, 71, 72, 73, 74, 75, 76, 77, 78, 79, 80, 81, 82, 83, 84, 85, 86, 87, 88, 89, 90, 91, 92, 93, 94, 95, 96, 97, 98, 99, 100, 101, 102, 103, 104, 105, 106, 107, 108, 109, 110, 111, 112, 113, 114, 115, 116, 117, 118, 119, 120, 121, 122, 123, 124, 125, 126, 127, 128, 129, 130, 131, 132, 133, 134, 135, 136, 137, 138, 139, 140, 141, 142, 143, 144, 145, 146, 147, 148, 149, 150, 151, 152, 153, 154, 155, 156, 157, 158, 159, 160, 161, 162, 163, 164, 165, 166, 167, 168, 169, 170, 171, 172, 173, 174, 175, 176, 177, 178, 179, 180, 181, 182, 183, 184, 185, 186, 187, 188, 189, 190, 191, 192, 193, 194, 195, 196, 197, 198, 199, 200, 201, 202, 203, 204, 205, 206, 207, 208, 209, 210, 211, 212, 213, 214, 215, 216, 217, 218, 219, 220, 221, 222, 223, 224, 225, 226, 227, 228, 229, 230, 231, 232, 233, 234, 235, 236, 237, 238, 239, 240, 241, 242, 243, 244, 245] (.region (.take 0 .pure <| .take 1 .pure <| .take 2 .pure .nil))))))) (.seq (.region (.call 0 tBool <| .take 1 .pure .nil)) (.none))))))
def sh3 (p0 : Int) (p1 : Sl) (k : Bool → Pr) : Pr :=
  CallP Try.prog 10 #[.int .i64 p0] (.tup [.leaf .ptr, .leaf (.int .i64)]) fun t18 =>
  CallP Try.prog 11 #[.int .i64 p0] (.tup [.leaf .ptr, .leaf (.int .i64)]) fun t23 =>
  JoinP (S := Bool) (fun b35 => AnyP fun _ =>
  CondP b35 (
  k false) (
  LoopP (S := Int) (fun next s => AnyP fun _ =>
  JoinP (S := Bool) (fun b43 => AnyP fun _ =>
  JoinP (S := Bool) (fun b47 => AnyP fun _ =>
  CondP b47 (
  JoinP (S := Unit) (fun s_2 => AnyP fun _ =>
  next (IntKind.i64.wrap (s + 1))) fun J_4 =>
  ValP Try.prog (vN (Instr.indexAt 22 (.slice p1.a p1.len p1.cap) (.int .i64 s))) tAddr fun t52 =>
  GetP Try.prog (vN (Instr.loadAt 33 (.pointer (some t52)))) (.one (.agg [.int .i64, .str, .int .i64, .int .i64, .int .i64, .str, .int .i64, .int .i64])) fun t53 =>
  DoP Try.prog (vN (Instr.alloc 33 true (.tuple #[]))) tAddr fun t10 =>
  DoU Try.prog (uN (Instr.storeAt 33 (.pointer (some t10)) (.agg #[.int .i64 t53.1, .string t53.2.1, .int .i64 t53.2.2.1, .int .i64 t53.2.2.2.1, .int .i64 t53.2.2.2.2.1, .string t53.2.2.2.2.2.1, .int .i64 t53.2.2.2.2.2.2.1, .int .i64 t53.2.2.2.2.2.2.2.1]))) <|
  GetP Try.prog (vN (Instr.loadAt 9 (.pointer (some (Addr.add (Addr.add t10 1) 0))))) tStr fun t56 =>
  JoinP (S := Bool) (fun b64 => AnyP fun _ =>
  CondP b64 (
  J_4 ()) (
  JoinP (S := Unit) (fun s_3 => AnyP fun _ =>
  DrewP <|
  ValP Try.prog (nilN (.pointer t23.1)) tAddr fun t223 =>
  GetP Try.prog (vN (Instr.loadAt 40 (.pointer (some (Addr.add t223 0))))) tSl fun t225 =>
  CallP Try.prog 26 #[.pointer t18.1] tInt fun t221 =>
  ChkP Try.prog (vN (Instr.loadAt 40 (.pointer (some (Addr.add t223 0))))) (.slice t225.a t225.len t225.cap) <|
  CondP ((t221 : Int) != t225.len) (
  CondP true (
  CondP true (
  k false) (
  J_4 ())) (
  ValP Try.prog (nilN (.pointer t23.1)) tAddr fun t240 =>
  GetP Try.prog (vN (Instr.loadAt 40 (.pointer (some (Addr.add t240 0))))) tSl fun t242 =>
  CallP Try.prog 29 #[.pointer t18.1] tSl fun t237 =>
  ChkP Try.prog (vN (Instr.loadAt 40 (.pointer (some (Addr.add t223 0))))) (.slice t225.a t225.len t225.cap) <|
  ChkP Try.prog (vN (Instr.loadAt 40 (.pointer (some (Addr.add t240 0))))) (.slice t242.a t242.len t242.cap) <|
  CallP Try.prog 19 #[.slice t237.a t237.len t237.cap] tSl fun t238 =>
  ChkP Try.prog (vN (Instr.loadAt 40 (.pointer (some (Addr.add t223 0))))) (.slice t225.a t225.len t225.cap) <|
  ChkP Try.prog (vN (Instr.loadAt 40 (.pointer (some (Addr.add t240 0))))) (.slice t242.a t242.len t242.cap) <|
  CallP Try.prog 18 #[.slice t238.a t238.len t238.cap, .slice t242.a t242.len t242.cap] tBool fun t243 =>
  ChkP Try.prog (vN (Instr.loadAt 40 (.pointer (some (Addr.add t223 0))))) (.slice t225.a t225.len t225.cap) <|
  CondP (!t243) (
  k false) (
  J_4 ()))) (
  CallP Try.prog 27 #[.pointer t18.1] tInt fun t230 =>
  ChkP Try.prog (vN (Instr.loadAt 40 (.pointer (some (Addr.add t223 0))))) (.slice t225.a t225.len t225.cap) <|
  CallP Try.prog 28 #[.pointer t23.1] tInt fun t232 =>
  ChkP Try.prog (vN (Instr.loadAt 40 (.pointer (some (Addr.add t223 0))))) (.slice t225.a t225.len t225.cap) <|
  CondP ((t230 : Int) != t232) (
  CondP true (
  k false) (
  J_4 ())) (
  ValP Try.prog (nilN (.pointer t23.1)) tAddr fun t240_2 =>
  GetP Try.prog (vN (Instr.loadAt 40 (.pointer (some (Addr.add t240_2 0))))) tSl fun t242_2 =>
  CallP Try.prog 29 #[.pointer t18.1] tSl fun t237_2 =>
  ChkP Try.prog (vN (Instr.loadAt 40 (.pointer (some (Addr.add t223 0))))) (.slice t225.a t225.len t225.cap) <|
  ChkP Try.prog (vN (Instr.loadAt 40 (.pointer (some (Addr.add t240_2 0))))) (.slice t242_2.a t242_2.len t242_2.cap) <|
  CallP Try.prog 19 #[.slice t237_2.a t237_2.len t237_2.cap] tSl fun t238_2 =>
  ChkP Try.prog (vN (Instr.loadAt 40 (.pointer (some (Addr.add t223 0))))) (.slice t225.a t225.len t225.cap) <|
  ChkP Try.prog (vN (Instr.loadAt 40 (.pointer (some (Addr.add t240_2 0))))) (.slice t242_2.a t242_2.len t242_2.cap) <|
  CallP Try.prog 18 #[.slice t238_2.a t238_2.len t238_2.cap, .slice t242_2.a t242_2.len t242_2.cap] tBool fun t243_2 =>
  ChkP Try.prog (vN (Instr.loadAt 40 (.pointer (some (Addr.add t223 0))))) (.slice t225.a t225.len t225.cap) <|
  CondP (!t243_2) (
  k false) (
  J_4 ())))) fun J_6 =>
  GetP Try.prog (vN (Instr.loadAt 3 (.pointer (some (Addr.add t10 0))))) tInt fun t66 =>
  CondP ((t66 : Int) == 0) (
  DrewP <|
  GetP Try.prog (vN (Instr.loadAt 31 (.pointer (some (Addr.add t10 1))))) (.one (.agg [.str, .int .i64, .int .i64, .int .i64])) fun t109 =>
  GetP Try.prog (vN (Instr.loadAt 9 (.pointer (some (Addr.add (Addr.add t10 1) 0))))) tStr fun t114 =>
  GetP Try.prog (vN (Instr.loadAt 3 (.pointer (some (Addr.add (Addr.add t10 1) 1))))) tInt fun t117 =>
  GetP Try.prog (vN (Instr.loadAt 3 (.pointer (some (Addr.add (Addr.add t10 1) 2))))) tInt fun t120 =>
  GetP Try.prog (vN (Instr.loadAt 3 (.pointer (some (Addr.add (Addr.add t10 1) 3))))) tInt fun t123 =>
  CallP Try.prog 12 #[.pointer t18.1, .agg #[.string t109.1, .int .i64 t109.2.1, .int .i64 t109.2.2.1, .int .i64 t109.2.2.2.1]] tInt fun t110 =>
  ChkP Try.prog (vN (Instr.loadAt 9 (.pointer (some (Addr.add (Addr.add t10 1) 0))))) (.string t114) <|
  ChkP Try.prog (vN (Instr.loadAt 3 (.pointer (some (Addr.add (Addr.add t10 1) 1))))) (.int .i64 t117) <|
  ChkP Try.prog (vN (Instr.loadAt 3 (.pointer (some (Addr.add (Addr.add t10 1) 2))))) (.int .i64 t120) <|
  ChkP Try.prog (vN (Instr.loadAt 3 (.pointer (some (Addr.add (Addr.add t10 1) 3))))) (.int .i64 t123) <|
  CallP Try.prog 13 #[.pointer t23.1, .agg #[.string t114, .int .i64 t117, .int .i64 t120, .int .i64 t123]] tInt fun t125 =>
  ChkP Try.prog (vN (Instr.loadAt 9 (.pointer (some (Addr.add (Addr.add t10 1) 0))))) (.string t114) <|
  ChkP Try.prog (vN (Instr.loadAt 3 (.pointer (some (Addr.add (Addr.add t10 1) 1))))) (.int .i64 t117) <|
  ChkP Try.prog (vN (Instr.loadAt 3 (.pointer (some (Addr.add (Addr.add t10 1) 2))))) (.int .i64 t120) <|
  ChkP Try.prog (vN (Instr.loadAt 3 (.pointer (some (Addr.add (Addr.add t10 1) 3))))) (.int .i64 t123) <|
  CondP ((t110 : Int) != t125) (
  k false) (
  J_6 ())) (
  CondP ((t66 : Int) == 1) (
  DrewP <|
  GetP Try.prog (vN (Instr.loadAt 9 (.pointer (some (Addr.add (Addr.add t10 1) 0))))) tStr fun t132 =>
  GetP Try.prog (vN (Instr.loadAt 3 (.pointer (some (Addr.add (Addr.add t10 1) 1))))) tInt fun t135 =>
  GetP Try.prog (vN (Instr.loadAt 3 (.pointer (some (Addr.add (Addr.add t10 1) 2))))) tInt fun t138 =>
  GetP Try.prog (vN (Instr.loadAt 9 (.pointer (some (Addr.add (Addr.add t10 1) 0))))) tStr fun t143 =>
  GetP Try.prog (vN (Instr.loadAt 3 (.pointer (some (Addr.add (Addr.add t10 1) 1))))) tInt fun t146 =>
  GetP Try.prog (vN (Instr.loadAt 3 (.pointer (some (Addr.add (Addr.add t10 1) 2))))) tInt fun t149 =>
  CallP Try.prog 14 #[.pointer t18.1, .string t132, .int .i64 t135, .int .i64 t138] tInt fun t139 =>
  ChkP Try.prog (vN (Instr.loadAt 9 (.pointer (some (Addr.add (Addr.add t10 1) 0))))) (.string t143) <|
  ChkP Try.prog (vN (Instr.loadAt 3 (.pointer (some (Addr.add (Addr.add t10 1) 1))))) (.int .i64 t146) <|
  ChkP Try.prog (vN (Instr.loadAt 3 (.pointer (some (Addr.add (Addr.add t10 1) 2))))) (.int .i64 t149) <|
  CallP Try.prog 15 #[.pointer t23.1, .string t143, .int .i64 t146, .int .i64 t149] tInt fun t150 =>
  CondP ((t139 : Int) != t150) (
  k false) (
  J_6 ())) (
  CondP ((t66 : Int) == 2) (
  DrewP <|
  GetP Try.prog (vN (Instr.loadAt 9 (.pointer (some (Addr.add (Addr.add t10 1) 0))))) tStr fun t157 =>
  GetP Try.prog (vN (Instr.loadAt 3 (.pointer (some (Addr.add (Addr.add t10 1) 1))))) tInt fun t160 =>
  GetP Try.prog (vN (Instr.loadAt 9 (.pointer (some (Addr.add (Addr.add t10 1) 0))))) tStr fun t165 =>
  GetP Try.prog (vN (Instr.loadAt 3 (.pointer (some (Addr.add (Addr.add t10 1) 1))))) tInt fun t168 =>
  CallP Try.prog 16 #[.pointer t18.1, .string t157, .int .i64 t160] tInt fun t161 =>
  ChkP Try.prog (vN (Instr.loadAt 9 (.pointer (some (Addr.add (Addr.add t10 1) 0))))) (.string t165) <|
  ChkP Try.prog (vN (Instr.loadAt 3 (.pointer (some (Addr.add (Addr.add t10 1) 1))))) (.int .i64 t168) <|
  CallP Try.prog 17 #[.pointer t23.1, .string t165, .int .i64 t168] tInt fun t169 =>
  CondP ((t161 : Int) != t169) (
  k false) (
  J_6 ())) (
  CondP ((t66 : Int) == 3) (
  DrewP <|
  GetP Try.prog (vN (Instr.loadAt 9 (.pointer (some (Addr.add (Addr.add t10 1) 0))))) tStr fun t176 =>
  GetP Try.prog (vN (Instr.loadAt 9 (.pointer (some (Addr.add t10 5))))) tStr fun t178 =>
  GetP Try.prog (vN (Instr.loadAt 3 (.pointer (some (Addr.add t10 6))))) tInt fun t180 =>
  GetP Try.prog (vN (Instr.loadAt 9 (.pointer (some (Addr.add (Addr.add t10 1) 0))))) tStr fun t186 =>
  GetP Try.prog (vN (Instr.loadAt 9 (.pointer (some (Addr.add t10 5))))) tStr fun t188 =>
  GetP Try.prog (vN (Instr.loadAt 3 (.pointer (some (Addr.add t10 6))))) tInt fun t190 =>
  CallP Try.prog 20 #[.pointer t18.1, .string t176, .string t178, .int .i64 t180] tSl fun t181 =>
  ChkP Try.prog (vN (Instr.loadAt 9 (.pointer (some (Addr.add (Addr.add t10 1) 0))))) (.string t186) <|
  ChkP Try.prog (vN (Instr.loadAt 9 (.pointer (some (Addr.add t10 5))))) (.string t188) <|
  ChkP Try.prog (vN (Instr.loadAt 3 (.pointer (some (Addr.add t10 6))))) (.int .i64 t190) <|
  CallP Try.prog 19 #[.slice t181.a t181.len t181.cap] tSl fun t182 =>
  ChkP Try.prog (vN (Instr.loadAt 9 (.pointer (some (Addr.add (Addr.add t10 1) 0))))) (.string t186) <|
  ChkP Try.prog (vN (Instr.loadAt 9 (.pointer (some (Addr.add t10 5))))) (.string t188) <|
  ChkP Try.prog (vN (Instr.loadAt 3 (.pointer (some (Addr.add t10 6))))) (.int .i64 t190) <|
  CallP Try.prog 21 #[.pointer t23.1, .string t186, .string t188, .int .i64 t190] tSl fun t191 =>
  CallP Try.prog 18 #[.slice t182.a t182.len t182.cap, .slice t191.a t191.len t191.cap] tBool fun t192 =>
  CondP (!t192) (
  k false) (
  J_6 ())) (
  CondP ((t66 : Int) == 4) (
  GetP Try.prog (vN (Instr.loadAt 3 (.pointer (some (Addr.add t10 6))))) tInt fun t197 =>
  GetP Try.prog (vN (Instr.loadAt 3 (.pointer (some (Addr.add t10 7))))) tInt fun t199 =>
  DoP Try.prog (vN (Instr.alloc 46 true (.tuple #[]))) tAddr fun t11 =>
  DoU Try.prog (uN (Instr.storeAt 46 (.pointer (some t11)) (.agg #[.int .i64 t197, .int .i64 t199]))) <|
  DrewP <|
  GetP Try.prog (vN (Instr.loadAt 9 (.pointer (some (Addr.add (Addr.add t10 1) 0))))) tStr fun t204 =>
  GetP Try.prog (vN (Instr.loadAt 9 (.pointer (some (Addr.add t10 5))))) tStr fun t206 =>
  GetP Try.prog (vN (Instr.loadAt 46 (.pointer (some t11)))) (.one (.agg [.int .i64, .int .i64])) fun t207 =>
  GetP Try.prog (vN (Instr.loadAt 9 (.pointer (some (Addr.add (Addr.add t10 1) 0))))) tStr fun t213 =>
  GetP Try.prog (vN (Instr.loadAt 9 (.pointer (some (Addr.add t10 5))))) tStr fun t215 =>
  GetP Try.prog (vN (Instr.loadAt 46 (.pointer (some t11)))) (.one (.agg [.int .i64, .int .i64])) fun t216 =>
  CallP Try.prog 22 #[.pointer t18.1, .string t204, .string t206, .agg #[.int .i64 t207.1, .int .i64 t207.2.1]] tSl fun t208 =>
  ChkP Try.prog (vN (Instr.loadAt 9 (.pointer (some (Addr.add (Addr.add t10 1) 0))))) (.string t213) <|
  ChkP Try.prog (vN (Instr.loadAt 9 (.pointer (some (Addr.add t10 5))))) (.string t215) <|
  ChkP Try.prog (vN (Instr.loadAt 46 (.pointer (some t11)))) (.agg #[.int .i64 t216.1, .int .i64 t216.2.1]) <|
  CallP Try.prog 19 #[.slice t208.a t208.len t208.cap] tSl fun t209 =>
  ChkP Try.prog (vN (Instr.loadAt 9 (.pointer (some (Addr.add (Addr.add t10 1) 0))))) (.string t213) <|
  ChkP Try.prog (vN (Instr.loadAt 9 (.pointer (some (Addr.add t10 5))))) (.string t215) <|
  ChkP Try.prog (vN (Instr.loadAt 46 (.pointer (some t11)))) (.agg #[.int .i64 t216.1, .int .i64 t216.2.1]) <|
  CallP Try.prog 23 #[.pointer t23.1, .string t213, .string t215, .agg #[.int .i64 t216.1, .int .i64 t216.2.1]] tSl fun t217 =>
  CallP Try.prog 18 #[.slice t209.a t209.len t209.cap, .slice t217.a t217.len t217.cap] tBool fun t218 =>
  CondP (!t218) (
  k false) (
  J_6 ())) (
  GetP Try.prog (vN (Instr.loadAt 9 (.pointer (some (Addr.add (Addr.add t10 1) 0))))) tStr fun t71 =>
  GetP Try.prog (vN (Instr.loadAt 3 (.pointer (some (Addr.add (Addr.add t10 1) 1))))) tInt fun t74 =>
  CallP Try.prog 24 #[.pointer t18.1, .string t71, .int .i64 t74] (.tup [.agg [.str, .int .i64, .int .i64, .int .i64], .leaf (.int .i64)]) fun t75 =>
  DoP Try.prog (vN (Instr.alloc 31 true (.tuple #[]))) tAddr fun t12 =>
  DoU Try.prog (uN (Instr.storeAt 31 (.pointer (some t12)) (.agg #[.string t75.1.1, .int .i64 t75.1.2.1, .int .i64 t75.1.2.2.1, .int .i64 t75.1.2.2.2.1]))) <|
  GetP Try.prog (vN (Instr.loadAt 9 (.pointer (some (Addr.add (Addr.add t10 1) 0))))) tStr fun t82 =>
  GetP Try.prog (vN (Instr.loadAt 3 (.pointer (some (Addr.add (Addr.add t10 1) 1))))) tInt fun t85 =>
  CallP Try.prog 25 #[.pointer t23.1, .string t82, .int .i64 t85] (.tup [.agg [.str, .int .i64, .int .i64, .int .i64], .leaf (.int .i64)]) fun t86 =>
  DoP Try.prog (vN (Instr.alloc 36 true (.tuple #[]))) tAddr fun t14 =>
  DoU Try.prog (uN (Instr.storeAt 36 (.pointer (some t14)) (.agg #[.string t86.1.1, .int .i64 t86.1.2.1, .int .i64 t86.1.2.2.1, .int .i64 t86.1.2.2.2.1]))) <|
  JoinP (S := Bool) (fun b104 => AnyP fun _ =>
  CondP b104 (
  k false) (
  J_6 ())) fun J_7 =>
  CondP ((t75.2.1 : Int) != t86.2.1) (
  J_7 true) (
  GetP Try.prog (vN (Instr.loadAt 9 (.pointer (some (Addr.add t12 0))))) tStr fun t94 =>
  GetP Try.prog (vN (Instr.loadAt 3 (.pointer (some (Addr.add t12 1))))) tInt fun t96 =>
  GetP Try.prog (vN (Instr.loadAt 3 (.pointer (some (Addr.add t12 2))))) tInt fun t98 =>
  GetP Try.prog (vN (Instr.loadAt 3 (.pointer (some (Addr.add t12 3))))) tInt fun t100 =>
  GetP Try.prog (vN (Instr.loadAt 36 (.pointer (some t14)))) (.one (.agg [.str, .int .i64, .int .i64, .int .i64])) fun t102 =>
  ValP Try.prog (cmpN .neq 36 (.tmp 101) (.tmp 102) (.agg #[.string t94, .int .i64 t96, .int .i64 t98, .int .i64 t100]) (.agg #[.string t102.1, .int .i64 t102.2.1, .int .i64 t102.2.2.1, .int .i64 t102.2.2.2.1])) tBool fun t103 =>
  J_7 t103)))))))) fun J_5 =>
  CondP (decide ((t56.size : Int) > 100)) (
  J_5 true) (
  GetP Try.prog (vN (Instr.loadAt 9 (.pointer (some (Addr.add t10 5))))) tStr fun t61 =>
  J_5 (decide ((t61.size : Int) > 100)))) (
  CallP Try.prog 30 #[] tBool fun t246 =>
  k t246)) fun J_3 =>
  CondP b43 (
  GetP Try.prog (cmpN .neq 23 (.tmp 45) (.const (.pointer none)) (.pointer t18.1) (.pointer none)) tBool fun t46 =>
  J_3 t46) (
  J_3 false)) fun J_2 =>
  CondP (decide ((s : Int) < p1.len)) (
  J_2 (decide ((s : Int) < 200))) (
  J_2 false)) 0)) fun J =>
  CondP ((t18.2.1 : Int) != t23.2.1) (
  J true) (
  GetP Try.prog (cmpN .neq 23 (.tmp 30) (.const (.pointer none)) (.pointer t18.1) (.pointer none)) tBool fun t31 =>
  J (!((t31 : Bool) == ((t23.2.1 : Int) == 0))))
theorem rd3 (p0 : Int) (p1 : Sl) (k : Bool → Pr) (w : World) (h : sh3 p0 p1 k w) :
    CallP Try.prog 3 #[.int .i64 p0, .slice p1.a p1.len p1.cap] tBool k w :=
  CallP.of_eq (c := sa3.on (bodyOf Try.f3)) (S := sh3 p0 p1 k) follows Try.func3 (by kernel_rfl) (by kernel_rfl) (by kernel_rfl) (by kernel_rfl) h

/-- memoir.memoirlaw13.IndexBlocks -/
def sa4 : SA := .seq (.region (.take 0 .pure .nil)) (.seq (.region (.take 0 .pure <| .take 1 .pure <| .take 2 .pure <| .take 3 .pure <| .take 4 .pure .nil)) (.seq (.region (.take 0 .pure <| .call 1 (.tup [.leaf .ptr, .leaf (.int .i64)]) <| .take 2 .pure <| .take 3 .pure <| .take 4 .pure <| .take 5 .pure <| .take 6 .pure .nil)) (.seq (.seq (.region (.take 0 .pure <| .take 1 .pure <| .take 2 .pure <| .guard 23 (.take 3 .pure <| .take 4 (.get tBool) <| .take 5 .pure .nil) 26 [24, 25] .nil)) (.cond (.seq (.region (.take 0 .pure .nil)) (.none)) (.none))) (.seq (.seq (.region (.take 0 .pure .nil)) (.block (.loop [(8, .leaf (.int .i64))] [4, 9, 10, 11, 27, 28, 29, 30, 31, 32, 33, 34, 35, 36, 37, 38, 39, 40, 41, 42, 43, 44, 45, 46, 47, 48, 49, 50, 51, 52, 53, 54, 55, 56, 57, 58, 59, 60, 61, 62, 63, 64, 65, 66, 67, 68, 69, 70, 71, 72, 73, 74, 75, 76, 77, 78, 79, 80, 81, 82, 83, 84, 85, 86, 87, 88, 89, 90, 91, 92, 93] (.seq (.seq (.region (.take 0 .pure <| .take 1 .pure <| .take 2 .pure <| .take 3 .pure <| .take 4 .pure <| .guard 31 (.take 5 .pure <| .take 6 .pure <| .take 7 .pure .nil) 34 [32, 33] .nil)) (.cond (.none) (.none))) (.seq (.block (.seq (.region (.take 0 .pure <| .take 1 .pure <| .take 2 .pure <| .take 3 .pure <| .take 4 .pure <| .take 5 (.val tSl) <| .call 6 (.tup []) .nil)) (.seq (.region (.take 0 .pure <| .call 1 tSl <| .take 2 .pure .nil)) (.seq (.region (.take 0 .pure .nil)) (.seq (.seq (.region (.take 0 .pure .nil)) (.block (.loop [(10, .leaf (.int .i64)), (11, .leaf (.int .i64))] [4, 46, 47, 48, 49, 50, 51, 52, 53, 54, 55, 56, 57, 58, 59, 60, 61, 62, 63, 64, 65, 66, 67, 68, 69, 70, 71, 72, 73, 74, 75, 76, 77, 78, 79, 80, 81, 82, 83, 84, 85, 86, 87, 88, 89] (.seq (.seq (.region (.take 0 .pure <| .take 1 .pure <| .take 2 .pure <| .take 3 .pure .nil)) (.cond (.none) (.none))) (.seq (.block (.seq (.region (.take 0 .pure <| .take 1 .pure <| .take 2 .pure <| .take 3 (.val tAddr) <| .take 4 (.get tInt) <| .take 5 .pure <| .take 6 .pure .nil)) (.seq (.draw (.take 0 .pure <| .take 1 .pure <| .take 2 (.val tAddr) <| .take 3 (.get tInt) <| .take 4 .pure <| .take 5 .pure <| .split 63 <| .take 6 .pure <| .take 7 .pure <| .take 8 (.val tAddr) <| .take 9 (.get tInt) <| .take 10 .pure <| .take 11 .pure <| .take 12 .pure <| .take 13 .pure <| .take 14 .pure <| .split 72 <| .take 15 .pure <| .take 16 .pure <| .take 17 .pure <| .split 75 <| .take 18 .pure <| .take 19 .pure <| .take 20 .pure <| .take 21 (.val tAddr) <| .take 22 (.get tInt) <| .take 23 .pure <| .take 24 .pure <| .take 25 (.val tAddr) <| .take 26 (.get tInt) <| .take 27 .pure <| .take 28 .pure <| .take 29 .pure <| .take 30 .pure <| .take 31 .pure .nil)) (.cond (.seq (.region (.take 0 .pure .nil)) (.none)) (.none))))) (.region (.take 0 .pure <| .take 1 .pure <| .take 2 .pure .nil))))))) (.seq (.region (.take 0 .pure <| .take 1 .pure <| .call 2 tInt <| .take 3 .pure .nil)) (.cond (.seq (.region (.take 0 .pure .nil)) (.none)) (.none)))))))) (.region (.take 0 .pure <| .take 1 .pure <| .take 2 .pure .nil))))))) (.seq (.region (.call 0 tBool <| .take 1 .pure .nil)) (.none))))))
def sh4 (p0 : Int) (p1 : Sl) (k : Bool → Pr) : Pr :=
  CallP Try.prog 10 #[.int .i64 (IntKind.i64.wrap (2 + (Int.tmod (IntKind.i64.wrap p0) 99)))] (.tup [.leaf .ptr, .leaf (.int .i64)]) fun t18 =>
  JoinP (S := Bool) (fun b26 => AnyP fun _ =>
  CondP b26 (
  k false) (
  LoopP (S := Int) (fun next s => AnyP fun _ =>
  JoinP (S := Bool) (fun b34 => AnyP fun _ =>
  CondP b34 (
  ValP Try.prog (vN (Instr.sliceAt 22 (.slice p1.a p1.len p1.cap) (some (.int .i64 s)) (some (.int .i64 (IntKind.i64.wrap (s + 1)))) none)) tSl fun t42 =>
  CallP Try.prog 31 #[.pointer t18.1, .slice t42.a t42.len t42.cap] (.tup []) fun t43 =>
  CallP Try.prog 32 #[.pointer t18.1] tSl fun t45 =>
  LoopP (S := Int × Int) (fun next_2 s_2 => AnyP fun _ =>
  CondP (decide ((s_2.2 : Int) < t45.len)) (
  ValP Try.prog (vN (Instr.indexAt 60 (.slice t45.a t45.len t45.cap) (.int .i64 s_2.2))) tAddr fun t55 =>
  GetP Try.prog (vN (Instr.loadAt 3 (.pointer (some t55)))) tInt fun t56 =>
  DrewP <|
  ValP Try.prog (vN (Instr.indexAt 60 (.slice t45.a t45.len t45.cap) (.int .i64 s_2.2))) tAddr fun t60 =>
  GetP Try.prog (vN (Instr.loadAt 3 (.pointer (some t60)))) tInt fun t61 =>
  CondP (decide ((t61 : Int) < 1)) (
  CondP true (
  CondP true (
  k false) (
  next_2 (IntKind.i64.wrap (s_2.1 + t56), IntKind.i64.wrap (s_2.2 + 1)))) (
  CondP (decide ((s_2.2 : Int) > 0)) (
  ValP Try.prog (vN (Instr.indexAt 60 (.slice t45.a t45.len t45.cap) (.int .i64 (IntKind.i64.wrap (s_2.2 - 1))))) tAddr fun t79 =>
  GetP Try.prog (vN (Instr.loadAt 3 (.pointer (some t79)))) tInt fun t80 =>
  ValP Try.prog (vN (Instr.indexAt 60 (.slice t45.a t45.len t45.cap) (.int .i64 s_2.2))) tAddr fun t83 =>
  GetP Try.prog (vN (Instr.loadAt 3 (.pointer (some t83)))) tInt fun t84 =>
  CondP (decide (((IntKind.i64.wrap (t80 + t84)) : Int) ≤ (IntKind.i64.wrap (2 + (Int.tmod (IntKind.i64.wrap p0) 99))))) (
  k false) (
  next_2 (IntKind.i64.wrap (s_2.1 + t56), IntKind.i64.wrap (s_2.2 + 1)))) (
  CondP false (
  k false) (
  next_2 (IntKind.i64.wrap (s_2.1 + t56), IntKind.i64.wrap (s_2.2 + 1)))))) (
  ValP Try.prog (vN (Instr.indexAt 60 (.slice t45.a t45.len t45.cap) (.int .i64 s_2.2))) tAddr fun t66 =>
  GetP Try.prog (vN (Instr.loadAt 3 (.pointer (some t66)))) tInt fun t67 =>
  CondP (decide ((t67 : Int) > (IntKind.i64.wrap (2 * (IntKind.i64.wrap (2 + (Int.tmod (IntKind.i64.wrap p0) 99))))))) (
  CondP true (
  k false) (
  next_2 (IntKind.i64.wrap (s_2.1 + t56), IntKind.i64.wrap (s_2.2 + 1)))) (
  CondP (decide ((s_2.2 : Int) > 0)) (
  ValP Try.prog (vN (Instr.indexAt 60 (.slice t45.a t45.len t45.cap) (.int .i64 (IntKind.i64.wrap (s_2.2 - 1))))) tAddr fun t79_2 =>
  GetP Try.prog (vN (Instr.loadAt 3 (.pointer (some t79_2)))) tInt fun t80_2 =>
  ValP Try.prog (vN (Instr.indexAt 60 (.slice t45.a t45.len t45.cap) (.int .i64 s_2.2))) tAddr fun t83_2 =>
  GetP Try.prog (vN (Instr.loadAt 3 (.pointer (some t83_2)))) tInt fun t84_2 =>
  CondP (decide (((IntKind.i64.wrap (t80_2 + t84_2)) : Int) ≤ (IntKind.i64.wrap (2 + (Int.tmod (IntKind.i64.wrap p0) 99))))) (
  k false) (
  next_2 (IntKind.i64.wrap (s_2.1 + t56), IntKind.i64.wrap (s_2.2 + 1)))) (
  CondP false (
  k false) (
  next_2 (IntKind.i64.wrap (s_2.1 + t56), IntKind.i64.wrap (s_2.2 + 1))))))) (
  CallP Try.prog 26 #[.pointer t18.1] tInt fun t92 =>
  CondP ((s_2.1 : Int) != t92) (
  k false) (
  next (IntKind.i64.wrap (s + 1))))) (0, 0)) (
  CallP Try.prog 30 #[] tBool fun t94 =>
  k t94)) fun J_2 =>
  CondP (decide ((s : Int) < p1.len)) (
  J_2 (decide ((s : Int) < 120))) (
  J_2 false)) 0)) fun J =>
  CondP ((t18.2.1 : Int) != 0) (
  J true) (
  GetP Try.prog (cmpN .eql 23 (.tmp 24) (.const (.pointer none)) (.pointer t18.1) (.pointer none)) tBool fun t25 =>
  J t25)
theorem rd4 (p0 : Int) (p1 : Sl) (k : Bool → Pr) (w : World) (h : sh4 p0 p1 k w) :
    CallP Try.prog 4 #[.int .u8 p0, .slice p1.a p1.len p1.cap] tBool k w :=
  CallP.of_eq (c := sa4.on (bodyOf Try.f4)) (S := sh4 p0 p1 k) follows Try.func4 (by kernel_rfl) (by kernel_rfl) (by kernel_rfl) (by kernel_rfl) h

/-- memoir.memoirlaw13.IndexStabs -/
def sa5 : SA := .seq (.region (.take 0 .pure .nil)) (.seq (.region (.call 0 (.tup [.leaf .ptr, .leaf (.int .i64)]) <| .take 1 .pure <| .take 2 .pure <| .take 3 .pure <| .take 4 .pure <| .take 5 .pure .nil)) (.seq (.seq (.region (.take 0 .pure <| .take 1 .pure <| .take 2 .pure <| .guard 18 (.take 3 .pure <| .take 4 (.get tBool) <| .take 5 .pure .nil) 21 [19, 20] .nil)) (.cond (.seq (.region (.take 0 .pure .nil)) (.none)) (.none))) (.seq (.region (.take 0 .pure <| .take 1 .pure <| .call 2 (.tup []) .nil)) (.seq (.region (.take 0 .pure <| .call 1 tSl <| .take 2 .pure .nil)) (.seq (.region (.take 0 .pure <| .take 1 .pure <| .call 2 tSl <| .take 3 .pure .nil)) (.seq (.region (.take 0 .pure .nil)) (.seq (.seq (.region (.take 0 .pure .nil)) (.block (.loop [(9, .leaf (.int .i64)), (10, .leaf (.int .i64))] [4, 30, 31, 32, 33, 34, 35, 36, 37, 38, 39, 40, 41, 42, 43, 44, 45, 46, 47, 48, 49, 50, 51, 52, 53, 54, 55, 56, 57, 58, 59, 60, 61, 62, 63, 64, 65, 66, 67, 68, 69, 70, 71, 72, 73, 74, 75, 76, 77, 78, 79, 80, 81, 82, 83, 84, 85, 86, 87, 88, 89, 90, 91, 92, 93, 94, 95, 96, 97, 98, 99, 100, 101, 102, 103, 104, 105, 106, 107, 108, 109, 110, 111, 112] (.seq (.seq (.region (.take 0 .pure <| .take 1 .pure <| .take 2 .pure <| .take 3 .pure .nil)) (.cond (.none) (.none))) (.join (.block (.seq (.seq (.draw (.take 0 .pure <| .take 1 .pure <| .take 2 .pure <| .split 38 <| .take 3 .pure <| .take 4 .pure <| .take 5 .pure <| .take 6 (.val tAddr) <| .take 7 .pure <| .take 8 (.get tStr) <| .take 9 .pure <| .take 10 .pure <| .take 11 (.val tAddr) <| .take 12 .pure <| .take 13 (.get tStr) <| .take 14 .pure <| .take 15 .pure <| .split 51 <| .take 16 .pure <| .take 17 .pure <| .take 18 .pure <| .take 19 (.val tAddr) <| .take 20 .pure <| .take 21 (.get tStr) <| .take 22 .pure <| .take 23 .pure <| .take 24 (.val tAddr) <| .take 25 .pure <| .take 26 (.get tStr) <| .take 27 .pure <| .take 28 .pure <| .split 64 <| .take 29 .pure <| .take 30 .pure <| .take 31 .pure <| .take 32 (.val tAddr) <| .take 33 .pure <| .take 34 (.get tInt) <| .take 35 .pure <| .take 36 .pure <| .take 37 (.val tAddr) <| .take 38 .pure <| .take 39 (.get tInt) <| .take 40 .pure <| .take 41 .pure <| .take 42 .pure <| .take 43 .pure .nil)) (.cond (.seq (.region (.take 0 .pure .nil)) (.none)) (.none))) (.seq (.region (.take 0 .pure <| .take 1 .pure <| .take 2 (.val tAddr) <| .take 3 .pure <| .take 4 (.get tInt) <| .take 5 .pure <| .take 6 .pure <| .take 7 .pure <| .guard 87 (.take 8 .pure <| .take 9 .pure <| .take 10 .pure <| .take 11 (.val tAddr) <| .take 12 .pure <| .take 13 (.get tInt) <| .take 14 .pure <| .take 15 .pure .nil) 95 [88, 89, 90, 91, 92, 93, 94] .nil)) (.cond (.seq (.seq (.draw (.take 0 .pure <| .take 1 .pure <| .take 2 .pure <| .take 3 .pure <| .take 4 .pure <| .split 100 <| .take 5 .pure <| .take 6 .pure <| .take 7 (.val tAddr) <| .take 8 (.get (.one (.agg [.str, .int .i64, .int .i64, .int .i64]))) <| .take 9 .pure <| .take 10 .pure <| .take 11 (.val tAddr) <| .take 12 (.get (.one (.agg [.str, .int .i64, .int .i64, .int .i64]))) <| .take 13 (.val tBool) <| .take 14 .pure .nil)) (.cond (.seq (.region (.take 0 .pure .nil)) (.none)) (.none))) (.region (.take 0 .pure <| .take 1 .pure <| .take 2 .pure .nil))) (.none))))) [(9, .leaf (.int .i64))] [4, 36, 37, 38, 39, 40, 41, 42, 43, 44, 45, 46, 47, 48, 49, 50, 51, 52, 53, 54, 55, 56, 57, 58, 59, 60, 61, 62, 63, 64, 65, 66, 67, 68, 69, 70, 71, 72, 73, 74, 75, 76, 77, 78, 79, 80, 81, 82, 83, 84, 85, 86, 87, 88, 89, 90, 91, 92, 93, 94, 95, 96, 97, 98, 99, 100, 101, 102, 103, 104, 105, 106, 107, 108, 109, 110, 111, 112] (.region (.take 0 .pure <| .take 1 .pure <| .take 2 .pure .nil))))))) (.seq (.seq (.region (.take 0 .pure <| .take 1 .pure <| .take 2 .pure <| .guard 115 (.take 3 .pure <| .take 4 .pure <| .take 5 .pure .nil) 118 [116, 117] .nil)) (.cond (.seq (.region (.take 0 .pure <| .take 1 .pure <| .take 2 .pure <| .guard 121 (.take 3 .pure <| .take 4 .pure <| .take 5 .pure <| .take 6 .pure .nil) 125 [122, 123, 124] <| .take 7 .pure <| .guard 126 (.call 8 tBool <| .take 9 .pure .nil) 128 [127] <| .take 10 .pure .nil)) (.none)) (.none))) (.seq (.region (.take 0 .pure <| .take 1 .pure <| .take 2 .pure <| .take 3 .pure <| .take 4 .pure <| .call 5 tSl <| .take 6 .pure .nil)) (.seq (.region (.take 0 .pure <| .take 1 .pure <| .take 2 .pure <| .take 3 .pure <| .take 4 .pure <| .guard 139 (.take 5 .pure <| .call 6 tSl <| .take 7 .pure <| .call 8 tSl <| .call 9 tBool <| .take 10 .pure .nil) 145 [140, 141, 142, 143, 144] <| .take 11 .pure <| .guard 146 (.call 12 tBool <| .take 13 .pure .nil) 148 [147] <| .take 14 .pure .nil)) (.none)))))))))))
def sh5 (p0 : Sl) (p1 : Int) (k : Bool → Pr) : Pr :=
  CallP Try.prog 10 #[.int .i64 3] (.tup [.leaf .ptr, .leaf (.int .i64)]) fun t13 =>
  JoinP (S := Bool) (fun b21 => AnyP fun _ =>
  CondP b21 (
  k false) (
  CallP Try.prog 31 #[.pointer t13.1, .slice p0.a p0.len p0.cap] (.tup []) fun t24 =>
  CallP Try.prog 29 #[.pointer t13.1] tSl fun t26 =>
  CallP Try.prog 20 #[.pointer t13.1, .string (⟨#[]⟩), .string (⟨#[]⟩), .int .i64 p1] tSl fun t29 =>
  LoopP (S := Int × Int) (fun next s => AnyP fun _ =>
  CondP (decide ((s.2 : Int) < t26.len)) (
  JoinP (S := Int) (fun s_2 => AnyP fun _ =>
  next (s_2, IntKind.i64.wrap (s.2 + 1))) fun J_2 =>
  DrewP <|
  CondP (decide ((s.2 : Int) > 0)) (
  ValP Try.prog (vN (Instr.indexAt 42 (.slice t26.a t26.len t26.cap) (.int .i64 (IntKind.i64.wrap (s.2 - 1))))) tAddr fun t42 =>
  GetP Try.prog (vN (Instr.loadAt 9 (.pointer (some (Addr.add t42 0))))) tStr fun t44 =>
  ValP Try.prog (vN (Instr.indexAt 42 (.slice t26.a t26.len t26.cap) (.int .i64 s.2))) tAddr fun t47 =>
  GetP Try.prog (vN (Instr.loadAt 9 (.pointer (some (Addr.add t47 0))))) tStr fun t49 =>
  CondP (!(Op.bytesLess t44.toList t49.toList || (t44.toList == t49.toList))) (
  CondP true (
  k false) (
  ValP Try.prog (vN (Instr.indexAt 42 (.slice t26.a t26.len t26.cap) (.int .i64 s.2))) tAddr fun t82 =>
  GetP Try.prog (vN (Instr.loadAt 3 (.pointer (some (Addr.add t82 1))))) tInt fun t84 =>
  JoinP (S := Bool) (fun b95 => AnyP fun _ =>
  CondP b95 (
  DrewP <|
  CondP (decide ((s.1 : Int) ≥ t29.len)) (
  CondP true (
  k false) (
  J_2 (IntKind.i64.wrap (s.1 + 1)))) (
  ValP Try.prog (vN (Instr.indexAt 42 (.slice t29.a t29.len t29.cap) (.int .i64 s.1))) tAddr fun t103 =>
  GetP Try.prog (vN (Instr.loadAt 31 (.pointer (some t103)))) (.one (.agg [.str, .int .i64, .int .i64, .int .i64])) fun t104 =>
  ValP Try.prog (vN (Instr.indexAt 42 (.slice t26.a t26.len t26.cap) (.int .i64 s.2))) tAddr fun t107 =>
  GetP Try.prog (vN (Instr.loadAt 31 (.pointer (some t107)))) (.one (.agg [.str, .int .i64, .int .i64, .int .i64])) fun t108 =>
  ValP Try.prog (cmpN .neq 31 (.tmp 104) (.tmp 108) (.agg #[.string t104.1, .int .i64 t104.2.1, .int .i64 t104.2.2.1, .int .i64 t104.2.2.2.1]) (.agg #[.string t108.1, .int .i64 t108.2.1, .int .i64 t108.2.2.1, .int .i64 t108.2.2.2.1])) tBool fun t109 =>
  CondP t109 (
  k false) (
  J_2 (IntKind.i64.wrap (s.1 + 1))))) (
  J_2 s.1)) fun J_3 =>
  CondP (decide ((t84 : Int) ≤ p1)) (
  ValP Try.prog (vN (Instr.indexAt 42 (.slice t26.a t26.len t26.cap) (.int .i64 s.2))) tAddr fun t91 =>
  GetP Try.prog (vN (Instr.loadAt 3 (.pointer (some (Addr.add t91 2))))) tInt fun t93 =>
  J_3 (decide ((p1 : Int) < t93))) (
  J_3 false))) (
  ValP Try.prog (vN (Instr.indexAt 42 (.slice t26.a t26.len t26.cap) (.int .i64 (IntKind.i64.wrap (s.2 - 1))))) tAddr fun t55 =>
  GetP Try.prog (vN (Instr.loadAt 9 (.pointer (some (Addr.add t55 0))))) tStr fun t57 =>
  ValP Try.prog (vN (Instr.indexAt 42 (.slice t26.a t26.len t26.cap) (.int .i64 s.2))) tAddr fun t60 =>
  GetP Try.prog (vN (Instr.loadAt 9 (.pointer (some (Addr.add t60 0))))) tStr fun t62 =>
  CondP ((t57.toList == t62.toList)) (
  ValP Try.prog (vN (Instr.indexAt 42 (.slice t26.a t26.len t26.cap) (.int .i64 (IntKind.i64.wrap (s.2 - 1))))) tAddr fun t68 =>
  GetP Try.prog (vN (Instr.loadAt 3 (.pointer (some (Addr.add t68 1))))) tInt fun t70 =>
  ValP Try.prog (vN (Instr.indexAt 42 (.slice t26.a t26.len t26.cap) (.int .i64 s.2))) tAddr fun t73 =>
  GetP Try.prog (vN (Instr.loadAt 3 (.pointer (some (Addr.add t73 1))))) tInt fun t75 =>
  CondP (decide ((t70 : Int) ≥ t75)) (
  k false) (
  ValP Try.prog (vN (Instr.indexAt 42 (.slice t26.a t26.len t26.cap) (.int .i64 s.2))) tAddr fun t82_2 =>
  GetP Try.prog (vN (Instr.loadAt 3 (.pointer (some (Addr.add t82_2 1))))) tInt fun t84_2 =>
  JoinP (S := Bool) (fun b95_2 => AnyP fun _ =>
  CondP b95_2 (
  DrewP <|
  CondP (decide ((s.1 : Int) ≥ t29.len)) (
  CondP true (
  k false) (
  J_2 (IntKind.i64.wrap (s.1 + 1)))) (
  ValP Try.prog (vN (Instr.indexAt 42 (.slice t29.a t29.len t29.cap) (.int .i64 s.1))) tAddr fun t103_2 =>
  GetP Try.prog (vN (Instr.loadAt 31 (.pointer (some t103_2)))) (.one (.agg [.str, .int .i64, .int .i64, .int .i64])) fun t104_2 =>
  ValP Try.prog (vN (Instr.indexAt 42 (.slice t26.a t26.len t26.cap) (.int .i64 s.2))) tAddr fun t107_2 =>
  GetP Try.prog (vN (Instr.loadAt 31 (.pointer (some t107_2)))) (.one (.agg [.str, .int .i64, .int .i64, .int .i64])) fun t108_2 =>
  ValP Try.prog (cmpN .neq 31 (.tmp 104) (.tmp 108) (.agg #[.string t104_2.1, .int .i64 t104_2.2.1, .int .i64 t104_2.2.2.1, .int .i64 t104_2.2.2.2.1]) (.agg #[.string t108_2.1, .int .i64 t108_2.2.1, .int .i64 t108_2.2.2.1, .int .i64 t108_2.2.2.2.1])) tBool fun t109_2 =>
  CondP t109_2 (
  k false) (
  J_2 (IntKind.i64.wrap (s.1 + 1))))) (
  J_2 s.1)) fun J_4 =>
  CondP (decide ((t84_2 : Int) ≤ p1)) (
  ValP Try.prog (vN (Instr.indexAt 42 (.slice t26.a t26.len t26.cap) (.int .i64 s.2))) tAddr fun t91_2 =>
  GetP Try.prog (vN (Instr.loadAt 3 (.pointer (some (Addr.add t91_2 2))))) tInt fun t93_2 =>
  J_4 (decide ((p1 : Int) < t93_2))) (
  J_4 false))) (
  CondP false (
  k false) (
  ValP Try.prog (vN (Instr.indexAt 42 (.slice t26.a t26.len t26.cap) (.int .i64 s.2))) tAddr fun t82_3 =>
  GetP Try.prog (vN (Instr.loadAt 3 (.pointer (some (Addr.add t82_3 1))))) tInt fun t84_3 =>
  JoinP (S := Bool) (fun b95_3 => AnyP fun _ =>
  CondP b95_3 (
  DrewP <|
  CondP (decide ((s.1 : Int) ≥ t29.len)) (
  CondP true (
  k false) (
  J_2 (IntKind.i64.wrap (s.1 + 1)))) (
  ValP Try.prog (vN (Instr.indexAt 42 (.slice t29.a t29.len t29.cap) (.int .i64 s.1))) tAddr fun t103_3 =>
  GetP Try.prog (vN (Instr.loadAt 31 (.pointer (some t103_3)))) (.one (.agg [.str, .int .i64, .int .i64, .int .i64])) fun t104_3 =>
  ValP Try.prog (vN (Instr.indexAt 42 (.slice t26.a t26.len t26.cap) (.int .i64 s.2))) tAddr fun t107_3 =>
  GetP Try.prog (vN (Instr.loadAt 31 (.pointer (some t107_3)))) (.one (.agg [.str, .int .i64, .int .i64, .int .i64])) fun t108_3 =>
  ValP Try.prog (cmpN .neq 31 (.tmp 104) (.tmp 108) (.agg #[.string t104_3.1, .int .i64 t104_3.2.1, .int .i64 t104_3.2.2.1, .int .i64 t104_3.2.2.2.1]) (.agg #[.string t108_3.1, .int .i64 t108_3.2.1, .int .i64 t108_3.2.2.1, .int .i64 t108_3.2.2.2.1])) tBool fun t109_3 =>
  CondP t109_3 (
  k false) (
  J_2 (IntKind.i64.wrap (s.1 + 1))))) (
  J_2 s.1)) fun J_5 =>
  CondP (decide ((t84_3 : Int) ≤ p1)) (
  ValP Try.prog (vN (Instr.indexAt 42 (.slice t26.a t26.len t26.cap) (.int .i64 s.2))) tAddr fun t91_3 =>
  GetP Try.prog (vN (Instr.loadAt 3 (.pointer (some (Addr.add t91_3 2))))) tInt fun t93_3 =>
  J_5 (decide ((p1 : Int) < t93_3))) (
  J_5 false))))) (
  CondP false (
  k false) (
  ValP Try.prog (vN (Instr.indexAt 42 (.slice t26.a t26.len t26.cap) (.int .i64 s.2))) tAddr fun t82_4 =>
  GetP Try.prog (vN (Instr.loadAt 3 (.pointer (some (Addr.add t82_4 1))))) tInt fun t84_4 =>
  JoinP (S := Bool) (fun b95_4 => AnyP fun _ =>
  CondP b95_4 (
  DrewP <|
  CondP (decide ((s.1 : Int) ≥ t29.len)) (
  CondP true (
  k false) (
  J_2 (IntKind.i64.wrap (s.1 + 1)))) (
  ValP Try.prog (vN (Instr.indexAt 42 (.slice t29.a t29.len t29.cap) (.int .i64 s.1))) tAddr fun t103_4 =>
  GetP Try.prog (vN (Instr.loadAt 31 (.pointer (some t103_4)))) (.one (.agg [.str, .int .i64, .int .i64, .int .i64])) fun t104_4 =>
  ValP Try.prog (vN (Instr.indexAt 42 (.slice t26.a t26.len t26.cap) (.int .i64 s.2))) tAddr fun t107_4 =>
  GetP Try.prog (vN (Instr.loadAt 31 (.pointer (some t107_4)))) (.one (.agg [.str, .int .i64, .int .i64, .int .i64])) fun t108_4 =>
  ValP Try.prog (cmpN .neq 31 (.tmp 104) (.tmp 108) (.agg #[.string t104_4.1, .int .i64 t104_4.2.1, .int .i64 t104_4.2.2.1, .int .i64 t104_4.2.2.2.1]) (.agg #[.string t108_4.1, .int .i64 t108_4.2.1, .int .i64 t108_4.2.2.1, .int .i64 t108_4.2.2.2.1])) tBool fun t109_4 =>
  CondP t109_4 (
  k false) (
  J_2 (IntKind.i64.wrap (s.1 + 1))))) (
  J_2 s.1)) fun J_6 =>
  CondP (decide ((t84_4 : Int) ≤ p1)) (
  ValP Try.prog (vN (Instr.indexAt 42 (.slice t26.a t26.len t26.cap) (.int .i64 s.2))) tAddr fun t91_4 =>
  GetP Try.prog (vN (Instr.loadAt 3 (.pointer (some (Addr.add t91_4 2))))) tInt fun t93_4 =>
  J_6 (decide ((p1 : Int) < t93_4))) (
  J_6 false)))) (
  JoinP (S := Bool) (fun b118 => AnyP fun _ =>
  CondP b118 (
  JoinP (S := Bool) (fun b125 => AnyP fun _ =>
  JoinP (S := Bool) (fun b128 => AnyP fun _ =>
  k b128) fun J_9 =>
  CondP b125 (
  CallP Try.prog 30 #[] tBool fun t127 =>
  J_9 t127) (
  J_9 false)) fun J_8 =>
  CondP ((s.1 : Int) == 0) (
  J_8 ((t29.len : Int) == 0)) (
  J_8 false)) (
  CallP Try.prog 22 #[.pointer t13.1, .string (⟨#[]⟩), .string (⟨#[]⟩), .agg #[.int .i64 p1, .int .i64 (IntKind.i64.wrap (p1 + 1))]] tSl fun t134 =>
  JoinP (S := Bool) (fun b145 => AnyP fun _ =>
  JoinP (S := Bool) (fun b148 => AnyP fun _ =>
  k b148) fun J_11 =>
  CondP b145 (
  CallP Try.prog 30 #[] tBool fun t147 =>
  J_11 t147) (
  J_11 false)) fun J_10 =>
  CondP ((s.1 : Int) == t29.len) (
  CallP Try.prog 19 #[.slice t134.a t134.len t134.cap] tSl fun t141 =>
  CallP Try.prog 19 #[.slice t29.a t29.len t29.cap] tSl fun t143 =>
  CallP Try.prog 18 #[.slice t141.a t141.len t141.cap, .slice t143.a t143.len t143.cap] tBool fun t144 =>
  J_10 t144) (
  J_10 false))) fun J_7 =>
  CondP (decide ((p1 : Int) < 0)) (
  J_7 true) (
  J_7 (decide ((p1 : Int) ≥ 1099511627776))))) (0, 0))) fun J =>
  CondP ((t13.2.1 : Int) != 0) (
  J true) (
  GetP Try.prog (cmpN .eql 23 (.tmp 19) (.const (.pointer none)) (.pointer t13.1) (.pointer none)) tBool fun t20 =>
  J t20)
theorem rd5 (p0 : Sl) (p1 : Int) (k : Bool → Pr) (w : World) (h : sh5 p0 p1 k w) :
    CallP Try.prog 5 #[.slice p0.a p0.len p0.cap, .int .i64 p1] tBool k w :=
  CallP.of_eq (c := sa5.on (bodyOf Try.f5)) (S := sh5 p0 p1 k) follows Try.func5 (by kernel_rfl) (by kernel_rfl) (by kernel_rfl) (by kernel_rfl) h

/-- memoir.memoirlaw13.IndexRanges -/
def sa6 : SA := .seq (.region (.eff 0 tAddr <| .take 1 .pure .nil)) (.seq (.region (.call 0 (.tup [.leaf .ptr, .leaf (.int .i64)]) <| .take 1 .pure <| .take 2 .pure <| .take 3 .pure <| .take 4 .pure <| .take 5 .pure .nil)) (.seq (.seq (.region (.take 0 .pure <| .take 1 .pure <| .take 2 .pure <| .guard 17 (.take 3 .pure <| .take 4 (.get tBool) <| .take 5 .pure .nil) 20 [18, 19] .nil)) (.cond (.seq (.region (.take 0 .pure .nil)) (.none)) (.none))) (.seq (.seq (.region (.take 0 .pure <| .take 1 .pure <| .take 2 .pure <| .guard 23 (.take 3 .pure <| .take 4 .pure <| .take 5 .pure <| .take 6 .pure .nil) 27 [24, 25, 26] .nil)) (.cond (.seq (.region (.call 0 tBool <| .take 1 .pure .nil)) (.none)) (.none))) (.seq (.region (.take 0 .pure <| .take 1 .pure <| .call 2 (.tup []) .nil)) (.seq (.region (.eff 0 tSl <| .take 1 .pure <| .take 2 .pure <| .take 3 (.get (.one (.agg [.int .i64, .int .i64]))) <| .call 4 tSl <| .eff 5 tSl <| .take 6 .pure .nil)) (.seq (.region (.take 0 .pure <| .take 1 .pure <| .take 2 .pure <| .take 3 (.get (.one (.agg [.int .i64, .int .i64]))) <| .call 4 tSl <| .eff 5 tSl <| .take 6 .pure .nil)) (.seq (.region (.eff 0 tSl <| .take 1 .pure <| .take 2 .pure <| .take 3 .pure <| .take 4 (.get tInt) <| .call 5 tSl <| .eff 6 tSl <| .take 7 .pure .nil)) (.seq (.region (.take 0 .pure <| .take 1 .pure <| .take 2 .pure <| .take 3 .pure <| .take 4 (.get tInt) <| .call 5 tSl <| .eff 6 tSl <| .take 7 .pure .nil)) (.seq (.draw (.take 0 .pure <| .take 2 .pure <| .take 3 (.get (.one (.agg [.int .i64, .int .i64]))) <| .call 1 tSl [3] <| .call 4 tSl [] <| .call 5 tSl [] <| .call 6 tBool [] <| .take 7 .pure <| .split 65 <| .take 8 .pure <| .take 10 .pure <| .take 11 .pure <| .take 12 (.get tInt) <| .call 9 tSl [12] <| .call 13 tSl [] <| .call 14 tSl [] <| .call 15 tBool [] <| .take 16 .pure <| .take 17 .pure <| .split 75 <| .call 18 tBool [] <| .take 19 .pure <| .now 20 .pure [] .nil)) (.none))))))))))
def sh6 (p0 : Sl) (p1 : ByteArray) (p2 : (Int × Int × Unit)) (k : Bool → Pr) : Pr :=
  DoP Try.prog (vN (Instr.box 46 (.agg #[.int .i64 p2.1, .int .i64 p2.2.1]))) tAddr fun t5 =>
  CallP Try.prog 10 #[.int .i64 2] (.tup [.leaf .ptr, .leaf (.int .i64)]) fun t12 =>
  JoinP (S := Bool) (fun b20 => AnyP fun _ =>
  CondP b20 (
  k false) (
  JoinP (S := Bool) (fun b27 => AnyP fun _ =>
  CondP b27 (
  CallP Try.prog 30 #[] tBool fun t28 =>
  k t28) (
  CallP Try.prog 31 #[.pointer t12.1, .slice p0.a p0.len p0.cap] (.tup []) fun t31 =>
  DoP Try.prog (vN (Instr.buildSlice 42 0 #[])) tSl fun t32 =>
  GetP Try.prog (vN (Instr.loadAt 46 (.pointer (some t5)))) (.one (.agg [.int .i64, .int .i64])) fun t35 =>
  CallP Try.prog 22 #[.pointer t12.1, .string (⟨#[]⟩), .string p1, .agg #[.int .i64 t35.1, .int .i64 t35.2.1]] tSl fun t36 =>
  DoP Try.prog (vN (Builtin.append_ #[42, 42] 42 #[.slice t32.a t32.len t32.cap, .slice t36.a t36.len t36.cap])) tSl fun t37 =>
  GetP Try.prog (vN (Instr.loadAt 46 (.pointer (some t5)))) (.one (.agg [.int .i64, .int .i64])) fun t41 =>
  CallP Try.prog 22 #[.pointer t12.1, .string p1, .string (⟨#[]⟩), .agg #[.int .i64 t41.1, .int .i64 t41.2.1]] tSl fun t42 =>
  DoP Try.prog (vN (Builtin.append_ #[42, 42] 42 #[.slice t37.a t37.len t37.cap, .slice t42.a t42.len t42.cap])) tSl fun t43 =>
  DoP Try.prog (vN (Instr.buildSlice 42 0 #[])) tSl fun t44 =>
  GetP Try.prog (vN (Instr.loadAt 3 (.pointer (some (Addr.add t5 0))))) tInt fun t48 =>
  CallP Try.prog 20 #[.pointer t12.1, .string (⟨#[]⟩), .string p1, .int .i64 t48] tSl fun t49 =>
  DoP Try.prog (vN (Builtin.append_ #[42, 42] 42 #[.slice t44.a t44.len t44.cap, .slice t49.a t49.len t49.cap])) tSl fun t50 =>
  GetP Try.prog (vN (Instr.loadAt 3 (.pointer (some (Addr.add t5 0))))) tInt fun t55 =>
  CallP Try.prog 20 #[.pointer t12.1, .string p1, .string (⟨#[]⟩), .int .i64 t55] tSl fun t56 =>
  DoP Try.prog (vN (Builtin.append_ #[42, 42] 42 #[.slice t50.a t50.len t50.cap, .slice t56.a t56.len t56.cap])) tSl fun t57 =>
  DrewP <|
  GetP Try.prog (vN (Instr.loadAt 46 (.pointer (some t5)))) (.one (.agg [.int .i64, .int .i64])) fun t61 =>
  CallP Try.prog 19 #[.slice t43.a t43.len t43.cap] tSl fun t59 =>
  ChkP Try.prog (vN (Instr.loadAt 46 (.pointer (some t5)))) (.agg #[.int .i64 t61.1, .int .i64 t61.2.1]) <|
  CallP Try.prog 22 #[.pointer t12.1, .string (⟨#[]⟩), .string (⟨#[]⟩), .agg #[.int .i64 t61.1, .int .i64 t61.2.1]] tSl fun t62 =>
  CallP Try.prog 19 #[.slice t62.a t62.len t62.cap] tSl fun t63 =>
  CallP Try.prog 18 #[.slice t59.a t59.len t59.cap, .slice t63.a t63.len t63.cap] tBool fun t64 =>
  CondP t64 (
  GetP Try.prog (vN (Instr.loadAt 3 (.pointer (some (Addr.add t5 0))))) tInt fun t70 =>
  CallP Try.prog 19 #[.slice t57.a t57.len t57.cap] tSl fun t67 =>
  ChkP Try.prog (vN (Instr.loadAt 3 (.pointer (some (Addr.add t5 0))))) (.int .i64 t70) <|
  CallP Try.prog 20 #[.pointer t12.1, .string (⟨#[]⟩), .string (⟨#[]⟩), .int .i64 t70] tSl fun t71 =>
  CallP Try.prog 19 #[.slice t71.a t71.len t71.cap] tSl fun t72 =>
  CallP Try.prog 18 #[.slice t67.a t67.len t67.cap, .slice t72.a t72.len t72.cap] tBool fun t73 =>
  CondP t73 (
  CallP Try.prog 30 #[] tBool fun t76 =>
  k t76) (
  k false)) (
  CondP false (
  CallP Try.prog 30 #[] tBool fun t76_2 =>
  k t76_2) (
  k false)))) fun J_2 =>
  CondP ((p1.toList == (⟨#[]⟩ : ByteArray).toList)) (
  J_2 true) (
  J_2 (decide ((p1.size : Int) > 100))))) fun J =>
  CondP ((t12.2.1 : Int) != 0) (
  J true) (
  GetP Try.prog (cmpN .eql 23 (.tmp 18) (.const (.pointer none)) (.pointer t12.1) (.pointer none)) tBool fun t19 =>
  J t19)
theorem rd6 (p0 : Sl) (p1 : ByteArray) (p2 : (Int × Int × Unit)) (k : Bool → Pr) (w : World) (h : sh6 p0 p1 p2 k w) :
    CallP Try.prog 6 #[.slice p0.a p0.len p0.cap, .string p1, .agg #[.int .i64 p2.1, .int .i64 p2.2.1]] tBool k w :=
  CallP.of_eq (c := sa6.on (bodyOf Try.f6)) (S := sh6 p0 p1 p2 k) follows Try.func6 (by kernel_rfl) (by kernel_rfl) (by kernel_rfl) (by kernel_rfl) h

/-- memoir.memoirlaw13.IndexNil -/
def sa7 : SA := .seq (.region (.eff 0 tAddr <| .take 1 .pure .nil)) (.seq (.region (.take 0 .pure .nil)) (.seq (.region (.take 0 .pure <| .eff 1 tAddr <| .take 2 .pure .nil)) (.seq (.region (.take 0 .pure <| .take 1 .pure <| .take 2 (.get tStr) <| .take 3 .pure <| .take 4 (.get tInt) <| .call 5 (.tup [.agg [.str, .int .i64, .int .i64, .int .i64], .leaf (.int .i64)]) <| .take 6 .pure <| .take 7 .pure <| .take 8 .pure <| .eff 9 tAddr <| .effU 10 <| .take 11 .pure .nil)) (.seq (.region (.take 0 .pure <| .take 1 .pure <| .take 2 (.get tStr) <| .take 3 .pure <| .take 4 (.get tInt) <| .call 5 (.tup [.agg [.str, .int .i64, .int .i64, .int .i64], .leaf (.int .i64)]) <| .take 6 .pure <| .take 7 .pure <| .take 8 .pure <| .eff 9 tAddr <| .effU 10 <| .take 11 .pure .nil)) (.seq (.region (.take 0 .pure <| .take 1 .pure <| .take 2 .pure <| .guard 31 (.take 3 .pure <| .take 4 .pure <| .take 5 .pure .nil) 34 [32, 33] <| .take 6 .pure <| .guard 35 (.take 7 .pure <| .take 8 (.get (.one (.agg [.str, .int .i64, .int .i64, .int .i64]))) <| .call 9 tInt <| .take 10 .pure <| .take 11 .pure .nil) 40 [36, 37, 38, 39] <| .take 12 .pure <| .guard 41 (.take 13 .pure <| .take 14 (.get (.one (.agg [.str, .int .i64, .int .i64, .int .i64]))) <| .call 15 tInt <| .take 16 .pure <| .take 17 .pure .nil) 46 [42, 43, 44, 45] <| .take 18 .pure <| .guard 47 (.take 19 .pure <| .take 20 .pure <| .take 21 (.get tStr) <| .call 22 tInt <| .take 23 .pure <| .take 24 .pure .nil) 53 [48, 49, 50, 51, 52] <| .take 25 .pure <| .guard 54 (.take 26 .pure <| .take 27 .pure <| .take 28 (.get tStr) <| .call 29 tInt <| .take 30 .pure <| .take 31 .pure .nil) 60 [55, 56, 57, 58, 59] <| .take 32 .pure <| .guard 61 (.take 33 .pure <| .call 34 tSl <| .take 35 .pure <| .take 36 .pure <| .take 37 .pure .nil) 66 [62, 63, 64, 65] <| .take 38 .pure <| .guard 67 (.take 39 .pure <| .take 40 .pure <| .call 41 tSl <| .take 42 .pure <| .take 43 .pure <| .take 44 .pure .nil) 73 [68, 69, 70, 71, 72] <| .take 45 .pure <| .guard 74 (.take 46 .pure <| .call 47 tSl <| .take 48 .pure <| .take 49 .pure <| .take 50 .pure .nil) 79 [75, 76, 77, 78] <| .take 51 .pure <| .guard 80 (.take 52 .pure <| .call 53 tInt <| .take 54 .pure <| .take 55 .pure .nil) 84 [81, 82, 83] <| .take 56 .pure <| .guard 85 (.take 57 .pure <| .call 58 tInt <| .take 59 .pure <| .take 60 .pure .nil) 89 [86, 87, 88] <| .take 61 .pure <| .guard 90 (.take 62 .pure <| .call 63 tSl <| .take 64 .pure <| .take 65 .pure <| .take 66 .pure .nil) 95 [91, 92, 93, 94] <| .take 67 .pure <| .guard 96 (.call 68 tBool <| .take 69 .pure .nil) 98 [97] <| .take 70 .pure .nil)) (.none))))))
def sh7 (p0 : (ByteArray × Int × Int × Int × Unit)) (k : Bool → Pr) : Pr :=
  DoP Try.prog (vN (Instr.box 31 (.agg #[.string p0.1, .int .i64 p0.2.1, .int .i64 p0.2.2.1, .int .i64 p0.2.2.2.1]))) tAddr fun t1 =>
  DoP Try.prog (vN (Instr.box 68 (.agg #[.int .i64 0, .slice none 0 0]))) tAddr fun t10 =>
  GetP Try.prog (vN (Instr.loadAt 9 (.pointer (some (Addr.add t1 0))))) tStr fun t14 =>
  GetP Try.prog (vN (Instr.loadAt 3 (.pointer (some (Addr.add t1 1))))) tInt fun t16 =>
  CallP Try.prog 24 #[.pointer none, .string t14, .int .i64 t16] (.tup [.agg [.str, .int .i64, .int .i64, .int .i64], .leaf (.int .i64)]) fun t17 =>
  DoP Try.prog (vN (Instr.alloc 31 true (.tuple #[]))) tAddr fun t5 =>
  DoU Try.prog (uN (Instr.storeAt 31 (.pointer (some t5)) (.agg #[.string t17.1.1, .int .i64 t17.1.2.1, .int .i64 t17.1.2.2.1, .int .i64 t17.1.2.2.2.1]))) <|
  GetP Try.prog (vN (Instr.loadAt 9 (.pointer (some (Addr.add t1 0))))) tStr fun t23 =>
  GetP Try.prog (vN (Instr.loadAt 3 (.pointer (some (Addr.add t1 1))))) tInt fun t25 =>
  CallP Try.prog 24 #[.pointer (some t10), .string t23, .int .i64 t25] (.tup [.agg [.str, .int .i64, .int .i64, .int .i64], .leaf (.int .i64)]) fun t26 =>
  DoP Try.prog (vN (Instr.alloc 31 true (.tuple #[]))) tAddr fun t7 =>
  DoU Try.prog (uN (Instr.storeAt 31 (.pointer (some t7)) (.agg #[.string t26.1.1, .int .i64 t26.1.2.1, .int .i64 t26.1.2.2.1, .int .i64 t26.1.2.2.2.1]))) <|
  JoinP (S := Bool) (fun b34 => AnyP fun _ =>
  JoinP (S := Bool) (fun b40 => AnyP fun _ =>
  JoinP (S := Bool) (fun b46 => AnyP fun _ =>
  JoinP (S := Bool) (fun b53 => AnyP fun _ =>
  JoinP (S := Bool) (fun b60 => AnyP fun _ =>
  JoinP (S := Bool) (fun b66 => AnyP fun _ =>
  JoinP (S := Bool) (fun b73 => AnyP fun _ =>
  JoinP (S := Bool) (fun b79 => AnyP fun _ =>
  JoinP (S := Bool) (fun b84 => AnyP fun _ =>
  JoinP (S := Bool) (fun b89 => AnyP fun _ =>
  JoinP (S := Bool) (fun b95 => AnyP fun _ =>
  JoinP (S := Bool) (fun b98 => AnyP fun _ =>
  k b98) fun J_12 =>
  CondP b95 (
  CallP Try.prog 30 #[] tBool fun t97 =>
  J_12 t97) (
  J_12 false)) fun J_11 =>
  CondP b89 (
  CallP Try.prog 32 #[.pointer (some t10)] tSl fun t92 =>
  J_11 ((t92.len : Int) == 0)) (
  J_11 false)) fun J_10 =>
  CondP b84 (
  CallP Try.prog 27 #[.pointer (some t10)] tInt fun t87 =>
  J_10 ((t87 : Int) == 0)) (
  J_10 false)) fun J_9 =>
  CondP b79 (
  CallP Try.prog 26 #[.pointer none] tInt fun t82 =>
  J_9 ((t82 : Int) == 0)) (
  J_9 false)) fun J_8 =>
  CondP b73 (
  CallP Try.prog 29 #[.pointer none] tSl fun t76 =>
  J_8 ((t76.len : Int) == 0)) (
  J_8 false)) fun J_7 =>
  CondP b66 (
  CallP Try.prog 22 #[.pointer (some t10), .string (⟨#[]⟩), .string (⟨#[]⟩), .agg #[.int .i64 0, .int .i64 5]] tSl fun t70 =>
  J_7 ((t70.len : Int) == 0)) (
  J_7 false)) fun J_6 =>
  CondP b60 (
  CallP Try.prog 20 #[.pointer none, .string (⟨#[]⟩), .string (⟨#[]⟩), .int .i64 0] tSl fun t63 =>
  J_6 ((t63.len : Int) == 0)) (
  J_6 false)) fun J_5 =>
  CondP b53 (
  GetP Try.prog (vN (Instr.loadAt 9 (.pointer (some (Addr.add t1 0))))) tStr fun t57 =>
  CallP Try.prog 16 #[.pointer (some t10), .string t57, .int .i64 0] tInt fun t58 =>
  J_5 ((t58 : Int) == 13)) (
  J_5 false)) fun J_4 =>
  CondP b46 (
  GetP Try.prog (vN (Instr.loadAt 9 (.pointer (some (Addr.add t1 0))))) tStr fun t50 =>
  CallP Try.prog 14 #[.pointer none, .string t50, .int .i64 0, .int .i64 1] tInt fun t51 =>
  J_4 ((t51 : Int) == 13)) (
  J_4 false)) fun J_3 =>
  CondP b40 (
  GetP Try.prog (vN (Instr.loadAt 31 (.pointer (some t1)))) (.one (.agg [.str, .int .i64, .int .i64, .int .i64])) fun t43 =>
  CallP Try.prog 12 #[.pointer (some t10), .agg #[.string t43.1, .int .i64 t43.2.1, .int .i64 t43.2.2.1, .int .i64 t43.2.2.2.1]] tInt fun t44 =>
  J_3 ((t44 : Int) == 13)) (
  J_3 false)) fun J_2 =>
  CondP b34 (
  GetP Try.prog (vN (Instr.loadAt 31 (.pointer (some t1)))) (.one (.agg [.str, .int .i64, .int .i64, .int .i64])) fun t37 =>
  CallP Try.prog 12 #[.pointer none, .agg #[.string t37.1, .int .i64 t37.2.1, .int .i64 t37.2.2.1, .int .i64 t37.2.2.2.1]] tInt fun t38 =>
  J_2 ((t38 : Int) == 13)) (
  J_2 false)) fun J =>
  CondP ((t17.2.1 : Int) == 13) (
  J ((t26.2.1 : Int) == 13)) (
  J false)
theorem rd7 (p0 : (ByteArray × Int × Int × Int × Unit)) (k : Bool → Pr) (w : World) (h : sh7 p0 k w) :
    CallP Try.prog 7 #[.agg #[.string p0.1, .int .i64 p0.2.1, .int .i64 p0.2.2.1, .int .i64 p0.2.2.2.1]] tBool k w :=
  CallP.of_eq (c := sa7.on (bodyOf Try.f7)) (S := sh7 p0 k) follows Try.func7 (by kernel_rfl) (by kernel_rfl) (by kernel_rfl) (by kernel_rfl) h

/-- memoir.memoirlaw13.IndexCloses -/
def sa8 : SA := .seq (.region (.eff 0 tAddr <| .take 1 .pure .nil)) (.seq (.region (.call 0 (.tup [.leaf .ptr, .leaf (.int .i64)]) <| .take 1 .pure <| .take 2 .pure <| .take 3 .pure <| .take 4 .pure <| .take 5 .pure .nil)) (.seq (.seq (.region (.take 0 .pure <| .take 1 .pure <| .take 2 .pure <| .guard 23 (.take 3 .pure <| .take 4 (.get tBool) <| .take 5 .pure .nil) 26 [24, 25] <| .take 6 .pure <| .guard 27 (.take 7 .pure <| .take 8 .pure <| .take 9 (.get tStr) <| .take 10 .pure <| .take 11 .pure <| .take 12 .pure .nil) 33 [28, 29, 30, 31, 32] .nil)) (.cond (.seq (.region (.take 0 .pure <| .take 1 .pure <| .take 2 .pure <| .guard 36 (.take 3 .pure <| .take 4 (.get tBool) <| .take 5 .pure .nil) 39 [37, 38] <| .take 6 .pure <| .guard 40 (.call 7 tBool <| .take 8 .pure .nil) 42 [41] <| .take 9 .pure .nil)) (.none)) (.none))) (.seq (.region (.take 0 .pure <| .take 1 .pure <| .call 2 (.tup []) .nil)) (.seq (.region (.take 0 .pure <| .take 1 .pure <| .call 2 tSl <| .take 3 .pure .nil)) (.seq (.region (.take 0 .pure <| .take 1 .pure <| .take 2 .pure <| .take 3 (.get tStr) <| .take 4 .pure <| .take 5 .pure <| .take 6 (.get tInt) <| .call 7 (.tup [.agg [.str, .int .i64, .int .i64, .int .i64], .leaf (.int .i64)]) <| .take 8 .pure <| .take 9 .pure <| .take 10 .pure <| .eff 11 tAddr <| .effU 12 <| .take 13 .pure .nil)) (.seq (.region (.take 0 .pure <| .take 1 .pure <| .take 2 .pure <| .take 3 (.get tStr) <| .take 4 .pure <| .take 5 .pure <| .take 6 (.get tInt) <| .take 7 .pure <| .take 8 .pure <| .take 9 (.get tInt) <| .call 10 tInt <| .take 11 .pure .nil)) (.seq (.region (.take 0 .pure <| .take 1 .pure <| .call 2 tSl <| .take 3 .pure .nil)) (.seq (.seq (.region (.take 0 .pure <| .take 1 .pure .nil)) (.cond (.seq (.region (.take 0 .pure <| .take 1 .pure <| .take 2 .pure <| .guard 78 (.take 3 .pure <| .take 4 (.get tInt) <| .take 5 .pure <| .take 6 .pure .nil) 82 [79, 80, 81] <| .take 7 .pure <| .guard 83 (.take 8 .pure <| .take 9 .pure <| .take 10 (.get tInt) <| .take 11 .pure <| .take 12 (.get tInt) <| .take 13 .pure <| .take 14 .pure .nil) 90 [84, 85, 86, 87, 88, 89] <| .take 15 .pure <| .guard 91 (.take 16 .pure <| .take 17 .pure <| .take 18 (.get tInt) <| .take 19 .pure <| .take 20 .pure .nil) 96 [92, 93, 94, 95] <| .take 21 .pure <| .guard 97 (.take 22 .pure <| .call 23 tSl <| .take 24 .pure <| .call 25 tSl <| .call 26 tBool <| .take 27 .pure .nil) 103 [98, 99, 100, 101, 102] <| .take 28 .pure <| .guard 104 (.call 29 tBool <| .take 30 .pure .nil) 106 [105] <| .take 31 .pure .nil)) (.none)) (.none))) (.seq (.region (.take 0 .pure .nil)) (.seq (.seq (.region (.take 0 .pure .nil)) (.block (.loop [(14, .leaf (.int .i64)), (15, .leaf (.int .i64))] [6, 16, 107, 108, 109, 110, 111, 112, 113, 114, 115, 116, 117, 118, 119, 120, 121, 122, 123, 124, 125, 126, 127, 128, 129, 130, 131, 132, 133, 134, 135, 136, 137, 138, 139, 140, 141, 142] (.seq (.seq (.region (.take 0 .pure <| .take 1 .pure <| .take 2 .pure <| .take 3 .pure .nil)) (.cond (.none) (.none))) (.join (.block (.seq (.region (.take 0 .pure <| .take 1 .pure <| .take 2 (.val tAddr) <| .take 3 (.get (.one (.agg [.str, .int .i64, .int .i64, .int .i64]))) <| .eff 4 tAddr <| .effU 5 .nil)) (.join (.seq (.region (.take 0 (.get (.one (.agg [.str, .int .i64, .int .i64, .int .i64]))) <| .take 1 (.get (.one (.agg [.str, .int .i64, .int .i64, .int .i64]))) <| .take 2 (.val tBool) .nil)) (.cond (.seq (.seq (.region (.take 0 .pure <| .take 1 .pure <| .take 2 .pure <| .take 3 (.get tInt) <| .take 4 .pure .nil)) (.cond (.none) (.none))) (.region (.take 0 .pure <| .take 1 .pure <| .take 2 (.get tInt) <| .take 3 .pure <| .effU 4 .nil))) (.none))) [] [117, 118, 119, 120, 121, 122, 123, 124, 125, 126, 127, 128] (.seq (.seq (.draw (.take 0 .pure <| .take 1 .pure <| .take 2 .pure <| .take 3 .pure <| .take 4 .pure <| .split 133 <| .take 5 .pure <| .take 6 .pure <| .take 7 (.val tAddr) <| .take 8 (.get (.one (.agg [.str, .int .i64, .int .i64, .int .i64]))) <| .take 9 (.get (.one (.agg [.str, .int .i64, .int .i64, .int .i64]))) <| .take 10 (.val tBool) <| .take 11 .pure .nil)) (.cond (.seq (.region (.take 0 .pure .nil)) (.none)) (.none))) (.region (.take 0 .pure <| .take 1 .pure <| .take 2 .pure .nil)))))) [(14, .leaf (.int .i64))] [6, 16, 113, 114, 115, 116, 117, 118, 119, 120, 121, 122, 123, 124, 125, 126, 127, 128, 129, 130, 131, 132, 133, 134, 135, 136, 137, 138, 139, 140, 141, 142] (.region (.take 0 .pure <| .take 1 .pure <| .take 2 .pure .nil))))))) (.seq (.region (.take 0 .pure <| .take 1 .pure <| .take 2 .pure <| .take 3 .pure <| .take 4 .pure <| .guard 147 (.call 5 tBool <| .take 6 .pure .nil) 149 [148] <| .take 7 .pure .nil)) (.none))))))))))))
def sh8 (p0 : Sl) (p1 : (Int × ByteArray × Int × Int × Int × ByteArray × Int × Int × Unit)) (p2 : Int) (k : Bool → Pr) : Pr :=
  DoP Try.prog (vN (Instr.box 33 (.agg #[.int .i64 p1.1, .string p1.2.1, .int .i64 p1.2.2.1, .int .i64 p1.2.2.2.1, .int .i64 p1.2.2.2.2.1, .string p1.2.2.2.2.2.1, .int .i64 p1.2.2.2.2.2.2.1, .int .i64 p1.2.2.2.2.2.2.2.1]))) tAddr fun t4 =>
  CallP Try.prog 10 #[.int .i64 2] (.tup [.leaf .ptr, .leaf (.int .i64)]) fun t18 =>
  JoinP (S := Bool) (fun b26 => AnyP fun _ =>
  JoinP (S := Bool) (fun b33 => AnyP fun _ =>
  CondP b33 (
  JoinP (S := Bool) (fun b39 => AnyP fun _ =>
  JoinP (S := Bool) (fun b42 => AnyP fun _ =>
  k b42) fun J_4 =>
  CondP b39 (
  CallP Try.prog 30 #[] tBool fun t41 =>
  J_4 t41) (
  J_4 false)) fun J_3 =>
  CondP ((t18.2.1 : Int) == 0) (
  GetP Try.prog (cmpN .neq 23 (.tmp 37) (.const (.pointer none)) (.pointer t18.1) (.pointer none)) tBool fun t38 =>
  J_3 t38) (
  J_3 false)) (
  CallP Try.prog 31 #[.pointer t18.1, .slice p0.a p0.len p0.cap] (.tup []) fun t45 =>
  CallP Try.prog 20 #[.pointer t18.1, .string (⟨#[]⟩), .string (⟨#[]⟩), .int .i64 p2] tSl fun t48 =>
  GetP Try.prog (vN (Instr.loadAt 9 (.pointer (some (Addr.add (Addr.add t4 1) 0))))) tStr fun t53 =>
  GetP Try.prog (vN (Instr.loadAt 3 (.pointer (some (Addr.add (Addr.add t4 1) 1))))) tInt fun t56 =>
  CallP Try.prog 24 #[.pointer t18.1, .string t53, .int .i64 t56] (.tup [.agg [.str, .int .i64, .int .i64, .int .i64], .leaf (.int .i64)]) fun t57 =>
  DoP Try.prog (vN (Instr.alloc 31 true (.tuple #[]))) tAddr fun t10 =>
  DoU Try.prog (uN (Instr.storeAt 31 (.pointer (some t10)) (.agg #[.string t57.1.1, .int .i64 t57.1.2.1, .int .i64 t57.1.2.2.1, .int .i64 t57.1.2.2.2.1]))) <|
  GetP Try.prog (vN (Instr.loadAt 9 (.pointer (some (Addr.add (Addr.add t4 1) 0))))) tStr fun t63 =>
  GetP Try.prog (vN (Instr.loadAt 3 (.pointer (some (Addr.add (Addr.add t4 1) 1))))) tInt fun t66 =>
  GetP Try.prog (vN (Instr.loadAt 3 (.pointer (some (Addr.add (Addr.add t4 1) 2))))) tInt fun t69 =>
  CallP Try.prog 14 #[.pointer t18.1, .string t63, .int .i64 t66, .int .i64 t69] tInt fun t70 =>
  CallP Try.prog 20 #[.pointer t18.1, .string (⟨#[]⟩), .string (⟨#[]⟩), .int .i64 p2] tSl fun t73 =>
  CondP ((t70 : Int) != 0) (
  JoinP (S := Bool) (fun b82 => AnyP fun _ =>
  JoinP (S := Bool) (fun b90 => AnyP fun _ =>
  JoinP (S := Bool) (fun b96 => AnyP fun _ =>
  JoinP (S := Bool) (fun b103 => AnyP fun _ =>
  JoinP (S := Bool) (fun b106 => AnyP fun _ =>
  k b106) fun J_9 =>
  CondP b103 (
  CallP Try.prog 30 #[] tBool fun t105 =>
  J_9 t105) (
  J_9 false)) fun J_8 =>
  CondP b96 (
  CallP Try.prog 19 #[.slice t48.a t48.len t48.cap] tSl fun t99 =>
  CallP Try.prog 19 #[.slice t73.a t73.len t73.cap] tSl fun t101 =>
  CallP Try.prog 18 #[.slice t99.a t99.len t99.cap, .slice t101.a t101.len t101.cap] tBool fun t102 =>
  J_8 t102) (
  J_8 false)) fun J_7 =>
  CondP b90 (
  J_7 true) (
  GetP Try.prog (vN (Instr.loadAt 3 (.pointer (some (Addr.add (Addr.add t4 1) 2))))) tInt fun t94 =>
  J_7 (decide ((t94 : Int) ≥ 1099511627776)))) fun J_6 =>
  CondP b82 (
  J_6 true) (
  GetP Try.prog (vN (Instr.loadAt 3 (.pointer (some (Addr.add (Addr.add t4 1) 2))))) tInt fun t86 =>
  GetP Try.prog (vN (Instr.loadAt 3 (.pointer (some (Addr.add t10 1))))) tInt fun t88 =>
  J_6 (decide ((t86 : Int) ≤ t88)))) fun J_5 =>
  CondP ((t57.2.1 : Int) != 0) (
  J_5 true) (
  GetP Try.prog (vN (Instr.loadAt 3 (.pointer (some (Addr.add t10 2))))) tInt fun t80 =>
  J_5 ((t80 : Int) != 1099511627776))) (
  LoopP (S := Int × Int) (fun next s => AnyP fun _ =>
  CondP (decide ((s.2 : Int) < t48.len)) (
  JoinP (S := Int) (fun s_2 => AnyP fun _ =>
  next (s_2, IntKind.i64.wrap (s.2 + 1))) fun J_10 =>
  ValP Try.prog (vN (Instr.indexAt 42 (.slice t48.a t48.len t48.cap) (.int .i64 s.2))) tAddr fun t115 =>
  GetP Try.prog (vN (Instr.loadAt 31 (.pointer (some t115)))) (.one (.agg [.str, .int .i64, .int .i64, .int .i64])) fun t116 =>
  DoP Try.prog (vN (Instr.alloc 31 true (.tuple #[]))) tAddr fun t16 =>
  DoU Try.prog (uN (Instr.storeAt 31 (.pointer (some t16)) (.agg #[.string t116.1, .int .i64 t116.2.1, .int .i64 t116.2.2.1, .int .i64 t116.2.2.2.1]))) <|
  JoinP (S := Unit) (fun s_3 => AnyP fun _ =>
  DrewP <|
  CondP (decide ((s.1 : Int) ≥ t73.len)) (
  CondP true (
  k false) (
  J_10 (IntKind.i64.wrap (s.1 + 1)))) (
  ValP Try.prog (vN (Instr.indexAt 42 (.slice t73.a t73.len t73.cap) (.int .i64 s.1))) tAddr fun t136 =>
  GetP Try.prog (vN (Instr.loadAt 31 (.pointer (some t136)))) (.one (.agg [.str, .int .i64, .int .i64, .int .i64])) fun t137 =>
  GetP Try.prog (vN (Instr.loadAt 31 (.pointer (some t16)))) (.one (.agg [.str, .int .i64, .int .i64, .int .i64])) fun t138 =>
  ValP Try.prog (cmpN .neq 31 (.tmp 137) (.tmp 138) (.agg #[.string t137.1, .int .i64 t137.2.1, .int .i64 t137.2.2.1, .int .i64 t137.2.2.2.1]) (.agg #[.string t138.1, .int .i64 t138.2.1, .int .i64 t138.2.2.1, .int .i64 t138.2.2.2.1])) tBool fun t139 =>
  CondP t139 (
  k false) (
  J_10 (IntKind.i64.wrap (s.1 + 1))))) fun J_11 =>
  GetP Try.prog (vN (Instr.loadAt 31 (.pointer (some t16)))) (.one (.agg [.str, .int .i64, .int .i64, .int .i64])) fun t117 =>
  GetP Try.prog (vN (Instr.loadAt 31 (.pointer (some t10)))) (.one (.agg [.str, .int .i64, .int .i64, .int .i64])) fun t118 =>
  ValP Try.prog (cmpN .eql 31 (.tmp 117) (.tmp 118) (.agg #[.string t117.1, .int .i64 t117.2.1, .int .i64 t117.2.2.1, .int .i64 t117.2.2.2.1]) (.agg #[.string t118.1, .int .i64 t118.2.1, .int .i64 t118.2.2.1, .int .i64 t118.2.2.2.1])) tBool fun t119 =>
  CondP t119 (
  GetP Try.prog (vN (Instr.loadAt 3 (.pointer (some (Addr.add (Addr.add t4 1) 2))))) tInt fun t123 =>
  CondP (decide ((p2 : Int) ≥ t123)) (
  J_10 s.1) (
  GetP Try.prog (vN (Instr.loadAt 3 (.pointer (some (Addr.add (Addr.add t4 1) 2))))) tInt fun t127 =>
  DoU Try.prog (uN (Instr.storeAt 3 (.pointer (some (Addr.add t16 2))) (.int .i64 t127))) <|
  J_11 ())) (
  J_11 ())) (
  JoinP (S := Bool) (fun b149 => AnyP fun _ =>
  k b149) fun J_12 =>
  CondP ((s.1 : Int) == t73.len) (
  CallP Try.prog 30 #[] tBool fun t148 =>
  J_12 t148) (
  J_12 false))) (0, 0)))) fun J_2 =>
  CondP b26 (
  J_2 true) (
  GetP Try.prog (vN (Instr.loadAt 9 (.pointer (some (Addr.add (Addr.add t4 1) 0))))) tStr fun t30 =>
  J_2 (decide ((t30.size : Int) > 100)))) fun J =>
  CondP ((t18.2.1 : Int) != 0) (
  J true) (
  GetP Try.prog (cmpN .eql 23 (.tmp 24) (.const (.pointer none)) (.pointer t18.1) (.pointer none)) tBool fun t25 =>
  J t25)
theorem rd8 (p0 : Sl) (p1 : (Int × ByteArray × Int × Int × Int × ByteArray × Int × Int × Unit)) (p2 : Int) (k : Bool → Pr) (w : World) (h : sh8 p0 p1 p2 k w) :
    CallP Try.prog 8 #[.slice p0.a p0.len p0.cap, .agg #[.int .i64 p1.1, .string p1.2.1, .int .i64 p1.2.2.1, .int .i64 p1.2.2.2.1, .int .i64 p1.2.2.2.2.1, .string p1.2.2.2.2.2.1, .int .i64 p1.2.2.2.2.2.2.1, .int .i64 p1.2.2.2.2.2.2.2.1], .int .i64 p2] tBool k w :=
  CallP.of_eq (c := sa8.on (bodyOf Try.f8)) (S := sh8 p0 p1 p2 k) follows Try.func8 (by kernel_rfl) (by kernel_rfl) (by kernel_rfl) (by kernel_rfl) h

/-- memoir.memoirlaw13.IndexMax -/
def sa9 : SA := .seq (.region (.take 0 .pure .nil)) (.seq (.region (.call 0 (.tup [.leaf .ptr, .leaf (.int .i64)]) <| .take 1 .pure <| .take 2 .pure <| .take 3 .pure <| .take 4 .pure <| .take 5 .pure .nil)) (.seq (.seq (.region (.take 0 .pure <| .take 1 .pure <| .take 2 .pure <| .guard 17 (.take 3 .pure <| .take 4 (.get tBool) <| .take 5 .pure .nil) 20 [18, 19] .nil)) (.cond (.seq (.region (.take 0 .pure .nil)) (.none)) (.none))) (.seq (.region (.take 0 .pure <| .take 1 .pure <| .call 2 (.tup []) .nil)) (.seq (.region (.take 0 .pure <| .call 1 tSl <| .take 2 .pure .nil)) (.seq (.region (.take 0 .pure <| .call 1 tInt <| .take 2 .pure .nil)) (.seq (.region (.take 0 .pure <| .take 1 .pure <| .take 2 .pure <| .take 3 .pure <| .guard 31 (.take 4 .pure <| .take 5 .pure <| .take 6 .pure .nil) 34 [32, 33] <| .take 7 .pure .nil)) (.seq (.seq (.region (.take 0 .pure .nil)) (.block (.loop [(9, .leaf .bool), (10, .leaf (.int .i64))] [4, 35, 36, 37, 38, 39, 40, 41, 42, 43, 44, 45, 46, 47, 48, 49, 50, 51, 52, 53, 54, 55, 56, 57] (.seq (.seq (.region (.take 0 .pure <| .take 1 .pure <| .take 2 .pure <| .take 3 .pure .nil)) (.cond (.none) (.none))) (.seq (.block (.seq (.region (.take 0 .pure <| .take 1 .pure <| .guard 42 (.take 2 .pure <| .take 3 .pure <| .take 4 (.val tAddr) <| .take 5 .pure <| .take 6 (.get tInt) <| .take 7 .pure <| .take 8 .pure <| .take 9 .pure .nil) 50 [43, 44, 45, 46, 47, 48, 49] <| .take 10 .pure .nil)) (.seq (.region (.take 0 .pure <| .take 1 .pure <| .take 2 (.val tAddr) <| .take 3 .pure <| .take 4 (.get tInt) <| .take 5 .pure <| .take 6 .pure .nil)) (.cond (.seq (.region (.take 0 .pure .nil)) (.none)) (.none))))) (.region (.take 0 .pure <| .take 1 .pure <| .take 2 .pure .nil))))))) (.seq (.region (.take 0 .pure <| .take 1 .pure <| .guard 59 (.take 2 .pure <| .take 3 .pure <| .take 4 .pure <| .call 5 tInt <| .take 6 .pure <| .take 7 .pure .nil) 65 [60, 61, 62, 63, 64] <| .take 8 .pure <| .guard 66 (.take 9 .pure <| .take 10 .pure <| .take 11 .pure <| .take 12 .pure <| .take 13 .pure <| .call 14 tSl <| .take 15 .pure <| .take 16 .pure <| .take 17 .pure .nil) 75 [67, 68, 69, 70, 71, 72, 73, 74] <| .take 18 .pure <| .guard 76 (.call 19 tBool <| .take 20 .pure .nil) 78 [77] <| .take 21 .pure .nil)) (.none)))))))))
def sh9 (p0 : Sl) (p1 : Int) (k : Bool → Pr) : Pr :=
  CallP Try.prog 10 #[.int .i64 3] (.tup [.leaf .ptr, .leaf (.int .i64)]) fun t12 =>
  JoinP (S := Bool) (fun b20 => AnyP fun _ =>
  CondP b20 (
  k false) (
  CallP Try.prog 31 #[.pointer t12.1, .slice p0.a p0.len p0.cap] (.tup []) fun t23 =>
  CallP Try.prog 29 #[.pointer t12.1] tSl fun t25 =>
  CallP Try.prog 27 #[.pointer t12.1] tInt fun t27 =>
  JoinP (S := Bool) (fun b34 => AnyP fun _ =>
  LoopP (S := Bool × Int) (fun next s => AnyP fun _ =>
  CondP (decide ((s.2 : Int) < t25.len)) (
  JoinP (S := Bool) (fun b50 => AnyP fun _ =>
  ValP Try.prog (vN (Instr.indexAt 42 (.slice t25.a t25.len t25.cap) (.int .i64 s.2))) tAddr fun t53 =>
  GetP Try.prog (vN (Instr.loadAt 3 (.pointer (some (Addr.add t53 2))))) tInt fun t55 =>
  CondP (decide ((t55 : Int) > t27)) (
  k false) (
  next (b50, IntKind.i64.wrap (s.2 + 1)))) fun J_3 =>
  CondP s.1 (
  J_3 true) (
  ValP Try.prog (vN (Instr.indexAt 42 (.slice t25.a t25.len t25.cap) (.int .i64 s.2))) tAddr fun t45 =>
  GetP Try.prog (vN (Instr.loadAt 3 (.pointer (some (Addr.add t45 2))))) tInt fun t47 =>
  J_3 ((t47 : Int) == t27))) (
  JoinP (S := Bool) (fun b65 => AnyP fun _ =>
  JoinP (S := Bool) (fun b75 => AnyP fun _ =>
  JoinP (S := Bool) (fun b78 => AnyP fun _ =>
  k b78) fun J_6 =>
  CondP b75 (
  CallP Try.prog 30 #[] tBool fun t77 =>
  J_6 t77) (
  J_6 false)) fun J_5 =>
  CondP b65 (
  CallP Try.prog 20 #[.pointer t12.1, .string (⟨#[]⟩), .string (⟨#[]⟩), .int .i64 (IntKind.i64.wrap (t27 + (IntKind.i64.wrap p1)))] tSl fun t72 =>
  J_5 ((t72.len : Int) == 0)) (
  J_5 false)) fun J_4 =>
  CondP s.1 (
  CallP Try.prog 26 #[.pointer t12.1] tInt fun t63 =>
  J_4 ((t25.len : Int) == t63)) (
  J_4 false))) (b34, 0)) fun J_2 =>
  CondP ((t25.len : Int) == 0) (
  J_2 ((t27 : Int) == 0)) (
  J_2 false))) fun J =>
  CondP ((t12.2.1 : Int) != 0) (
  J true) (
  GetP Try.prog (cmpN .eql 23 (.tmp 18) (.const (.pointer none)) (.pointer t12.1) (.pointer none)) tBool fun t19 =>
  J t19)
theorem rd9 (p0 : Sl) (p1 : Int) (k : Bool → Pr) (w : World) (h : sh9 p0 p1 k w) :
    CallP Try.prog 9 #[.slice p0.a p0.len p0.cap, .int .u8 p1] tBool k w :=
  CallP.of_eq (c := sa9.on (bodyOf Try.f9)) (S := sh9 p0 p1 k) follows Try.func9 (by kernel_rfl) (by kernel_rfl) (by kernel_rfl) (by kernel_rfl) h

end Go.Proofs.Ytoaalegieaocbaa
