/- The shallow reading of the functions that range over a function, and of the function they range over, printed by program (gen.py); the kernel compares each with the model's own. -/
import Derived.Test.YtoaalegieaocbaaShG
import Derived.Test.YtoaalegieaocbaaRdIndex
set_option linter.unusedVariables false
namespace Go.Proofs.Ytoaalegieaocbaa
open Go.Sh
/-- (*memoir.index.Index).Stab -/
def sa20A : SA := .region (.eff 0 tAddr <| .take 1 .pure .nil)
def sa20B : SA := .region (.eff 0 tAddr .nil)
def sa20C : SA := .region (.take 0 .pure <| .take 1 .pure <| .take 2 .pure <| .take 3 (.get tInt) <| .call 4 tRaw .nil)
def sa20D : SA := .region (.take 0 (.get tSl) <| .take 1 .pure .nil)
def sa20asg : SA := .region (.eff 0 tAddr <| .effU 1 .nil)
def sa20body : SA := .block (.seq (.region (.take 0 .pure <| .take 1 (.get tInt) <| .take 2 (.get tInt) <| .take 3 .pure <| .take 4 .pure <| .guard 21 (.take 5 (.get tInt) <| .take 6 .pure <| .take 7 (.get tInt) <| .take 8 .pure <| .take 9 .pure .nil) 26 [22, 23, 24, 25] .nil)) (.cond (.region (.take 0 (.get tSl) <| .take 1 (.get (.one (.agg [.str, .int .i64, .int .i64, .int .i64]))) <| .eff 2 tSl <| .eff 3 tSl <| .effU 4 .nil)) (.none)))
def sh20 (p0 : Option Addr) (p1 : ByteArray) (p2 : ByteArray) (p3 : Int) (k : Sl → Pr) : Pr :=
  DoP Try.prog (vN (Instr.box 3 (.int .i64 p3))) tAddr fun t7 =>
  DoP Try.prog (vN (Instr.alloc 42 true (.tuple #[]))) tAddr fun t9 =>
  GetP Try.prog (vN (Instr.loadAt 3 (.pointer (some t7)))) tInt fun t14 =>
  CallP Try.prog 42 #[.pointer p0, .string p1, .string p2, .int .i64 t14] tRaw fun t15 =>
  RangeP Try.prog t15 (.agg [.str, .int .i64, .int .i64, .int .i64]) (fun l x kb =>
  DoP Try.prog (vN (Instr.alloc 31 true (.tuple #[]))) tAddr fun t10 =>
  DoU Try.prog (uN (Instr.storeAt 31 (.pointer (some t10)) (.agg #[.string x.1, .int .i64 x.2.1, .int .i64 x.2.2.1, .int .i64 x.2.2.2.1]))) <|
  BeginP Try.prog l <|
  GetP Try.prog (vN (Instr.loadAt 3 (.pointer (some (Addr.add t10 1))))) tInt fun t18 =>
  GetP Try.prog (vN (Instr.loadAt 3 (.pointer (some t7)))) tInt fun t19 =>
  JoinP (S := Bool) (fun b26 => AnyP fun _ =>
  CondP b26 (
  GetP Try.prog (vN (Instr.loadAt 42 (.pointer (some t9)))) tSl fun t27 =>
  GetP Try.prog (vN (Instr.loadAt 31 (.pointer (some t10)))) (.one (.agg [.str, .int .i64, .int .i64, .int .i64])) fun t28 =>
  DoP Try.prog (vN (Instr.buildSlice 42 1 #[(0, .agg #[.string t28.1, .int .i64 t28.2.1, .int .i64 t28.2.2.1, .int .i64 t28.2.2.2.1])])) tSl fun t29 =>
  DoP Try.prog (vN (Builtin.append_ #[42, 42] 42 #[.slice t27.a t27.len t27.cap, .slice t29.a t29.len t29.cap])) tSl fun t30 =>
  DoU Try.prog (uN (Instr.storeAt 42 (.pointer (some t9)) (.slice t30.a t30.len t30.cap))) <|
  EndRP Try.prog l kb) (
  EndRP Try.prog l kb)) fun J =>
  CondP (decide ((t18 : Int) ≤ t19)) (
  GetP Try.prog (vN (Instr.loadAt 3 (.pointer (some t7)))) tInt fun t22 =>
  GetP Try.prog (vN (Instr.loadAt 3 (.pointer (some (Addr.add t10 2))))) tInt fun t24 =>
  J (decide ((t22 : Int) < t24))) (
  J false)) fun d =>
  GetP Try.prog (vN (Instr.loadAt 42 (.pointer (some t9)))) tSl fun t31 =>
  LeaveP Try.prog d <|
  k t31
theorem rd20 (p0 : Option Addr) (p1 : ByteArray) (p2 : ByteArray) (p3 : Int) (k : Sl → Pr) (w : World) (h : sh20 p0 p1 p2 p3 k w) :
    CallP Try.prog 20 #[.pointer p0, .string p1, .string p2, .int .i64 p3] tSl k w :=
  CallP.of_range (A := sa20A.on (rgA (bodyOf Try.f20))) (B := sa20B.on (rgB (bodyOf Try.f20))) (C := sa20C.on (rgC (bodyOf Try.f20))) (D := sa20D.on (rgD (bodyOf Try.f20))) (asg := sa20asg.on (rgAsg (bodyOf Try.f20))) (body := sa20body.on (rgBody (bodyOf Try.f20))) (id := 0) (g := (.tmp 15)) (p := 16) (t := (.agg [.str, .int .i64, .int .i64, .int .i64])) (S := sh20 p0 p1 p2 p3 k) follows Try.func20 (by kernel_rfl) (by kernel_rfl) (by kernel_rfl) (by kernel_rfl) (by kernel_rfl) (by kernel_rfl) (by kernel_rfl) (by kernel_rfl) (by kernel_rfl) h

/-- (*memoir.index.Index).Overlap -/
def sa22A : SA := .region (.eff 0 tAddr <| .take 1 .pure .nil)
def sa22B : SA := .region (.eff 0 tAddr .nil)
def sa22C : SA := .region (.take 0 .pure <| .take 1 .pure <| .take 2 .pure <| .take 3 .pure <| .take 4 (.get tInt) <| .call 5 tRaw .nil)
def sa22D : SA := .region (.take 0 (.get tSl) <| .take 1 .pure .nil)
def sa22asg : SA := .region (.eff 0 tAddr <| .effU 1 .nil)
def sa22body : SA := .block (.seq (.region (.take 0 .pure <| .take 1 (.get tInt) <| .take 2 .pure <| .take 3 (.get tInt) <| .take 4 .pure <| .take 5 .pure <| .guard 23 (.take 6 .pure <| .take 7 (.get tInt) <| .take 8 .pure <| .take 9 (.get tInt) <| .take 10 .pure <| .take 11 .pure .nil) 29 [24, 25, 26, 27, 28] <| .take 12 .pure <| .guard 30 (.take 13 .pure <| .take 14 (.get tInt) <| .take 15 .pure <| .take 16 (.get tInt) <| .take 17 .pure <| .take 18 .pure .nil) 36 [31, 32, 33, 34, 35] .nil)) (.cond (.region (.take 0 (.get tSl) <| .take 1 (.get (.one (.agg [.str, .int .i64, .int .i64, .int .i64]))) <| .eff 2 tSl <| .eff 3 tSl <| .effU 4 .nil)) (.none)))
def sh22 (p0 : Option Addr) (p1 : ByteArray) (p2 : ByteArray) (p3 : (Int × Int × Unit)) (k : Sl → Pr) : Pr :=
  DoP Try.prog (vN (Instr.box 46 (.agg #[.int .i64 p3.1, .int .i64 p3.2.1]))) tAddr fun t7 =>
  DoP Try.prog (vN (Instr.alloc 42 true (.tuple #[]))) tAddr fun t9 =>
  GetP Try.prog (vN (Instr.loadAt 3 (.pointer (some (Addr.add t7 0))))) tInt fun t15 =>
  CallP Try.prog 42 #[.pointer p0, .string p1, .string p2, .int .i64 t15] tRaw fun t16 =>
  RangeP Try.prog t16 (.agg [.str, .int .i64, .int .i64, .int .i64]) (fun l x kb =>
  DoP Try.prog (vN (Instr.alloc 31 true (.tuple #[]))) tAddr fun t10 =>
  DoU Try.prog (uN (Instr.storeAt 31 (.pointer (some t10)) (.agg #[.string x.1, .int .i64 x.2.1, .int .i64 x.2.2.1, .int .i64 x.2.2.2.1]))) <|
  BeginP Try.prog l <|
  GetP Try.prog (vN (Instr.loadAt 3 (.pointer (some (Addr.add t10 1))))) tInt fun t19 =>
  GetP Try.prog (vN (Instr.loadAt 3 (.pointer (some (Addr.add t7 1))))) tInt fun t21 =>
  JoinP (S := Bool) (fun b29 => AnyP fun _ =>
  JoinP (S := Bool) (fun b36 => AnyP fun _ =>
  CondP b36 (
  GetP Try.prog (vN (Instr.loadAt 42 (.pointer (some t9)))) tSl fun t37 =>
  GetP Try.prog (vN (Instr.loadAt 31 (.pointer (some t10)))) (.one (.agg [.str, .int .i64, .int .i64, .int .i64])) fun t38 =>
  DoP Try.prog (vN (Instr.buildSlice 42 1 #[(0, .agg #[.string t38.1, .int .i64 t38.2.1, .int .i64 t38.2.2.1, .int .i64 t38.2.2.2.1])])) tSl fun t39 =>
  DoP Try.prog (vN (Builtin.append_ #[42, 42] 42 #[.slice t37.a t37.len t37.cap, .slice t39.a t39.len t39.cap])) tSl fun t40 =>
  DoU Try.prog (uN (Instr.storeAt 42 (.pointer (some t9)) (.slice t40.a t40.len t40.cap))) <|
  EndRP Try.prog l kb) (
  EndRP Try.prog l kb)) fun J_2 =>
  CondP b29 (
  GetP Try.prog (vN (Instr.loadAt 3 (.pointer (some (Addr.add t7 0))))) tInt fun t32 =>
  GetP Try.prog (vN (Instr.loadAt 3 (.pointer (some (Addr.add t7 1))))) tInt fun t34 =>
  J_2 (decide ((t32 : Int) < t34))) (
  J_2 false)) fun J =>
  CondP (decide ((t19 : Int) < t21)) (
  GetP Try.prog (vN (Instr.loadAt 3 (.pointer (some (Addr.add t7 0))))) tInt fun t25 =>
  GetP Try.prog (vN (Instr.loadAt 3 (.pointer (some (Addr.add t10 2))))) tInt fun t27 =>
  J (decide ((t25 : Int) < t27))) (
  J false)) fun d =>
  GetP Try.prog (vN (Instr.loadAt 42 (.pointer (some t9)))) tSl fun t41 =>
  LeaveP Try.prog d <|
  k t41
theorem rd22 (p0 : Option Addr) (p1 : ByteArray) (p2 : ByteArray) (p3 : (Int × Int × Unit)) (k : Sl → Pr) (w : World) (h : sh22 p0 p1 p2 p3 k w) :
    CallP Try.prog 22 #[.pointer p0, .string p1, .string p2, .agg #[.int .i64 p3.1, .int .i64 p3.2.1]] tSl k w :=
  CallP.of_range (A := sa22A.on (rgA (bodyOf Try.f22))) (B := sa22B.on (rgB (bodyOf Try.f22))) (C := sa22C.on (rgC (bodyOf Try.f22))) (D := sa22D.on (rgD (bodyOf Try.f22))) (asg := sa22asg.on (rgAsg (bodyOf Try.f22))) (body := sa22body.on (rgBody (bodyOf Try.f22))) (id := 0) (g := (.tmp 16)) (p := 17) (t := (.agg [.str, .int .i64, .int .i64, .int .i64])) (S := sh22 p0 p1 p2 p3 k) follows Try.func22 (by kernel_rfl) (by kernel_rfl) (by kernel_rfl) (by kernel_rfl) (by kernel_rfl) (by kernel_rfl) (by kernel_rfl) (by kernel_rfl) (by kernel_rfl) h

/-- (*memoir.index.Index).All -/
def sa29A : SA := .region (.take 0 .pure .nil)
def sa29B : SA := .region (.eff 0 tAddr .nil)
def sa29C : SA := .region (.take 0 .pure <| .call 1 tRaw .nil)
def sa29D : SA := .region (.take 0 (.get tSl) <| .take 1 .pure .nil)
def sa29asg : SA := .region (.eff 0 tAddr <| .effU 1 .nil)
def sa29body : SA := .block (.region (.take 0 (.get tSl) <| .take 1 (.get (.one (.agg [.str, .int .i64, .int .i64, .int .i64]))) <| .eff 2 tSl <| .eff 3 tSl <| .effU 4 .nil))
def sh29 (p0 : Option Addr) (k : Sl → Pr) : Pr :=
  DoP Try.prog (vN (Instr.alloc 42 true (.tuple #[]))) tAddr fun t3 =>
  CallP Try.prog 42 #[.pointer p0, .string (⟨#[]⟩), .string (⟨#[]⟩), .int .i64 0] tRaw fun t6 =>
  RangeP Try.prog t6 (.agg [.str, .int .i64, .int .i64, .int .i64]) (fun l x kb =>
  DoP Try.prog (vN (Instr.alloc 31 true (.tuple #[]))) tAddr fun t4 =>
  DoU Try.prog (uN (Instr.storeAt 31 (.pointer (some t4)) (.agg #[.string x.1, .int .i64 x.2.1, .int .i64 x.2.2.1, .int .i64 x.2.2.2.1]))) <|
  BeginP Try.prog l <|
  GetP Try.prog (vN (Instr.loadAt 42 (.pointer (some t3)))) tSl fun t8 =>
  GetP Try.prog (vN (Instr.loadAt 31 (.pointer (some t4)))) (.one (.agg [.str, .int .i64, .int .i64, .int .i64])) fun t9 =>
  DoP Try.prog (vN (Instr.buildSlice 42 1 #[(0, .agg #[.string t9.1, .int .i64 t9.2.1, .int .i64 t9.2.2.1, .int .i64 t9.2.2.2.1])])) tSl fun t10 =>
  DoP Try.prog (vN (Builtin.append_ #[42, 42] 42 #[.slice t8.a t8.len t8.cap, .slice t10.a t10.len t10.cap])) tSl fun t11 =>
  DoU Try.prog (uN (Instr.storeAt 42 (.pointer (some t3)) (.slice t11.a t11.len t11.cap))) <|
  EndRP Try.prog l kb) fun d =>
  GetP Try.prog (vN (Instr.loadAt 42 (.pointer (some t3)))) tSl fun t12 =>
  LeaveP Try.prog d <|
  k t12
theorem rd29 (p0 : Option Addr) (k : Sl → Pr) (w : World) (h : sh29 p0 k w) :
    CallP Try.prog 29 #[.pointer p0] tSl k w :=
  CallP.of_range (A := sa29A.on (rgA (bodyOf Try.f29))) (B := sa29B.on (rgB (bodyOf Try.f29))) (C := sa29C.on (rgC (bodyOf Try.f29))) (D := sa29D.on (rgD (bodyOf Try.f29))) (asg := sa29asg.on (rgAsg (bodyOf Try.f29))) (body := sa29body.on (rgBody (bodyOf Try.f29))) (id := 0) (g := (.tmp 6)) (p := 7) (t := (.agg [.str, .int .i64, .int .i64, .int .i64])) (S := sh29 p0 k) follows Try.func29 (by kernel_rfl) (by kernel_rfl) (by kernel_rfl) (by kernel_rfl) (by kernel_rfl) (by kernel_rfl) (by kernel_rfl) (by kernel_rfl) (by kernel_rfl) h

/-- (*memoir.index.Index).each$1 -/
def sa47 : SA := .seq (.seq (.region (.take 0 (.get tPtr) <| .call 1 tBool <| .take 2 .pure .nil)) (.cond (.none) (.none))) (.seq (.region (.take 0 (.get tPtr) <| .take 1 (.val tAddr) <| .take 2 .pure <| .take 3 (.get tSl) <| .take 4 .pure <| .take 5 .pure .nil)) (.block (.loop [(18, .leaf (.int .i64))] [7, 9, 19, 20, 21, 22, 23, 24, 25, 26, 27, 28, 29, 30, 31, 32, 33, 34, 35, 36, 37, 38, 39, 40, 41, 42, 43, 44, 45, 46, 47, 48, 49, 50, 51, 52] (.seq (.region (.take 0 .pure .nil)) (.seq (.cond (.none) (.none)) (.join (.block (.seq (.region (.take 0 (.val tAddr) <| .take 1 (.get (.one (.agg [.slice, .int .i64]))) <| .eff 2 tAddr <| .effU 3 .nil)) (.seq (.seq (.region (.take 0 .pure <| .take 1 (.get tInt) <| .take 2 (.get tInt) <| .take 3 .pure .nil)) (.cond (.none) (.none))) (.seq (.region (.take 0 .pure <| .take 1 (.get tSl) <| .take 2 .pure <| .take 3 .pure .nil)) (.block (.loop [(29, .leaf (.int .i64))] [9, 30, 31, 32, 33, 34, 35, 36, 37, 38, 39, 40, 41, 42, 43, 44, 45, 46, 47, 48, 49, 50, 51] (.seq (.region (.take 0 .pure .nil)) (.seq (.cond (.none) (.none)) (.join (.block (.seq (.region (.take 0 (.val tAddr) <| .take 1 (.get (.one (.agg [.str, .int .i64, .int .i64, .int .i64]))) <| .eff 2 tAddr <| .effU 3 .nil)) (.seq (.seq (.region (.take 0 .pure <| .take 1 (.get tStr) <| .take 2 (.get tStr) <| .take 3 .pure <| .take 4 .pure <| .guard 37 (.take 5 (.get tStr) <| .take 6 .pure <| .take 7 .pure <| .guard 40 (.take 8 .pure <| .take 9 (.get tStr) <| .take 10 (.get tStr) <| .take 11 .pure <| .take 12 .pure .nil) 45 [41, 42, 43, 44] <| .take 13 .pure .nil) 46 [38, 39, 40, 41, 42, 43, 44, 45] .nil)) (.cond (.none) (.none))) (.seq (.region (.take 0 .pure <| .take 1 (.get (.one (.agg [.str, .int .i64, .int .i64, .int .i64]))) <| .inv 2 tBool <| .take 3 .pure .nil)) (.cond (.none) (.none)))))) [] [9, 31, 32, 33, 34, 35, 36, 37, 38, 39, 40, 41, 42, 43, 44, 45, 46, 47, 48, 49, 50] (.region (.take 0 .pure <| .take 1 .pure .nil))))))))))) [] [7, 9, 20, 21, 22, 23, 24, 25, 26, 27, 28, 29, 30, 31, 32, 33, 34, 35, 36, 37, 38, 39, 40, 41, 42, 43, 44, 45, 46, 47, 48, 49, 50, 51] (.region (.take 0 .pure <| .take 1 .pure .nil))))))))
def sh47 (p0 : Value) (c0 : Value) (c1 : Value) (c2 : Value) (c3 : Value) (k : (Unit) → Pr) : Pr :=
  GetP Try.prog (vN (Instr.loadAt 23 c0)) tPtr fun t10 =>
  CallP Try.prog 33 #[.pointer t10] tBool fun t11 =>
  CondP (!t11) (
  k ()) (
  GetP Try.prog (vN (Instr.loadAt 23 c0)) tPtr fun t13 =>
  ValP Try.prog (nilN (.pointer t13)) tAddr fun t14 =>
  GetP Try.prog (vN (Instr.loadAt 66 (.pointer (some (Addr.add t14 1))))) tSl fun t16 =>
  LoopP (S := Int) (fun next s => AnyP fun _ =>
  CondP (decide ((s : Int) < t16.len)) (
  JoinP (S := Unit) (fun s_2 => AnyP fun _ =>
  next (IntKind.i64.wrap (s + 1))) fun J =>
  ValP Try.prog (vN (Instr.indexAt 66 (.slice t16.a t16.len t16.cap) (.int .i64 s))) tAddr fun t20 =>
  GetP Try.prog (vN (Instr.loadAt 74 (.pointer (some t20)))) (.one (.agg [.slice, .int .i64])) fun t21 =>
  DoP Try.prog (vN (Instr.alloc 74 true (.tuple #[]))) tAddr fun t7 =>
  DoU Try.prog (uN (Instr.storeAt 74 (.pointer (some t7)) (.agg #[.slice t21.1.a t21.1.len t21.1.cap, .int .i64 t21.2.1]))) <|
  GetP Try.prog (vN (Instr.loadAt 3 (.pointer (some (Addr.add t7 1))))) tInt fun t23 =>
  GetP Try.prog (vN (Instr.loadAt 3 c1)) tInt fun t24 =>
  CondP (decide ((t23 : Int) ≤ t24)) (
  J ()) (
  GetP Try.prog (vN (Instr.loadAt 72 (.pointer (some (Addr.add t7 0))))) tSl fun t27 =>
  LoopP (S := Int) (fun next_2 s_3 => AnyP fun _ =>
  CondP (decide ((s_3 : Int) < t27.len)) (
  JoinP (S := Unit) (fun s_4 => AnyP fun _ =>
  next_2 (IntKind.i64.wrap (s_3 + 1))) fun J_2 =>
  ValP Try.prog (vN (Instr.indexAt 72 (.slice t27.a t27.len t27.cap) (.int .i64 s_3))) tAddr fun t31 =>
  GetP Try.prog (vN (Instr.loadAt 31 (.pointer (some t31)))) (.one (.agg [.str, .int .i64, .int .i64, .int .i64])) fun t32 =>
  DoP Try.prog (vN (Instr.alloc 31 true (.tuple #[]))) tAddr fun t9 =>
  DoU Try.prog (uN (Instr.storeAt 31 (.pointer (some t9)) (.agg #[.string t32.1, .int .i64 t32.2.1, .int .i64 t32.2.2.1, .int .i64 t32.2.2.2.1]))) <|
  GetP Try.prog (vN (Instr.loadAt 9 (.pointer (some (Addr.add t9 0))))) tStr fun t34 =>
  GetP Try.prog (vN (Instr.loadAt 9 c2)) tStr fun t35 =>
  JoinP (S := Bool) (fun b46 => AnyP fun _ =>
  CondP b46 (
  J_2 ()) (
  GetP Try.prog (vN (Instr.loadAt 31 (.pointer (some t9)))) (.one (.agg [.str, .int .i64, .int .i64, .int .i64])) fun t48 =>
  InvP Try.prog (callN p0 #[.agg #[.string t48.1, .int .i64 t48.2.1, .int .i64 t48.2.2.1, .int .i64 t48.2.2.2.1]]) tBool fun t49 =>
  CondP (!t49) (
  k ()) (
  J_2 ()))) fun J_3 =>
  CondP (Op.bytesLess t34.toList t35.toList) (
  J_3 true) (
  GetP Try.prog (vN (Instr.loadAt 9 c3)) tStr fun t38 =>
  JoinP (S := Bool) (fun b45 => AnyP fun _ =>
  J_3 b45) fun J_4 =>
  CondP (!(t38.toList == (⟨#[]⟩ : ByteArray).toList)) (
  GetP Try.prog (vN (Instr.loadAt 9 (.pointer (some (Addr.add t9 0))))) tStr fun t42 =>
  GetP Try.prog (vN (Instr.loadAt 9 c3)) tStr fun t43 =>
  J_4 (!Op.bytesLess t42.toList t43.toList)) (
  J_4 false))) (
  J ())) 0)) (
  k ())) 0)
theorem rd47 (p0 : Value) (c0 : Value) (c1 : Value) (c2 : Value) (c3 : Value) (k : (Unit) → Pr) (w : World) (h : sh47 p0 c0 c1 c2 c3 k w) :
    CallP Try.prog 47 #[p0, c0, c1, c2, c3] (.tup []) k w :=
  CallP.of_eq (c := sa47.on (bodyOf Try.f47)) (S := sh47 p0 c0 c1 c2 c3 k) follows Try.func47 (by kernel_rfl) (by kernel_rfl) (by kernel_rfl) (by kernel_rfl) h

end Go.Proofs.Ytoaalegieaocbaa
