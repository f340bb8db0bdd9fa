/- The readings of the functions of values and tables, and plain laws of floats as words. No conditions. -/
import Derived.Test.YtelhccfmfnaegaaGreatLibA
import Derived.Test.YtelhccfmfnaegaaGreatProg
import GoSem.Core.Float
import GoSem.Op.String
import Derived.Lib.Strings
section
/- Short forms in which the readings of functions are printed. -/
namespace Go.Proofs.YtelhccfmfnaegaaGreat
open Go Go.Sh
theorem follows : Tryz.prog.follows .mixedOrders = true := by kernel_rfl
abbrev pa (a : Addr) : Value := .pointer (some a)
abbrev sv (s : Sl) : Value := .slice s.a s.len s.cap
abbrev iv (n : Int) : Value := .int .i64 n
abbrev ag (ls : List Leaf) (x : cellsDen ls) : Value := .agg ⟨cellsVal ls x⟩
abbrev VL (s : Sem Next) (t : Ty) (k : t.den → Pr) : Pr := ValP Tryz.prog s t k
abbrev GT (s : Sem Next) (t : Ty) (k : t.den → Pr) : Pr := GetP Tryz.prog s t k
abbrev DP (s : Sem Next) (t : Ty) (k : t.den → Pr) : Pr := DoP Tryz.prog s t k
abbrev DU (s : Sem Next) (k : Pr) : Pr := DoU Tryz.prog s k
abbrev CL (f : FuncId) (args : Array Value) (t : Ty) (k : t.den → Pr) : Pr := CallP Tryz.prog f args t k
abbrev CK (s : Sem Next) (v : Value) (k : Pr) : Pr := ChkP Tryz.prog s v k
abbrev IV (s : Sem Next) (t : Ty) (k : t.den → Pr) : Pr := InvP Tryz.prog s t k
abbrev NX (s : Sem Next) (t : List Comp) (kn : Pr) (ks : tupDen t → Pr) : Pr := NextP Tryz.prog s t kn ks
abbrev LD (t : TypeId) (a : Addr) (ty : Ty) (k : ty.den → Pr) : Pr := GetP Tryz.prog (vN (Instr.loadAt t (pa a))) ty k
abbrev LK (t : TypeId) (a : Addr) (v : Value) (k : Pr) : Pr := ChkP Tryz.prog (vN (Instr.loadAt t (pa a))) v k
abbrev ST (t : TypeId) (a : Addr) (v : Value) (k : Pr) : Pr := DoU Tryz.prog (uN (Instr.storeAt t (pa a) v)) k
abbrev IX (t : TypeId) (s : Sl) (i : Int) (k : Addr → Pr) : Pr := ValP Tryz.prog (vN (Instr.indexAt t (sv s) (iv i))) tAddr k
abbrev AL (t : TypeId) (k : Addr → Pr) : Pr := DoP Tryz.prog (vN (Instr.alloc t true (.tuple #[]))) tAddr k
abbrev BX (t : TypeId) (v : Value) (k : Addr → Pr) : Pr := DoP Tryz.prog (vN (Instr.box t v)) tAddr k
abbrev BS (t : TypeId) (n : Nat) (parts : Array (Nat × Value)) (k : Sl → Pr) : Pr := DoP Tryz.prog (vN (Instr.buildSlice t n parts)) tSl k
abbrev AP (a b c : TypeId) (s t : Sl) (k : Sl → Pr) : Pr := DoP Tryz.prog (vN (Builtin.append_ #[a, b] c #[sv s, sv t])) tSl k
abbrev NC (p : Option Addr) (k : Addr → Pr) : Pr := ValP Tryz.prog (nilN (.pointer p)) tAddr k
abbrev NA (a : Addr) (k : Addr → Pr) : Pr := ValP Tryz.prog (nilN (pa a)) tAddr k
abbrev JB (J : Bool → Pr) (body : (Bool → Pr) → Pr) : Pr := JoinP (S := Bool) (fun b => AnyP fun _ => J b) body
end Go.Proofs.YtelhccfmfnaegaaGreat
end

section
/- The shallow reading of functions, printed by program (gen.py); the kernel compares each with the model's own. -/
set_option linter.unusedVariables false
namespace Go.Proofs.YtelhccfmfnaegaaGreat
open Go Go.Sh
/-- memoir.value.OfFloat -/
def sa14 : SA := .seq (.region (.eff 0 tAddr .nil)) (.seq (.region (.take 0 .pure <| .call 1 (.one (.leaf (.int .u64))) <| .take 2 .pure <| .effU 3 .nil)) (.none))
def sh14 (p0 : Nat) (k : ((Int × Int × Int × ByteArray × Unit)) → Pr) : Pr :=
  AL 27 fun t2 =>
  CL 35 #[.float .f64 p0] (.one (.leaf (.int .u64))) fun t4 =>
  ST 27 t2 (.agg #[iv 3, iv 0, .int .u64 t4, .string (⟨#[]⟩)]) <|
  GT (vN (resSem [.cell (pa t2) 27])) (.one (.agg [.int .i64, .int .i64, .int .u64, .str])) k
theorem rd14 (p0 : Nat) (k : ((Int × Int × Int × ByteArray × Unit)) → Pr) (w : World) (h : sh14 p0 k w) :
    CL 14 #[.float .f64 p0] (.one (.agg [.int .i64, .int .i64, .int .u64, .str])) k w :=
  CallP.of_eq (c := sa14.on (bodyOf Tryz.f14)) (S := sh14 p0 k) follows Tryz.func14 (by kernel_rfl) (by kernel_rfl) (by kernel_rfl) (by kernel_rfl) h

/-- memoir.value.Compare -/
def sa18 : SA := .seq (.region (.eff 0 tAddr <| .eff 1 tAddr <| .take 2 .pure .nil)) (.seq (.block (.seq (.region (.take 0 (.get (.one (.agg [.int .i64, .int .i64, .int .u64, .str]))) <| .call 1 tBool <| .take 2 .pure <| .take 3 .pure <| .guard 9 (.take 4 (.get (.one (.agg [.int .i64, .int .i64, .int .u64, .str]))) <| .call 5 tBool <| .take 6 .pure <| .take 7 .pure .nil) 13 [10, 11, 12] <| .take 8 .pure .nil)) (.cond (.seq (.region (.take 0 .pure .nil)) (.none)) (.seq (.region (.take 0 .pure <| .take 1 (.get tInt) <| .take 2 .pure <| .take 3 (.get tInt) <| .take 4 .pure <| .take 5 .pure .nil)) (.cond (.seq (.region (.take 0 .pure <| .take 1 (.get tInt) <| .take 2 .pure <| .take 3 (.get tInt) <| .call 4 tInt <| .take 5 .pure .nil)) (.none)) (.seq (.region (.take 0 .pure <| .take 1 (.get tInt) <| .take 2 .pure <| .take 3 .pure .nil)) (.cond (.seq (.draw (.take 0 (.get (.one (.agg [.int .i64, .int .i64, .int .u64, .str]))) <| .take 2 (.get (.one (.agg [.int .i64, .int .i64, .int .u64, .str]))) <| .call 1 (.one (.leaf .float)) [2] <| .call 3 (.one (.leaf .float)) [] <| .call 4 tInt [] <| .now 5 .pure [] .nil)) (.none)) (.seq (.region (.take 0 .pure <| .take 1 (.get tStr) <| .take 2 .pure <| .take 3 (.get tStr) <| .take 4 .pure <| .take 5 .pure .nil)) (.cond (.seq (.region (.take 0 .pure <| .take 1 (.get tStr) <| .take 2 .pure <| .take 3 (.get tStr) <| .call 4 tInt <| .take 5 .pure .nil)) (.none)) (.none)))))))))) (.seq (.region (.take 0 .pure <| .take 1 (.get tInt) <| .take 2 .pure <| .take 3 (.get tInt) <| .call 4 tInt <| .take 5 .pure .nil)) (.none)))
def sh18 (p0 : (Int × Int × Int × ByteArray × Unit)) (p1 : (Int × Int × Int × ByteArray × Unit)) (k : Int → Pr) : Pr :=
  BX 27 (ag [.int .i64, .int .i64, .int .u64, .str] p0) fun t2 =>
  BX 27 (ag [.int .i64, .int .i64, .int .u64, .str] p1) fun t3 =>
  LD 27 t2 (.one (.agg [.int .i64, .int .i64, .int .u64, .str])) fun t6 =>
  CL 46 #[ag [.int .i64, .int .i64, .int .u64, .str] t6] tBool fun t7 =>
  JB (fun b13 =>
  CondP b13 (
  k 0) (
  LD 3 (Addr.add t2 0) tInt fun t16 =>
  LD 3 (Addr.add t3 0) tInt fun t18 =>
  CondP ((t16 : Int) != t18) (
  LD 3 (Addr.add t2 0) tInt fun t21 =>
  LD 3 (Addr.add t3 0) tInt fun t23 =>
  CL 47 #[iv t21, iv t23] tInt fun t24 =>
  k t24) (
  LD 3 (Addr.add t2 0) tInt fun t27 =>
  CondP ((t27 : Int) == 3) (
  DrewP <|
  LD 27 t2 (.one (.agg [.int .i64, .int .i64, .int .u64, .str])) fun t29 =>
  LD 27 t3 (.one (.agg [.int .i64, .int .i64, .int .u64, .str])) fun t31 =>
  CL 49 #[ag [.int .i64, .int .i64, .int .u64, .str] t29] (.one (.leaf .float)) fun t30 =>
  LK 27 t3 (ag [.int .i64, .int .i64, .int .u64, .str] t31) <|
  CL 49 #[ag [.int .i64, .int .i64, .int .u64, .str] t31] (.one (.leaf .float)) fun t32 =>
  CL 48 #[.float .f64 t30, .float .f64 t32] tInt fun t33 =>
  k t33) (
  LD 9 (Addr.add t2 3) tStr fun t36 =>
  LD 9 (Addr.add t3 3) tStr fun t38 =>
  CondP (!(t36.toList == t38.toList)) (
  LD 9 (Addr.add t2 3) tStr fun t41 =>
  LD 9 (Addr.add t3 3) tStr fun t43 =>
  CL 50 #[.string t41, .string t43] tInt fun t44 =>
  k t44) (
  LD 3 (Addr.add t2 1) tInt fun t46 =>
  LD 3 (Addr.add t3 1) tInt fun t48 =>
  CL 47 #[iv t46, iv t48] tInt fun t49 =>
  k t49))))) fun J =>
  CondP (!t7) (
  J true) (
  LD 27 t3 (.one (.agg [.int .i64, .int .i64, .int .u64, .str])) fun t10 =>
  CL 46 #[ag [.int .i64, .int .i64, .int .u64, .str] t10] tBool fun t11 =>
  J (!t11))
theorem rd18 (p0 : (Int × Int × Int × ByteArray × Unit)) (p1 : (Int × Int × Int × ByteArray × Unit)) (k : Int → Pr) (w : World) (h : sh18 p0 p1 k w) :
    CL 18 #[ag [.int .i64, .int .i64, .int .u64, .str] p0, ag [.int .i64, .int .i64, .int .u64, .str] p1] tInt k w :=
  CallP.of_eq (c := sa18.on (bodyOf Tryz.f18)) (S := sh18 p0 p1 k) follows Tryz.func18 (by kernel_rfl) (by kernel_rfl) (by kernel_rfl) (by kernel_rfl) h

/-- memoir.value.Same -/
def sa19 : SA := .seq (.region (.eff 0 tAddr <| .eff 1 tAddr <| .take 2 .pure .nil)) (.seq (.region (.take 0 (.get (.one (.agg [.int .i64, .int .i64, .int .u64, .str]))) <| .take 1 (.get (.one (.agg [.int .i64, .int .i64, .int .u64, .str]))) <| .take 2 (.val tBool) <| .take 3 .pure <| .guard 8 (.take 4 (.get (.one (.agg [.int .i64, .int .i64, .int .u64, .str]))) <| .call 5 tBool <| .take 6 .pure .nil) 11 [9, 10] <| .take 7 .pure .nil)) (.none))
def sh19 (p0 : (Int × Int × Int × ByteArray × Unit)) (p1 : (Int × Int × Int × ByteArray × Unit)) (k : Bool → Pr) : Pr :=
  BX 27 (ag [.int .i64, .int .i64, .int .u64, .str] p0) fun t2 =>
  BX 27 (ag [.int .i64, .int .i64, .int .u64, .str] p1) fun t3 =>
  LD 27 t2 (.one (.agg [.int .i64, .int .i64, .int .u64, .str])) fun t5 =>
  LD 27 t3 (.one (.agg [.int .i64, .int .i64, .int .u64, .str])) fun t6 =>
  VL (cmpN .eql 27 (.tmp 5) (.tmp 6) (ag [.int .i64, .int .i64, .int .u64, .str] t5) (ag [.int .i64, .int .i64, .int .u64, .str] t6)) tBool fun t7 =>
  JB (fun b11 =>
  k b11) fun J =>
  CondP t7 (
  LD 27 t2 (.one (.agg [.int .i64, .int .i64, .int .u64, .str])) fun t9 =>
  CL 46 #[ag [.int .i64, .int .i64, .int .u64, .str] t9] tBool fun t10 =>
  J t10) (
  J false)
theorem rd19 (p0 : (Int × Int × Int × ByteArray × Unit)) (p1 : (Int × Int × Int × ByteArray × Unit)) (k : Bool → Pr) (w : World) (h : sh19 p0 p1 k w) :
    CL 19 #[ag [.int .i64, .int .i64, .int .u64, .str] p0, ag [.int .i64, .int .i64, .int .u64, .str] p1] tBool k w :=
  CallP.of_eq (c := sa19.on (bodyOf Tryz.f19)) (S := sh19 p0 p1 k) follows Tryz.func19 (by kernel_rfl) (by kernel_rfl) (by kernel_rfl) (by kernel_rfl) h

/-- memoir.value.canonical -/
def sa35 : SA := .seq (.region (.take 0 .pure .nil)) (.seq (.block (.seq (.region (.take 0 .pure <| .call 1 tBool <| .take 2 .pure .nil)) (.cond (.seq (.region (.take 0 .pure .nil)) (.none)) (.seq (.region (.take 0 .pure <| .take 1 (.val tBool) <| .take 2 .pure .nil)) (.cond (.seq (.region (.take 0 .pure .nil)) (.none)) (.none)))))) (.seq (.region (.take 0 .pure <| .take 1 (.val (.one (.leaf (.int .u64)))) <| .take 2 .pure .nil)) (.none)))
def sh35 (p0 : Nat) (k : Int → Pr) : Pr :=
  CL 68 #[.float .f64 p0] tBool fun t5 =>
  CondP t5 (
  k 9221120237041090560) (
  VL (cmpN .eql 70 (.tmp 7) (.const (.float .f64 0)) (.float .f64 p0) (.float .f64 0)) tBool fun t8 =>
  CondP t8 (
  k 0) (
  VL (callFunc 69 #[.float .f64 p0]) (.one (.leaf (.int .u64))) fun t10 =>
  k t10))
theorem rd35 (p0 : Nat) (k : Int → Pr) (w : World) (h : sh35 p0 k w) :
    CL 35 #[.float .f64 p0] (.one (.leaf (.int .u64))) k w :=
  CallP.of_eq (c := sa35.on (bodyOf Tryz.f35)) (S := sh35 p0 k) follows Tryz.func35 (by kernel_rfl) (by kernel_rfl) (by kernel_rfl) (by kernel_rfl) h

/-- memoir.value.Right -/
def sa46 : SA := .seq (.region (.eff 0 tAddr <| .take 1 .pure .nil)) (.seq (.region (.take 0 .pure <| .take 1 (.get tInt) <| .take 2 .pure <| .eff 3 tAddr <| .effU 4 .nil)) (.join (.seq (.region (.take 0 .pure <| .take 1 (.get tInt) .nil)) (.block (.seq (.region (.take 0 .pure <| .take 1 .pure .nil)) (.cond (.none) (.seq (.region (.take 0 .pure <| .take 1 .pure .nil)) (.cond (.region (.take 0 .pure <| .take 1 (.get tInt) <| .take 2 .pure <| .take 3 .pure <| .effU 4 .nil)) (.seq (.region (.take 0 .pure <| .take 1 .pure .nil)) (.cond (.region (.take 0 .pure <| .take 1 (.get tInt) <| .take 2 .pure <| .effU 3 .nil)) (.seq (.region (.take 0 .pure <| .take 1 .pure .nil)) (.cond (.region (.take 0 .pure <| .take 1 (.get (.one (.leaf (.int .u64)))) <| .take 2 (.val (.one (.leaf .float))) <| .call 3 (.one (.leaf (.int .u64))) <| .take 4 .pure <| .effU 5 .nil)) (.join (.seq (.region (.take 0 .pure <| .take 1 .pure .nil)) (.cond (.none) (.region (.take 0 .pure <| .take 1 .pure .nil)))) [(29, .leaf .bool)] [30, 31] (.cond (.region (.take 0 .pure <| .take 1 (.get tStr) <| .take 2 .pure <| .effU 3 .nil)) (.seq (.region (.take 0 .pure .nil)) (.none)))))))))))))) [] ([2] ++ rg 7 34) (.seq (.region (.take 0 (.get (.one (.agg [.int .i64, .int .i64, .int .u64, .str]))) <| .take 1 (.get (.one (.agg [.int .i64, .int .i64, .int .u64, .str]))) <| .take 2 (.val tBool) <| .take 3 .pure <| .guard 38 (.take 4 .pure <| .take 5 (.get tStr) <| .pu 6 3 .nil) 43 (rg 39 42) <| .take 9 .pure .nil)) (.none))))
def sh46 (p0 : (Int × Int × Int × ByteArray × Unit)) (k : Bool → Pr) : Pr :=
  BX 27 (ag [.int .i64, .int .i64, .int .u64, .str] p0) fun t1 =>
  LD 3 (Addr.add t1 0) tInt fun t5 =>
  AL 27 fun t3 =>
  ST 27 t3 (.agg #[iv t5, iv 0, .int .u64 0, .string (⟨#[]⟩)]) <|
  JoinP (S := Unit) (fun s => AnyP fun _ =>
  LD 27 t1 (.one (.agg [.int .i64, .int .i64, .int .u64, .str])) fun t35 =>
  LD 27 t3 (.one (.agg [.int .i64, .int .i64, .int .u64, .str])) fun t36 =>
  VL (cmpN .eql 27 (.tmp 35) (.tmp 36) (ag [.int .i64, .int .i64, .int .u64, .str] t35) (ag [.int .i64, .int .i64, .int .u64, .str] t36)) tBool fun t37 =>
  JB (fun b43 =>
  k b43) fun J_2 =>
  CondP t37 (
  LD 9 (Addr.add t1 3) tStr fun t40 =>
  J_2 (decide ((t40.size : Int) ≤ 4096))) (
  J_2 false)) fun J =>
  LD 3 (Addr.add t1 0) tInt fun t8 =>
  CondP ((t8 : Int) == 0) (
  J ()) (
  CondP ((t8 : Int) == 1) (
  LD 3 (Addr.add t1 1) tInt fun t14 =>
  ST 3 (Addr.add t3 1) (iv (IntKind.i64.wrap ((BitVec.ofInt IntKind.i64.bits t14 &&& BitVec.ofInt IntKind.i64.bits 1).toNat : Int))) <|
  J ()) (
  CondP ((t8 : Int) == 2) (
  LD 3 (Addr.add t1 1) tInt fun t20 =>
  ST 3 (Addr.add t3 1) (iv t20) <|
  J ()) (
  CondP ((t8 : Int) == 3) (
  LD 25 (Addr.add t1 2) (.one (.leaf (.int .u64))) fun t25 =>
  VL (callFunc 15 #[.int .u64 t25]) (.one (.leaf .float)) fun t26 =>
  CL 35 #[.float .f64 t26] (.one (.leaf (.int .u64))) fun t27 =>
  ST 25 (Addr.add t3 2) (.int .u64 t27) <|
  J ()) (
  JB (fun s_2 =>
  CondP s_2 (
  LD 9 (Addr.add t1 3) tStr fun t33 =>
  ST 9 (Addr.add t3 3) (.string t33) <|
  J ()) (
  k false)) fun J_3 =>
  CondP ((t8 : Int) == 4) (
  J_3 ((t8 : Int) == 4)) (
  J_3 ((t8 : Int) == 5))))))
theorem rd46 (p0 : (Int × Int × Int × ByteArray × Unit)) (k : Bool → Pr) (w : World) (h : sh46 p0 k w) :
    CL 46 #[ag [.int .i64, .int .i64, .int .u64, .str] p0] tBool k w :=
  CallP.of_eq (c := sa46.on (bodyOf Tryz.f46)) (S := sh46 p0 k) follows Tryz.func46 (by kernel_rfl) (by kernel_rfl) (by kernel_rfl) (by kernel_rfl) h

/-- memoir.value.order[int] -/
def sa47 : SA := .seq (.region (.take 0 .pure .nil)) (.seq (.block (.seq (.region (.pu 0 4 .nil)) (.cond (.seq (.region (.take 0 .pure .nil)) (.none)) (.seq (.region (.pu 0 4 .nil)) (.cond (.seq (.region (.take 0 .pure .nil)) (.none)) (.none)))))) (.seq (.region (.take 0 .pure .nil)) (.none)))
def sh47 (p0 : Int) (p1 : Int) (k : Int → Pr) : Pr :=
  CondP (decide ((p0 : Int) < p1)) (
  k (-1)) (
  CondP (decide ((p0 : Int) > p1)) (
  k 1) (
  k 0))
theorem rd47 (p0 : Int) (p1 : Int) (k : Int → Pr) (w : World) (h : sh47 p0 p1 k w) :
    CL 47 #[iv p0, iv p1] tInt k w :=
  CallP.of_eq (c := sa47.on (bodyOf Tryz.f47)) (S := sh47 p0 p1 k) follows Tryz.func47 (by kernel_rfl) (by kernel_rfl) (by kernel_rfl) (by kernel_rfl) h

/-- memoir.value.floats -/
def sa48 : SA := .seq (.region (.take 0 .pure .nil)) (.seq (.region (.take 0 .pure .nil)) (.seq (.seq (.region (.take 0 .pure <| .take 1 .pure <| .inv 2 tInt <| .take 3 .pure <| .take 4 .pure <| .inv 5 tInt <| .call 6 tInt <| .take 7 .pure .nil)) (.seq (.region (.take 0 .pure <| .take 1 .pure .nil)) (.cond (.seq (.region (.take 0 .pure <| .take 1 .pure .nil)) (.none)) (.none)))) (.seq (.region (.take 0 .pure <| .take 1 .pure <| .call 2 tInt <| .take 3 .pure .nil)) (.none))))
def sh48 (p0 : Nat) (p1 : Nat) (k : Int → Pr) : Pr :=
  IV (callN (.func (.func 97) #[] #[]) #[.float .f64 p0]) tInt fun t9 =>
  IV (callN (.func (.func 97) #[] #[]) #[.float .f64 p1]) tInt fun t12 =>
  CL 47 #[iv t9, iv t12] tInt fun t13 =>
  CondP ((t13 : Int) != 0) (
  k t13) (
  CL 98 #[.float .f64 p0, .float .f64 p1] tInt fun t19 =>
  k t19)
theorem rd48 (p0 : Nat) (p1 : Nat) (k : Int → Pr) (w : World) (h : sh48 p0 p1 k w) :
    CL 48 #[.float .f64 p0, .float .f64 p1] tInt k w :=
  CallP.of_eq (c := sa48.on (bodyOf Tryz.f48)) (S := sh48 p0 p1 k) follows Tryz.func48 (by kernel_rfl) (by kernel_rfl) (by kernel_rfl) (by kernel_rfl) h

/-- memoir.value.AsFloat -/
def sa49 : SA := .seq (.region (.eff 0 tAddr <| .take 1 .pure .nil)) (.seq (.seq (.region (.take 0 .pure <| .take 1 (.get tInt) <| .take 2 .pure <| .take 3 .pure <| .guard 6 (.take 4 (.get (.one (.agg [.int .i64, .int .i64, .int .u64, .str]))) <| .call 5 tBool <| .take 6 .pure <| .take 7 .pure .nil) 10 [7, 8, 9] .nil)) (.cond (.seq (.region (.take 0 .pure .nil)) (.none)) (.none))) (.seq (.region (.take 0 .pure <| .take 1 (.get (.one (.leaf (.int .u64)))) <| .take 2 (.val (.one (.leaf .float))) <| .take 3 .pure .nil)) (.none)))
def sh49 (p0 : (Int × Int × Int × ByteArray × Unit)) (k : Nat → Pr) : Pr :=
  BX 27 (ag [.int .i64, .int .i64, .int .u64, .str] p0) fun t1 =>
  LD 3 (Addr.add t1 0) tInt fun t4 =>
  JB (fun b10 =>
  CondP b10 (
  k 0) (
  LD 25 (Addr.add t1 2) (.one (.leaf (.int .u64))) fun t12 =>
  VL (callFunc 15 #[.int .u64 t12]) (.one (.leaf .float)) fun t13 =>
  k t13)) fun J =>
  CondP ((t4 : Int) != 3) (
  J true) (
  LD 27 t1 (.one (.agg [.int .i64, .int .i64, .int .u64, .str])) fun t7 =>
  CL 46 #[ag [.int .i64, .int .i64, .int .u64, .str] t7] tBool fun t8 =>
  J (!t8))
theorem rd49 (p0 : (Int × Int × Int × ByteArray × Unit)) (k : Nat → Pr) (w : World) (h : sh49 p0 k w) :
    CL 49 #[ag [.int .i64, .int .i64, .int .u64, .str] p0] (.one (.leaf .float)) k w :=
  CallP.of_eq (c := sa49.on (bodyOf Tryz.f49)) (S := sh49 p0 k) follows Tryz.func49 (by kernel_rfl) (by kernel_rfl) (by kernel_rfl) (by kernel_rfl) h

/-- math.IsNaN -/
def sa68 : SA := .seq (.region (.take 0 .pure .nil)) (.seq (.region (.take 0 .pure <| .take 1 .pure <| .take 2 (.val tBool) <| .take 3 .pure .nil)) (.none))
def sh68 (p0 : Nat) (k : Bool → Pr) : Pr :=
  VL (cmpN .neq 70 (.tmp 3) (.tmp 4) (.float .f64 p0) (.float .f64 p0)) tBool fun t5 =>
  k t5
theorem rd68 (p0 : Nat) (k : Bool → Pr) (w : World) (h : sh68 p0 k w) :
    CL 68 #[.float .f64 p0] tBool k w :=
  CallP.of_eq (c := sa68.on (bodyOf Tryz.f68)) (S := sh68 p0 k) follows Tryz.func68 (by kernel_rfl) (by kernel_rfl) (by kernel_rfl) (by kernel_rfl) h

/-- memoir.value.floats.1 -/
def sa97 : SA := .seq (.region (.take 0 .pure .nil)) (.seq (.seq (.region (.take 0 .pure <| .call 1 tBool .nil)) (.cond (.seq (.region (.take 0 .pure .nil)) (.none)) (.none))) (.seq (.region (.take 0 .pure .nil)) (.none)))
def sh97 (p0 : Nat) (k : Int → Pr) : Pr :=
  CL 68 #[.float .f64 p0] tBool fun t4 =>
  CondP t4 (
  k 1) (
  k 0)
theorem rd97 (p0 : Nat) (k : Int → Pr) (w : World) (h : sh97 p0 k w) :
    CL 97 #[.float .f64 p0] tInt k w :=
  CallP.of_eq (c := sa97.on (bodyOf Tryz.f97)) (S := sh97 p0 k) follows Tryz.func97 (by kernel_rfl) (by kernel_rfl) (by kernel_rfl) (by kernel_rfl) h

/-- memoir.value.order[float64] -/
def sa98 : SA := .seq (.region (.take 0 .pure .nil)) (.seq (.block (.seq (.region (.take 0 .pure <| .take 1 .pure <| .take 2 (.val tBool) <| .take 3 .pure .nil)) (.cond (.seq (.region (.take 0 .pure .nil)) (.none)) (.seq (.region (.take 0 .pure <| .take 1 .pure <| .take 2 (.val tBool) <| .take 3 .pure .nil)) (.cond (.seq (.region (.take 0 .pure .nil)) (.none)) (.none)))))) (.seq (.region (.take 0 .pure .nil)) (.none)))
def sh98 (p0 : Nat) (p1 : Nat) (k : Int → Pr) : Pr :=
  VL (cmpN .lss 70 (.tmp 6) (.tmp 7) (.float .f64 p0) (.float .f64 p1)) tBool fun t8 =>
  CondP t8 (
  k (-1)) (
  VL (cmpN .gtr 70 (.tmp 10) (.tmp 11) (.float .f64 p0) (.float .f64 p1)) tBool fun t12 =>
  CondP t12 (
  k 1) (
  k 0))
theorem rd98 (p0 : Nat) (p1 : Nat) (k : Int → Pr) (w : World) (h : sh98 p0 p1 k w) :
    CL 98 #[.float .f64 p0, .float .f64 p1] tInt k w :=
  CallP.of_eq (c := sa98.on (bodyOf Tryz.f98)) (S := sh98 p0 p1 k) follows Tryz.func98 (by kernel_rfl) (by kernel_rfl) (by kernel_rfl) (by kernel_rfl) h

/-- memoir.key.Of -/
def sa6 : SA := .seq (.region (.take 0 .pure .nil)) (.seq (.seq (.region (.take 0 .pure <| .call 1 tBool <| .take 2 .pure .nil)) (.cond (.seq (.region (.take 0 .pure .nil)) (.none)) (.none))) (.seq (.region (.take 0 .pure .nil)) (.seq (.seq (.region (.pu 0 3 .nil)) (.block (.loop [(3, .leaf .str), (11, .leaf (.int .i64))] ([5] ++ rg 12 19) (.seq (.region (.take 0 .pure .nil)) (.seq (.cond (.none) (.none)) (.seq (.block (.seq (.region (.take 0 (.val tAddr) <| .take 1 (.get (.one (.agg [.int .i64, .int .i64, .int .u64, .str]))) <| .eff 2 tAddr <| .effU 3 .nil)) (.region (.take 0 .pure <| .take 1 (.get (.one (.agg [.int .i64, .int .i64, .int .u64, .str]))) <| .call 2 tStr <| .take 3 (.val tStr) <| .take 4 .pure .nil)))) (.region (.take 0 .pure <| .take 1 .pure .nil)))))))) (.seq (.region (.take 0 .pure <| .take 1 (.val tStr) <| .take 2 .pure .nil)) (.none)))))
def sh6 (p0 : Sl) (k : ByteArray → Pr) : Pr :=
  CL 23 #[sv p0] tBool fun t7 =>
  CondP (!t7) (
  k (⟨#[]⟩)) (
  LoopP (S := ByteArray × Int) (fun next s => AnyP fun _ =>
  CondP (decide ((s.2 : Int) < p0.len)) (
  IX 28 p0 s.2 fun t13 =>
  LD 27 t13 (.one (.agg [.int .i64, .int .i64, .int .u64, .str])) fun t14 =>
  AL 27 fun t5 =>
  ST 27 t5 (ag [.int .i64, .int .i64, .int .u64, .str] t14) <|
  LD 27 t5 (.one (.agg [.int .i64, .int .i64, .int .u64, .str])) fun t16 =>
  CL 24 #[ag [.int .i64, .int .i64, .int .u64, .str] t16] tStr fun t17 =>
  VL (cmpN .add 9 (.tmp 15) (.tmp 17) (.string s.1) (.string t17)) tStr fun t18 =>
  next (t18, IntKind.i64.wrap (s.2 + 1))) (
  VL (cmpN .add 9 (.tmp 20) (.const (.string (⟨#[0]⟩))) (.string s.1) (.string (⟨#[0]⟩))) tStr fun t21 =>
  k t21)) (⟨#[]⟩, 0))
theorem rd6 (p0 : Sl) (k : ByteArray → Pr) (w : World) (h : sh6 p0 k w) :
    CL 6 #[sv p0] tStr k w :=
  CallP.of_eq (c := sa6.on (bodyOf Tryz.f6)) (S := sh6 p0 k) follows Tryz.func6 (by kernel_rfl) (by kernel_rfl) (by kernel_rfl) (by kernel_rfl) h

/-- memoir.key.right -/
def sa23 : SA := .seq (.region (.take 0 .pure .nil)) (.seq (.seq (.region (.pu 0 3 .nil)) (.block (.loop [(7, .leaf (.int .i64))] ([2, 4] ++ rg 8 14) (.seq (.region (.take 0 .pure .nil)) (.seq (.cond (.none) (.none)) (.seq (.block (.seq (.region (.take 0 (.val tAddr) <| .take 1 (.get (.one (.agg [.int .i64, .int .i64, .int .u64, .str]))) <| .eff 2 tAddr <| .effU 3 .nil)) (.seq (.region (.take 0 (.get (.one (.agg [.int .i64, .int .i64, .int .u64, .str]))) <| .call 1 tBool <| .take 2 .pure .nil)) (.cond (.seq (.region (.take 0 .pure .nil)) (.none)) (.none))))) (.region (.take 0 .pure <| .take 1 .pure .nil)))))))) (.seq (.region (.pu 0 4 .nil)) (.none)))
def sh23 (p0 : Sl) (k : Bool → Pr) : Pr :=
  LoopP (S := Int) (fun next s => AnyP fun _ =>
  CondP (decide ((s : Int) < p0.len)) (
  IX 28 p0 s fun t9 =>
  LD 27 t9 (.one (.agg [.int .i64, .int .i64, .int .u64, .str])) fun t10 =>
  AL 27 fun t4 =>
  ST 27 t4 (ag [.int .i64, .int .i64, .int .u64, .str] t10) <|
  LD 27 t4 (.one (.agg [.int .i64, .int .i64, .int .u64, .str])) fun t11 =>
  CL 46 #[ag [.int .i64, .int .i64, .int .u64, .str] t11] tBool fun t12 =>
  CondP (!t12) (
  k false) (
  next (IntKind.i64.wrap (s + 1)))) (
  k (decide ((p0.len : Int) ≤ 8)))) 0
theorem rd23 (p0 : Sl) (k : Bool → Pr) (w : World) (h : sh23 p0 k w) :
    CL 23 #[sv p0] tBool k w :=
  CallP.of_eq (c := sa23.on (bodyOf Tryz.f23)) (S := sh23 p0 k) follows Tryz.func23 (by kernel_rfl) (by kernel_rfl) (by kernel_rfl) (by kernel_rfl) h

/-- memoir.key.one -/
def sa24 : SA := .seq (.region (.eff 0 tAddr <| .take 1 .pure .nil)) (.seq (.region (.take 0 .pure <| .take 1 .pure .nil)) (.seq (.seq (.region (.take 0 .pure <| .take 1 (.get tInt) .nil)) (.block (.seq (.region (.take 0 .pure <| .take 1 .pure .nil)) (.cond (.seq (.region (.take 0 .pure <| .take 1 .pure <| .take 2 (.get tInt) <| .take 3 .pure <| .eff 4 tSl <| .take 5 (.get tStr) <| .inv 6 tStr <| .take 7 .pure .nil)) (.none)) (.seq (.region (.take 0 .pure <| .take 1 .pure .nil)) (.cond (.seq (.region (.take 0 .pure <| .take 1 .pure <| .take 2 (.get tInt) <| .take 3 .pure <| .take 4 .pure <| .call 5 tStr <| .inv 6 tStr <| .take 7 .pure .nil)) (.none)) (.seq (.region (.take 0 .pure <| .take 1 .pure .nil)) (.cond (.seq (.region (.take 0 .pure <| .take 1 .pure <| .take 2 (.get (.one (.leaf (.int .u64)))) <| .call 3 (.one (.leaf (.int .u64))) <| .call 4 tStr <| .inv 5 tStr <| .take 6 .pure .nil)) (.none)) (.join (.seq (.region (.take 0 .pure <| .take 1 .pure .nil)) (.cond (.none) (.region (.take 0 .pure <| .take 1 .pure .nil)))) [(33, .leaf .bool)] [34, 35] (.cond (.seq (.region (.take 0 .pure <| .take 1 .pure <| .take 2 (.get tStr) <| .call 3 tStr <| .inv 4 tStr <| .take 5 .pure .nil)) (.none)) (.none))))))))))) (.seq (.region (.take 0 .pure <| .inv 1 tStr <| .take 2 .pure .nil)) (.none))))
def sh24 (p0 : (Int × Int × Int × ByteArray × Unit)) (k : ByteArray → Pr) : Pr :=
  BX 27 (ag [.int .i64, .int .i64, .int .u64, .str] p0) fun t1 =>
  LD 3 (Addr.add t1 0) tInt fun t6 =>
  CondP ((t6 : Int) == 1) (
  LD 3 (Addr.add t1 1) tInt fun t11 =>
  BS 143 1 #[(0, .int .u8 (IntKind.u8.wrap t11))] fun t13 =>
  GT (vN (Go.convert 143 9 (sv t13))) tStr fun t14 =>
  IV (callN (.func (.func 58) #[] #[pa t1]) #[.string t14]) tStr fun t15 =>
  k t15) (
  CondP ((t6 : Int) == 2) (
  LD 3 (Addr.add t1 1) tInt fun t20 =>
  CL 59 #[.int .u64 (IntKind.u64.wrap ((BitVec.ofInt IntKind.u64.bits (IntKind.u64.wrap t20) ^^^ BitVec.ofInt IntKind.u64.bits 9223372036854775808).toNat : Int))] tStr fun t23 =>
  IV (callN (.func (.func 58) #[] #[pa t1]) #[.string t23]) tStr fun t24 =>
  k t24) (
  CondP ((t6 : Int) == 3) (
  LD 25 (Addr.add t1 2) (.one (.leaf (.int .u64))) fun t29 =>
  CL 60 #[.int .u64 t29] (.one (.leaf (.int .u64))) fun t30 =>
  CL 59 #[.int .u64 t30] tStr fun t31 =>
  IV (callN (.func (.func 58) #[] #[pa t1]) #[.string t31]) tStr fun t32 =>
  k t32) (
  JB (fun s =>
  CondP s (
  LD 9 (Addr.add t1 3) tStr fun t38 =>
  CL 61 #[.string t38] tStr fun t39 =>
  IV (callN (.func (.func 58) #[] #[pa t1]) #[.string t39]) tStr fun t40 =>
  k t40) (
  IV (callN (.func (.func 58) #[] #[pa t1]) #[.string (⟨#[]⟩)]) tStr fun t42 =>
  k t42)) fun J =>
  CondP ((t6 : Int) == 4) (
  J ((t6 : Int) == 4)) (
  J ((t6 : Int) == 5)))))
theorem rd24 (p0 : (Int × Int × Int × ByteArray × Unit)) (k : ByteArray → Pr) (w : World) (h : sh24 p0 k w) :
    CL 24 #[ag [.int .i64, .int .i64, .int .u64, .str] p0] tStr k w :=
  CallP.of_eq (c := sa24.on (bodyOf Tryz.f24)) (S := sh24 p0 k) follows Tryz.func24 (by kernel_rfl) (by kernel_rfl) (by kernel_rfl) (by kernel_rfl) h

/-- memoir.key.one.1 -/
def sa58 : SA := .seq (.region (.take 0 .pure .nil)) (.seq (.region (.take 0 .pure <| .take 1 (.get tInt) <| .take 2 .pure <| .take 3 .pure <| .eff 4 tSl <| .take 5 (.get tStr) <| .take 6 .pure <| .take 7 (.val tStr) <| .take 8 .pure .nil)) (.none))
def sh58 (p0 : ByteArray) (c0 : Addr) (k : ByteArray → Pr) : Pr :=
  LD 3 (Addr.add c0 0) tInt fun t5 =>
  BS 143 1 #[(0, .int .u8 (IntKind.u8.wrap (IntKind.i64.wrap (t5 + 1))))] fun t8 =>
  GT (vN (Go.convert 143 9 (sv t8))) tStr fun t9 =>
  VL (cmpN .add 9 (.tmp 9) (.tmp 10) (.string t9) (.string p0)) tStr fun t11 =>
  k t11
theorem rd58 (p0 : ByteArray) (c0 : Addr) (k : ByteArray → Pr) (w : World) (h : sh58 p0 c0 k w) :
    CL 58 #[.string p0, pa c0] tStr k w :=
  CallP.of_eq (c := sa58.on (bodyOf Tryz.f58)) (S := sh58 p0 c0 k) follows Tryz.func58 (by kernel_rfl) (by kernel_rfl) (by kernel_rfl) (by kernel_rfl) h

/-- memoir.key.number -/
def sa59 : SA := .seq (.region (.take 0 .pure .nil)) (.seq (.region (.eff 0 tSl <| .take 1 .pure .nil)) (.seq (.seq (.region (.pu 0 3 .nil)) (.block (.loop [(8, .leaf (.int .i64))] ([4] ++ rg 9 20) (.seq (.region (.take 0 .pure .nil)) (.seq (.cond (.none) (.none)) (.seq (.block (.seq (.region (.take 0 .pure <| .take 1 .pure .nil)) (.region (.pu 0 6 <| .take 6 (.val (.one (.leaf (.int .u64)))) <| .take 7 .pure <| .take 8 (.val tAddr) <| .effU 9 .nil)))) (.region (.take 0 .pure <| .take 1 .pure .nil)))))))) (.seq (.region (.take 0 .pure <| .take 1 (.get tStr) <| .take 2 .pure .nil)) (.none))))
def sh59 (p0 : Int) (k : ByteArray → Pr) : Pr :=
  DP (vN (Instr.makeSlice 143 (iv 8) (iv 8))) tSl fun t5 =>
  LoopP (S := Int) (fun next s => AnyP fun _ =>
  CondP (decide ((s : Int) < t5.len)) (
  VL (cmpN .shr 25 (.tmp 13) (.tmp 16) (.int .u64 p0) (iv (IntKind.i64.wrap (8 * (IntKind.i64.wrap (7 - s)))))) (.one (.leaf (.int .u64))) fun t17 =>
  IX 143 t5 s fun t19 =>
  ST 5 t19 (.int .u8 (IntKind.u8.wrap t17)) <|
  next (IntKind.i64.wrap (s + 1))) (
  GT (vN (Go.convert 143 9 (sv t5))) tStr fun t22 =>
  k t22)) 0
theorem rd59 (p0 : Int) (k : ByteArray → Pr) (w : World) (h : sh59 p0 k w) :
    CL 59 #[.int .u64 p0] tStr k w :=
  CallP.of_eq (c := sa59.on (bodyOf Tryz.f59)) (S := sh59 p0 k) follows Tryz.func59 (by kernel_rfl) (by kernel_rfl) (by kernel_rfl) (by kernel_rfl) h

/-- memoir.key.turned -/
def sa60 : SA := .seq (.region (.take 0 .pure .nil)) (.seq (.seq (.region (.pu 0 3 .nil)) (.cond (.seq (.region (.pu 0 3 .nil)) (.none)) (.none))) (.seq (.region (.pu 0 3 .nil)) (.none)))
def sh60 (p0 : Int) (k : Int → Pr) : Pr :=
  CondP (decide (((IntKind.u64.wrap ((BitVec.ofInt IntKind.u64.bits p0 &&& BitVec.ofInt IntKind.u64.bits 9223372036854775808).toNat : Int)) : Int) > 0)) (
  k (IntKind.u64.wrap ((BitVec.ofInt IntKind.u64.bits (if IntKind.u64.signed then -1 else IntKind.u64.max) ^^^ BitVec.ofInt IntKind.u64.bits p0).toNat : Int))) (
  k (IntKind.u64.wrap ((BitVec.ofInt IntKind.u64.bits p0 ||| BitVec.ofInt IntKind.u64.bits 9223372036854775808).toNat : Int)))
theorem rd60 (p0 : Int) (k : Int → Pr) (w : World) (h : sh60 p0 k w) :
    CL 60 #[.int .u64 p0] (.one (.leaf (.int .u64))) k w :=
  CallP.of_eq (c := sa60.on (bodyOf Tryz.f60)) (S := sh60 p0 k) follows Tryz.func60 (by kernel_rfl) (by kernel_rfl) (by kernel_rfl) (by kernel_rfl) h

end Go.Proofs.YtelhccfmfnaegaaGreat
end

section
/- Floats as words: their order is that of numbers turned to be compared as whole ones. -/
namespace Go.Sh

/-- of the words of doubles: what is no number -/
def nanW (b : Nat) : Bool := decide (9218868437227405312 < b % 9223372036854775808)
def negW (b : Nat) : Bool := b / 9223372036854775808 % 2 == 1
/-- a rung's size -/
def sizeW (r : Nat) : Nat := if r < 4503599627370496 then r else (4503599627370496 + r % 4503599627370496) * 2 ^ (r / 4503599627370496 - 1)
def valW (b : Nat) : Int := if negW b then -(sizeW (b % 9223372036854775808) : Int) else sizeW (b % 9223372036854775808)

theorem sizeW_step (r : Nat) : sizeW r < sizeW (r + 1) := by
  unfold sizeW
  by_cases h : r + 1 < 4503599627370496
  · rw [if_pos (by omega), if_pos h]; omega
  by_cases h1 : r < 4503599627370496
  · rw [if_pos h1, if_neg h]
    have : r + 1 = 4503599627370496 := by omega
    rw [this]; simp; omega
  rw [if_neg h1, if_neg h]
  by_cases h2 : r % 4503599627370496 + 1 < 4503599627370496
  · have e1 : (r + 1) % 4503599627370496 = r % 4503599627370496 + 1 := by omega
    have e2 : (r + 1) / 4503599627370496 = r / 4503599627370496 := by omega
    rw [e1, e2]
    exact Nat.mul_lt_mul_of_pos_right (by omega) (Nat.two_pow_pos _)
  · have e1 : (r + 1) % 4503599627370496 = 0 := by omega
    have e2 : (r + 1) / 4503599627370496 - 1 = (r / 4503599627370496 - 1) + 1 := by omega
    rw [e1, e2, Nat.pow_succ, ← Nat.mul_assoc, Nat.mul_right_comm]
    exact Nat.mul_lt_mul_of_pos_right (by omega) (Nat.two_pow_pos _)
theorem sizeW_lt {r s : Nat} (h : r < s) : sizeW r < sizeW s := by
  induction s with
  | zero => omega
  | succ n ih =>
    rcases Nat.lt_or_ge r n with h' | h'
    · exact Nat.lt_trans (ih h') (sizeW_step n)
    · have : r = n := by omega
      subst this; exact sizeW_step r
theorem sizeW_zero {r : Nat} (h : sizeW r = 0) : r = 0 := by
  rcases Nat.eq_zero_or_pos r with h1 | h1
  · exact h1
  · have := sizeW_lt h1; omega
theorem sizeW_0 : sizeW 0 = 0 := by unfold sizeW; simp

/-- a number's parts -/
def partsW (r : Nat) : Nat × Nat := if r < 4503599627370496 then (r, 0) else (4503599627370496 + r % 4503599627370496, r / 4503599627370496 - 1)
theorem partsW_size (r : Nat) : (partsW r).1 * 2 ^ (partsW r).2 = sizeW r := by
  unfold partsW sizeW; split <;> simp
theorem read_num {b : Nat} (h : b % 9223372036854775808 < 9218868437227405312) : Ieee.double.read b = .number (negW b) (partsW (b % 9223372036854775808)).1 (-1074 + ((partsW (b % 9223372036854775808)).2 : Int)) := by
  have e1 : Ieee.double.signWeight = 9223372036854775808 := by decide
  have e2 : Ieee.double.binade = 4503599627370496 := by decide
  have e3 : Ieee.double.infRung = 9218868437227405312 := by decide
  have e4 : Ieee.double.leastPlace = -1074 := by decide
  unfold Ieee.Format.read partsW negW
  simp only [e1, e2, e3, e4]
  split
  · simp
  · rfl
theorem read_inf {b : Nat} (h : b % 9223372036854775808 = 9218868437227405312) : Ieee.double.read b = .infinity (negW b) := by
  have e1 : Ieee.double.signWeight = 9223372036854775808 := by decide
  have e2 : Ieee.double.binade = 4503599627370496 := by decide
  have e3 : Ieee.double.infRung = 9218868437227405312 := by decide
  unfold Ieee.Format.read negW
  simp only [e1, e2, e3]
  rw [if_neg (by omega), if_neg (by omega), if_pos h]
theorem read_nan {b : Nat} (h : nanW b = true) : ∃ n t, Ieee.double.read b = .nan n t := by
  have e1 : Ieee.double.signWeight = 9223372036854775808 := by decide
  have e2 : Ieee.double.binade = 4503599627370496 := by decide
  have e3 : Ieee.double.infRung = 9218868437227405312 := by decide
  have h := of_decide_eq_true h
  unfold Ieee.Format.read
  simp only [e1, e2, e3]
  rw [if_neg (by omega), if_neg (by omega), if_neg (by omega)]
  exact ⟨_, _, rfl⟩

theorem cmp_lt {x y : Int} (h : x < y) : compare x y = .lt := by simp [compare, compareOfLessAndEq, h]
theorem cmp_eq {x y : Int} (h : x = y) : compare x y = .eq := by subst h; simp [compare, compareOfLessAndEq]
theorem cmp_gt {x y : Int} (h : y < x) : compare x y = .gt := by
  have h1 : ¬ x < y := by omega
  have h2 : ¬ x = y := by omega
  simp [compare, compareOfLessAndEq, h1, h2]

theorem signed_val (s : Bool) (m e k : Nat) (h : k ≤ e) : Ieee.signed s m (e - k) * (2 ^ k : Nat) = if s then -((m * 2 ^ e : Nat) : Int) else ((m * 2 ^ e : Nat) : Int) := by
  have e1 : m <<< (e - k) * 2 ^ k = m * 2 ^ e := by
    rw [Nat.shiftLeft_eq, Nat.mul_assoc, ← Nat.pow_add]
    congr 2; omega
  unfold Ieee.signed
  cases s
  · simp only [Bool.false_eq_true, if_false]; rw [← e1]; push_cast; rfl
  · simp only [if_true]; rw [← e1, Int.neg_mul]; push_cast; rfl
theorem cmp_scale {x y : Int} {k : Nat} (h : 0 < k) : compare x y = compare (x * (k : Int)) (y * (k : Int)) := by
  have hk : (0 : Int) < k := by exact_mod_cast h
  rcases Int.lt_trichotomy x y with h1 | h1 | h1
  · rw [cmp_lt h1, cmp_lt (Int.mul_lt_mul_of_pos_right h1 hk)]
  · subst h1; rw [cmp_eq rfl, cmp_eq rfl]
  · rw [cmp_gt h1, cmp_gt (Int.mul_lt_mul_of_pos_right h1 hk)]

theorem size_inf {r : Nat} (h : r < 9218868437227405312) : sizeW r < sizeW 9218868437227405312 := sizeW_lt h
theorem inf_pos : 0 < sizeW 9218868437227405312 := by have := sizeW_lt (r := 0) (s := 9218868437227405312) (by omega); omega

theorem order_val {a b : Nat} (ha : nanW a = false) (hb : nanW b = false) : Ieee.double.order a b = some (compare (valW a) (valW b)) := by
  have ha := of_decide_eq_false ha
  have hb := of_decide_eq_false hb
  unfold Ieee.Format.order
  rcases Nat.lt_or_ge (a % 9223372036854775808) 9218868437227405312 with h1 | h1 <;> rcases Nat.lt_or_ge (b % 9223372036854775808) 9218868437227405312 with h2 | h2
  · rw [read_num h1, read_num h2]
    simp only [Ieee.Datum.order]
    generalize hp : partsW (a % 9223372036854775808) = p
    generalize hq : partsW (b % 9223372036854775808) = q
    congr 1
    have hva : valW a = if negW a then -((p.1 * 2 ^ p.2 : Nat) : Int) else ((p.1 * 2 ^ p.2 : Nat) : Int) := by unfold valW; rw [← hp, partsW_size]
    have hvb : valW b = if negW b then -((q.1 * 2 ^ q.2 : Nat) : Int) else ((q.1 * 2 ^ q.2 : Nat) : Int) := by unfold valW; rw [← hq, partsW_size]
    have e1 : ((-1074 + (p.2 : Int)) - min (-1074 + (p.2 : Int)) (-1074 + (q.2 : Int))).toNat = p.2 - min p.2 q.2 := by omega
    have e2 : ((-1074 + (q.2 : Int)) - min (-1074 + (p.2 : Int)) (-1074 + (q.2 : Int))).toNat = q.2 - min p.2 q.2 := by omega
    rw [e1, e2, cmp_scale (k := 2 ^ min p.2 q.2) (Nat.two_pow_pos _), signed_val _ _ _ _ (by omega), signed_val _ _ _ _ (by omega), hva, hvb]
  · rw [read_num h1, read_inf (by omega)]
    simp only [Ieee.Datum.order]
    have := size_inf h1
    have hb : b % 9223372036854775808 = 9218868437227405312 := by omega
    unfold valW
    rw [hb]
    generalize sizeW 9218868437227405312 = S at *
    cases hn : negW b <;> cases hm : negW a <;> simp only [if_true, if_false, Bool.false_eq_true] <;> congr 1
    · exact (cmp_lt (by omega)).symm
    · exact (cmp_lt (by omega)).symm
    · exact (cmp_gt (by omega)).symm
    · exact (cmp_gt (by omega)).symm
  · rw [read_inf (by omega), read_num h2]
    simp only [Ieee.Datum.order]
    have := size_inf h2
    have ha : a % 9223372036854775808 = 9218868437227405312 := by omega
    unfold valW
    rw [ha]
    generalize sizeW 9218868437227405312 = S at *
    cases hn : negW a <;> cases hm : negW b <;> simp only [if_true, if_false, Bool.false_eq_true] <;> congr 1
    · exact (cmp_gt (by omega)).symm
    · exact (cmp_gt (by omega)).symm
    · exact (cmp_lt (by omega)).symm
    · exact (cmp_lt (by omega)).symm
  · rw [read_inf (by omega), read_inf (by omega)]
    simp only [Ieee.Datum.order]
    have ha : a % 9223372036854775808 = 9218868437227405312 := by omega
    have hb : b % 9223372036854775808 = 9218868437227405312 := by omega
    have := inf_pos
    unfold valW
    rw [ha, hb]
    generalize sizeW 9218868437227405312 = S at *
    cases hn : negW a <;> cases hm : negW b <;> simp only [if_true, if_false, Bool.false_eq_true] <;> congr 1
    · exact (cmp_eq rfl).symm
    · exact (cmp_gt (by omega)).symm
    · exact (cmp_lt (by omega)).symm
    · exact (cmp_eq rfl).symm
theorem order_nan_left {a b : Nat} (ha : nanW a = true) : Ieee.double.order a b = none := by
  obtain ⟨n, t, h⟩ := read_nan ha
  unfold Ieee.Format.order; rw [h]; rfl
theorem order_nan_right {a b : Nat} (hb : nanW b = true) : Ieee.double.order a b = none := by
  obtain ⟨n, t, h⟩ := read_nan hb
  unfold Ieee.Format.order; rw [h]; cases Ieee.double.read a <;> rfl
theorem order_self (a : Nat) : (Ieee.double.order a a == some .eq) = !nanW a := by
  cases h : nanW a with
  | true => rw [order_nan_left h]; rfl
  | false => rw [order_val h h, cmp_eq rfl]; rfl
theorem valW_zero {a : Nat} : valW a = 0 ↔ a % 9223372036854775808 = 0 := by
  unfold valW
  constructor
  · intro h
    apply sizeW_zero
    split at h <;> omega
  · intro h
    rw [h, sizeW_0]; simp
theorem order_zero (a : Nat) : (Ieee.double.order a 0 == some .eq) = (!nanW a && decide (a % 9223372036854775808 = 0)) := by
  cases h : nanW a with
  | true => rw [order_nan_left h]; rfl
  | false =>
    have h0 : valW 0 = 0 := by decide
    rw [order_val h (by decide), h0]
    by_cases hz : a % 9223372036854775808 = 0
    · rw [cmp_eq (valW_zero.2 hz)]; simp [hz]
    · have hn : valW a ≠ 0 := fun hc => hz (valW_zero.1 hc)
      rcases Int.lt_trichotomy (valW a) 0 with h1 | h1 | h1
      · rw [cmp_lt h1]; simp [hz]
      · exact absurd h1 hn
      · rw [cmp_gt h1]; simp [hz]

/-- one word for all that are no number, and for both zeros -/
def canW (b : Nat) : Nat := if nanW b then 9221120237041090560 else if b % 9223372036854775808 = 0 then 0 else b
def turnW (b : Nat) : Nat := if 9223372036854775808 ≤ b then 18446744073709551615 - b else b + 9223372036854775808
theorem nan_can : nanW 9221120237041090560 = true := by decide
theorem canW_idem (b : Nat) : canW (canW b) = canW b := by
  unfold canW
  split
  · simp [nan_can]
  · split
    · decide
    · rfl
theorem canW_lt {b : Nat} (h : b < 18446744073709551616) : canW b < 18446744073709551616 := by
  unfold canW; split
  · decide
  · split <;> omega
theorem turnW_lt {b : Nat} (h : b < 18446744073709551616) : turnW b < 18446744073709551616 := by unfold turnW; split <;> omega
theorem turnW_inj {a b : Nat} (ha : a < 18446744073709551616) (hb : b < 18446744073709551616) (h : turnW a = turnW b) : a = b := by
  unfold turnW at h; split at h <;> split at h <;> omega
/-- which float is ahead: what is no number is behind all -/
def floatsW (a b : Nat) : Int :=
  if nanW a && !nanW b then 1 else if !nanW a && nanW b then -1 else if Ieee.double.order a b == some .lt then -1 else if Ieee.double.order a b == some .gt then 1 else 0

theorem floatsW_lt {a b : Nat} (ha : a < 18446744073709551616) (hb : b < 18446744073709551616) (ca : canW a = a) (cb : canW b = b) (h : turnW a < turnW b) : floatsW a b = -1 := by
  have nw : ∀ {x : Nat}, x < 18446744073709551616 → negW x = decide (9223372036854775808 ≤ x) := fun {x} hx => by
    unfold negW
    by_cases h : 9223372036854775808 ≤ x
    · have : x / 9223372036854775808 = 1 := by omega
      simp [this, h]
    · have : x / 9223372036854775808 = 0 := by omega
      simp [this, h]
  unfold floatsW
  cases na : nanW a with
  | true =>
    have ea : a = 9221120237041090560 := by rw [← ca]; unfold canW; rw [na]; rfl
    cases nb : nanW b with
    | true =>
      have eb : b = 9221120237041090560 := by rw [← cb]; unfold canW; rw [nb]; rfl
      subst ea eb; omega
    | false =>
      have hb2 := of_decide_eq_false nb
      subst ea
      unfold turnW at h
      split at h <;> split at h <;> omega
  | false =>
    cases nb : nanW b with
    | true => rfl
    | false =>
      simp only [Bool.false_and, Bool.not_false, Bool.and_false, Bool.false_eq_true, if_false]
      rw [order_val na nb]
      have hlt : valW a < valW b := by
        have za : a % 9223372036854775808 = 0 → a = 0 := fun hz => by
          rw [← ca]; unfold canW; rw [na]; simp [hz]
        unfold valW
        rw [nw ha, nw hb]
        unfold turnW at h
        by_cases h1 : 9223372036854775808 ≤ a <;> by_cases h2 : 9223372036854775808 ≤ b
        · rw [if_pos h1, if_pos h2] at h
          simp only [h1, h2, decide_true, if_true]
          have : sizeW (b % 9223372036854775808) < sizeW (a % 9223372036854775808) := sizeW_lt (by omega)
          omega
        · rw [if_pos h1, if_neg h2] at h
          simp only [h1, h2, decide_true, decide_false, if_true, Bool.false_eq_true, if_false]
          have : sizeW (a % 9223372036854775808) ≠ 0 := fun hc => by have := za (sizeW_zero hc); omega
          omega
        · rw [if_neg h1, if_pos h2] at h; omega
        · rw [if_neg h1, if_neg h2] at h
          simp only [h1, h2, decide_false, Bool.false_eq_true, if_false]
          have : sizeW (a % 9223372036854775808) < sizeW (b % 9223372036854775808) := sizeW_lt (by omega)
          omega
      rw [cmp_lt hlt]; rfl
end Go.Sh
namespace Go.Sh
/-- a number's bytes, the greatest first -/
def beW : Nat → Nat → List UInt8
  | 0, _ => []
  | n + 1, x => UInt8.ofNat (x / 256 ^ n) :: beW n (x % 256 ^ n)
theorem beW_len : ∀ n x, (beW n x).length = n
  | 0, _ => rfl
  | n + 1, x => by simp [beW, beW_len n]
theorem beW_get : ∀ (n x i : Nat), x < 256 ^ n → i < n → (beW n x)[i]? = some (UInt8.ofNat (x / 256 ^ (n - 1 - i) % 256))
  | n + 1, x, 0, hx, _ => by
    simp only [beW, List.getElem?_cons_zero, Nat.add_sub_cancel, Nat.sub_zero]
    congr 2
    have : x / 256 ^ n < 256 := by
      rw [Nat.div_lt_iff_lt_mul (Nat.pow_pos (by omega))]; rw [Nat.pow_succ] at hx; omega
    exact (Nat.mod_eq_of_lt this).symm
  | n + 1, x, i + 1, hx, hi => by
    have hp : 0 < 256 ^ n := Nat.pow_pos (by omega)
    simp only [beW, List.getElem?_cons_succ]
    rw [beW_get n (x % 256 ^ n) i (Nat.mod_lt _ hp) (by omega)]
    have e : n + 1 - 1 - (i + 1) = n - 1 - i := by omega
    rw [e]
    congr 2
    have hs : 256 ^ n = 256 ^ (n - 1 - i) * 256 ^ (i + 1) := by rw [← Nat.pow_add]; congr 1; omega
    have hd : 256 ^ (i + 1) = 256 * 256 ^ i := by rw [Nat.pow_succ, Nat.mul_comm]
    rw [hs, Nat.mod_mul_right_div_self, hd, Nat.mod_mul_right_mod]
theorem bytesLess_refl : ∀ l, Go.Op.bytesLess l l = false
  | [] => rfl
  | a :: l => by simp [Go.Op.bytesLess, bytesLess_refl l]
theorem beW_less (r : List UInt8) : ∀ (n x y : Nat), x < 256 ^ n → y < 256 ^ n → Go.Op.bytesLess (beW n x ++ r) (beW n y ++ r) = decide (x < y)
  | 0, x, y, hx, hy => by
    have h1 : x = 0 := by simpa using hx
    have h2 : y = 0 := by simpa using hy
    subst h1 h2
    simp [beW, bytesLess_refl]
  | n + 1, x, y, hx, hy => by
    have hp : 0 < 256 ^ n := Nat.pow_pos (by omega)
    have h1 : x / 256 ^ n < 256 := by rw [Nat.div_lt_iff_lt_mul hp]; rw [Nat.pow_succ] at hx; omega
    have h2 : y / 256 ^ n < 256 := by rw [Nat.div_lt_iff_lt_mul hp]; rw [Nat.pow_succ] at hy; omega
    have ih := beW_less r n (x % 256 ^ n) (y % 256 ^ n) (Nat.mod_lt _ hp) (Nat.mod_lt _ hp)
    simp only [beW, List.cons_append, Go.Op.bytesLess, ih]
    have ex := Nat.div_add_mod x (256 ^ n)
    have ey := Nat.div_add_mod y (256 ^ n)
    have mx := Nat.mod_lt x hp
    have my := Nat.mod_lt y hp
    generalize 256 ^ n = B at *
    generalize x / B = q at *
    generalize y / B = s at *
    generalize x % B = u at *
    generalize y % B = v at *
    have hlt : (UInt8.ofNat q < UInt8.ofNat s) ↔ q < s := by
      rw [UInt8.lt_iff_toNat_lt, UInt8.toNat_ofNat', UInt8.toNat_ofNat']
      rw [Nat.mod_eq_of_lt (by omega), Nat.mod_eq_of_lt (by omega)]
    have heq : (UInt8.ofNat q = UInt8.ofNat s) ↔ q = s := by
      rw [← UInt8.toNat_inj, UInt8.toNat_ofNat', UInt8.toNat_ofNat']
      rw [Nat.mod_eq_of_lt (by omega), Nat.mod_eq_of_lt (by omega)]
    have hl : decide (UInt8.ofNat q < UInt8.ofNat s) = decide (q < s) := by simp only [hlt]
    have he : (UInt8.ofNat q == UInt8.ofNat s) = decide (q = s) := by
      by_cases h : q = s
      · subst h; simp
      · have hn : UInt8.ofNat q ≠ UInt8.ofNat s := fun hc => h (heq.1 hc)
        simp [h, beq_eq_false_iff_ne.2 hn]
    rw [hl, he]
    rcases Nat.lt_trichotomy q s with h | h | h
    · have : x < y := by
        have := Nat.mul_le_mul_left B (show q + 1 ≤ s by omega)
        rw [Nat.mul_add] at this; omega
      simp [h, this]
    · subst h
      by_cases h3 : u < v
      · have : x < y := by omega
        simp [h3, this]
      · have : ¬ x < y := by omega
        simp [h3, this]
    · have : ¬ x < y := by
        have := Nat.mul_le_mul_left B (show s + 1 ≤ q by omega)
        rw [Nat.mul_add] at this; omega
      have h4 : ¬ q < s := by omega
      have h5 : ¬ q = s := by omega
      simp [h4, h5, this]

/-- a float's key -/
def keyW (b : Nat) : ByteArray := ⟨⟨4 :: (beW 8 (turnW b) ++ [0])⟩⟩
theorem keyW_list (b : Nat) : (keyW b).toList = 4 :: (beW 8 (turnW b) ++ [0]) := by
  rw [Go.Lib.toList_data]; rfl
theorem keyW_less {a b : Nat} (ha : a < 18446744073709551616) (hb : b < 18446744073709551616) : Go.Op.bytesLess (keyW a).toList (keyW b).toList = decide (turnW a < turnW b) := by
  rw [keyW_list, keyW_list]
  simp only [Go.Op.bytesLess]
  rw [beW_less [0] 8 _ _ (turnW_lt ha) (turnW_lt hb)]
  simp
theorem keyW_inj {a b : Nat} (ha : a < 18446744073709551616) (hb : b < 18446744073709551616) (h : keyW a = keyW b) : a = b := by
  apply turnW_inj ha hb
  have h1 := keyW_less ha hb
  have h2 := keyW_less hb ha
  rw [h, bytesLess_refl] at h1
  rw [h, bytesLess_refl] at h2
  have h1 := of_decide_eq_false h1.symm
  have h2 := of_decide_eq_false h2.symm
  omega
end Go.Sh
end
