/- The readings of the functions of frames and of the law. No conditions. -/
import Derived.Test.YtelhccfmfnaegaaGreatRd
section
/- The shallow reading of functions, printed by program (gen.py); the kernel compares each with the model's own. -/
set_option linter.unusedVariables false
namespace Go.Proofs.YtelhccfmfnaegaaGreat
open Go Go.Sh
/-- memoir.frame.Right -/
def sa70 : SA := .seq (.region (.eff 0 tAddr <| .take 1 .pure .nil)) (.seq (.seq (.region (.take 0 .pure <| .take 1 (.get tSl) <| .take 2 .pure <| .take 3 .pure .nil)) (.block (.loop [(8, .leaf (.int .i64))] ([2, 4] ++ rg 9 15) (.seq (.region (.take 0 .pure .nil)) (.seq (.cond (.none) (.none)) (.seq (.block (.seq (.region (.take 0 (.val tAddr) <| .take 1 (.get (.one (.agg [.int .i64, .str, .slice, .int .i64, .int .i64, .str, .slice, .int .i64]))) <| .eff 2 tAddr <| .effU 3 .nil)) (.seq (.region (.take 0 (.get (.one (.agg [.int .i64, .str, .slice, .int .i64, .int .i64, .str, .slice, .int .i64]))) <| .call 1 tBool <| .take 2 .pure .nil)) (.cond (.seq (.region (.take 0 .pure .nil)) (.none)) (.none))))) (.region (.take 0 .pure <| .take 1 .pure .nil)))))))) (.seq (.region (.take 0 .pure <| .take 1 (.get tInt) <| .take 2 .pure <| .take 3 .pure <| .guard 19 (.take 4 .pure <| .take 5 (.get tInt) <| .take 6 .pure <| .take 7 .pure .nil) 23 [20, 21, 22] <| .take 8 .pure <| .guard 24 (.take 9 .pure <| .take 10 (.get tInt) <| .take 11 .pure <| .take 12 .pure .nil) 28 [25, 26, 27] <| .take 13 .pure <| .guard 29 (.take 14 .pure <| .take 15 (.get tInt) <| .take 16 .pure <| .take 17 .pure .nil) 33 [30, 31, 32] <| .take 18 .pure <| .guard 34 (.take 19 .pure <| .take 20 (.get tSl) <| .pu 21 3 .nil) 39 (rg 35 38) <| .take 24 .pure .nil)) (.none)))
def sh70 (p0 : (Int × Int × Sl × Unit)) (k : Bool → Pr) : Pr :=
  BX 68 (ag [.int .i64, .int .i64, .slice] p0) fun t1 =>
  LD 66 (Addr.add t1 2) tSl fun t6 =>
  LoopP (S := Int) (fun next s => AnyP fun _ =>
  CondP (decide ((s : Int) < t6.len)) (
  IX 66 t6 s fun t10 =>
  LD 65 t10 (.one (.agg [.int .i64, .str, .slice, .int .i64, .int .i64, .str, .slice, .int .i64])) fun t11 =>
  AL 65 fun t4 =>
  ST 65 t4 (ag [.int .i64, .str, .slice, .int .i64, .int .i64, .str, .slice, .int .i64] t11) <|
  LD 65 t4 (.one (.agg [.int .i64, .str, .slice, .int .i64, .int .i64, .str, .slice, .int .i64])) fun t12 =>
  CL 112 #[ag [.int .i64, .str, .slice, .int .i64, .int .i64, .str, .slice, .int .i64] t12] tBool fun t13 =>
  CondP (!t13) (
  k false) (
  next (IntKind.i64.wrap (s + 1)))) (
  LD 3 (Addr.add t1 0) tInt fun t17 =>
  JB (fun b23 =>
  JB (fun b28 =>
  JB (fun b33 =>
  JB (fun b39 =>
  k b39) fun J_4 =>
  CondP b33 (
  LD 66 (Addr.add t1 2) tSl fun t36 =>
  J_4 (decide ((t36.len : Int) ≤ 100))) (
  J_4 false)) fun J_3 =>
  CondP b28 (
  LD 3 (Addr.add t1 1) tInt fun t31 =>
  J_3 (decide ((t31 : Int) < 1099511627776))) (
  J_3 false)) fun J_2 =>
  CondP b23 (
  LD 3 (Addr.add t1 1) tInt fun t26 =>
  J_2 (decide ((t26 : Int) ≥ 0))) (
  J_2 false)) fun J =>
  CondP (decide ((t17 : Int) ≥ 1)) (
  LD 3 (Addr.add t1 0) tInt fun t21 =>
  J (decide ((t21 : Int) ≤ 1099511627776))) (
  J false))) 0
theorem rd70 (p0 : (Int × Int × Sl × Unit)) (k : Bool → Pr) (w : World) (h : sh70 p0 k w) :
    CL 70 #[ag [.int .i64, .int .i64, .slice] p0] tBool k w :=
  CallP.of_eq (c := sa70.on (bodyOf Tryz.f70)) (S := sh70 p0 k) follows Tryz.func70 (by kernel_rfl) (by kernel_rfl) (by kernel_rfl) (by kernel_rfl) h

/-- (*memoir.base.Base).Apply -/
def sa16 : SA := .seq (.region (.eff 0 tAddr <| .take 1 .pure .nil)) (.seq (.seq (.region (.take 0 .pure <| .take 1 (.get tBool) .nil)) (.cond (.seq (.region (.take 0 .pure .nil)) (.none)) (.none))) (.seq (.seq (.region (.take 0 .pure <| .take 1 (.get (.one (.agg [.int .i64, .int .i64, .slice]))) <| .call 2 tInt <| .take 3 .pure .nil)) (.seq (.region (.take 0 .pure <| .take 1 .pure .nil)) (.cond (.seq (.region (.take 0 .pure <| .take 1 .pure .nil)) (.none)) (.none)))) (.seq (.draw (.take 0 .pure <| .take 2 .pure <| .take 3 (.get tInt) <| .alt (.call 1 tPtr [3] <| .eff 4 tMap [3] <| .take 5 .pure <| .eff 6 tAddr [3] <| .now 7 .pure [] .nil) (.eff 4 tMap [3] <| .call 1 tPtr [3] <| .take 5 .pure <| .eff 6 tAddr [3] <| .now 7 .pure [] .nil))) (.seq (.seq (.region (.take 0 .pure <| .take 1 (.get tSl) <| .take 2 .pure <| .take 3 .pure .nil)) (.block (.loop [(32, .leaf (.int .i64))] ([4, 8, 9] ++ rg 33 42) (.seq (.region (.take 0 .pure .nil)) (.seq (.cond (.none) (.none)) (.seq (.block (.seq (.region (.take 0 (.val tAddr) <| .take 1 (.get (.one (.agg [.int .i64, .str, .slice, .int .i64, .int .i64, .str, .slice, .int .i64]))) <| .eff 2 tAddr <| .effU 3 .nil)) (.seq (.region (.take 0 .pure <| .take 1 (.get (.one (.agg [.int .i64, .str, .slice, .int .i64, .int .i64, .str, .slice, .int .i64]))) <| .call 2 tInt <| .take 3 .pure .nil)) (.seq (.region (.take 0 .pure <| .take 1 .pure .nil)) (.cond (.seq (.region (.take 0 .pure <| .take 1 .pure .nil)) (.none)) (.none)))))) (.region (.take 0 .pure <| .take 1 .pure .nil)))))))) (.join (.seq (.region (.take 0 .pure <| .take 1 (.val tAddr) <| .take 2 .pure <| .take 3 (.get tMap) <| .eff 4 tAddr .nil)) (.block (.loop [] (rg 10 13 ++ rg 48 89) (.seq (.region (.next 0 [.agg [.str, .str], .leaf .slice] <| .take 1 .pure .nil)) (.seq (.cond (.none) (.none)) (.block (.seq (.region (.take 0 (.get (.tup [.agg [.str, .str], .leaf .slice])) <| .take 1 .pure <| .take 2 .pure <| .eff 3 tAddr <| .effU 4 <| .take 5 .pure .nil)) (.seq (.draw (.take 0 .pure <| .take 1 (.val tAddr) <| .take 2 .pure <| .take 3 (.get tPtr) <| .take 4 (.val tAddr) <| .take 5 .pure <| .take 6 (.get tMap) <| .take 7 (.val tAddr) <| .take 8 (.get tStr) <| .take 9 (.get tPtr) <| .take 10 (.val tAddr) <| .take 11 .pure <| .take 12 (.get tMap) <| .take 13 (.val tAddr) <| .take 14 (.get tStr) <| .take 15 (.get tSl) <| .take 16 .pure <| .take 17 (.get tInt) <| .take 18 .pure <| .call 19 (.tup [.leaf .slice, .leaf (.int .i64)]) [3, 6, 8, 9, 12, 14] <| .pu 20 3 <| .now 23 .pure [] <| .now 24 .pure [] .nil)) (.draw (.take 0 .pure <| .take 1 (.val tAddr) <| .take 2 .pure <| .take 3 (.get tPtr) <| .take 4 (.val tAddr) <| .take 5 .pure <| .take 6 (.get tMap) <| .take 7 (.val tAddr) <| .take 8 (.get tStr) <| .take 9 (.get tPtr) <| .take 10 (.val tAddr) <| .take 11 (.get tStr) <| .take 12 .pure <| .call 13 (.tup []) [3, 6, 8] .nil)))))))))) [] (rg 10 13 ++ rg 43 89) (.seq (.draw (.pu 0 4 <| .take 4 (.val tAddr) <| .take 5 .pure <| .take 6 (.get tPtr) <| .take 7 (.val tAddr) <| .take 8 .pure <| .take 9 (.get tMap) <| .take 10 .pure <| .take 11 (.get tInt) <| .take 12 .pure <| .take 13 (.get tInt) <| .take 14 (.val tAddr) <| .take 15 .pure <| .effU 16 [11, 13] <| .take 17 (.val tAddr) <| .take 18 .pure <| .effU 19 [13] <| .take 20 (.val tAddr) <| .take 21 .pure <| .effU 22 [] .nil)) (.seq (.region (.take 0 .pure .nil)) (.none))))))))
def sh16 (p0 : Option Addr) (p1 : (Int × Int × Sl × Unit)) (k : Int → Pr) : Pr :=
  BX 68 (ag [.int .i64, .int .i64, .slice] p1) fun t3 =>
  GT (cmpN .eql 57 (.tmp 14) (.const (.pointer none)) (.pointer p0) (.pointer none)) tBool fun t15 =>
  CondP t15 (
  k 13) (
  LD 68 t3 (.one (.agg [.int .i64, .int .i64, .slice])) fun t17 =>
  CL 36 #[.pointer p0, ag [.int .i64, .int .i64, .slice] t17] tInt fun t18 =>
  CondP ((t18 : Int) != 0) (
  k t18) (
  DrewP <|
  LD 3 (Addr.add t3 1) tInt fun t25 =>
  BothP (
  CL 37 #[.pointer p0] tPtr fun t23 =>
  LK 3 (Addr.add t3 1) (iv t25) <|
  DP (vN (Instr.makeMap 104 none)) tMap fun t26 =>
  LK 3 (Addr.add t3 1) (iv t25) <|
  BX 106 (.agg #[.pointer t23, iv t25, .map t26]) fun t28 =>
  LK 3 (Addr.add t3 1) (iv t25) <|
  LD 66 (Addr.add t3 2) tSl fun t30 =>
  LoopP (S := Int) (fun next s => AnyP fun _ =>
  CondP (decide ((s : Int) < t30.len)) (
  IX 66 t30 s fun t34 =>
  LD 65 t34 (.one (.agg [.int .i64, .str, .slice, .int .i64, .int .i64, .str, .slice, .int .i64])) fun t35 =>
  AL 65 fun t8 =>
  ST 65 t8 (ag [.int .i64, .str, .slice, .int .i64, .int .i64, .str, .slice, .int .i64] t35) <|
  LD 65 t8 (.one (.agg [.int .i64, .str, .slice, .int .i64, .int .i64, .str, .slice, .int .i64])) fun t37 =>
  CL 38 #[pa t28, ag [.int .i64, .str, .slice, .int .i64, .int .i64, .str, .slice, .int .i64] t37] tInt fun t38 =>
  CondP ((t38 : Int) != 0) (
  k t38) (
  next (IntKind.i64.wrap (s + 1)))) (
  JoinP (S := Unit) (fun s_2 => AnyP fun _ =>
  DrewP <|
  NA t28 fun t94 =>
  LD 57 (Addr.add t94 0) tPtr fun t96 =>
  NC t96 fun t97 =>
  LD 99 (Addr.add t97 3) tMap fun t99 =>
  LD 3 (Addr.add t3 0) tInt fun t101 =>
  LD 3 (Addr.add t3 1) tInt fun t103 =>
  NC p0 fun t104 =>
  ST 99 (Addr.add t104 3) (.map t99) <|
  LK 3 (Addr.add t3 0) (iv t101) <|
  LK 3 (Addr.add t3 1) (iv t103) <|
  NC p0 fun t106 =>
  ST 3 (Addr.add t106 0) (iv t101) <|
  LK 3 (Addr.add t3 1) (iv t103) <|
  NC p0 fun t108 =>
  ST 3 (Addr.add t108 1) (iv t103) <|
  k 0) fun J =>
  NA t28 fun t44 =>
  LD 104 (Addr.add t44 2) tMap fun t46 =>
  DP (vN (Instr.range 104 (.map t46))) tAddr fun t47 =>
  LoopP (S := Unit) (fun next_2 s_3 => AnyP fun _ =>
  NX (vN (Instr.next (pa t47) false 0)) [.agg [.str, .str], .leaf .slice] (
  CondP false (
  GT (vN (Instr.entry (pa t47))) (.tup [.agg [.str, .str], .leaf .slice]) fun t50 =>
  AL 108 fun t10 =>
  ST 108 t10 (ag [.str, .str] t50.1) <|
  DrewP <|
  NA t28 fun t55 =>
  LD 57 (Addr.add t55 0) tPtr fun t57 =>
  NC t57 fun t58 =>
  LD 99 (Addr.add t58 3) tMap fun t60 =>
  VL (vN (Instr.indexAt 108 (pa t10) (iv 0))) tAddr fun t61 =>
  LD 9 t61 tStr fun t62 =>
  GT (vN (Instr.lookup 99 (.map t60) (.string t62) false)) tPtr fun t63 =>
  NC t63 fun t64 =>
  LD 113 (Addr.add t64 1) tMap fun t66 =>
  VL (vN (Instr.indexAt 108 (pa t10) (iv 1))) tAddr fun t67 =>
  LD 9 t67 tStr fun t68 =>
  GT (vN (Instr.lookup 113 (.map t66) (.string t68) false)) tSl fun t69 =>
  LD 3 (Addr.add t3 1) tInt fun t71 =>
  CL 39 #[sv t69, iv t71, sv t50.2.1] (.tup [.leaf .slice, .leaf (.int .i64)]) fun t73 =>
  LK 57 (Addr.add t55 0) (.pointer t57) <|
  LK 99 (Addr.add t58 3) (.map t60) <|
  LK 9 t61 (.string t62) <|
  CK (vN (Instr.lookup 99 (.map t60) (.string t62) false)) (.pointer t63) <|
  LK 113 (Addr.add t64 1) (.map t66) <|
  LK 9 t67 (.string t68) <|
  DrewP <|
  NA t28 fun t77 =>
  LD 57 (Addr.add t77 0) tPtr fun t79 =>
  NC t79 fun t80 =>
  LD 99 (Addr.add t80 3) tMap fun t82 =>
  VL (vN (Instr.indexAt 108 (pa t10) (iv 0))) tAddr fun t83 =>
  LD 9 t83 tStr fun t84 =>
  GT (vN (Instr.lookup 99 (.map t82) (.string t84) false)) tPtr fun t85 =>
  VL (vN (Instr.indexAt 108 (pa t10) (iv 1))) tAddr fun t86 =>
  LD 9 t86 tStr fun t87 =>
  CL 40 #[.pointer t85, .string t87, sv t73.1] (.tup []) fun t89 =>
  LK 57 (Addr.add t77 0) (.pointer t79) <|
  LK 99 (Addr.add t80 3) (.map t82) <|
  LK 9 t83 (.string t84) <|
  next_2 ()) (
  J ())) fun t48 =>
  CondP true (
  GT (vN (Instr.entry (pa t47))) (.tup [.agg [.str, .str], .leaf .slice]) fun t50_2 =>
  AL 108 fun t10_2 =>
  ST 108 t10_2 (ag [.str, .str] t50_2.1) <|
  DrewP <|
  NA t28 fun t55_2 =>
  LD 57 (Addr.add t55_2 0) tPtr fun t57_2 =>
  NC t57_2 fun t58_2 =>
  LD 99 (Addr.add t58_2 3) tMap fun t60_2 =>
  VL (vN (Instr.indexAt 108 (pa t10_2) (iv 0))) tAddr fun t61_2 =>
  LD 9 t61_2 tStr fun t62_2 =>
  GT (vN (Instr.lookup 99 (.map t60_2) (.string t62_2) false)) tPtr fun t63_2 =>
  NC t63_2 fun t64_2 =>
  LD 113 (Addr.add t64_2 1) tMap fun t66_2 =>
  VL (vN (Instr.indexAt 108 (pa t10_2) (iv 1))) tAddr fun t67_2 =>
  LD 9 t67_2 tStr fun t68_2 =>
  GT (vN (Instr.lookup 113 (.map t66_2) (.string t68_2) false)) tSl fun t69_2 =>
  LD 3 (Addr.add t3 1) tInt fun t71_2 =>
  CL 39 #[sv t69_2, iv t71_2, sv t50_2.2.1] (.tup [.leaf .slice, .leaf (.int .i64)]) fun t73_2 =>
  LK 57 (Addr.add t55_2 0) (.pointer t57_2) <|
  LK 99 (Addr.add t58_2 3) (.map t60_2) <|
  LK 9 t61_2 (.string t62_2) <|
  CK (vN (Instr.lookup 99 (.map t60_2) (.string t62_2) false)) (.pointer t63_2) <|
  LK 113 (Addr.add t64_2 1) (.map t66_2) <|
  LK 9 t67_2 (.string t68_2) <|
  DrewP <|
  NA t28 fun t77_2 =>
  LD 57 (Addr.add t77_2 0) tPtr fun t79_2 =>
  NC t79_2 fun t80_2 =>
  LD 99 (Addr.add t80_2 3) tMap fun t82_2 =>
  VL (vN (Instr.indexAt 108 (pa t10_2) (iv 0))) tAddr fun t83_2 =>
  LD 9 t83_2 tStr fun t84_2 =>
  GT (vN (Instr.lookup 99 (.map t82_2) (.string t84_2) false)) tPtr fun t85_2 =>
  VL (vN (Instr.indexAt 108 (pa t10_2) (iv 1))) tAddr fun t86_2 =>
  LD 9 t86_2 tStr fun t87_2 =>
  CL 40 #[.pointer t85_2, .string t87_2, sv t73_2.1] (.tup []) fun t89_2 =>
  LK 57 (Addr.add t77_2 0) (.pointer t79_2) <|
  LK 99 (Addr.add t80_2 3) (.map t82_2) <|
  LK 9 t83_2 (.string t84_2) <|
  next_2 ()) (
  J ())) ())) 0) (
  DP (vN (Instr.makeMap 104 none)) tMap fun t26_2 =>
  LK 3 (Addr.add t3 1) (iv t25) <|
  CL 37 #[.pointer p0] tPtr fun t23_2 =>
  LK 3 (Addr.add t3 1) (iv t25) <|
  BX 106 (.agg #[.pointer t23_2, iv t25, .map t26_2]) fun t28_2 =>
  LK 3 (Addr.add t3 1) (iv t25) <|
  LD 66 (Addr.add t3 2) tSl fun t30_2 =>
  LoopP (S := Int) (fun next_3 s_4 => AnyP fun _ =>
  CondP (decide ((s_4 : Int) < t30_2.len)) (
  IX 66 t30_2 s_4 fun t34_2 =>
  LD 65 t34_2 (.one (.agg [.int .i64, .str, .slice, .int .i64, .int .i64, .str, .slice, .int .i64])) fun t35_2 =>
  AL 65 fun t8_2 =>
  ST 65 t8_2 (ag [.int .i64, .str, .slice, .int .i64, .int .i64, .str, .slice, .int .i64] t35_2) <|
  LD 65 t8_2 (.one (.agg [.int .i64, .str, .slice, .int .i64, .int .i64, .str, .slice, .int .i64])) fun t37_2 =>
  CL 38 #[pa t28_2, ag [.int .i64, .str, .slice, .int .i64, .int .i64, .str, .slice, .int .i64] t37_2] tInt fun t38_2 =>
  CondP ((t38_2 : Int) != 0) (
  k t38_2) (
  next_3 (IntKind.i64.wrap (s_4 + 1)))) (
  JoinP (S := Unit) (fun s_5 => AnyP fun _ =>
  DrewP <|
  NA t28_2 fun t94_2 =>
  LD 57 (Addr.add t94_2 0) tPtr fun t96_2 =>
  NC t96_2 fun t97_2 =>
  LD 99 (Addr.add t97_2 3) tMap fun t99_2 =>
  LD 3 (Addr.add t3 0) tInt fun t101_2 =>
  LD 3 (Addr.add t3 1) tInt fun t103_2 =>
  NC p0 fun t104_2 =>
  ST 99 (Addr.add t104_2 3) (.map t99_2) <|
  LK 3 (Addr.add t3 0) (iv t101_2) <|
  LK 3 (Addr.add t3 1) (iv t103_2) <|
  NC p0 fun t106_2 =>
  ST 3 (Addr.add t106_2 0) (iv t101_2) <|
  LK 3 (Addr.add t3 1) (iv t103_2) <|
  NC p0 fun t108_2 =>
  ST 3 (Addr.add t108_2 1) (iv t103_2) <|
  k 0) fun J_2 =>
  NA t28_2 fun t44_2 =>
  LD 104 (Addr.add t44_2 2) tMap fun t46_2 =>
  DP (vN (Instr.range 104 (.map t46_2))) tAddr fun t47_2 =>
  LoopP (S := Unit) (fun next_4 s_6 => AnyP fun _ =>
  NX (vN (Instr.next (pa t47_2) false 0)) [.agg [.str, .str], .leaf .slice] (
  CondP false (
  GT (vN (Instr.entry (pa t47_2))) (.tup [.agg [.str, .str], .leaf .slice]) fun t50_3 =>
  AL 108 fun t10_3 =>
  ST 108 t10_3 (ag [.str, .str] t50_3.1) <|
  DrewP <|
  NA t28_2 fun t55_3 =>
  LD 57 (Addr.add t55_3 0) tPtr fun t57_3 =>
  NC t57_3 fun t58_3 =>
  LD 99 (Addr.add t58_3 3) tMap fun t60_3 =>
  VL (vN (Instr.indexAt 108 (pa t10_3) (iv 0))) tAddr fun t61_3 =>
  LD 9 t61_3 tStr fun t62_3 =>
  GT (vN (Instr.lookup 99 (.map t60_3) (.string t62_3) false)) tPtr fun t63_3 =>
  NC t63_3 fun t64_3 =>
  LD 113 (Addr.add t64_3 1) tMap fun t66_3 =>
  VL (vN (Instr.indexAt 108 (pa t10_3) (iv 1))) tAddr fun t67_3 =>
  LD 9 t67_3 tStr fun t68_3 =>
  GT (vN (Instr.lookup 113 (.map t66_3) (.string t68_3) false)) tSl fun t69_3 =>
  LD 3 (Addr.add t3 1) tInt fun t71_3 =>
  CL 39 #[sv t69_3, iv t71_3, sv t50_3.2.1] (.tup [.leaf .slice, .leaf (.int .i64)]) fun t73_3 =>
  LK 57 (Addr.add t55_3 0) (.pointer t57_3) <|
  LK 99 (Addr.add t58_3 3) (.map t60_3) <|
  LK 9 t61_3 (.string t62_3) <|
  CK (vN (Instr.lookup 99 (.map t60_3) (.string t62_3) false)) (.pointer t63_3) <|
  LK 113 (Addr.add t64_3 1) (.map t66_3) <|
  LK 9 t67_3 (.string t68_3) <|
  DrewP <|
  NA t28_2 fun t77_3 =>
  LD 57 (Addr.add t77_3 0) tPtr fun t79_3 =>
  NC t79_3 fun t80_3 =>
  LD 99 (Addr.add t80_3 3) tMap fun t82_3 =>
  VL (vN (Instr.indexAt 108 (pa t10_3) (iv 0))) tAddr fun t83_3 =>
  LD 9 t83_3 tStr fun t84_3 =>
  GT (vN (Instr.lookup 99 (.map t82_3) (.string t84_3) false)) tPtr fun t85_3 =>
  VL (vN (Instr.indexAt 108 (pa t10_3) (iv 1))) tAddr fun t86_3 =>
  LD 9 t86_3 tStr fun t87_3 =>
  CL 40 #[.pointer t85_3, .string t87_3, sv t73_3.1] (.tup []) fun t89_3 =>
  LK 57 (Addr.add t77_3 0) (.pointer t79_3) <|
  LK 99 (Addr.add t80_3 3) (.map t82_3) <|
  LK 9 t83_3 (.string t84_3) <|
  next_4 ()) (
  J_2 ())) fun t48_2 =>
  CondP true (
  GT (vN (Instr.entry (pa t47_2))) (.tup [.agg [.str, .str], .leaf .slice]) fun t50_4 =>
  AL 108 fun t10_4 =>
  ST 108 t10_4 (ag [.str, .str] t50_4.1) <|
  DrewP <|
  NA t28_2 fun t55_4 =>
  LD 57 (Addr.add t55_4 0) tPtr fun t57_4 =>
  NC t57_4 fun t58_4 =>
  LD 99 (Addr.add t58_4 3) tMap fun t60_4 =>
  VL (vN (Instr.indexAt 108 (pa t10_4) (iv 0))) tAddr fun t61_4 =>
  LD 9 t61_4 tStr fun t62_4 =>
  GT (vN (Instr.lookup 99 (.map t60_4) (.string t62_4) false)) tPtr fun t63_4 =>
  NC t63_4 fun t64_4 =>
  LD 113 (Addr.add t64_4 1) tMap fun t66_4 =>
  VL (vN (Instr.indexAt 108 (pa t10_4) (iv 1))) tAddr fun t67_4 =>
  LD 9 t67_4 tStr fun t68_4 =>
  GT (vN (Instr.lookup 113 (.map t66_4) (.string t68_4) false)) tSl fun t69_4 =>
  LD 3 (Addr.add t3 1) tInt fun t71_4 =>
  CL 39 #[sv t69_4, iv t71_4, sv t50_4.2.1] (.tup [.leaf .slice, .leaf (.int .i64)]) fun t73_4 =>
  LK 57 (Addr.add t55_4 0) (.pointer t57_4) <|
  LK 99 (Addr.add t58_4 3) (.map t60_4) <|
  LK 9 t61_4 (.string t62_4) <|
  CK (vN (Instr.lookup 99 (.map t60_4) (.string t62_4) false)) (.pointer t63_4) <|
  LK 113 (Addr.add t64_4 1) (.map t66_4) <|
  LK 9 t67_4 (.string t68_4) <|
  DrewP <|
  NA t28_2 fun t77_4 =>
  LD 57 (Addr.add t77_4 0) tPtr fun t79_4 =>
  NC t79_4 fun t80_4 =>
  LD 99 (Addr.add t80_4 3) tMap fun t82_4 =>
  VL (vN (Instr.indexAt 108 (pa t10_4) (iv 0))) tAddr fun t83_4 =>
  LD 9 t83_4 tStr fun t84_4 =>
  GT (vN (Instr.lookup 99 (.map t82_4) (.string t84_4) false)) tPtr fun t85_4 =>
  VL (vN (Instr.indexAt 108 (pa t10_4) (iv 1))) tAddr fun t86_4 =>
  LD 9 t86_4 tStr fun t87_4 =>
  CL 40 #[.pointer t85_4, .string t87_4, sv t73_4.1] (.tup []) fun t89_4 =>
  LK 57 (Addr.add t77_4 0) (.pointer t79_4) <|
  LK 99 (Addr.add t80_4 3) (.map t82_4) <|
  LK 9 t83_4 (.string t84_4) <|
  next_4 ()) (
  J_2 ())) ())) 0)))
theorem rd16 (p0 : Option Addr) (p1 : (Int × Int × Sl × Unit)) (k : Int → Pr) (w : World) (h : sh16 p0 p1 k w) :
    CL 16 #[.pointer p0, ag [.int .i64, .int .i64, .slice] p1] tInt k w :=
  CallP.of_eq (c := sa16.on (bodyOf Tryz.f16)) (S := sh16 p0 p1 k) follows Tryz.func16 (by kernel_rfl) (by kernel_rfl) (by kernel_rfl) (by kernel_rfl) h

/-- (*memoir.base.Base).wrong -/
def sa36 : SA := .seq (.region (.eff 0 tAddr <| .take 1 .pure .nil)) (.seq (.block (.seq (.region (.take 0 (.get (.one (.agg [.int .i64, .int .i64, .slice]))) <| .call 1 tBool <| .take 2 .pure <| .take 3 .pure .nil)) (.cond (.seq (.region (.take 0 .pure .nil)) (.none)) (.seq (.draw (.take 0 .pure <| .take 1 (.get tInt) <| .take 2 .pure <| .take 3 (.val tAddr) <| .take 4 .pure <| .take 5 (.get tInt) <| .take 6 .pure <| .now 7 .pure [1, 5] .nil)) (.cond (.seq (.region (.take 0 .pure .nil)) (.none)) (.seq (.draw (.take 0 .pure <| .take 1 (.get tInt) <| .take 2 .pure <| .take 3 (.val tAddr) <| .take 4 .pure <| .take 5 (.get tInt) <| .take 6 .pure <| .take 7 .pure <| .now 8 .pure [1, 5] .nil)) (.cond (.seq (.region (.take 0 .pure .nil)) (.none)) (.seq (.draw (.take 0 .pure <| .take 1 (.get tInt) <| .take 2 .pure <| .take 3 (.val tAddr) <| .take 4 .pure <| .take 5 (.get tInt) <| .take 6 .pure <| .now 7 .pure [1, 5] .nil)) (.cond (.seq (.region (.take 0 .pure .nil)) (.none)) (.none)))))))))) (.seq (.region (.take 0 .pure .nil)) (.none)))
def sh36 (p0 : Option Addr) (p1 : (Int × Int × Sl × Unit)) (k : Int → Pr) : Pr :=
  BX 68 (ag [.int .i64, .int .i64, .slice] p1) fun t3 =>
  LD 68 t3 (.one (.agg [.int .i64, .int .i64, .slice])) fun t6 =>
  CL 70 #[ag [.int .i64, .int .i64, .slice] t6] tBool fun t7 =>
  CondP (!t7) (
  k 7) (
  DrewP <|
  LD 3 (Addr.add t3 0) tInt fun t11 =>
  NC p0 fun t13 =>
  LD 3 (Addr.add t13 0) tInt fun t15 =>
  LK 3 (Addr.add t3 0) (iv t11) <|
  LK 3 (Addr.add t13 0) (iv t15) <|
  CondP (decide ((t11 : Int) ≤ t15)) (
  k 5) (
  DrewP <|
  LD 3 (Addr.add t3 0) tInt fun t19 =>
  NC p0 fun t21 =>
  LD 3 (Addr.add t21 0) tInt fun t23 =>
  LK 3 (Addr.add t3 0) (iv t19) <|
  LK 3 (Addr.add t21 0) (iv t23) <|
  CondP (decide ((t19 : Int) > (IntKind.i64.wrap (t23 + 1)))) (
  k 12) (
  DrewP <|
  LD 3 (Addr.add t3 1) tInt fun t28 =>
  NC p0 fun t30 =>
  LD 3 (Addr.add t30 1) tInt fun t32 =>
  LK 3 (Addr.add t3 1) (iv t28) <|
  LK 3 (Addr.add t30 1) (iv t32) <|
  CondP (decide ((t28 : Int) ≤ t32)) (
  k 1) (
  k 0))))
theorem rd36 (p0 : Option Addr) (p1 : (Int × Int × Sl × Unit)) (k : Int → Pr) (w : World) (h : sh36 p0 p1 k w) :
    CL 36 #[.pointer p0, ag [.int .i64, .int .i64, .slice] p1] tInt k w :=
  CallP.of_eq (c := sa36.on (bodyOf Tryz.f36)) (S := sh36 p0 p1 k) follows Tryz.func36 (by kernel_rfl) (by kernel_rfl) (by kernel_rfl) (by kernel_rfl) h

/-- (*memoir.base.work).change -/
def sa38 : SA := .seq (.region (.eff 0 tAddr <| .take 1 .pure .nil)) (.seq (.seq (.region (.take 0 .pure <| .take 1 (.get tInt) <| .take 2 .pure .nil)) (.cond (.seq (.region (.take 0 .pure <| .take 1 .pure <| .take 2 (.get (.one (.agg [.str, .slice, .int .i64]))) <| .call 3 tInt <| .take 4 .pure .nil)) (.none)) (.none))) (.seq (.draw (.take 0 .pure <| .take 1 (.val tAddr) <| .take 2 .pure <| .take 3 (.get tPtr) <| .take 4 (.val tAddr) <| .take 5 .pure <| .take 6 (.get tMap) <| .take 7 .pure <| .take 8 (.get tStr) <| .take 9 (.get tPtr) <| .now 10 .pure [] .nil)) (.seq (.seq (.region (.take 0 .pure <| .take 1 (.get tBool) .nil)) (.cond (.seq (.region (.take 0 .pure .nil)) (.none)) (.none))) (.seq (.draw (.take 0 .pure <| .take 2 (.get (.one (.agg [.int .i64, .str, .slice, .int .i64, .int .i64, .str, .slice, .int .i64]))) <| .call 1 (.one (.agg [.str, .slice, .int .i64])) [2] <| .call 3 (.tup [.leaf .str, .leaf (.int .i64)]) [] <| .pu 4 3 <| .now 7 .pure [] <| .now 8 .pure [] .nil)) (.seq (.seq (.region (.take 0 .pure <| .take 1 .pure .nil)) (.cond (.seq (.region (.take 0 .pure <| .take 1 .pure .nil)) (.none)) (.none))) (.seq (.region (.take 0 .pure <| .take 1 (.get tStr) <| .take 2 .pure <| .take 3 .pure <| .eff 4 tAddr <| .effU 5 .nil)) (.seq (.draw (.take 0 .pure <| .take 1 (.val tAddr) <| .take 2 .pure <| .take 3 (.get tMap) <| .take 4 (.get (.one (.agg [.str, .str]))) <| .take 5 (.get (.tup [.leaf .slice, .leaf .bool])) <| .pu 6 3 <| .now 9 .pure [] <| .now 10 .pure [] .nil)) (.join (.seq (.region (.take 0 .pure <| .take 1 .pure .nil)) (.cond (.region (.take 0 .pure <| .take 1 (.val tAddr) <| .take 2 .pure <| .take 3 (.get tMap) <| .take 4 .pure <| .take 5 (.get tSl) <| .call 6 tSl <| .take 7 .pure .nil)) (.none))) [(9, .leaf .slice)] (rg 53 61) (.join (.seq (.region (.take 0 .pure <| .take 1 (.get tInt) <| .take 2 .pure .nil)) (.cond (.draw (.take 0 .pure <| .take 1 (.val tAddr) <| .take 2 .pure <| .take 3 (.get tMap) <| .take 4 (.get (.one (.agg [.str, .str]))) <| .take 5 .pure <| .take 6 .pure <| .take 7 (.get (.one (.agg [.int .i64, .int .i64]))) <| .take 8 .pure <| .take 9 (.get tSl) <| .call 10 tSl [3, 4] <| .effU 11 [] .nil)) (.draw (.take 0 .pure <| .take 1 (.val tAddr) <| .take 2 .pure <| .take 3 (.get tMap) <| .take 4 (.get (.one (.agg [.str, .str]))) <| .take 5 .pure <| .take 6 .pure <| .take 7 (.get (.one (.agg [.int .i64, .int .i64]))) <| .call 8 tSl [3, 4] <| .effU 9 [] .nil)))) [] (rg 62 84) (.seq (.region (.take 0 .pure .nil)) (.none)))))))))))
def sh38 (p0 : Option Addr) (p1 : (Int × ByteArray × Sl × Int × Int × ByteArray × Sl × Int × Unit)) (k : Int → Pr) : Pr :=
  BX 65 (ag [.int .i64, .str, .slice, .int .i64, .int .i64, .str, .slice, .int .i64] p1) fun t3 =>
  LD 3 (Addr.add t3 0) tInt fun t12 =>
  CondP ((t12 : Int) == 3) (
  LD 63 (Addr.add t3 5) (.one (.agg [.str, .slice, .int .i64])) fun t16 =>
  CL 72 #[.pointer p0, ag [.str, .slice, .int .i64] t16] tInt fun t17 =>
  k t17) (
  DrewP <|
  NC p0 fun t19 =>
  LD 57 (Addr.add t19 0) tPtr fun t21 =>
  NC t21 fun t22 =>
  LD 99 (Addr.add t22 3) tMap fun t24 =>
  LD 9 (Addr.add t3 1) tStr fun t26 =>
  GT (vN (Instr.lookup 99 (.map t24) (.string t26) false)) tPtr fun t27 =>
  GT (cmpN .eql 116 (.tmp 28) (.const (.pointer none)) (.pointer t27) (.pointer none)) tBool fun t29 =>
  CondP t29 (
  k 18) (
  DrewP <|
  LD 65 t3 (.one (.agg [.int .i64, .str, .slice, .int .i64, .int .i64, .str, .slice, .int .i64])) fun t33 =>
  CL 74 #[.pointer t27] (.one (.agg [.str, .slice, .int .i64])) fun t32 =>
  LK 65 t3 (ag [.int .i64, .str, .slice, .int .i64, .int .i64, .str, .slice, .int .i64] t33) <|
  CL 73 #[ag [.str, .slice, .int .i64] t32, ag [.int .i64, .str, .slice, .int .i64, .int .i64, .str, .slice, .int .i64] t33] (.tup [.leaf .str, .leaf (.int .i64)]) fun t34 =>
  CondP ((t34.2.1 : Int) != 0) (
  k t34.2.1) (
  LD 9 (Addr.add t3 1) tStr fun t41 =>
  AL 108 fun t8 =>
  ST 108 t8 (.agg #[.string t41, .string t34.1]) <|
  DrewP <|
  NC p0 fun t46 =>
  LD 104 (Addr.add t46 2) tMap fun t48 =>
  LD 108 t8 (.one (.agg [.str, .str])) fun t49 =>
  GT (vN (Instr.lookup 104 (.map t48) (ag [.str, .str] t49) true)) (.tup [.leaf .slice, .leaf .bool]) fun t50 =>
  JoinP (S := Sl) (fun s => AnyP fun _ =>
  JoinP (S := Unit) (fun s_2 => AnyP fun _ =>
  k 0) fun J_2 =>
  LD 3 (Addr.add t3 0) tInt fun t63 =>
  CondP ((t63 : Int) == 1) (
  DrewP <|
  NC p0 fun t66 =>
  LD 104 (Addr.add t66 2) tMap fun t68 =>
  LD 108 t8 (.one (.agg [.str, .str])) fun t69 =>
  LD 39 (Addr.add t3 3) (.one (.agg [.int .i64, .int .i64])) fun t72 =>
  LD 28 (Addr.add t3 2) tSl fun t74 =>
  CL 76 #[sv s, ag [.int .i64, .int .i64] t72, sv t74] tSl fun t75 =>
  LK 104 (Addr.add t66 2) (.map t68) <|
  LK 108 t8 (ag [.str, .str] t69) <|
  DU (uN (Instr.mapUpdate 104 (.map t68) (ag [.str, .str] t69) (sv t75))) <|
  J_2 ()) (
  DrewP <|
  NC p0 fun t77 =>
  LD 104 (Addr.add t77 2) tMap fun t79 =>
  LD 108 t8 (.one (.agg [.str, .str])) fun t80 =>
  LD 39 (Addr.add t3 3) (.one (.agg [.int .i64, .int .i64])) fun t83 =>
  CL 77 #[sv s, ag [.int .i64, .int .i64] t83] tSl fun t84 =>
  LK 104 (Addr.add t77 2) (.map t79) <|
  LK 108 t8 (ag [.str, .str] t80) <|
  DU (uN (Instr.mapUpdate 104 (.map t79) (ag [.str, .str] t80) (sv t84))) <|
  J_2 ())) fun J =>
  CondP (!t50.2.1) (
  NC t27 fun t56 =>
  LD 113 (Addr.add t56 1) tMap fun t58 =>
  GT (vN (Instr.lookup 113 (.map t58) (.string t34.1) false)) tSl fun t60 =>
  CL 75 #[sv t60, iv 1099511627775] tSl fun t61 =>
  J t61) (
  J t50.1))))
theorem rd38 (p0 : Option Addr) (p1 : (Int × ByteArray × Sl × Int × Int × ByteArray × Sl × Int × Unit)) (k : Int → Pr) (w : World) (h : sh38 p0 p1 k w) :
    CL 38 #[.pointer p0, ag [.int .i64, .str, .slice, .int .i64, .int .i64, .str, .slice, .int .i64] p1] tInt k w :=
  CallP.of_eq (c := sa38.on (bodyOf Tryz.f38)) (S := sh38 p0 p1 k) follows Tryz.func38 (by kernel_rfl) (by kernel_rfl) (by kernel_rfl) (by kernel_rfl) h

/-- (*memoir.base.table).put -/
def sa40 : SA := .seq (.seq (.region (.pu 0 3 .nil)) (.cond (.seq (.region (.take 0 .pure <| .take 1 (.val tAddr) <| .take 2 .pure <| .take 3 (.get tMap) <| .take 4 .pure <| .eff 5 (.tup []) .nil)) (.none)) (.none))) (.region (.take 0 .pure <| .take 1 (.val tAddr) <| .take 2 .pure <| .take 3 (.get tMap) <| .take 4 .pure <| .take 5 .pure <| .effU 6 .nil))
def sh40 (p0 : Option Addr) (p1 : ByteArray) (p2 : Sl) (k : (Unit) → Pr) : Pr :=
  CondP ((p2.len : Int) == 0) (
  NC p0 fun t10 =>
  LD 113 (Addr.add t10 1) tMap fun t12 =>
  DP (vN (Builtin.delete_ #[113, 9] 0 #[.map t12, .string p1])) (.tup []) fun u =>
  k ()) (
  NC p0 fun t15 =>
  LD 113 (Addr.add t15 1) tMap fun t17 =>
  DU (uN (Instr.mapUpdate 113 (.map t17) (.string p1) (sv p2))) <|
  k ())
theorem rd40 (p0 : Option Addr) (p1 : ByteArray) (p2 : Sl) (k : (Unit) → Pr) (w : World) (h : sh40 p0 p1 p2 k w) :
    CL 40 #[.pointer p0, .string p1, sv p2] (.tup []) k w :=
  CallP.of_eq (c := sa40.on (bodyOf Tryz.f40)) (S := sh40 p0 p1 p2 k) follows Tryz.func40 (by kernel_rfl) (by kernel_rfl) (by kernel_rfl) (by kernel_rfl) h

/-- (*memoir.base.Base).Keys -/
def sa127 : SA := .seq (.region (.take 0 .pure .nil)) (.seq (.seq (.region (.take 0 .pure <| .take 1 (.get tBool) <| .take 2 .pure <| .guard 7 (.take 3 .pure <| .take 4 (.val tAddr) <| .take 5 .pure <| .take 6 (.get tMap) <| .take 7 .pure <| .take 8 (.get tPtr) <| .take 9 (.get tBool) <| .take 10 .pure .nil) 15 (rg 8 14) .nil)) (.cond (.seq (.region (.take 0 .pure .nil)) (.none)) (.none))) (.seq (.region (.take 0 .pure <| .take 1 (.val tAddr) <| .take 2 .pure <| .take 3 (.get tMap) <| .take 4 .pure <| .take 5 (.get tPtr) <| .take 6 (.val tAddr) <| .take 7 .pure <| .take 8 (.get tMap) <| .call 9 tSl <| .take 10 .pure .nil)) (.none)))
def sh127 (p0 : Option Addr) (p1 : ByteArray) (k : Sl → Pr) : Pr :=
  GT (cmpN .eql 57 (.tmp 5) (.const (.pointer none)) (.pointer p0) (.pointer none)) tBool fun t6 =>
  JB (fun b15 =>
  CondP b15 (
  k (⟨none, 0, 0⟩)) (
  NC p0 fun t17 =>
  LD 99 (Addr.add t17 3) tMap fun t19 =>
  GT (vN (Instr.lookup 99 (.map t19) (.string p1) false)) tPtr fun t21 =>
  NC t21 fun t22 =>
  LD 113 (Addr.add t22 1) tMap fun t24 =>
  CL 162 #[.map t24] tSl fun t25 =>
  k t25)) fun J =>
  CondP t6 (
  J true) (
  NC p0 fun t9 =>
  LD 99 (Addr.add t9 3) tMap fun t11 =>
  GT (vN (Instr.lookup 99 (.map t11) (.string p1) false)) tPtr fun t13 =>
  GT (cmpN .eql 116 (.tmp 13) (.const (.pointer none)) (.pointer t13) (.pointer none)) tBool fun t14 =>
  J t14)
theorem rd127 (p0 : Option Addr) (p1 : ByteArray) (k : Sl → Pr) (w : World) (h : sh127 p0 p1 k w) :
    CL 127 #[.pointer p0, .string p1] tSl k w :=
  CallP.of_eq (c := sa127.on (bodyOf Tryz.f127)) (S := sh127 p0 p1 k) follows Tryz.func127 (by kernel_rfl) (by kernel_rfl) (by kernel_rfl) (by kernel_rfl) h

/-- memoir.base.names[[]memoir.track.Version] -/
def sa162 : SA := .seq (.region (.take 0 .pure .nil)) (.seq (.region (.take 0 .pure .nil)) (.join (.seq (.region (.take 0 .pure <| .eff 1 tAddr .nil)) (.block (.loop [(3, .leaf .slice)] ([4, 5] ++ rg 8 37) (.seq (.region (.next 0 [.leaf .str, .leaf .slice] <| .take 1 .pure .nil)) (.seq (.cond (.none) (.none)) (.block (.seq (.region (.take 0 (.get (.tup [.leaf .str, .leaf .slice])) <| .take 1 .pure <| .take 2 .pure .nil)) (.seq (.region (.pu 0 3 .nil)) (.seq (.block (.loop [(5, .leaf (.int .i64))] (rg 14 26) (.seq (.seq (.region (.pu 0 3 <| .guard 16 (.pu 3 3 <| .take 6 (.val tAddr) <| .take 7 (.get tStr) <| .pu 8 3 .nil) 24 (rg 17 23) .nil)) (.cond (.none) (.none))) (.block (.region (.pu 0 3 .nil)))))) (.draw (.pu 0 3 <| .take 3 (.val tSl) <| .take 4 .pure <| .take 6 .pure <| .take 7 .pure <| .take 8 (.val tSl) <| .eff 5 tSl [] <| .eff 9 tSl [] <| .eff 10 tSl [] <| .now 11 .pure [] .nil))))))))))) [(3, .leaf .slice)] (rg 4 37) (.seq (.region (.take 0 .pure <| .take 1 .pure .nil)) (.none))))
def sh162 (p0 : Option Nat) (k : Sl → Pr) : Pr :=
  JoinP (S := Sl) (fun s => AnyP fun _ =>
  k s) fun J =>
  DP (vN (Instr.range 113 (.map p0))) tAddr fun t7 =>
  LoopP (S := Sl) (fun next s_2 => AnyP fun _ =>
  NX (vN (Instr.next (pa t7) false 0)) [.leaf .str, .leaf .slice] (
  CondP false (
  GT (vN (Instr.entry (pa t7))) (.tup [.leaf .str, .leaf .slice]) fun t10 =>
  LoopP (S := Int) (fun next_2 s_3 => AnyP fun _ =>
  JB (fun b24 =>
  CondP b24 (
  next_2 (IntKind.i64.wrap (s_3 - 1))) (
  DrewP <|
  VL (vN (Instr.sliceAt 204 (sv s_2) none (some (iv s_3)) (some (iv s_3)))) tSl fun t30 =>
  VL (vN (Instr.sliceAt 204 (sv s_2) (some (iv s_3)) none none)) tSl fun t35 =>
  BS 204 1 #[(0, .string t10.1)] fun t32 =>
  AP 204 204 204 t32 t35 fun t36 =>
  AP 204 204 204 t30 t36 fun t37 =>
  next t37)) fun J_2 =>
  CondP (decide ((s_3 : Int) > 0)) (
  IX 204 s_2 (IntKind.i64.wrap (s_3 - 1)) fun t20 =>
  LD 9 t20 tStr fun t21 =>
  J_2 (!(Op.bytesLess t21.toList t10.1.toList || (t21.toList == t10.1.toList)))) (
  J_2 false)) s_2.len) (
  J s_2)) fun t8 =>
  CondP true (
  GT (vN (Instr.entry (pa t7))) (.tup [.leaf .str, .leaf .slice]) fun t10_2 =>
  LoopP (S := Int) (fun next_3 s_4 => AnyP fun _ =>
  JB (fun b24_2 =>
  CondP b24_2 (
  next_3 (IntKind.i64.wrap (s_4 - 1))) (
  DrewP <|
  VL (vN (Instr.sliceAt 204 (sv s_2) none (some (iv s_4)) (some (iv s_4)))) tSl fun t30_2 =>
  VL (vN (Instr.sliceAt 204 (sv s_2) (some (iv s_4)) none none)) tSl fun t35_2 =>
  BS 204 1 #[(0, .string t10_2.1)] fun t32_2 =>
  AP 204 204 204 t32_2 t35_2 fun t36_2 =>
  AP 204 204 204 t30_2 t36_2 fun t37_2 =>
  next t37_2)) fun J_3 =>
  CondP (decide ((s_4 : Int) > 0)) (
  IX 204 s_2 (IntKind.i64.wrap (s_4 - 1)) fun t20_2 =>
  LD 9 t20_2 tStr fun t21_2 =>
  J_3 (!(Op.bytesLess t21_2.toList t10_2.1.toList || (t21_2.toList == t10_2.1.toList)))) (
  J_3 false)) s_2.len) (
  J s_2)) (⟨none, 0, 0⟩)
theorem rd162 (p0 : Option Nat) (k : Sl → Pr) (w : World) (h : sh162 p0 k w) :
    CL 162 #[.map p0] tSl k w :=
  CallP.of_eq (c := sa162.on (bodyOf Tryz.f162)) (S := sh162 p0 k) follows Tryz.func162 (by kernel_rfl) (by kernel_rfl) (by kernel_rfl) (by kernel_rfl) h

/-- memoir.exec.at -/
def sa91 : SA := .seq (.region (.eff 0 tAddr <| .take 1 .pure <| .take 2 .pure .nil)) (.seq (.region (.take 0 .pure .nil)) (.seq (.seq (.region (.take 0 .pure <| .take 1 .pure <| .take 2 (.get tStr) <| .call 3 tSl <| .take 4 .pure <| .take 5 .pure .nil)) (.block (.loop [(6, .leaf .slice), (18, .leaf (.int .i64))] ([8, 9, 10, 12] ++ rg 19 48) (.seq (.region (.take 0 .pure .nil)) (.seq (.cond (.none) (.none)) (.seq (.block (.seq (.region (.take 0 (.val tAddr) <| .take 1 (.get tStr) <| .take 2 .pure .nil)) (.seq (.region (.take 0 .pure <| .take 1 .pure <| .take 2 (.get tStr) <| .take 3 .pure <| .take 4 .pure <| .take 5 (.get tInt) <| .call 6 (.tup [.leaf .slice, .leaf (.int .i64)]) <| .pu 7 5 .nil)) (.seq (.region (.pu 0 3 .nil)) (.block (.loop [(6, .leaf .slice), (34, .leaf (.int .i64))] ([12] ++ rg 35 47) (.seq (.region (.take 0 .pure .nil)) (.seq (.cond (.none) (.none)) (.seq (.block (.seq (.region (.take 0 (.val tAddr) <| .take 1 (.get (.one (.agg [.int .i64, .int .i64, .slice]))) <| .eff 2 tAddr <| .effU 3 .nil)) (.region (.pu 0 3 <| .take 3 (.get (.one (.agg [.int .i64, .int .i64]))) <| .take 4 .pure <| .take 5 (.get tSl) <| .take 6 .pure <| .eff 7 tSl <| .eff 8 tSl <| .take 9 .pure .nil)))) (.region (.take 0 .pure <| .take 1 .pure .nil))))))))))) (.region (.take 0 .pure <| .take 1 .pure .nil)))))))) (.seq (.region (.pu 0 3 .nil)) (.none))))
def sh91 (p0 : Option Addr) (p1 : (Int × ByteArray × Sl × Int × Int × Int × Int × Sl × Sl × Int × Bool × Unit)) (k : (Sl × Int × Unit) → Pr) : Pr :=
  BX 43 (ag [.int .i64, .str, .slice, .int .i64, .int .i64, .int .i64, .int .i64, .slice, .slice, .int .i64, .bool] p1) fun t3 =>
  LD 9 (Addr.add t3 1) tStr fun t15 =>
  CL 127 #[.pointer p0, .string t15] tSl fun t16 =>
  LoopP (S := Sl × Int) (fun next s => AnyP fun _ =>
  CondP (decide ((s.2 : Int) < t16.len)) (
  IX 204 t16 s.2 fun t20 =>
  LD 9 t20 tStr fun t21 =>
  LD 9 (Addr.add t3 1) tStr fun t25 =>
  LD 3 (Addr.add t3 3) tInt fun t28 =>
  CL 128 #[.pointer p0, .string t25, .string t21, iv t28] (.tup [.leaf .slice, .leaf (.int .i64)]) fun t29 =>
  LoopP (S := Sl × Int) (fun next_2 s_2 => AnyP fun _ =>
  CondP (decide ((s_2.2 : Int) < t29.1.len)) (
  IX 45 t29.1 s_2.2 fun t36 =>
  LD 50 t36 (.one (.agg [.int .i64, .int .i64, .slice])) fun t37 =>
  AL 50 fun t12 =>
  ST 50 t12 (ag [.int .i64, .int .i64, .slice] t37) <|
  LD 39 (Addr.add t12 0) (.one (.agg [.int .i64, .int .i64])) fun t41 =>
  LD 28 (Addr.add t12 2) tSl fun t43 =>
  BS 30 1 #[(0, .agg #[.string t21, iv 0, iv 0, iv t41.1, iv t41.2.1, sv t43])] fun t45 =>
  AP 30 30 30 s_2.1 t45 fun t46 =>
  next_2 (t46, IntKind.i64.wrap (s_2.2 + 1))) (
  next (s_2.1, IntKind.i64.wrap (s.2 + 1)))) (s.1, 0)) (
  k (s.1, 0, ()))) (⟨none, 0, 0⟩, 0)
theorem rd91 (p0 : Option Addr) (p1 : (Int × ByteArray × Sl × Int × Int × Int × Int × Sl × Sl × Int × Bool × Unit)) (k : (Sl × Int × Unit) → Pr) (w : World) (h : sh91 p0 p1 k w) :
    CL 91 #[.pointer p0, ag [.int .i64, .str, .slice, .int .i64, .int .i64, .int .i64, .int .i64, .slice, .slice, .int .i64, .bool] p1] (.tup [.leaf .slice, .leaf (.int .i64)]) k w :=
  CallP.of_eq (c := sa91.on (bodyOf Tryz.f91)) (S := sh91 p0 p1 k) follows Tryz.func91 (by kernel_rfl) (by kernel_rfl) (by kernel_rfl) (by kernel_rfl) h

/-- memoir.exec.Run -/
def sa17 : SA := .seq (.region (.eff 0 tAddr <| .take 1 .pure <| .take 2 .pure .nil)) (.seq (.seq (.region (.take 0 .pure <| .take 1 (.get tBool) .nil)) (.cond (.seq (.region (.take 0 .pure <| .take 1 .pure .nil)) (.none)) (.none))) (.seq (.region (.take 0 .pure <| .take 1 (.get (.one (.agg [.int .i64, .str, .slice, .int .i64, .int .i64, .int .i64, .int .i64, .slice, .slice, .int .i64, .bool]))) <| .call 2 (.tup [.agg [.str, .slice, .int .i64], .leaf (.int .i64)]) <| .pu 3 3 <| .eff 6 tAddr <| .effU 7 <| .take 8 .pure .nil)) (.seq (.block (.seq (.region (.pu 0 3 .nil)) (.cond (.seq (.region (.pu 0 3 .nil)) (.none)) (.seq (.region (.take 0 (.get (.one (.agg [.int .i64, .str, .slice, .int .i64, .int .i64, .int .i64, .int .i64, .slice, .slice, .int .i64, .bool]))) <| .take 1 (.get (.one (.agg [.str, .slice, .int .i64]))) <| .call 2 tBool <| .take 3 .pure <| .take 4 .pure .nil)) (.cond (.seq (.region (.take 0 .pure <| .take 1 .pure .nil)) (.none)) (.none)))))) (.seq (.draw (.take 1 .pure <| .take 2 (.get tInt) <| .take 5 .pure <| .take 6 (.get (.one (.agg [.int .i64, .str, .slice, .int .i64, .int .i64, .int .i64, .int .i64, .slice, .slice, .int .i64, .bool]))) <| .call 0 tMap [2, 6] <| .take 3 (.get (.one (.agg [.raw, .raw]))) <| .take 4 .pure <| .inv 7 (.tup [.leaf .slice, .leaf (.int .i64)]) [2, 3] <| .pu 8 3 <| .now 11 .pure [] <| .now 12 .pure [] .nil)) (.seq (.seq (.region (.take 0 .pure <| .take 1 .pure .nil)) (.cond (.seq (.region (.pu 0 3 .nil)) (.none)) (.none))) (.seq (.region (.take 0 .pure .nil)) (.join (.seq (.region (.pu 0 3 .nil)) (.block (.loop [(9, .leaf .slice), (45, .leaf (.int .i64))] ([10, 11] ++ rg 46 85) (.seq (.region (.take 0 .pure .nil)) (.seq (.cond (.none) (.none)) (.join (.block (.seq (.region (.take 0 .pure <| .take 1 .pure .nil)) (.seq (.region (.take 0 .pure <| .take 1 .pure <| .take 2 (.val tAddr) <| .take 3 (.get (.one (.agg [.str, .int .i64, .int .i64, .int .i64, .int .i64, .slice]))) <| .eff 4 tAddr <| .effU 5 .nil)) (.join (.seq (.region (.take 0 .pure <| .take 1 (.get tBool) .nil)) (.cond (.region (.pu 0 6 <| .take 6 (.val tAddr) <| .take 7 (.get (.one (.agg [.str, .int .i64, .int .i64, .int .i64, .int .i64, .slice]))) <| .effU 8 .nil)) (.none))) [] (rg 52 61) (.seq (.seq (.region (.take 0 .pure <| .take 1 (.get tInt) <| .take 2 .pure <| .take 3 .pure <| .guard 65 (.pu 4 3 <| .take 7 (.get tInt) <| .take 8 .pure <| .take 9 .pure .nil) 71 (rg 66 70) .nil)) (.cond (.none) (.none))) (.seq (.region (.take 0 (.get (.one (.agg [.int .i64, .str, .slice, .int .i64, .int .i64, .int .i64, .int .i64, .slice, .slice, .int .i64, .bool]))) <| .take 1 .pure <| .take 2 (.get tSl) <| .call 3 tBool .nil)) (.cond (.seq (.region (.take 0 (.get (.one (.agg [.int .i64, .str, .slice, .int .i64, .int .i64, .int .i64, .int .i64, .slice, .slice, .int .i64, .bool]))) <| .take 1 .pure <| .take 2 (.get tSl) <| .call 3 tSl <| .take 4 .pure <| .effU 5 .nil)) (.region (.take 0 .pure <| .take 1 (.get (.one (.agg [.str, .int .i64, .int .i64, .int .i64, .int .i64, .slice]))) <| .eff 2 tSl <| .eff 3 tSl <| .take 4 .pure .nil))) (.none)))))))) [(9, .leaf .slice)] ([10, 11] ++ rg 47 84) (.region (.take 0 .pure <| .take 1 .pure .nil)))))))) [(9, .leaf .slice)] ([10, 11] ++ rg 43 85) (.seq (.region (.pu 0 3 .nil)) (.none)))))))))
def sh17 (p0 : Option Addr) (p1 : (Int × ByteArray × Sl × Int × Int × Int × Int × Sl × Sl × Int × Bool × Unit)) (k : (Sl × Int × Unit) → Pr) : Pr :=
  BX 43 (ag [.int .i64, .str, .slice, .int .i64, .int .i64, .int .i64, .int .i64, .slice, .slice, .int .i64, .bool] p1) fun t3 =>
  GT (cmpN .eql 57 (.tmp 12) (.const (.pointer none)) (.pointer p0) (.pointer none)) tBool fun t13 =>
  CondP t13 (
  k ((⟨none, 0, 0⟩), 13, ())) (
  LD 43 t3 (.one (.agg [.int .i64, .str, .slice, .int .i64, .int .i64, .int .i64, .int .i64, .slice, .slice, .int .i64, .bool])) fun t16 =>
  CL 41 #[.pointer p0, ag [.int .i64, .str, .slice, .int .i64, .int .i64, .int .i64, .int .i64, .slice, .slice, .int .i64, .bool] t16] (.tup [.agg [.str, .slice, .int .i64], .leaf (.int .i64)]) fun t17 =>
  AL 63 fun t6 =>
  ST 63 t6 (ag [.str, .slice, .int .i64] t17.1) <|
  CondP ((t17.2.1 : Int) != 0) (
  k ((⟨none, 0, 0⟩), t17.2.1, ())) (
  LD 43 t3 (.one (.agg [.int .i64, .str, .slice, .int .i64, .int .i64, .int .i64, .int .i64, .slice, .slice, .int .i64, .bool])) fun t25 =>
  LD 63 t6 (.one (.agg [.str, .slice, .int .i64])) fun t26 =>
  CL 42 #[ag [.int .i64, .str, .slice, .int .i64, .int .i64, .int .i64, .int .i64, .slice, .slice, .int .i64, .bool] t25, ag [.str, .slice, .int .i64] t26] tBool fun t27 =>
  CondP (!t27) (
  k ((⟨none, 0, 0⟩), 14, ())) (
  DrewP <|
  LD 3 (Addr.add t3 0) tInt fun t32 =>
  LD 43 t3 (.one (.agg [.int .i64, .str, .slice, .int .i64, .int .i64, .int .i64, .int .i64, .slice, .slice, .int .i64, .bool])) fun t36 =>
  CL 43 #[] tMap fun t30 =>
  LK 3 (Addr.add t3 0) (iv t32) <|
  LK 43 t3 (ag [.int .i64, .str, .slice, .int .i64, .int .i64, .int .i64, .int .i64, .slice, .slice, .int .i64, .bool] t36) <|
  GT (vN (Instr.lookup 124 (.map t30) (iv t32) false)) (.one (.agg [.raw, .raw])) fun t33 =>
  IV (callN t33.2.1 #[.pointer p0, ag [.int .i64, .str, .slice, .int .i64, .int .i64, .int .i64, .int .i64, .slice, .slice, .int .i64, .bool] t36]) (.tup [.leaf .slice, .leaf (.int .i64)]) fun t37 =>
  LK 3 (Addr.add t3 0) (iv t32) <|
  CK (vN (Instr.lookup 124 (.map t30) (iv t32) false)) (ag [.raw, .raw] t33) <|
  CondP ((t37.2.1 : Int) != 0) (
  k ((⟨none, 0, 0⟩), t37.2.1, ())) (
  JoinP (S := Sl) (fun s => AnyP fun _ =>
  k (s, 0, ())) fun J =>
  LoopP (S := Sl × Int) (fun next s_2 => AnyP fun _ =>
  CondP (decide ((s_2.2 : Int) < t37.1.len)) (
  JoinP (S := Sl) (fun s_3 => AnyP fun _ =>
  next (s_3, IntKind.i64.wrap (s_2.2 + 1))) fun J_2 =>
  IX 30 t37.1 s_2.2 fun t50 =>
  LD 47 t50 (.one (.agg [.str, .int .i64, .int .i64, .int .i64, .int .i64, .slice])) fun t51 =>
  AL 47 fun t11 =>
  ST 47 t11 (ag [.str, .int .i64, .int .i64, .int .i64, .int .i64, .slice] t51) <|
  JoinP (S := Unit) (fun s_4 => AnyP fun _ =>
  LD 3 (Addr.add t3 9) tInt fun t63 =>
  JB (fun b71 =>
  CondP b71 (
  J s_2.1) (
  LD 43 t3 (.one (.agg [.int .i64, .str, .slice, .int .i64, .int .i64, .int .i64, .int .i64, .slice, .slice, .int .i64, .bool])) fun t72 =>
  LD 28 (Addr.add t11 5) tSl fun t74 =>
  CL 44 #[ag [.int .i64, .str, .slice, .int .i64, .int .i64, .int .i64, .int .i64, .slice, .slice, .int .i64, .bool] t72, sv t74] tBool fun t75 =>
  CondP t75 (
  LD 43 t3 (.one (.agg [.int .i64, .str, .slice, .int .i64, .int .i64, .int .i64, .int .i64, .slice, .slice, .int .i64, .bool])) fun t76 =>
  LD 28 (Addr.add t11 5) tSl fun t78 =>
  CL 45 #[ag [.int .i64, .str, .slice, .int .i64, .int .i64, .int .i64, .int .i64, .slice, .slice, .int .i64, .bool] t76, sv t78] tSl fun t79 =>
  ST 28 (Addr.add t11 5) (sv t79) <|
  LD 47 t11 (.one (.agg [.str, .int .i64, .int .i64, .int .i64, .int .i64, .slice])) fun t82 =>
  BS 30 1 #[(0, ag [.str, .int .i64, .int .i64, .int .i64, .int .i64, .slice] t82)] fun t83 =>
  AP 30 30 30 s_2.1 t83 fun t84 =>
  J_2 t84) (
  J_2 s_2.1))) fun J_4 =>
  CondP (decide ((t63 : Int) > 0)) (
  LD 3 (Addr.add t3 9) tInt fun t69 =>
  J_4 ((s_2.1.len : Int) == t69)) (
  J_4 false)) fun J_3 =>
  LD 4 (Addr.add t3 10) tBool fun t53 =>
  CondP t53 (
  VL (vN (Instr.indexAt 30 (sv t37.1) (iv (IntKind.i64.wrap ((IntKind.i64.wrap (t37.1.len - 1)) - s_2.2))))) tAddr fun t60 =>
  LD 47 t60 (.one (.agg [.str, .int .i64, .int .i64, .int .i64, .int .i64, .slice])) fun t61 =>
  ST 47 t11 (ag [.str, .int .i64, .int .i64, .int .i64, .int .i64, .slice] t61) <|
  J_3 ()) (
  J_3 ())) (
  J s_2.1)) (⟨none, 0, 0⟩, 0)))))
theorem rd17 (p0 : Option Addr) (p1 : (Int × ByteArray × Sl × Int × Int × Int × Int × Sl × Sl × Int × Bool × Unit)) (k : (Sl × Int × Unit) → Pr) (w : World) (h : sh17 p0 p1 k w) :
    CL 17 #[.pointer p0, ag [.int .i64, .str, .slice, .int .i64, .int .i64, .int .i64, .int .i64, .slice, .slice, .int .i64, .bool] p1] (.tup [.leaf .slice, .leaf (.int .i64)]) k w :=
  CallP.of_eq (c := sa17.on (bodyOf Tryz.f17)) (S := sh17 p0 p1 k) follows Tryz.func17 (by kernel_rfl) (by kernel_rfl) (by kernel_rfl) (by kernel_rfl) h

end Go.Proofs.YtelhccfmfnaegaaGreat
end

section
/- The shallow reading of functions, printed by program (gen.py); the kernel compares each with the model's own. -/
set_option linter.unusedVariables false
namespace Go.Proofs.YtelhccfmfnaegaaGreat
open Go Go.Sh
/-- memoir.memoirtop.TopFloats -/
def sa4 : SA := .seq (.region (.take 0 .pure .nil)) (.seq (.region (.call 0 tPtr <| .take 1 .pure .nil)) (.seq (.seq (.region (.take 0 .pure <| .take 1 (.get tBool) <| .take 2 .pure <| .guard 20 (.pu 3 4 .nil) 24 [21, 22, 23] .nil)) (.cond (.seq (.region (.take 0 .pure <| .take 1 (.get tBool) <| .take 2 .pure <| .guard 27 (.call 3 tBool <| .take 4 .pure .nil) 29 [28] <| .take 5 .pure .nil)) (.none)) (.none))) (.seq (.region (.take 0 .pure <| .eff 1 tSl <| .take 2 .pure <| .eff 3 tAddr <| .effU 4 .nil)) (.seq (.region (.take 0 (.get (.one (.agg [.str, .slice, .int .i64]))) <| .take 1 .pure <| .eff 2 tSl <| .take 3 .pure <| .eff 4 tAddr <| .effU 5 .nil)) (.seq (.seq (.region (.take 0 .pure .nil)) (.block (.loop [(6, .leaf (.int .i64))] ([7] ++ rg 37 57) (.seq (.seq (.region (.pu 0 4 .nil)) (.cond (.none) (.none))) (.seq (.block (.seq (.region (.take 0 .pure <| .take 1 .pure <| .take 2 (.val tAddr) <| .take 3 (.get (.one (.leaf (.int .u64)))) <| .take 4 (.val (.one (.leaf .float))) <| .call 5 (.one (.agg [.int .i64, .int .i64, .int .u64, .str])) <| .eff 6 tAddr <| .effU 7 .nil)) (.region (.take 0 .pure <| .take 1 (.get tSl) <| .take 2 (.get (.one (.agg [.int .i64, .int .i64, .int .u64, .str]))) <| .eff 3 tSl <| .take 4 .pure <| .take 5 .pure <| .eff 6 tSl <| .eff 7 tSl <| .take 8 .pure <| .effU 9 .nil)))) (.region (.pu 0 3 .nil))))))) (.seq (.seq (.region (.take 0 .pure <| .take 1 (.get (.one (.agg [.int .i64, .int .i64, .slice]))) <| .call 2 tInt <| .take 3 .pure .nil)) (.cond (.seq (.region (.take 0 .pure .nil)) (.none)) (.none))) (.seq (.region (.take 0 .pure <| .take 1 .pure <| .call 2 (.tup [.leaf .slice, .leaf (.int .i64)]) <| .pu 3 5 .nil)) (.seq (.seq (.region (.take 0 .pure <| .take 1 .pure .nil)) (.cond (.seq (.region (.take 0 .pure .nil)) (.none)) (.none))) (.seq (.seq (.region (.take 0 .pure .nil)) (.block (.loop [(10, .leaf (.int .i64))] ([2] ++ rg 70 105) (.seq (.seq (.region (.pu 0 4 .nil)) (.cond (.none) (.none))) (.seq (.block (.seq (.draw (.take 0 .pure <| .take 1 .pure <| .take 2 (.val tAddr) <| .take 3 .pure <| .take 4 (.get tSl) <| .pu 5 3 <| .split 83 <| .pu 8 3 <| .split 86 <| .pu 11 3 <| .take 14 (.val tAddr) <| .take 15 .pure <| .take 16 (.get tSl) <| .take 17 (.val tAddr) <| .take 18 (.get (.one (.agg [.int .i64, .int .i64, .int .u64, .str]))) <| .take 19 .pure <| .take 20 .pure <| .take 21 (.val tAddr) <| .take 22 .pure <| .take 23 (.get tSl) <| .take 24 (.val tAddr) <| .take 25 (.get (.one (.agg [.int .i64, .int .i64, .int .u64, .str]))) <| .call 26 tInt [4, 16, 23] <| .pu 27 3 .nil)) (.cond (.seq (.region (.take 0 .pure .nil)) (.none)) (.none)))) (.region (.pu 0 3 .nil))))))) (.seq (.seq (.region (.take 0 .pure .nil)) (.block (.loop [(11, .leaf (.int .i64))] ([2] ++ rg 12 16 ++ rg 106 164) (.seq (.seq (.region (.pu 0 4 .nil)) (.cond (.none) (.none))) (.seq (.block (.seq (.region (.take 0 .pure <| .take 1 .pure <| .take 2 (.val tAddr) <| .take 3 (.get (.one (.leaf (.int .u64)))) <| .take 4 (.val (.one (.leaf .float))) <| .call 5 (.one (.agg [.int .i64, .int .i64, .int .u64, .str])) <| .eff 6 tAddr <| .effU 7 .nil)) (.seq (.region (.take 0 .pure .nil)) (.seq (.seq (.region (.take 0 .pure .nil)) (.block (.loop [(13, .leaf (.int .i64)), (14, .leaf (.int .i64))] (rg 118 134) (.seq (.seq (.region (.pu 0 4 .nil)) (.cond (.none) (.none))) (.join (.block (.seq (.draw (.take 0 .pure <| .take 1 .pure <| .take 2 (.val tAddr) <| .take 3 .pure <| .take 4 (.get tSl) <| .take 5 (.val tAddr) <| .take 6 (.get (.one (.agg [.int .i64, .int .i64, .int .u64, .str]))) <| .take 7 (.get (.one (.agg [.int .i64, .int .i64, .int .u64, .str]))) <| .call 8 tBool [4] .nil)) (.cond (.region (.pu 0 3 .nil)) (.none)))) [(13, .leaf (.int .i64))] (rg 124 134) (.region (.pu 0 3 .nil))))))) (.seq (.region (.take 0 .pure <| .take 1 (.get (.one (.agg [.int .i64, .int .i64, .int .u64, .str]))) <| .eff 2 tSl <| .take 3 .pure <| .call 4 (.tup [.leaf .slice, .leaf (.int .i64)]) <| .pu 5 5 .nil)) (.seq (.draw (.pu 0 3 <| .split 145 <| .pu 3 5 <| .split 150 <| .pu 8 4 <| .split 154 <| .take 12 .pure <| .take 13 (.val tAddr) <| .take 14 .pure <| .take 15 (.get tSl) <| .take 16 (.val tAddr) <| .take 17 (.get (.one (.agg [.int .i64, .int .i64, .int .u64, .str]))) <| .take 18 (.get (.one (.agg [.int .i64, .int .i64, .int .u64, .str]))) <| .call 19 tBool [15] <| .take 20 .pure <| .take 21 .pure .nil)) (.cond (.seq (.region (.take 0 .pure .nil)) (.none)) (.none)))))))) (.region (.pu 0 3 .nil))))))) (.seq (.region (.pu 0 6 <| .guard 170 (.call 6 tBool <| .take 7 .pure .nil) 172 [171] <| .take 8 .pure .nil)) (.none))))))))))))
def sh4 (p0 : Sl) (k : Bool → Pr) : Pr :=
  CL 13 #[] tPtr fun t17 =>
  GT (cmpN .eql 57 (.tmp 18) (.const (.pointer none)) (.pointer t17) (.pointer none)) tBool fun t19 =>
  JB (fun b24 =>
  CondP b24 (
  GT (cmpN .neq 57 (.tmp 25) (.const (.pointer none)) (.pointer t17) (.pointer none)) tBool fun t26 =>
  JB (fun b29 =>
  k b29) fun J_2 =>
  CondP t26 (
  CL 8 #[] tBool fun t28 =>
  J_2 t28) (
  J_2 false)) (
  BS 61 1 #[(0, .agg #[.string (⟨#[120]⟩), iv 3, .bool true])] fun t31 =>
  AL 63 fun t4 =>
  ST 63 t4 (.agg #[.string (⟨#[102]⟩), sv t31, iv 1]) <|
  LD 63 t4 (.one (.agg [.str, .slice, .int .i64])) fun t33 =>
  BS 66 1 #[(0, .agg #[iv 3, .string (⟨#[102]⟩), .slice none 0 0, iv 0, iv 0, .string t33.1, sv t33.2.1, iv t33.2.2.1])] fun t35 =>
  AL 68 fun t5 =>
  ST 68 t5 (.agg #[iv 1, iv 1, sv t35]) <|
  LoopP (S := Int) (fun next s => AnyP fun _ =>
  CondP (decide ((s : Int) < p0.len)) (
  IX 56 p0 s fun t45 =>
  LD 25 t45 (.one (.leaf (.int .u64))) fun t46 =>
  VL (callFunc 15 #[.int .u64 t46]) (.one (.leaf .float)) fun t47 =>
  CL 14 #[.float .f64 t47] (.one (.agg [.int .i64, .int .i64, .int .u64, .str])) fun t48 =>
  AL 27 fun t7 =>
  ST 27 t7 (ag [.int .i64, .int .i64, .int .u64, .str] t48) <|
  LD 66 (Addr.add t5 2) tSl fun t50 =>
  LD 27 t7 (.one (.agg [.int .i64, .int .i64, .int .u64, .str])) fun t51 =>
  BS 28 1 #[(0, ag [.int .i64, .int .i64, .int .u64, .str] t51)] fun t52 =>
  BS 66 1 #[(0, .agg #[iv 1, .string (⟨#[102]⟩), sv t52, iv 0, iv 1, .string (⟨#[]⟩), .slice none 0 0, iv 0])] fun t55 =>
  AP 66 66 66 t50 t55 fun t56 =>
  ST 66 (Addr.add t5 2) (sv t56) <|
  next (IntKind.i64.wrap (s + 1))) (
  LD 68 t5 (.one (.agg [.int .i64, .int .i64, .slice])) fun t59 =>
  CL 16 #[.pointer t17, ag [.int .i64, .int .i64, .slice] t59] tInt fun t60 =>
  CondP ((t60 : Int) != 0) (
  k false) (
  CL 17 #[.pointer t17, .agg #[iv 1, .string (⟨#[102]⟩), .slice none 0 0, iv 1, iv 0, iv 0, iv 0, .slice none 0 0, .slice none 0 0, iv 0, .bool false]] (.tup [.leaf .slice, .leaf (.int .i64)]) fun t65 =>
  CondP ((t65.2.1 : Int) != 0) (
  k false) (
  LoopP (S := Int) (fun next_2 s_2 => AnyP fun _ =>
  CondP (decide ((s_2 : Int) < t65.1.len)) (
  DrewP <|
  IX 30 t65.1 s_2 fun t78 =>
  LD 28 (Addr.add t78 5) tSl fun t80 =>
  CondP ((t80.len : Int) != 1) (
  CondP true (
  k false) (
  next_2 (IntKind.i64.wrap (s_2 + 1)))) (
  CondP (decide ((s_2 : Int) > 0)) (
  IX 30 t65.1 (IntKind.i64.wrap (s_2 - 1)) fun t90 =>
  LD 28 (Addr.add t90 5) tSl fun t92 =>
  IX 28 t92 0 fun t93 =>
  LD 27 t93 (.one (.agg [.int .i64, .int .i64, .int .u64, .str])) fun t94 =>
  IX 30 t65.1 s_2 fun t97 =>
  LD 28 (Addr.add t97 5) tSl fun t99 =>
  IX 28 t99 0 fun t100 =>
  LD 27 t100 (.one (.agg [.int .i64, .int .i64, .int .u64, .str])) fun t101 =>
  CL 18 #[ag [.int .i64, .int .i64, .int .u64, .str] t94, ag [.int .i64, .int .i64, .int .u64, .str] t101] tInt fun t102 =>
  LK 28 (Addr.add t78 5) (sv t80) <|
  LK 28 (Addr.add t90 5) (sv t92) <|
  LK 28 (Addr.add t97 5) (sv t99) <|
  CondP ((t102 : Int) != ((-1))) (
  k false) (
  next_2 (IntKind.i64.wrap (s_2 + 1)))) (
  CondP false (
  k false) (
  next_2 (IntKind.i64.wrap (s_2 + 1)))))) (
  LoopP (S := Int) (fun next_3 s_3 => AnyP fun _ =>
  CondP (decide ((s_3 : Int) < p0.len)) (
  IX 56 p0 s_3 fun t114 =>
  LD 25 t114 (.one (.leaf (.int .u64))) fun t115 =>
  VL (callFunc 15 #[.int .u64 t115]) (.one (.leaf .float)) fun t116 =>
  CL 14 #[.float .f64 t116] (.one (.agg [.int .i64, .int .i64, .int .u64, .str])) fun t117 =>
  AL 27 fun t12 =>
  ST 27 t12 (ag [.int .i64, .int .i64, .int .u64, .str] t117) <|
  LoopP (S := Int × Int) (fun next_4 s_4 => AnyP fun _ =>
  CondP (decide ((s_4.2 : Int) < t65.1.len)) (
  JoinP (S := Int) (fun s_5 => AnyP fun _ =>
  next_4 (s_5, IntKind.i64.wrap (s_4.2 + 1))) fun J_3 =>
  DrewP <|
  IX 30 t65.1 s_4.2 fun t126 =>
  LD 28 (Addr.add t126 5) tSl fun t128 =>
  IX 28 t128 0 fun t129 =>
  LD 27 t129 (.one (.agg [.int .i64, .int .i64, .int .u64, .str])) fun t130 =>
  LD 27 t12 (.one (.agg [.int .i64, .int .i64, .int .u64, .str])) fun t131 =>
  CL 19 #[ag [.int .i64, .int .i64, .int .u64, .str] t130, ag [.int .i64, .int .i64, .int .u64, .str] t131] tBool fun t132 =>
  LK 28 (Addr.add t126 5) (sv t128) <|
  CondP t132 (
  J_3 (IntKind.i64.wrap (s_4.1 + 1))) (
  J_3 s_4.1)) (
  LD 27 t12 (.one (.agg [.int .i64, .int .i64, .int .u64, .str])) fun t137 =>
  BS 28 1 #[(0, ag [.int .i64, .int .i64, .int .u64, .str] t137)] fun t138 =>
  CL 17 #[.pointer t17, .agg #[iv 4, .string (⟨#[102]⟩), sv t138, iv 0, iv 0, iv 0, iv 0, .slice none 0 0, .slice none 0 0, iv 0, .bool false]] (.tup [.leaf .slice, .leaf (.int .i64)]) fun t140 =>
  DrewP <|
  CondP ((s_4.1 : Int) != 1) (
  CondP true (
  CondP true (
  CondP true (
  k false) (
  next_3 (IntKind.i64.wrap (s_3 + 1)))) (
  IX 30 t140.1 0 fun t156 =>
  LD 28 (Addr.add t156 5) tSl fun t158 =>
  IX 28 t158 0 fun t159 =>
  LD 27 t159 (.one (.agg [.int .i64, .int .i64, .int .u64, .str])) fun t160 =>
  LD 27 t12 (.one (.agg [.int .i64, .int .i64, .int .u64, .str])) fun t161 =>
  CL 19 #[ag [.int .i64, .int .i64, .int .u64, .str] t160, ag [.int .i64, .int .i64, .int .u64, .str] t161] tBool fun t162 =>
  LK 28 (Addr.add t156 5) (sv t158) <|
  CondP (!t162) (
  k false) (
  next_3 (IntKind.i64.wrap (s_3 + 1))))) (
  CondP ((t140.2.1 : Int) != 0) (
  CondP true (
  k false) (
  next_3 (IntKind.i64.wrap (s_3 + 1)))) (
  IX 30 t140.1 0 fun t156_2 =>
  LD 28 (Addr.add t156_2 5) tSl fun t158_2 =>
  IX 28 t158_2 0 fun t159_2 =>
  LD 27 t159_2 (.one (.agg [.int .i64, .int .i64, .int .u64, .str])) fun t160_2 =>
  LD 27 t12 (.one (.agg [.int .i64, .int .i64, .int .u64, .str])) fun t161_2 =>
  CL 19 #[ag [.int .i64, .int .i64, .int .u64, .str] t160_2, ag [.int .i64, .int .i64, .int .u64, .str] t161_2] tBool fun t162_2 =>
  LK 28 (Addr.add t156_2 5) (sv t158_2) <|
  CondP (!t162_2) (
  k false) (
  next_3 (IntKind.i64.wrap (s_3 + 1)))))) (
  CondP ((t140.1.len : Int) != 1) (
  CondP true (
  CondP true (
  k false) (
  next_3 (IntKind.i64.wrap (s_3 + 1)))) (
  IX 30 t140.1 0 fun t156_3 =>
  LD 28 (Addr.add t156_3 5) tSl fun t158_3 =>
  IX 28 t158_3 0 fun t159_3 =>
  LD 27 t159_3 (.one (.agg [.int .i64, .int .i64, .int .u64, .str])) fun t160_3 =>
  LD 27 t12 (.one (.agg [.int .i64, .int .i64, .int .u64, .str])) fun t161_3 =>
  CL 19 #[ag [.int .i64, .int .i64, .int .u64, .str] t160_3, ag [.int .i64, .int .i64, .int .u64, .str] t161_3] tBool fun t162_3 =>
  LK 28 (Addr.add t156_3 5) (sv t158_3) <|
  CondP (!t162_3) (
  k false) (
  next_3 (IntKind.i64.wrap (s_3 + 1))))) (
  CondP ((t140.2.1 : Int) != 0) (
  CondP true (
  k false) (
  next_3 (IntKind.i64.wrap (s_3 + 1)))) (
  IX 30 t140.1 0 fun t156_4 =>
  LD 28 (Addr.add t156_4 5) tSl fun t158_4 =>
  IX 28 t158_4 0 fun t159_4 =>
  LD 27 t159_4 (.one (.agg [.int .i64, .int .i64, .int .u64, .str])) fun t160_4 =>
  LD 27 t12 (.one (.agg [.int .i64, .int .i64, .int .u64, .str])) fun t161_4 =>
  CL 19 #[ag [.int .i64, .int .i64, .int .u64, .str] t160_4, ag [.int .i64, .int .i64, .int .u64, .str] t161_4] tBool fun t162_4 =>
  LK 28 (Addr.add t156_4 5) (sv t158_4) <|
  CondP (!t162_4) (
  k false) (
  next_3 (IntKind.i64.wrap (s_3 + 1)))))))) (0, 0)) (
  JB (fun b172 =>
  k b172) fun J_4 =>
  CondP (decide ((t65.1.len : Int) ≤ p0.len)) (
  CL 8 #[] tBool fun t171 =>
  J_4 t171) (
  J_4 false))) 0)) 0)))) 0)) fun J =>
  CondP t19 (
  J true) (
  J (decide ((p0.len : Int) > 20)))
theorem rd4 (p0 : Sl) (k : Bool → Pr) (w : World) (h : sh4 p0 k w) :
    CL 4 #[sv p0] tBool k w :=
  CallP.of_eq (c := sa4.on (bodyOf Tryz.f4)) (S := sh4 p0 k) follows Tryz.func4 (by kernel_rfl) (by kernel_rfl) (by kernel_rfl) (by kernel_rfl) h

end Go.Proofs.YtelhccfmfnaegaaGreat
end
