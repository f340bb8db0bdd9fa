/- Lemmas for topAudits_holds. No conditions. -/
import Derived.Test.YtelhccfmfnaegaaGreatLi
set_option linter.unusedSectionVars false
set_option linter.unusedVariables false
set_option linter.unusedSimpArgs false
set_option linter.defProp false
set_option maxRecDepth 100000
namespace Go.Sh
def Mm:Nat->List Nat->List Nat×List Nat
 |n+1,a::m::l=>match Mm n l with|(r,b)=>((List.range (m+1)).map (a+·)++r,b)
 |_,l=>([],l)
def rV:List Nat->List Nat×List Nat
 |n::l=>Mm n l
 |[]=>([],[])
def Gf (C:List cE):Nat->List Nat->List (Tmp×cE)×List Nat
 |n+1,t::c::l=>match Gf C n l with|(r,a)=>((t,C.getD c (.leaf .raw))::r,a)
 |_,l=>([],l)
def ql (T:List Ty) (i:Nat):Ty:=T.getD i yK
def qO (T:List Ty) (N:List (List cE)):Nat->Nat->List Nat->Steps×Nat×List Nat
 |f+1,i,1::n::l=>match qO T N f (i+n) l with|(r,j,l)=>(.pu i n r,j,l)
 |f+1,i,2::t::l=>match qO T N f (i+1) l with|(r,j,l)=>(.take i (.val (ql T t)) r,j,l)
 |f+1,i,3::t::l=>match qO T N f (i+1) l with|(r,j,l)=>(.take i (.get (ql T t)) r,j,l)
 |f+1,i,4::t::l=>match qO T N f (i+1) l with|(r,j,l)=>(.nh i (ql T t) r,j,l)
 |f+1,i,5::l=>match qO T N f (i+1) l with|(r,j,l)=>(.ni i r,j,l)
 |f+1,i,6::t::l=>match qO T N f (i+1) l with|(r,j,l)=>(.call i (ql T t) r,j,l)
 |f+1,i,7::t::l=>match qO T N f (i+1) l with|(r,j,l)=>(.inv i (ql T t) r,j,l)
 |f+1,i,8::t::l=>match qO T N f (i+1) l with|(r,j,l)=>(.next i (N.getD t []) r,j,l)
 |f+1,i,9::g::p::l=>match rV l with
  |(a,l)=>match qO T N f i l with
   |(b,j,l)=>match qO T N f j l with|(r,j,l)=>(.guard g b p a r,j,l)
 |_,i,0::l=>(.nil,i,l)
 |_,i,l=>(.nil,i,l)
def nN (T:List Ty):Nat->List Nat->fS×List Nat
 |f+1,1::i::n::l=>match nN T f l with|(r,l)=>(.pu i n r,l)
 |f+1,2::i::t::l=>match nN T f l with|(r,l)=>(.take i (.val (ql T t)) r,l)
 |f+1,3::i::t::l=>match nN T f l with|(r,l)=>(.take i (.get (ql T t)) r,l)
 |f+1,4::i::t::l=>match rV l with|(c,l)=>match nN T f l with|(r,l)=>(.nh i (ql T t) c r,l)
 |f+1,5::i::l=>match rV l with|(c,l)=>match nN T f l with|(r,l)=>(.ni i c r,l)
 |f+1,6::i::t::l=>match rV l with|(c,l)=>match nN T f l with|(r,l)=>(.call i (ql T t) c r,l)
 |f+1,7::i::t::l=>match rV l with|(c,l)=>match nN T f l with|(r,l)=>(.inv i (ql T t) c r,l)
 |f+1,8::g::l=>match nN T f l with|(r,l)=>(.split g r,l)
 |f+1,9::l=>match nN T f l with|(a,l)=>match nN T f l with|(b,l)=>(.alt a b,l)
 |f+1,10::i::l=>match rV l with|(c,l)=>match nN T f l with|(r,l)=>(.now i .pure c r,l)
 |f+1,11::i::t::l=>match rV l with|(c,l)=>match nN T f l with|(r,l)=>(.now i (.val (ql T t)) c r,l)
 |f+1,12::i::t::l=>match rV l with|(c,l)=>match nN T f l with|(r,l)=>(.now i (.get (ql T t)) c r,l)
 |_,0::l=>(.nil,l)
 |_,l=>(.nil,l)
def rW (T:List Ty) (C:List cE) (N:List (List cE)):Nat->List Nat->SA×List Nat
 |_+1,1::l=>match qO T N 1000 0 l with|(r,_,l)=>(.region r,l)
 |_+1,2::l=>match nN T 1000 l with|(r,l)=>(.draw r,l)
 |f+1,3::l=>match rW T C N f l with|(a,l)=>match rW T C N f l with|(b,l)=>(.seq a b,l)
 |f+1,4::n::l=>match Gf C n l with
  |(v,l)=>match rV l with|(d,l)=>match rW T C N f l with|(a,l)=>match rW T C N f l with|(b,l)=>(.join a v d b,l)
 |f+1,5::l=>match rW T C N f l with|(a,l)=>match rW T C N f l with|(b,l)=>(.cond a b,l)
 |f+1,6::l=>match rW T C N f l with|(a,l)=>(.block a,l)
 |f+1,7::n::l=>match Gf C n l with|(v,l)=>match rV l with|(d,l)=>match rW T C N f l with|(a,l)=>(.loop v d a,l)
 |f+1,8::l=>match rW T C N f l with|(a,l)=>(.scope a,l)
 |_,0::l=>(.none,l)
 |_,l=>(.none,l)
def SA.dec (T:List Ty) (C:List cE) (N:List (List cE)) (l:List Nat):SA:=(rW T C N 1000 l).1
end Go.Sh
namespace Go.Proofs.YtelhccfmfnaegaaGreat
open Go Go.Sh Tryz
theorem follows:prog.follows .mixedOrders=true:=kK
abbrev aP:List bD:=[.int .i64,.int .i64,.int .u64,.str]
abbrev aC:List bD:=[.int .i64,.int .i64]
abbrev av:List bD:=[.int .i64,.int .i64,.slice]
abbrev bg:List bD:=[.int .i64,.int .i64,.int .i64,.int .i64,.slice]
abbrev bP:List bD:=[.int .i64,.str,.slice,.int .i64,.int .i64,.str,.slice,.int .i64]
abbrev aD:List bD:=[.str,.slice,.int .i64]
abbrev dj:List bD:=[.str,.int .i64,.bool]
abbrev bR:List bD:=[.int .i64,.str,.slice,.int .i64,.int .i64,.int .i64,.int .i64,.slice,.slice,.int .i64,.bool]
abbrev bC:List bD:=[.int .i64,.str,.slice,.int .i64]
abbrev gd:List bD:=[.str,.int .i64,.int .i64,.int .i64,.int .i64,.slice]
abbrev dq:List bD:=[.int .i64,.slice]
abbrev gQ:List bD:=[.int .i64,.str]
abbrev jI:List bD:=[.str,.str]
abbrev kr:List bD:=[.int .i64,.str,.str,.bool]
abbrev ya (l:List bD):Ty:=.one (.agg l)
abbrev au:Sl:=⟨none,0,0⟩
abbrev w6 (n:Int):Int:=IntKind.i64.wrap n
variable {α:Sort _} {f:FuncId} {fn:Func} {t:Ty} {k:t.den->Pr} {args:List Value} {w:World} {S:Pr}
abbrev Ay:α->Prop:=λ_=>False
abbrev pa (a:Addr):Value:=.pointer (some a)
abbrev sv (s:Sl):Value:=.slice s.a s.len s.cap
abbrev iv (n:Int):Value:=.int .i64 n
abbrev i8 (n:Int):Value:=.int .u8 n
abbrev ag (ls:List bD) (x:bK ls):Value:=.agg ⟨ay ls x⟩
abbrev VL (s:Sem Next) (t:Ty) (k:t.den->Pr):Pr:=fU prog s t k
abbrev GT (s:Sem Next) (t:Ty) (k:t.den->Pr):Pr:=dQ prog s t k
abbrev DP (s:Sem Next) (t:Ty) (k:t.den->Pr):Pr:=eT prog s t k
abbrev DU (s:Sem Next) (k:Pr):Pr:=lv prog s k
abbrev CL (f:FuncId) (args:Array Value) (t:Ty) (k:t.den->Pr):Pr:=kq prog f args t k
abbrev CK (s:Sem Next) (v:Value) (k:Pr):Pr:=oz prog s v k
abbrev IV (s:Sem Next) (t:Ty) (k:t.den->Pr):Pr:=oD prog s t k
abbrev NX (s:Sem Next) (t:List cE) (a:Pr) (b:vE t->Pr):Pr:=zp prog s t a b
abbrev LD (t:TypeId) (a:Addr) (b:Ty) (k:b.den->Pr):Pr:=dQ prog (vN (Instr.loadAt t (pa a))) b k
abbrev LK (t:TypeId) (a:Addr) (v:Value) (k:Pr):Pr:=oz prog (vN (Instr.loadAt t (pa a))) v k
abbrev ST (t:TypeId) (a:Addr) (v:Value) (k:Pr):Pr:=lv prog (uN (Instr.storeAt t (pa a) v)) k
abbrev IX (t:TypeId) (s:Sl) (i:Int) (k:Addr->Pr):Pr:=fU prog (vN (Instr.indexAt t (sv s) (iv i))) dB k
abbrev AL (t:TypeId) (k:Addr->Pr):Pr:=eT prog (vN (Instr.alloc t true (.tuple #[]))) dB k
abbrev BX (t:TypeId) (v:Value) (k:Addr->Pr):Pr:=eT prog (vN (Instr.box t v)) dB k
abbrev BS (t:TypeId) (n:Nat) (a:Array (Nat×Value)) (k:Sl->Pr):Pr:=eT prog (vN (Instr.buildSlice t n a)) aE k
abbrev AP (a b c:TypeId) (s t:Sl) (k:Sl->Pr):Pr:=eT prog (vN (Builtin.append_ #[a,b] c #[sv s,sv t])) aE k
abbrev NC (p:Option Addr) (k:Addr->Pr):Pr:=fU prog (Dv (.pointer p)) dB k
abbrev NA (a:Addr) (k:Addr->Pr):Pr:=fU prog (Dv (pa a)) dB k
abbrev JB (J:Bool->Pr) (a:(Bool->Pr)->Pr):Pr:=bZ (S:=Bool) (λb=>ba λ_=>J b) a
theorem rdk (c:fZ) (S:Pr) (e:prog.funcs[f]?=some fn) (h:S w)
  (g:fn.body=some c.erase:=by kernel_rfl) (b:codeOk fn.ntmps c=true:=by kernel_rfl) (a:Nat.ble args.length fn.ntmps=true:=by kernel_rfl)
  (d:D8 prog fn c t k args=S:=by kernel_rfl):kq prog f ⟨args⟩ t k w:=
 kq.of_eq follows e g b a d h
abbrev Y0:List bD:=[.int .i64,.int .i64,.int .i64,.slice,.str,.int .i64,.slice,.int .i64,.str,.slice,.int .i64,.int .i64,.int .i64,.int .i64,.slice,.slice,.int .i64,.bool]
abbrev Y1:List bD:=[.raw,.raw]
abbrev Y2:List bD:=[.int .i64,.int .i64,.int .i64,.map]
abbrev Y3:List bD:=[.int .i64,.int .i64,.int .i64,.int .i64,.int .u64,.str]
abbrev Y4:List bD:=.replicate 256 (.int .u32)
def tyT:List Ty:=[aI,aw,aE,an,dB,.aG [.leaf .slice,.leaf (.int .i64)],.one (.agg aC),.one (.agg Y0),.one (.agg aP),ah,.one (.agg bR),.one (.agg bP),.one (.agg av),cI,.aG [.agg jI,.leaf .slice],.aG [],.aG [.agg aD,.leaf (.int .i64)],.one (.agg aD),.one (.agg Y1),.one (.agg gd),.one (.leaf .float),.aG [.leaf .ptr,.leaf (.int .i64)],.aG [.leaf (.int .i64),.leaf (.int .i64)],.one (.leaf (.int .u64)),.one (.leaf (.int .u8)),.one (.agg Y2),.aG [.leaf .str,.leaf .ptr],.aG [.leaf .str,.leaf (.int .i64)],.one (.agg jI),.aG [.leaf .slice,.leaf .bool],.aG [.leaf .slice,.leaf .slice],.one (.agg bg),yK,.aG [.agg Y1,.leaf .bool],.aG [.leaf .str,.leaf .slice],.one (.agg bC),.one (.agg Y3),.aG [.leaf .str,.leaf (.int .i64),.leaf (.int .i64)],.one (.agg dj),.aG [.agg aC,.leaf .bool],.aG [.agg dq,.leaf .bool],.one (.agg dq),.one (.leaf (.int .u32)),.aG [.leaf .str,.leaf .bool],.aG [.agg av,.leaf (.int .i64)],.one (.agg gQ),.aG [.agg dq,.leaf (.int .i64)],.aG [.leaf .slice,.leaf .str,.leaf (.int .i64)],.aG [.leaf .map,.leaf .bool],.aG [.agg kr,.leaf .bool],.one (.agg kr),.one (.agg [.ptr]),.one (.agg Y4)]
def V6:List cE:=[.leaf (.int .i64),.leaf .slice,.leaf .str,.leaf .bool,.leaf .ptr,.leaf .raw,.leaf .addr,.leaf (.int .u64),.leaf (.int .u32)]
def V5:List (List cE):=[[.agg jI,.leaf .slice],[.leaf .str,.leaf .ptr],[.leaf .str,.leaf .slice],[.leaf (.int .i64),.leaf (.int .i32)]]
def dc (l:List Nat) (a:Func):fZ:=(SA.dec tyT V6 V5 l).on (ee a)
abbrev ZU:Ty:=.one (.leaf (.int .u64))
abbrev ZV:Ty:=.one (.leaf (.int .u8))
abbrev ZW:Ty:=.aG [.leaf .slice,.leaf (.int .i64)]
abbrev ZX:Ty:=.aG [.leaf .str,.leaf (.int .i64)]
abbrev aX (p:Option Addr) (n:TypeId) (j:Nat) (t:Ty) (k:t.den->Pr):Pr:=NC p λa=>LD n (Addr.add a j) t k
abbrev fG (p:Option Addr) (j:Nat) (k:Int->Pr):Pr:=NC p λa=>LD 3 (Addr.add a j) ah k
abbrev cW (n:TypeId) (a:Addr) (j:Nat) (t:Ty) (k:t.den->Pr):Pr:=LD n (Addr.add a j) t k
abbrev aS (a:Addr) (j:Nat) (k:Int->Pr):Pr:=LD 3 (Addr.add a j) ah k
abbrev dp (a:Addr) (j:Nat) (k:ByteArray->Pr):Pr:=LD 9 (Addr.add a j) an k
abbrev bA (n:TypeId) (a:Addr) (j:Nat) (k:Sl->Pr):Pr:=LD n (Addr.add a j) aE k
abbrev mr (n:TypeId) (a:Addr) (j:Nat) (k:Option Addr->Pr):Pr:=LD n (Addr.add a j) aI k
abbrev lW (n:TypeId) (a:Addr) (j:Nat) (k:Option Nat->Pr):Pr:=LD n (Addr.add a j) cI k
abbrev qK (a:Addr) (j:Nat) (k:Bool->Pr):Pr:=LD 4 (Addr.add a j) aw k
abbrev aO (n:TypeId) (a:Addr) (l:List bD) (k:bK l->Pr):Pr:=LD n a (ya l) k
abbrev aZ (n:TypeId) (a:Addr) (j:Nat) (v:Value) (k:Pr):Pr:=LK n (Addr.add a j) v k
abbrev cm (a:Addr) (j:Nat) (v:Int) (k:Pr):Pr:=LK 3 (Addr.add a j) (iv v) k
abbrev cG (n:TypeId) (a:Addr) (j:Nat) (v:Value) (k:Pr):Pr:=ST n (Addr.add a j) v k
abbrev mV (a:Addr) (j:Nat) (v:Int) (k:Pr):Pr:=ST 3 (Addr.add a j) (iv v) k
abbrev aW (n:FuncId) (p:Option Addr) (t:Ty) (k:t.den->Pr):Pr:=CL n #[.pointer p] t k
abbrev bL (n:FuncId) (p:Option Addr) (v:Value) (t:Ty) (k:t.den->Pr):Pr:=CL n #[.pointer p,v] t k
abbrev gF (a b:Int) (x y:Pr):Pr:=af (decide (a<b)) x y
abbrev bM (a b:Int) (x y:Pr):Pr:=ba λ_=>af (decide (a<b)) x y
abbrev bw (a b:Int) (x y:Pr):Pr:=af (a==b) x y
abbrev cr (a b:Int) (x y:Pr):Pr:=af (a !=b) x y
abbrev b7 (a:Bool) (x y:Pr):Pr:=af (!a) x y
abbrev cx (i j:Nat) (a b:ByteArray) (k:ByteArray->Pr):Pr:=VL (cL .add 9 (.tmp i) (.tmp j) (.string a) (.string b)) an k
abbrev fH (n:TypeId) (i:Nat) (a:Option Addr) (k:Bool->Pr):Pr:=GT (cL .eql n (.tmp i) (.const (.pointer none)) (.pointer a) (.pointer none)) aw k
abbrev ia (a:Sl) (k:ByteArray->Pr):Pr:=GT (vN (Go.convert 143 9 (sv a))) an k
abbrev oL (a:Addr) (n:TypeId) (l:List bD) (k:bK l->Pr):Pr:=GT (vN (gl [.cell (pa a) n])) (ya l) k
abbrev kZ (a:Addr) (l:List cE) (k:vE l->Pr):Pr:=GT (vN (Instr.entry (pa a))) (.aG l) k
abbrev iR (n:TypeId) (m:Option Nat) (a:ByteArray) (t:Ty) (k:t.den->Pr):Pr:=GT (vN (Instr.lookup n (.map m) (.string a) false)) t k
abbrev nI (a:ByteArray) (i:Int) (k:Int->Pr):Pr:=VL (vN (Instr.index 9 (.string a) (iv i))) (.one (.leaf (.int .u8))) k
abbrev wg (n:TypeId) (i j:Int) (k:Sl->Pr):Pr:=DP (vN (Instr.makeSlice n (iv i) (iv j))) aE k
abbrev cj (n:TypeId) (v:Value) (k:Sl->Pr):Pr:=BS n 1 #[(0,v)] k
abbrev aB (f:FuncId) (a:Array Value) (t:Ty) (k:t.den->Pr) (P:Pr):Prop:=∀{w:World},P w->CL f a t k w
def Q0:List (List Nat):=[[0],[3],[1],[6],[2],[9],[1,1],[1,3],[5],[4],[3,1,1,1],[5,0],[8],[10],[7],[2,4],[1,2],[1,1,0],[2,3],[4,4],[13],[3,6],[1,1,0,0],[4,1],[3,1],[3,1,1,1,0,3],[1,2,0],[2,1],[1,4],[3,1,1,2],[1,1,3,9],[3,2,1],[1,1,3,0],[0,3,1,1,2],[0,6,7],[3,1,1],[3,1,1,2,0,5],[0,1,1,2],[2,4,1,1],[1,1,3],[0,5,3,1,1,1,0,0],[3,1,1,3,0],[1,1,3,2],[3,1,4,4,1,1,0,3],[1,0,5,3,1,1,1,0,0,0],[3,1,1,1,3,9],[0,3,1,1,1,0,0],[6,9,1,1,0],[1,2,0,1,1],[0,5,3,1,1,2,0,0],[0,3,1,1,2,0,0],[3,1,1,1,2,4,1,1,3],[3,1,1,1,0,3,3,1,1,1],[5,0,0,3,6,3,1,2,4,3],[0,3,1,1,1,2,4,1,1,3],[0,1,2,1,4,1,2,1,3,3],[3,1,1,1,0,3,1,1,1],[0,3,3,1,1,3,0,6,7],[0,3,3,1,1,2,0,5,3,1],[1,1,0,5,3,1,1,1,0,0]]
def un:Nat->Nat->List Nat
 |0,_=>[]
 |f+1,n=>if n=0 then [] else if n%16<12 then Q0.getD (n%16) []++un f (n/16) else if n%16<15 then Q0.getD (12+16*(n%16-12)+n/16%16) []++un f (n/256) else (n/16%16*16+n/256%16)::un f (n/4096)
theorem rk (n:Nat) (d:prog.funcs[f]?=some fn)
 (e:fn.body=some (dc (un 2000 n) fn).erase:=by kernel_rfl) (b:codeOk fn.ntmps (dc (un 2000 n) fn)=true:=by kernel_rfl) (a:Nat.ble args.length fn.ntmps=true:=by kernel_rfl)
 (c:D8 prog fn (dc (un 2000 n) fn) t k args=S:=by kernel_rfl):aB f ⟨args⟩ t k S:=λh=>kq.of_eq follows d e b a c h
end Go.Proofs.YtelhccfmfnaegaaGreat
