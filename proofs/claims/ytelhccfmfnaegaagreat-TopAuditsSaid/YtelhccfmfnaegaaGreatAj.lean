/- Lemmas for topAudits_holds. No conditions. -/
import Derived.Test.YtelhccfmfnaegaaGreatAw
set_option linter.unusedSectionVars false
set_option linter.unusedVariables false
set_option linter.unusedSimpArgs false
set_option linter.defProp false
set_option maxRecDepth 100000
namespace Go.Sh
inductive SX where
 |pl (c:fZ)
 |sq (x y:SX)
 |rP (id:Nat) (x:SX)
 |rg (g:Operand) (body:SX)
def SX.erase:SX->Code
 |.pl c=>c.erase
 |.sq x y=>.seq x.erase y.erase
 |.rP id x=>.block id x.erase
 |.rg g b=>.rangeFunc g #[] .skip b.erase
def SX.ok (N:Nat):SX->Bool
 |.pl c=>codeOk N c
 |.sq x y=>x.ok N&&y.ok N
 |.rP _ x=>x.ok N
 |.rg _ b=>b.ok N
section
variable (P:Program)
structure rJ (l:Nat) (k:Pr) (w:World):Prop where
 out:∃w',(Instr.beginRound l).run P w=.ok () w'/\k w'
structure rM (l:Nat) (k:Pr) (w:World):Prop where
 out:∃w',(Instr.endRound l none).run P w=.ok (.bool true) w'/\k w'
structure rL (l:Nat) (k:Pr) (w:World):Prop where
 out:∃w',(Instr.endLoop l).run P w=.ok none w'/\k w'
structure v9 (D:Nat) (k:Pr) (w:World):Prop where
 out:∃w',(Instr.takeDeferred D).run P w=.ok [] w'/\k w'
structure pJ (gv:Value) (B:Nat->Pr->Pr) (k:Nat->Pr) (w:World):Prop where
 out:∃gf bd lb,gv=.func (.func gf) ⟨bd⟩ ⟨lb⟩/\(∀args w,(callFunc gf args).run P w=.ok (.enter gf args) w)/\∀rec:Loop,rec.state=.ready->rec.pending=none->rec.params.size=0->
  (∀l kb w',B l kb w'->RoundIn Fence.wide 0 P l rec.fn rec.tmps rec.assign rec.body w' λe IF=>e=.returned (.bool true)/\kb IF)->
  kq P gf ⟨bd++.func (.yield (w.heap.size+1)) #[] #[]::lb⟩ (.aG []) (λ_=>rL P (w.heap.size+1) (k w.heap.size)) ((w.alloc (.deferred (some []))).alloc (.loop rec))
structure zt (l0:Nat) (gv:Value) (B:Nat->Pr->Pr) (k:Pr) (w:World):Prop where
 out:∃gf bd lb r0,gv=.func (.func gf) ⟨bd⟩ ⟨lb⟩/\(∀args w,(callFunc gf args).run P w=.ok (.enter gf args) w)/\w.heap[l0]?=some (.loop r0)/\∀rec:Loop,rec.state=.ready->rec.pending=none->rec.params.size=0->
  (∀l kb w',B l kb w'->RoundIn Fence.wide 0 P l rec.fn rec.tmps rec.assign rec.body w' λe IF=>e=.returned (.bool true)/\kb IF)->
  kq P gf ⟨bd++.func (.yield w.heap.size) #[] #[]::lb⟩ (.aG []) (λ_=>rL P w.heap.size k) (w.alloc (.loop rec))
def Dw (f:Act->Pr):Exit->Act->Pr
 |.normal=>f
 |_=>λ_ _=>False
def SX.vc:SX->Option Nat->(Exit->Act->Pr)->Act->Pr
 |.pl c,_,Q,a=>Go.Sh.vc P c Q a
 |.sq x y,d,Q,a=>x.vc d (Exit.then (y.vc d Q) Q) a
 |.rP _ x,d,Q,a=>x.vc d (Dw (Q .normal)) a
 |.rg g b,none,Q,a=>pJ P (a.eval g) (λl e=>rJ P l (b.vc (some l) (Dw λ_=>rM P l e) {tmps:=a.tmps,defers:=[]})) (λD=>Q .normal {a with defers:={target:=.collected D,args:=#[]}::a.defers})
 |.rg g b,some f,Q,a=>zt P f (a.eval g) (λl e=>rJ P l (b.vc (some l) (Dw λ_=>rM P l e) {tmps:=a.tmps,defers:=[]})) (Q .normal a)
def Dl:List Deferred->Pr->Pr
 |[],k=>k
 |d::a,k=>match d.target with
  |.collected D=>v9 P D (Dl a k)
  |_=>λ_=>False
def abX (b:Func) (t:Ty) (k:t.den->Pr):Exit->Act->Pr
 |.normal,a|.ret,a=>Dl P a.defers (vA P b t k a)
 |_,_=>λ_=>False
end
variable {P:Program} {b:SX} {N l:Nat} {tmps:Array Value} {w:World} {fn:Func} {t:Ty} {a:Act} {f:FuncId} {x:SX} {ty:Ty} {args:List Value} {S:Pr} {D:Nat} {kb:Bool->Pr} {gv:Value} {gf:FuncId} {bd lb:List Value} {k:Pr} {l0:Nat} {r0:Loop} {L':List aK}
theorem P5 {fn:FuncId} {kb:Pr}
  (i:∀(Q:Exit->Act->Pr) (a:Act) (w:World),a.tmps.size=N->b.vc P (some l) Q a w->b.erase.wpIn (Fr (some l)) 0 P (λe f d=>Q e f d/\f.tmps.size=N) a w)
  (j:tmps.size=N) (h:rJ P l (b.vc P (some l) (Dw λ_=>rM P l kb) {tmps:=tmps,defers:=[]}) w):
  RoundIn Fence.wide 0 P l fn tmps .skip b.erase w λe d=>e=.returned (.bool true)/\kb d:=by
 obtain⟨g,m,n⟩:=h.out
 refine roundIn_of_wpIn trivial (wpIn_skip ?_)
 refine⟨g,m,?_⟩
 change b.erase.wpIn (Fr (some l)) 0 P _ _ g
 refine lq (i _ _ _ j n) λe t u ⟨c,_⟩=>?_
 cases e with
 |normal=>
  obtain⟨o,p,r⟩:=c.out
  exact⟨_,o,p,rfl,r⟩
 |_=>exact c.elim
theorem SX.sound (hm:P.follows .mixedOrders=true) {N:Nat}:∀(x:SX) (ro:Option Nat) (Q:Exit->Act->Pr) (a:Act) (w:World),x.ok N=true->a.tmps.size=N->x.vc P ro Q a w->x.erase.wpIn (Fr ro) 0 P (λe M t=>Q e M t/\M.tmps.size=N) a w
 |.pl c,ro,Q,a,w,f,i,h=>lq (mM (ro:=ro) hm c Q a w f i h) λe v z ⟨o,r⟩=>⟨o,r.2.1.trans i⟩
 |.sq x y,ro,Q,a,w,f,i,h=>by
  have n:x.ok N=true/\y.ok N=true:=by simpa[SX.ok]using f
  refine gz (lq (SX.sound hm x ro _ a w n.1 i h) λe v z ⟨o,r⟩=>?_)
  cases e with
  |normal=>exact SX.sound hm y ro Q v z n.2 r o
  |_=>exact⟨o,r⟩
 |.rP id x,ro,Q,a,w,f,i,h=>by
  refine vJ (lq (SX.sound hm x ro _ a w f i h) λe v z ⟨o,r⟩=>?_)
  cases e with
  |normal=>exact⟨o,r⟩
  |_=>exact o.elim
 |.rg g b,none,Q,a,w,f,i,h=>by
  obtain⟨u,j,m,A,C,h⟩:=h.out
  refine wpIn_rangeFunc λfn _=>?_
  obtain⟨rec,d⟩:∃rec:Loop,rec={state:=.ready,pending:=none,fn:=fn,tmps:=a.tmps,params:=#[],assign:=.skip,body:=b.erase,defers:=w.heap.size}:=⟨_,rfl⟩
  have D:=h rec (by rw[d]) (by rw[d]) (by rw[d];rfl) (λl O t F=>by
   rw[d]
   exact P5 (λQ a w=>SX.sound hm b (some l) Q a w f) i F)
  refine⟨w.heap.size+1,[{target:=.collected w.heap.size,args:=#[]}],(w.alloc (.deferred (some []))).alloc (.loop rec),{target:=.fn (.func u) ⟨m⟩,args:=⟨j⟩++#[.func (.yield (w.heap.size+1)) #[] #[]]},
   (w.alloc (.deferred (some []))).alloc (.loop rec),u,(⟨j⟩++#[.func (.yield (w.heap.size+1)) #[] #[]])++⟨m⟩,(w.alloc (.deferred (some []))).alloc (.loop rec),?_,?_,λ_ _=>trivial,?_,λh=>(by cases h),?_⟩
  .rw[d];exact run_enterLoop_outer _ _ _ _ _
  .simp only[resolve,A]
   simp[go_sem]
  .simp[invoke,go_sem,C]
  .refine mv.2 ?_
   have e:((⟨j⟩++#[.func (.yield (w.heap.size+1)) #[] #[]])++⟨m⟩:Array Value)=⟨j++.func (.yield (w.heap.size+1)) #[] #[]::m⟩:=by apply lr;simp
   rw[e]
   refine D.out.mono λe t ⟨x,p,G⟩=>?_
   subst p
   obtain⟨H,I,J⟩:=G.out
   exact⟨none,H,I,J,i⟩
 |.rg g b,some S,Q,a,w,f,i,h=>by
  obtain⟨u,j,m,R,A,C,K,h⟩:=h.out
  refine wpIn_rangeFunc λfn _=>?_
  obtain⟨rec,d⟩:∃rec:Loop,rec={state:=.ready,pending:=none,fn:=fn,tmps:=a.tmps,params:=#[],assign:=.skip,body:=b.erase,defers:=R.defers}:=⟨_,rfl⟩
  have D:=h rec (by rw[d]) (by rw[d]) (by rw[d];rfl) (λl O t F=>by
   rw[d]
   exact P5 (λQ a w=>SX.sound hm b (some l) Q a w f) i F)
  refine⟨w.heap.size,[],w.alloc (.loop rec),{target:=.fn (.func u) ⟨m⟩,args:=⟨j⟩++#[.func (.yield w.heap.size) #[] #[]]},
   w.alloc (.loop rec),u,(⟨j⟩++#[.func (.yield w.heap.size) #[] #[]])++⟨m⟩,w.alloc (.loop rec),?_,?_,λ_ _=>trivial,?_,λh=>(by cases h),?_⟩
  .rw[d];exact run_enterLoop_inner K _ _ _ _ _
  .simp only[resolve,A]
   simp[go_sem]
  .simp[invoke,go_sem,C]
  .refine mv.2 ?_
   have e:((⟨j⟩++#[.func (.yield w.heap.size) #[] #[]])++⟨m⟩:Array Value)=⟨j++.func (.yield w.heap.size) #[] #[]::m⟩:=by apply lr;simp
   rw[e]
   refine D.out.mono λe t ⟨x,p,G⟩=>?_
   subst p
   obtain⟨H,I,J⟩:=G.out
   exact⟨none,H,I,J,i⟩
def aje:=@SX.sound
theorem agT {k:t.den->Pr} (hr:vA P fn t k a w):∃v,(results fn a.tmps).run P w=.ok v w/\∃x,v=t.val x/\k x w:=by
 simp only[vA]at hr
 cases d:GJ fn with
 |true=>
  rw[d]at hr
  obtain⟨x,b,e⟩:=hr.out
  rw[xg]
  exact⟨t.val x,Ia b,x,rfl,e⟩
 |false=>
  rw[d]at hr
  dsimp only at hr
  cases c:aQ P (results fn a.tmps)with
  |none=>rw[c]at hr;exact hr.elim
  |some v=>
   rw[c]at hr
   dsimp only at hr
   cases b:t.parse v with
   |none=>rw[b]at hr;exact hr.elim
   |some x=>
    rw[b]at hr
    exact⟨v,cd _ c w,x,Ty.qV t v x b,hr⟩
theorem HE {fn:Func} {t:Ty} {k:t.den->Pr} {a:Act}:∀(b:List Deferred) (w:World),Dl P b (vA P fn t k a) w->LeavesInM Fence.wide 0 P fn a.tmps (λe c=>∃x,e=.returned (t.val x)/\k x c) b .returning w
 |[],w,h=>by
  obtain⟨v,g,x,rfl,i⟩:=agT h
  exact⟨_,g,x,rfl,i⟩
 |d::b,w,h=>by
  unfold Dl at h
  refine⟨sI,.inl ?_⟩
  cases f:d.target with
  |collected D=>
   rw[f]at h
   obtain⟨c,j,m⟩:=h.out
   exact⟨D,c,rfl,j,HE b c m⟩
  |_=>rw[f]at h;exact h.elim
theorem kq.O4 (hm:P.follows .mixedOrders=true) {k:ty.den->Pr}
  (g:P.funcs[f]?=some fn) (i:fn.body=some x.erase) (b:x.ok fn.ntmps=true) (a:Nat.ble args.length fn.ntmps=true)
  (c:x.vc P none (abX P fn ty k) {tmps:=⟨args++List.replicate (fn.ntmps-args.length) undef⟩,defers:=[]}=S) (h:S w):kq P f ⟨args⟩ ty k w:=by
 rw[<-c]at h
 have a:=xx a
 refine⟨callsIn_wide (n:=0).1 (callsIn_of_wp_marks g i trivial ?_)⟩
 have e:(⟨args⟩:Array Value)++Array.replicate (fn.ntmps-(⟨args⟩:Array Value).size) undef=(⟨args++List.replicate (fn.ntmps-args.length) undef⟩:Array Value):=by
  apply lr
  simp
 rw[e]
 refine lq (aje hm x none _ _ w b (by simp;omega) h) λe j m ⟨d,_⟩=>?_
 cases e with
 |normal=>exact HE _ _ d
 |ret=>exact HE _ _ d
 |_=>exact d.elim
variable {E:World} {L:List aK} {rec:Loop}
theorem rJ.go (h:ab E w (aT l (.loop rec)::L)) (hs:rec.state=.ready) (b:∀a,ab E a (aT l (.loop {rec with state:=.busy})::L)->k a):rJ P l k w:=by
 refine⟨_,?_,b _ h.set⟩
 simp[Instr.beginRound,Instr.getLoop,getObj,setObj,Sem.run,h.own,hs]
theorem rM.go (h:ab E w (aT l (.loop rec)::L)) (b:∀a,ab E a (aT l (.loop {rec with state:=.ready,pending:=none})::L)->k a):rM P l k w:=by
 refine⟨_,?_,b _ h.set⟩
 simp[Instr.endRound,Instr.getLoop,getObj,setObj,Sem.run,h.own]
theorem rL.go (h:ab E w (aT l (.loop rec)::L)) (hs:rec.state=.ready) (b:rec.pending=none) (c:∀a,ab E a L->k a):rL P l k w:=by
 refine⟨{w with heap:=w.heap.setIfInBounds l (.loop {rec with state:=.exhausted})},?_,c _ h.set.drop⟩
 simp[Instr.endLoop,Instr.getLoop,getObj,setObj,Sem.run,h.own,hs,b]
theorem v9.go (h:ab E w (aT D (.deferred (some []))::L)) (b:∀a,ab E a L->k a):v9 P D k w:=by
 refine⟨{w with heap:=w.heap.setIfInBounds D (.deferred none)},?_,b _ h.set.drop⟩
 simp[Instr.takeDeferred,getObj,setObj,Sem.run,h.own]
theorem oD.abd {B:Nat->Pr->Pr} (h:ab E w (aT l (.loop rec)::L)) (d:rec.params.size=0)
  (f:∀l kb a,B l kb a->RoundIn Fence.wide 0 P l rec.fn rec.tmps rec.assign rec.body a λe b=>e=.returned (.bool true)/\kb b)
  (g:B l (kb true) w):oD P (eW (.func (.yield l) #[] #[]) #[]) aw kb w:=by
 refine⟨.inl ⟨l,rec.fn,rec.tmps,rec.assign,rec.body,?_,(f l (kb true) w g).mono λe a ⟨i,j⟩=>⟨true,i,j⟩⟩⟩
 have c:rec.params=#[]:=I0 d
 simp[eW,Deferred.ofValue,invoke,Instr.yield,Instr.getLoop,getObj,Sem.run,h.own,c,go_sem]
theorem pJ.go {B:Nat->Pr->Pr} {k:Nat->Pr} (h:ab E w L) (f:gv=.func (.func gf) ⟨bd⟩ ⟨lb⟩)
  (g:∀args w,(callFunc gf args).run P w=.ok (.enter gf args) w)
  (hc:∀(l D:Nat) (rec:Loop) (a:World),rec.state=.ready->rec.pending=none->rec.params.size=0->
    (∀l c a,B l c a->RoundIn Fence.wide 0 P l rec.fn rec.tmps rec.assign rec.body a λe b=>e=.returned (.bool true)/\c b)->
    ab E a (aT l (.loop rec)::aT D (.deferred (some []))::L)->kq P gf ⟨bd++.func (.yield l) #[] #[]::lb⟩ (.aG []) (λ_=>rL P l (k D)) a):pJ P gv B k w:=by
 refine⟨gf,bd,lb,f,g,λrec i j m n=>?_⟩
 have p:=h.new (o:=.deferred (some []))
 have d:=p.new (o:=.loop rec)
 have e:({w with heap:=w.heap.push (.deferred (some []))}:World).heap.size=w.heap.size+1:=sI
 rw[e]at d
 exact hc _ _ rec _ i j m n d
theorem zt.go {B:Nat->Pr->Pr} (h:ab E w L) (p:b6 L (aT l0 (.loop r0)) L') (d:gv=.func (.func gf) ⟨bd⟩ ⟨lb⟩)
  (f:∀args w,(callFunc gf args).run P w=.ok (.enter gf args) w)
  (hc:∀(l:Nat) (rec:Loop) (a:World),rec.state=.ready->rec.pending=none->rec.params.size=0->
    (∀l c a,B l c a->RoundIn Fence.wide 0 P l rec.fn rec.tmps rec.assign rec.body a λe b=>e=.returned (.bool true)/\c b)->
    ab E a (aT l (.loop rec)::L)->kq P gf ⟨bd++.func (.yield l) #[] #[]::lb⟩ (.aG []) (λ_=>rL P l k) a):zt P l0 gv B k w:=by
 refine⟨gf,bd,lb,r0,d,f,(h.pick p).own,λrec g i j m=>?_⟩
 have n:=h.new (o:=.loop rec)
 exact hc _ rec _ g i j m n
def jn:List Nat->Code->Code
 |[],c=>c
 |0::p,.seq x _=>jn p x
 |1::p,.seq _ y=>jn p y
 |2::p,.block _ x=>jn p x
 |3::p,.rangeFunc _ _ _ b=>jn p b
 |_,c=>c
end Go.Sh
namespace Go.Proofs.YtelhccfmfnaegaaGreat
open Go Go.Sh Tryz
abbrev BG (l:Nat) (k:Pr):Pr:=rJ prog l k
abbrev ER (l:Nat) (k:Pr):Pr:=rM prog l k
abbrev LV (l:Nat) (k:Pr):Pr:=v9 prog l k
def kS:List Ty:=[dB,cI,.one (.agg [.ptr]),ah,aI,an,.aG [.agg aD,.leaf (.int .i64)],aE,.one (.agg bC),.one (.agg aC),.one (.agg bg),aw,.one (.agg aD)]
def kD:List cE:=[]
def kC:List (List cE):=[]
def ai0 (a:Func):SX:=.sq (.pl ((SA.dec kS kD kC [1,4,0,1,1,0]).on (jn [0] (ee a)))) (.sq (.pl ((SA.dec kS kD kC [1,4,1,1,1,4,0,4,0,5,0]).on (jn [1,0] (ee a)))) (.sq (.sq (.pl ((SA.dec kS kD kC [1,3,2,1,1,0]).on (jn [1,1,0,0] (ee a)))) (.rP 0 (.rg ((.tmp 12)) (.pl ((SA.dec kS kD kC [6,3,1,3,2,6,3,1,1,4,0,5,0,3,1,1,1,3,4,6,5,6,6,1,4,5,0,2,3,0,4,3,1,4,2,2,0,1,3,1,3,4,7,3,5,8,4,6,7,2,0,1,4,0,4,7,7,1,0,1,2,8,0,1,9,1,5,10,0,0]).on (jn [1,1,0,1,2,3] (ee a))))))) (.sq (.sq (.pl ((SA.dec kS kD kC [1,3,2,1,1,0]).on (jn [1,1,1,0,0] (ee a)))) (.rP 2 (.rg ((.tmp 35)) (.rP 3 (.sq (.pl ((SA.dec kS kD kC [1,1,1,3,4,6,5,1,1,0]).on (jn [1,1,1,0,1,2,3,2,0] (ee a)))) (.sq (.pl ((SA.dec kS kD kC [1,4,0,0]).on (jn [1,1,1,0,1,2,3,2,1,0] (ee a)))) (.sq (.sq (.pl ((SA.dec kS kD kC [1,3,2,1,1,0]).on (jn [1,1,1,0,1,2,3,2,1,1,0,0] (ee a)))) (.rP 4 (.rg ((.tmp 40)) (.pl ((SA.dec kS kD kC [6,3,1,3,2,6,9,1,1,4,0,5,0,3,1,3,2,6,9,1,2,5,0,3,1,1,1,3,4,6,7,1,2,5,0,1,3,7,3,10,4,7,4,7,5,0]).on (jn [1,1,1,0,1,2,3,2,1,1,0,1,2,3] (ee a))))))) (.pl ((SA.dec kS kD kC [2,3,0,4,2,1,0,1,2,1,3,3,1,1,4,1,3,5,7,5,6,0,0]).on (jn [1,1,1,0,1,2,3,2,1,1,1] (ee a))))))))))) (.pl ((SA.dec kS kD kC [3,1,3,4,1,1,0,0]).on (jn [1,1,1,1] (ee a)))))))
theorem ae1 (p0:(Option Addr×Unit)) (k:(Option Addr)->Pr) (w:World) (h:(BX 318 (.agg #[.pointer p0.1]) λa=>DP (vN (Instr.makeMap 113 none)) cI λt8=>BX 115 (.agg #[sv au,.map t8]) λt=>AL 116 λb=>ST 116 b (pa t)<|LD 318 a (.one (.agg [.ptr])) λu=>pJ prog (.func (.func 274) #[.agg #[.pointer u.1]] #[]) (λl j=>BG l<|LD 318 a (.one (.agg [.ptr])) λv=>CL 273 #[.agg #[.pointer v.1]] ah λy=>AL 191 λz=>ST 191 z (.agg #[iv y,.string (⟨#[]⟩),sv au,iv 0])<|LD 288 (Addr.add a 0) aI λA=>CL 284 #[.pointer A] an λC=>CL 283 #[.string C] (.aG [.agg aD,.leaf (.int .i64)]) λD=>ST 63 (Addr.add z 1) (ag aD D.1)<|aY<|LD 116 b aI λf=>LD 116 b aI λg=>NC g λm=>LD 112 (Addr.add m 0) aE λn=>LD 191 z (ya bC) λF=>BS 112 1 #[(0,ag bC F)] λG=>LK 116 b (.pointer f)<|LK 116 b (.pointer g)<|LK 112 (Addr.add m 0) (sv n)<|AP 112 112 112 n G λH=>LK 116 b (.pointer f)<|LK 116 b (.pointer g)<|NC f λI=>ST 112 (Addr.add I 0) (sv H)<|ER l j) λd=>LD 318 a (.one (.agg [.ptr])) λJ=>pJ prog (.func (.func 274) #[.agg #[.pointer J.1]] #[]) (λi c=>BG i<|LD 288 (Addr.add a 0) aI λK=>CL 284 #[.pointer K] an λM=>AL 109 λN=>LD 318 a (.one (.agg [.ptr])) λO=>zt prog i (.func (.func 274) #[.agg #[.pointer O.1]] #[]) (λo e=>BG o<|LD 318 a (.one (.agg [.ptr])) λP=>CL 304 #[.agg #[.pointer P.1]] (ya aC) λp=>AL 172 λr=>ST 172 r (.agg #[iv p.1,iv p.2.1,iv 0,iv 0,sv au])<|LD 318 a (.one (.agg [.ptr])) λQ=>CL 304 #[.agg #[.pointer Q.1]] (ya aC) λR=>ST 39 (Addr.add (Addr.add r 2) 0) (ag aC R)<|LD 288 (Addr.add a 0) aI λS=>CL 285 #[.pointer S] aE λT=>ST 28 (Addr.add (Addr.add r 2) 2) (sv T)<|LD 109 N aE λU=>LD 172 r (ya bg) λV=>BS 109 1 #[(0,ag bg V)] λW=>AP 109 109 109 U W λX=>ST 109 N (sv X)<|ER o e)<|aY<|LD 116 b aI λY=>NC Y λZ=>LD 113 (Addr.add Z 1) cI λt60=>LD 109 N aE λt62=>DU (uN (Instr.mapUpdate 113 (.map t60) (.string M) (sv t62)))<|ER i c) λCz=>LD 116 b aI λt63=>LV Cz<|LV d<|k t63) w):CL 275 #[.agg #[.pointer p0.1]] aI k w:=
 kq.O4 (x:=ai0 Tryz.f275) follows func275 kK kK kK kK h
def aiZ (a:Func):SX:=.sq (.pl ((SA.dec kS kD kC [1,1,2,0]).on (jn [0] (ee a)))) (.sq (.pl ((SA.dec kS kD kC [1,1,1,6,4,1,1,4,0,5,0]).on (jn [1,0] (ee a)))) (.sq (.pl ((SA.dec kS kD kC [1,6,4,4,0,5,0]).on (jn [1,1,0] (ee a)))) (.sq (.pl ((SA.dec kS kD kC [2,3,0,4,3,1,2,6,2,3,1,0,0,2,3,0,1,4,1,5,5,0,0]).on (jn [1,1,1,0] (ee a)))) (.sq (.pl ((SA.dec kS kD kC [2,3,0,4,3,1,2,6,2,3,1,0,0,1,3,1,2,4,0,1,5,1,5,6,0,0]).on (jn [1,1,1,1,0] (ee a)))) (.sq (.pl ((SA.dec kS kD kC [2,3,0,4,3,1,2,6,2,3,1,0,0,2,3,0,1,4,1,5,5,0,0]).on (jn [1,1,1,1,1,0] (ee a)))) (.sq (.pl ((SA.dec kS kD kC [2,3,0,4,2,1,0,1,2,1,3,3,3,1,4,1,1,5,1,8,33,3,6,4,2,7,0,1,8,1,3,9,3,1,10,3,8,40,3,13,4,2,14,0,1,15,1,3,16,3,3,17,4,2,18,0,1,19,1,3,20,3,1,21,3,4,24,0,7,0,0,3,0,6,0,9,0,13,0,16,1,20,0,5,25,0,0]).on (jn [1,1,1,1,1,1,0] (ee a)))) (.sq (.sq (.pl ((SA.dec kS kD kC [1,3,2,1,1,0]).on (jn [1,1,1,1,1,1,1,0,0] (ee a)))) (.rP 0 (.rg ((.tmp 53)) (.pl ((SA.dec kS kD kC [6,3,1,3,2,6,4,1,1,0,3,3,1,1,1,3,4,2,0,1,1,3,3,6,11,1,1,0,5,3,1,5,0,0,0,2,3,0,4,2,1,0,1,2,1,3,3,1,1,4,1,1,7,1,6,5,12,2,0,0,3,0,1,6,1,5,8,0,0]).on (jn [1,1,1,1,1,1,1,0,1,2,3] (ee a))))))) (.pl ((SA.dec kS kD kC [3,3,1,3,11,1,2,9,73,78,1,74,3,1,1,3,4,6,3,1,2,0,1,1,9,79,84,1,80,3,3,4,6,5,1,3,0,0,5,3,1,1,2,0,0,0,3,1,3,4,1,2,0,0]).on (jn [1,1,1,1,1,1,1,1] (ee a)))))))))))
theorem ad9 (p0:ByteArray) (k:(Option Addr×Int×Unit)->Pr) (w:World) (h:(CL 217 #[.string p0] aI λt9=>AL 318 λb=>ST 318 b (.agg #[.pointer t9])<|CL 13 #[] aI λt11=>AL 57 λa=>ST 57 a (.pointer t11)<|aY<|LD 57 a aI λt12=>LD 318 b (.one (.agg [.ptr])) λt13=>CL 273 #[.agg #[.pointer t13.1]] ah λt14=>LK 57 a (.pointer t12)<|NC t12 λt15=>ST 3 (Addr.add t15 0) (iv t14)<|aY<|LD 57 a aI λt17=>LD 318 b (.one (.agg [.ptr])) λt18=>CL 273 #[.agg #[.pointer t18.1]] ah λt19=>LK 57 a (.pointer t17)<|NC t17 λt21=>ST 3 (Addr.add t21 1) (iv (w6 (t19-1)))<|aY<|LD 57 a aI λt23=>LD 318 b (.one (.agg [.ptr])) λt24=>CL 273 #[.agg #[.pointer t24.1]] ah λt25=>LK 57 a (.pointer t23)<|NC t23 λt26=>ST 3 (Addr.add t26 2) (iv t25)<|aY<|LD 57 a aI λi=>NC i λj=>LD 3 (Addr.add j 0) ah λm=>af (decide ((m:Int)<=1099511627776)) (LD 57 a aI λP=>NC P λQ=>LD 3 (Addr.add Q 1) ah λR=>af (decide ((R:Int)<1099511627776)) (LD 57 a aI λt41=>NC t41 λt42=>LD 3 (Addr.add t42 2) ah λt44=>LD 57 a aI λt45=>NC t45 λt46=>LD 3 (Addr.add t46 1) ah λS=>AL 4 λt6=>LK 57 a (.pointer i)<|LK 3 (Addr.add j 0) (iv m)<|LK 57 a (.pointer P)<|LK 3 (Addr.add Q 1) (iv R)<|LK 57 a (.pointer t41)<|LK 3 (Addr.add t42 2) (iv t44)<|LK 57 a (.pointer t45)<|LK 3 (Addr.add t46 1) (iv S)<|ST 4 t6 (.bool (decide ((t44:Int)<=(if(S:Int)>0 then(S:Int)else(0:Int)))))<|LD 318 b (.one (.agg [.ptr])) λt52=>pJ prog (.func (.func 274) #[.agg #[.pointer t52.1]] #[]) (λl aav=>BG l<|LD 318 b (.one (.agg [.ptr])) λt54=>CL 275 #[.agg #[.pointer t54.1]] aI λT=>LD 57 a aI λt57=>NC t57 λt58=>LD 3 (Addr.add t58 1) ah λt60=>CL 276 #[.pointer T,iv t60] aw λt61=>af (!t61) (ST 4 t6 (.bool false)<|Ay) (aY<|LD 57 a aI λt63=>NC t63 λt64=>LD 99 (Addr.add t64 3) cI λt66=>CL 74 #[.pointer T] (ya aD) λt68=>LK 57 a (.pointer t63)<|LK 99 (Addr.add t64 3) (.map t66)<|DU (uN (Instr.mapUpdate 99 (.map t66) (.string t68.1) (.pointer T)))<|ER l aav)) λd=>LD 4 t6 aw λt71=>JB (λSU=>JB (λSZ=>af SZ (LV d<|k (none,7,())) (LD 57 a aI λt85=>LV d<|k (t85,0,()))) λqH=>af SU (qH true) (LD 57 a aI λt80=>CL 191 #[.pointer t80] an λt81=>qH (!(t81.toList==p0.toList)))) λJ=>af (!t71) (J true) (LD 288 (Addr.add b 0) aI λt75=>CL 220 #[.pointer t75] ah λt76=>J ((t76:Int) !=0))) (AL 4 λn=>LK 57 a (.pointer i)<|LK 3 (Addr.add j 0) (iv m)<|LK 57 a (.pointer P)<|LK 3 (Addr.add Q 1) (iv R)<|ST 4 n (.bool false)<|LD 318 b (.one (.agg [.ptr])) λU=>pJ prog (.func (.func 274) #[.agg #[.pointer U.1]] #[]) (λOu M=>BG Ou<|LD 318 b (.one (.agg [.ptr])) λV=>CL 275 #[.agg #[.pointer V.1]] aI λc=>LD 57 a aI λW=>NC W λX=>LD 3 (Addr.add X 1) ah λY=>CL 276 #[.pointer c,iv Y] aw λZ=>af (!Z) (ST 4 n (.bool false)<|Ay) (aY<|LD 57 a aI λo=>NC o λp=>LD 99 (Addr.add p 3) cI λr=>CL 74 #[.pointer c] (ya aD) λD3=>LK 57 a (.pointer o)<|LK 99 (Addr.add p 3) (.map r)<|DU (uN (Instr.mapUpdate 99 (.map r) (.string D3.1) (.pointer c)))<|ER Ou M)) λCz=>LD 4 n aw λIs=>JB (λSV=>JB (λS3=>af S3 (LV Cz<|k (none,7,())) (LD 57 a aI λah1=>LV Cz<|k (ah1,0,()))) λzl=>af SV (zl true) (LD 57 a aI λahV=>CL 191 #[.pointer ahV] an λahY=>zl (!(ahY.toList==p0.toList)))) λuG=>af (!Is) (uG true) (LD 288 (Addr.add b 0) aI λahP=>CL 220 #[.pointer ahP] ah λahS=>uG ((ahS:Int) !=0)))) (af false (LD 57 a aI λt=>NC t λu=>LD 3 (Addr.add u 2) ah λv=>LD 57 a aI λy=>NC y λz=>LD 3 (Addr.add z 1) ah λe=>AL 4 λA=>LK 57 a (.pointer i)<|LK 3 (Addr.add j 0) (iv m)<|LK 57 a (.pointer t)<|LK 3 (Addr.add u 2) (iv v)<|LK 57 a (.pointer y)<|LK 3 (Addr.add z 1) (iv e)<|ST 4 A (.bool (decide ((v:Int)<=(if(e:Int)>0 then(e:Int)else(0:Int)))))<|LD 318 b (.one (.agg [.ptr])) λahx=>pJ prog (.func (.func 274) #[.agg #[.pointer ahx.1]] #[]) (λOv N=>BG Ov<|LD 318 b (.one (.agg [.ptr])) λahz=>CL 275 #[.agg #[.pointer ahz.1]] aI λf=>LD 57 a aI λahB=>NC ahB λahD=>LD 3 (Addr.add ahD 1) ah λahF=>CL 276 #[.pointer f,iv ahF] aw λahH=>af (!ahH) (ST 4 A (.bool false)<|Ay) (aY<|LD 57 a aI λC=>NC C λD=>LD 99 (Addr.add D 3) cI λF=>CL 74 #[.pointer f] (ya aD) λahJ=>LK 57 a (.pointer C)<|LK 99 (Addr.add D 3) (.map F)<|DU (uN (Instr.mapUpdate 99 (.map F) (.string ahJ.1) (.pointer f)))<|ER Ov N)) λMn=>LD 4 A aw λahM=>JB (λSW=>JB (λS4=>af S4 (LV Mn<|k (none,7,())) (LD 57 a aI λah2=>LV Mn<|k (ah2,0,()))) λuH=>af SW (uH true) (LD 57 a aI λahW=>CL 191 #[.pointer ahW] an λahZ=>uH (!(ahZ.toList==p0.toList)))) λzm=>af (!ahM) (zm true) (LD 288 (Addr.add b 0) aI λahQ=>CL 220 #[.pointer ahQ] ah λahT=>zm ((ahT:Int) !=0))) (AL 4 λG=>LK 57 a (.pointer i)<|LK 3 (Addr.add j 0) (iv m)<|ST 4 G (.bool false)<|LD 318 b (.one (.agg [.ptr])) λahy=>pJ prog (.func (.func 274) #[.agg #[.pointer ahy.1]] #[]) (λOw O=>BG Ow<|LD 318 b (.one (.agg [.ptr])) λahA=>CL 275 #[.agg #[.pointer ahA.1]] aI λg=>LD 57 a aI λahC=>NC ahC λahE=>LD 3 (Addr.add ahE 1) ah λahG=>CL 276 #[.pointer g,iv ahG] aw λahI=>af (!ahI) (ST 4 G (.bool false)<|Ay) (aY<|LD 57 a aI λH=>NC H λI=>LD 99 (Addr.add I 3) cI λK=>CL 74 #[.pointer g] (ya aD) λahK=>LK 57 a (.pointer H)<|LK 99 (Addr.add I 3) (.map K)<|DU (uN (Instr.mapUpdate 99 (.map K) (.string ahK.1) (.pointer g)))<|ER Ow O)) λMo=>LD 4 G aw λahN=>JB (λSY=>JB (λS5=>af S5 (LV Mo<|k (none,7,())) (LD 57 a aI λah3=>LV Mo<|k (ah3,0,()))) λqI=>af SY (qI true) (LD 57 a aI λahX=>CL 191 #[.pointer ahX] an λah0=>qI (!(ah0.toList==p0.toList)))) λuI=>af (!ahN) (uI true) (LD 288 (Addr.add b 0) aI λahR=>CL 220 #[.pointer ahR] ah λahU=>uI ((ahU:Int) !=0))))) w):CL 222 #[.string p0] (.aG [.leaf .ptr,.leaf (.int .i64)]) k w:=
 kq.O4 (x:=aiZ Tryz.f222) follows func222 kK kK kK kK h
attribute [local irreducible] aT jC gk dV kO dg hex iT jk ae aj bG aN bq fL
abbrev vy (b:Nat):Value:=.agg #[.pointer (some ⟨b,0,none⟩)]
variable {rec:Loop} {b:Nat} {l rest:List UInt8} {pos:Nat} {m:Int} {X:Type} {rb lp:Nat} {ps:X->Nat} {co:X->List aK} {fa:Nat->X->Prop} {T:dO} {jz:List ByteArray} {nm:ByteArray} {s:bc} {bad:Bool} {k:ByteArray->Pr} {v:jf} {r:Row} {t:TR} {B0:b9}
theorem DK (a:rec.state=.ready) (b:rec.pending=none):({({rec with state:=.busy}:Loop)with state:=.ready,pending:=none}:Loop)=rec:=by
 cases rec;simp only at a b;subst a b;rfl
def pb (n:Int):Prop:=0<=n/\n<=1099511627776
theorem pb.n {n:Int} (h:pb n):o9 n:=⟨h.1,by have:=h.2;omega⟩
variable {E w:World} {L:List aK} {F G:bh}
theorem xQ {n:Int} {k:Int->Pr} (h:ab E w (be b l pos 0::L)) (c:l.length<=1000000000) (hd:l.drop pos=cM n++rest) (hn:pb n)
  (d:∀a,ab E a (be b l (pos+(cM n).length:Nat) 0::L)->k n a):CL 273 #[vy b] ah k w:=by
 have f:=hn.1
 have g:=hn.2
 refine aeZ (p0:=(some ⟨b,0,none⟩,())) ?_
 refine bx h λe w h=>?_
 refine ld (t:=288) (x:=some ⟨b,0,none⟩) (b:=e) (off:=0) h ?_
 refine nL (n:=n.toNat) (h.pick (A:=be b l pos 0) pK) c hd om λw h=>?_
 refine fin (d _ (h.sub sS)) ?_
 rw[ai om,bQ om];omega
theorem ai8:gq 39=⟨[iv 0,iv 0]⟩:=kK
theorem Lx {n:Int} {k:Int×Int×Unit->Pr} (h:ab E w (be b l pos 0::L)) (a:l.length<=1000000000) (hd:l.drop pos=cM n++(cM m++rest)) (hn:pb n) (hm:pb m)
  (e:∀c,ab E c (be b l (pos+(cM n).length+(cM m).length:Nat) 0::L)->k (n,m,()) c):CL 304 #[vy b] (ya aC) k w:=by
 refine afw (p0:=(some ⟨b,0,none⟩,())) ?_
 refine bx h λd w h=>?_
 refine al h λf w h=>?_
 rw[ai8]at h
 refine bN (t:=318) (ls:=[.ptr]) (x:=(some ⟨b,0,none⟩,())) (b:=d) h ?_
 refine xQ (n:=n) (h.pick (A:=be b l pos 0) pK) a hd hn λw h=>?_
 refine bN (t:=318) (ls:=[.ptr]) (x:=(some ⟨b,0,none⟩,())) (b:=d) h ?_
 refine xQ (n:=m) (rest:=rest) h a (fj hd) hm λw h=>?_
 refine bU (t:=39) (b:=f) h (λw h=>?_)
 refine pf (ls:=aC) (x:=(n,m,())) h ?_
 exact e _ (h.sub sS)
theorem Cm {n:Nat} {B:Nat->Pr->Pr} {k:Unit->Pr} (j:X)
  (h:ab E w (be rb l pos 0::aT lp (.loop rec)::co j)) (v:l.length<=1000000000) (hd:l.drop pos=aH n++rest) (hn:n<=1000000000) (y:rec.params.size=0) (C:fa 0 j) (m:ps j=pos+(aH n).length)
  (D:∀l f c,B l f c->RoundIn Fence.wide 0 prog l rec.fn rec.tmps rec.assign rec.body c λe a=>e=.returned (.bool true)/\f a)
  (H:∀(i:Nat) (x:X) (N:aK) (c:World) (f:Pr),i<n->fa i x->ab E c (be rb l (ps x) 0::aT lp (.loop rec)::N::co x)->(∀g a,fa (i+1) g->ab E a (be rb l (ps g) 0::aT lp (.loop rec)::N::co g)->f a)->B lp f c)
  (I:∀x c,fa n x->ab E c (be rb l (ps x) 0::aT lp (.loop rec)::co x)->k () c):CL 274 #[vy rb,.func (.yield lp) #[] #[]] (.aG []) k w:=by
 refine ae0 (p0:=(some ⟨rb,0,none⟩,())) ?_
 refine bx h λo w h=>?_
 refine ld (t:=288) (x:=some ⟨rb,0,none⟩) (b:=o) (off:=0) h ?_
 refine nL (n:=n) (h.pick (A:=be rb l pos 0) pK) v hd om λw h=>?_
 rw[<-m]at h
 refine gD (S:=Int) n (λi s w=>s=((n-i:Nat):Int)/\∃x,fa i x/\ab E w (be rb l (ps x) 0::aT lp (.loop rec)::lc o 318 [.pointer (some ⟨rb,0,none⟩)]::co x)) ⟨rfl,j,C,h.sub (.take .head (.take (.tail .head) (.take .head .done)))⟩ ?_
 rintro next s w i M ⟨rfl,x,u,h⟩ d
 refine ao λ_=>?_
 refine aL ?_
 refine ax (λp=>?_) (λp=>?_)
 .have cH:i<n:=by have J:((n-i:Nat):Int)>0:=cT p;omega
  refine ld (t:=288) (x:=some ⟨rb,0,none⟩) (b:=o) (off:=0) h ?_
  refine pO h λw h=>?_
  refine ao λ_=>?_
  refine aR rfl ?_
  refine oD.abd (h.pick (A:=aT lp (.loop rec)) (.tail .head)) y D ?_
  refine H i x _ w _ cH u h λg w r h=>?_
  refine ar rfl ?_
  have K:IntKind.u64.wrap (((n-i:Nat):Int)-1)=((n-(i+1):Nat):Int):=by
   have h:∀z:Int,IntKind.u64.wrap z=z%18446744073709551616:=λz=>rfl
   rw[h];omega
  rw[K]
  exact d cH _ _ ⟨rfl,g,r,h⟩
 .have cH:i=n:=by have J:¬((n-i:Nat):Int)>0:=cF p;omega
  subst cH
  refine ao λ_=>?_
  refine ar rfl ?_
  exact I x w u (h.sub (.take .head (.take .head (.skip .done))))
structure E1 (v:Vn):Prop where
 n1:pb v.1
 n2:pb v.2.1
 n3:pb v.2.2.1
 n4:pb v.2.2.2.1
 ro:dk v.2.2.2.2
 rr:v.2.2.2.2.all dM=true
 rl:v.2.2.2.2.length<=1000
structure EZ (T:dO):Prop where
 df:∀d∈T.defs,pb d.1/\dK d.2=true
 ky:∀k vs,T.keys k=some vs->(cY k).length<=1000000/\∀v∈vs,E1 v
theorem ai3:gq 109=⟨[sv au]⟩:=kK
theorem ai4:gq 116=⟨[.pointer none]⟩:=kK
abbrev X1:=Nat×bh×Sl×List zk
abbrev X2:=Nat×bh×List KE×Nat
abbrev X3:=Nat×bh×Sl×List (bK bg)
theorem U0 {k:Option Addr->Pr} (h:ab E w (be rb l pos 0::ae F::L)) (R:l.length<=1000000000) (hd:l.drop pos=ud jz T++rest) (hN:jd jz T.keys) (hZ:xK T) (hD:EZ T) (hC:kX T.keys 1000000)
  (hk:∀t G pos' w',l.drop pos'=rest->F.le G->t.nm=nm->oH G t T->ab E w' (be rb l pos' 0::ae G::bq t::L)->k (mL t) w'):CL 275 #[vy rb] aI k w:=by
 have tw:=hZ.dl
 have G0:jz.length<=1000000:=by
  obtain⟨ks,q1,q2⟩:=hC
  have:=lL hN.1.nodup (m:=ks) λy hy=>by
   obtain⟨v,U⟩:=Option.isSome_iff_exists.1 ((hN.2 y).1 hy)
   exact q2 y v U
  omega
 have e1:l.drop pos=aH T.defs.length++(T.defs.flatMap nO++(aH jz.length++(jz.flatMap (mE T.keys)++rest))):=by
  rw[hd];unfold ud wL;simp only[cP]
 refine ae1 (some ⟨rb,0,none⟩,()) _ _ ?_
 refine bx h λu w h=>?_
 refine nP h λm w h=>?_
 rw[<-qf (kl:=.str) (vl:=bH)]at h
 refine bx h λc w h=>?_
 refine al h λz w h=>?_
 rw[ai4]at h
 refine st (t:=116) (b:=z) (off:=0) h λw h=>?_
 refine bN (t:=318) (ls:=[.ptr]) (x:=(some ⟨rb,0,none⟩,())) (b:=u) h ?_
 have h:ab E w (lc u 318 [.pointer (some ⟨rb,0,none⟩)]::lc z 116 [.pointer (some ⟨c,0,none⟩)]::lc c 115 [sv au,.map (some m)]::bG .str bH m [] 0::be rb l pos 0::ae F::L):=h.sub sS
 refine pJ.go h (gf:=274) (bd:=[vy rb]) (lb:=[]) rfl (λargs w=>rfl) λl1 O rec w hs NS pW hR h=>?_
 have h:=fm (T:=112) (ls:=bC) h
 refine Cm (X:=X1) (rb:=rb) (lp:=l1) (n:=T.defs.length) (pos:=pos) (l:=l) (rec:=rec) (ps:=λx=>x.1)
  (co:=λx=>lc u 318 [.pointer (some ⟨rb,0,none⟩)]::lc z 116 [.pointer (some ⟨c,0,none⟩)]::lc c 115 [sv x.2.2.1,.map (some m)]::OS 112 bC x.2.2.1 x.2.2.2::bG .str bH m [] 0::aT O (.deferred (some []))::ae x.2.1::L)
  (fa:=λi x=>F.le x.2.1/\cw (DL x.2.1) x.2.2.2 (T.defs.take i)/\l.drop x.1=(T.defs.drop i).flatMap nO++(aH jz.length++(jz.flatMap (mE T.keys)++rest)))
  (pos+(aH T.defs.length).length,F,au,[]) (h.sub sS) R e1 om pW ⟨.refl _,.nil,fj e1⟩ rfl hR (λi x N w kb hi P h Ah=>?_) (λx w P h=>?_)
 .obtain⟨Q,G,g,a⟩:=x
  obtain⟨W,o,jw⟩:=P
  simp only at W o jw
  have h:ab E w (be rb l Q 0::aT l1 (.loop rec)::N::lc u 318 [.pointer (some ⟨rb,0,none⟩)]::lc z 116 [.pointer (some ⟨c,0,none⟩)]::lc c 115 [sv g,.map (some m)]::OS 112 bC g a::bG .str bH m [] 0::aT O (.deferred (some []))::ae G::L):=h
  have jl:=o.len
  rw[cn]at jl
  obtain⟨o1,o2⟩:=hD.df _ (cp hi)
  have yq:=tX T.defs[i].2
  rw[iB hi,fc,cP]at jw
  have yn:l.drop Q=cM T.defs[i].1++(cz (gm T.defs[i].2)++((T.defs.drop (i+1)).flatMap nO++(aH jz.length++(jz.flatMap (mE T.keys)++rest)))):=by
   rw[jw];unfold nO;simp only[cP]
  refine rJ.go (h.pick (A:=aT l1 (.loop rec)) pK) hs λw h=>?_
  refine bN (t:=318) (ls:=[.ptr]) (x:=(some ⟨rb,0,none⟩,())) (b:=u) h ?_
  refine xQ (n:=T.defs[i].1) (h.pick (A:=be rb l Q 0) pK) R yn o1 λw h=>?_
  refine al h λt4 w h=>?_
  refine bU (t:=191) (b:=t4) h (λw h=>?_)
  refine ld (t:=288) (x:=some ⟨rb,0,none⟩) (b:=u) (off:=0) h ?_
  refine wq (s:=gm T.defs[i].2) (h.pick (A:=be rb l (Q+(cM T.defs[i].1).length:Nat) 0) pK) R (fj yn) om λw h=>?_
  refine Ln (F:=G) (S:=T.defs[i].2) (h.pick (A:=ae G) pK) o2 λG2 p w nX hp h=>?_
  obtain⟨q1,q2,q3,⟨⟩⟩:=p
  refine yJ (t:=63) (b:=t4) (off:=1) h (λw h=>?_)
  have h:ab E w (lc t4 191 (ay bC (T.defs[i].1,q1,q2,q3,()))::ae G2::be rb l (Q+(cM T.defs[i].1).length+(cz (gm T.defs[i].2)).length:Nat) 0::aT l1 (.loop {rec with state:=.busy})::N::lc u 318 [.pointer (some ⟨rb,0,none⟩)]::lc z 116 [.pointer (some ⟨c,0,none⟩)]::lc c 115 [sv g,.map (some m)]::OS 112 bC g a::bG .str bH m [] 0::aT O (.deferred (some []))::L):=h.sub sS
  refine dr h λw h=>?_
  refine ld (t:=116) (x:=some ⟨c,0,none⟩) (b:=z) (off:=0) h ?_
  refine ld (t:=116) (x:=some ⟨c,0,none⟩) (b:=z) (off:=0) h ?_
  refine aq ?_
  refine ld (t:=112) (x:=g) (b:=c) (off:=0) h ?_
  refine bN (t:=191) (ls:=bC) (x:=(T.defs[i].1,q1,q2,q3,())) (b:=t4) h ?_
  refine bJ (T:=112) (ls:=bC) (y:=(T.defs[i].1,q1,q2,q3,())) h λdx w _ h=>?_
  refine lk (t:=116) (b:=z) (off:=0) h ?_
  refine lk (t:=116) (b:=z) (off:=0) h ?_
  refine lk (t:=112) (b:=c) (off:=0) h ?_
  refine eA (T:=112) (ls:=bC) (xs:=a) h om λWW w h=>?_
  refine lk (t:=116) (b:=z) (off:=0) h ?_
  refine lk (t:=116) (b:=z) (off:=0) h ?_
  refine aq ?_
  refine st (t:=112) (b:=c) (off:=0) h λw h=>?_
  refine rM.go (h.pick (A:=aT l1 (.loop {rec with state:=.busy})) pK) λw h=>?_
  rw[DK hs NS]at h
  refine Ah (Q+(cM T.defs[i].1).length+(cz (gm T.defs[i].2)).length,G2,WW,a++[(T.defs[i].1,q1,q2,q3,())]) w ⟨W.trans nX,?_,fj (fj yn)⟩ ?_
  .rw[lT hi]
   exact(o.imp λr d hh=>H2 _ _ _ _ nX hh).app (.one ⟨rfl,hp⟩)
  .exact h.sub sS
 obtain⟨Q,G1,g,a⟩:=x
 obtain⟨z3,o,jw⟩:=P
 simp only at z3 o jw
 rw[cB]at o
 rw[qv,xB,mQ]at jw
 have h:ab E w (be rb l Q 0::aT l1 (.loop rec)::lc u 318 [.pointer (some ⟨rb,0,none⟩)]::lc z 116 [.pointer (some ⟨c,0,none⟩)]::lc c 115 [sv g,.map (some m)]::OS 112 bC g a::bG .str bH m [] 0::aT O (.deferred (some []))::ae G1::L):=h
 refine rL.go (h.pick (A:=aT l1 (.loop rec)) pK) hs NS λw h=>?_
 refine bN (t:=318) (ls:=[.ptr]) (x:=(some ⟨rb,0,none⟩,())) (b:=u) h ?_
 refine pJ.go h (gf:=274) (bd:=[vy rb]) (lb:=[]) rfl (λargs w=>rfl) λY D2 e w pX NT Zq Ya h=>?_
 refine Cm (X:=X2) (rb:=rb) (lp:=Y) (n:=jz.length) (pos:=Q) (l:=l) (rec:=e) (ps:=λx=>x.1)
  (co:=λx=>lc u 318 [.pointer (some ⟨rb,0,none⟩)]::lc z 116 [.pointer (some ⟨c,0,none⟩)]::lc c 115 [sv g,.map (some m)]::OS 112 bC g a::bG .str bH m x.2.2.1 x.2.2.2::aT O (.deferred (some []))::aT D2 (.deferred (some []))::ae x.2.1::L)
  (fa:=λi x=>G1.le x.2.1/\gN x.2.1 x.2.2.1 x.2.2.2 (part _ T.keys (jz.take i))/\l.drop x.1=(jz.drop i).flatMap (mE T.keys)++rest)
  (Q+(aH jz.length).length,G1,[],0) (h.sub sS) R jw om Zq ⟨.refl _,by rw[uw,DE];exact gN.nil,fj jw⟩ rfl Ya (λi x N w kb hi P h Ah=>?_) (λx w P h=>?_)
 .obtain⟨p2,G,I,J⟩:=x
  obtain⟨W,hK,jw⟩:=P
  simp only at W hK jw
  have h:ab E w (be rb l p2 0::aT Y (.loop e)::N::lc u 318 [.pointer (some ⟨rb,0,none⟩)]::lc z 116 [.pointer (some ⟨c,0,none⟩)]::lc c 115 [sv g,.map (some m)]::OS 112 bC g a::bG .str bH m I J::aT O (.deferred (some []))::aT D2 (.deferred (some []))::ae G::L):=h
  obtain⟨Z,Dc⟩:=Option.isSome_iff_exists.1 ((hN.2 jz[i]).1 (cp hi))
  obtain⟨kl,kv⟩:=hD.ky _ _ Dc
  have Hq:=(hZ.ky _ _ Dc).2
  rw[iB hi,fc,cP]at jw
  have yn:l.drop p2=cz (cY jz[i])++(aH Z.length++(Z.flatMap qo++((jz.drop (i+1)).flatMap (mE T.keys)++rest))):=by
   rw[jw];unfold mE Dg;rw[Dc];simp only[cP,vX]
  refine rJ.go (h.pick (A:=aT Y (.loop e)) pK) pX λw h=>?_
  refine ld (t:=288) (x:=some ⟨rb,0,none⟩) (b:=u) (off:=0) h ?_
  refine wq (s:=cY jz[i]) (h.pick (A:=be rb l p2 0) pK) R yn kl λw h=>?_
  refine al h λt6 w h=>?_
  rw[ai3]at h
  refine bN (t:=318) (ls:=[.ptr]) (x:=(some ⟨rb,0,none⟩,())) (b:=u) h ?_
  have Nu:=fj yn
  refine zt.go (r0:={e with state:=.busy}) h pK (gf:=274) (bd:=[vy rb]) (lb:=[]) rfl (λargs w=>rfl) λl3 C w tE NU Zr Yb h=>?_
  have h:=fm (T:=109) (ls:=bg) h
  refine Cm (X:=X3) (rb:=rb) (lp:=l3) (n:=Z.length) (l:=l) (rec:=C) (ps:=λx=>x.1)
   (co:=λx=>lc t6 109 [sv x.2.2.1]::OS 109 bg x.2.2.1 x.2.2.2::aT Y (.loop {e with state:=.busy})::N::lc u 318 [.pointer (some ⟨rb,0,none⟩)]::lc z 116 [.pointer (some ⟨c,0,none⟩)]::lc c 115 [sv g,.map (some m)]::OS 112 bC g a::bG .str bH m I J::aT O (.deferred (some []))::aT D2 (.deferred (some []))::ae x.2.1::L)
   (fa:=λi2 x=>G.le x.2.1/\cw (jB x.2.1) x.2.2.2 (Z.take i2)/\l.drop x.1=(Z.drop i2).flatMap qo++((jz.drop (i+1)).flatMap (mE T.keys)++rest))
   (p2+(cz (cY jz[i])).length+(aH Z.length).length,G,au,[]) (h.sub sS) R Nu om Zr ⟨.refl _,.nil,fj Nu⟩ rfl Yb (λj x N2 w kb2 hj P h YT=>?_) (λx w P h=>?_)
  .obtain⟨p3,G3,s,rs⟩:=x
   obtain⟨D,f,jw⟩:=P
   simp only at D f jw
   have h:ab E w (be rb l p3 0::aT l3 (.loop C)::N2::lc t6 109 [sv s]::OS 109 bg s rs::aT Y (.loop {e with state:=.busy})::N::lc u 318 [.pointer (some ⟨rb,0,none⟩)]::lc z 116 [.pointer (some ⟨c,0,none⟩)]::lc c 115 [sv g,.map (some m)]::OS 112 bC g a::bG .str bH m I J::aT O (.deferred (some []))::aT D2 (.deferred (some []))::ae G3::L):=h
   have jl:=f.len
   rw[cn]at jl
   have U:=kv _ (cp hj)
   rw[iB hj,fc,cP]at jw
   generalize Z7:Z[j]=v at*
   generalize hRR:(Z.drop (j+1)).flatMap qo++((jz.drop (i+1)).flatMap (mE T.keys)++rest)=RR at*
   have u7:l.drop p3=cM v.1++(cM v.2.1++(cM v.2.2.1++(cM v.2.2.2.1++(jD v.2.2.2.2++RR)))):=by
    rw[jw];unfold qo;simp only[cP]
   refine rJ.go (h.pick (A:=aT l3 (.loop C)) pK) tE λw h=>?_
   refine bN (t:=318) (ls:=[.ptr]) (x:=(some ⟨rb,0,none⟩,())) (b:=u) h ?_
   refine Lx (n:=v.1) (m:=v.2.1) (h.pick (A:=be rb l p3 0) pK) R u7 U.n1 U.n2 λw h=>?_
   have z7:=fj (fj u7)
   refine al h λt7 w h=>?_
   refine bU (t:=172) (b:=t7) h (λw h=>?_)
   refine bN (t:=318) (ls:=[.ptr]) (x:=(some ⟨rb,0,none⟩,())) (b:=u) h ?_
   refine Lx (n:=v.2.2.1) (m:=v.2.2.2.1) (h.pick (A:=be rb l (p3+(cM v.1).length+(cM v.2.1).length:Nat) 0) pK) R z7 U.n3 U.n4 λw h=>?_
   have Nt:=fj (fj z7)
   refine yJ (t:=39) (b:=t7) (off:=2) h (λw h=>?_)
   refine ld (t:=288) (x:=some ⟨rb,0,none⟩) (b:=u) (off:=0) h ?_
   refine Lo (F:=G3) (r:=v.2.2.2.2) (h.bF (A1:=be rb l (p3+(cM v.1).length+(cM v.2.1).length+(cM v.2.2.1).length+(cM v.2.2.2.1).length:Nat) 0) (A2:=ae G3) pK pK) R Nt U.ro U.rr U.rl λG4 s5 w H C8 h=>?_
   refine st (t:=28) (b:=t7) (off:=4) h λw h=>?_
   refine ld (t:=109) (x:=s) (b:=t6) (off:=0) h ?_
   refine bN (t:=172) (ls:=bg) (x:=(v.1,v.2.1,v.2.2.1,v.2.2.2.1,s5,())) (b:=t7) h ?_
   refine bJ (T:=109) (ls:=bg) (y:=(v.1,v.2.1,v.2.2.1,v.2.2.2.1,s5,())) h λdx w _ h=>?_
   refine eA (T:=109) (ls:=bg) (xs:=rs) h om λs' w h=>?_
   refine st (t:=109) (b:=t6) (off:=0) h λw h=>?_
   refine rM.go (h.pick (A:=aT l3 (.loop {C with state:=.busy})) pK) λw h=>?_
   rw[DK tE NU]at h
   refine YT (p3+(cM v.1).length+(cM v.2.1).length+(cM v.2.2.1).length+(cM v.2.2.2.1).length+(jD v.2.2.2.2).length,G4,s',rs++[(v.1,v.2.1,v.2.2.1,v.2.2.2.1,s5,())]) w ⟨D.trans H,?_,?_⟩ (h.sub sS)
   .rw[lT hj,Z7]
    exact(f.imp λr d hh=>gw _ _ _ _ H hh).app (.one ⟨rfl,rfl,rfl,rfl,C8⟩)
   .exact fj Nt
  .obtain⟨p3,G3,s,rs⟩:=x
   obtain⟨D,f,jw⟩:=P
   simp only at D f jw
   rw[cB]at f
   rw[qv,xB,mQ]at jw
   have h:ab E w (be rb l p3 0::aT l3 (.loop C)::lc t6 109 [sv s]::OS 109 bg s rs::aT Y (.loop {e with state:=.busy})::N::lc u 318 [.pointer (some ⟨rb,0,none⟩)]::lc z 116 [.pointer (some ⟨c,0,none⟩)]::lc c 115 [sv g,.map (some m)]::OS 112 bC g a::bG .str bH m I J::aT O (.deferred (some []))::aT D2 (.deferred (some []))::ae G3::L):=h
   refine rL.go (h.pick (A:=aT l3 (.loop C)) pK) tE NU λw h=>?_
   refine dr h λw h=>?_
   refine ld (t:=116) (x:=some ⟨c,0,none⟩) (b:=z) (off:=0) h ?_
   refine aq ?_
   refine ld (t:=113) (x:=some m) (b:=c) (off:=1) h ?_
   refine ld (t:=109) (x:=s) (b:=t6) (off:=0) h ?_
   obtain⟨G4,H,h,r9⟩:=dT (T:=109) (ls:=bg) (s:=s) (F:=G3) h
   refine mw (kl:=.str) (vl:=bH) (K:=9) (V:=109) (x:=B (cY jz[i])) (v:=s) kK gi (h.pick (A:=bG .str bH m I J) pK) .head λw h=>?_
   refine rM.go (h.pick (A:=aT Y (.loop {e with state:=.busy})) pK) λw h=>?_
   rw[DK pX NT]at h
   have Db:jv G4 s Z:=⟨rs,r9,f.imp λr d hh=>gw _ _ _ _ H hh⟩
   refine Ah (p3,G4,fk fB (B (cY jz[i])) s I J,iU fB (B (cY jz[i])) I J) w ⟨(W.trans D).trans H,?_,jw⟩ (h.sub sS)
   rw[lT hi,DF,Dc]
   exact(hK.up (D.trans H)).set Db
 .obtain⟨p2,G,I,J⟩:=x
  obtain⟨W,hK,jw⟩:=P
  simp only at W hK jw
  rw[cB,DD T.keys jz (λy v hy=>(hN.2 y).2 (by rw[hy];rfl))]at hK
  rw[qv,xB,mQ]at jw
  have h:ab E w (be rb l p2 0::aT Y (.loop e)::lc u 318 [.pointer (some ⟨rb,0,none⟩)]::lc z 116 [.pointer (some ⟨c,0,none⟩)]::lc c 115 [sv g,.map (some m)]::OS 112 bC g a::bG .str bH m I J::aT O (.deferred (some []))::aT D2 (.deferred (some []))::ae G::L):=h
  refine rL.go (h.pick (A:=aT Y (.loop e)) pK) pX NT λw h=>?_
  refine ld (t:=116) (x:=some ⟨c,0,none⟩) (b:=z) (off:=0) h ?_
  refine v9.go (h.pick (A:=aT D2 (.deferred (some []))) pK) λw h=>?_
  refine v9.go (h.pick (A:=aT O (.deferred (some []))) pK) λw h=>?_
  have h:=mm (t:=⟨nm,c,g,a,m,I,J⟩) (h.sub (M:=dG c g m::OS 112 bC g a::bG .str bH m I J::be rb l p2 0::ae G::L) sS)
  exact hk ⟨nm,c,g,a,m,I,J⟩ G p2 w jw (z3.trans W) rfl ⟨o.imp λr d hh=>H2 _ _ _ _ W hh,hK⟩ (h.sub sS)
abbrev jx (b:Nat) (s:bc) (a:Bool):aK:=lc b 340 [.string (B s),.bool a]
def ye (b:UInt8):bc:=if b=0 then[0,255]else[b]
theorem W9 (s:bc):rY s=s.flatMap ye++[0,1]:=rfl
theorem SC (n:Nat) (c:9223372036854775808<=n) (d:n<18446744073709551616):IntKind.u64.wrap ((BitVec.ofInt IntKind.u64.bits (n:Int)&&&~~~BitVec.ofInt IntKind.u64.bits 9223372036854775808).toNat:Int)=((n-9223372036854775808:Nat):Int):=by
 have a:BitVec.ofInt IntKind.u64.bits (n:Int)=BitVec.ofNat 64 n:=by simp[IntKind.bits]
 have b: ~~~BitVec.ofInt IntKind.u64.bits 9223372036854775808=BitVec.ofNat 64 (2^63-1):=by
  show~~~BitVec.ofInt 64 9223372036854775808=BitVec.ofNat 64 (2^63-1)
  decide
 rw[a,b]
 show IntKind.u64.wrap (((BitVec.ofNat 64 n)&&&(BitVec.ofNat 64 (2^63-1))).toNat:Int)=_
 rw[vT,gW,gW,hU om,hU dE,R4,yY _ om]
 omega
def AZ (n:Nat):Nat:=if 9223372036854775808<=n then n-9223372036854775808 else 18446744073709551615-n
theorem ahs (h:b<18446744073709551616):AZ (pv b)=b:=by
 unfold AZ pv
 split<;>split<;>omega
theorem D5 (h:b<18446744073709551616):pv b<18446744073709551616:=by
 unfold pv;split<;>omega
theorem ai1 {n:Int} (h:-9223372036854775808<=n/\n<=9223372036854775807):w6 (IntKind.u64.wrap ((BitVec.ofInt IntKind.u64.bits (rn n:Int)^^^BitVec.ofInt IntKind.u64.bits 9223372036854775808).toNat:Int))=n:=by
 have d:=Rj h
 have a:∀m:Int,IntKind.u64.wrap m=m%18446744073709551616:=λm=>rfl
 generalize k:BitVec.ofInt IntKind.u64.bits 9223372036854775808=T at*
 generalize e:BitVec.ofInt IntKind.u64.bits (IntKind.u64.wrap n)=Y at*
 have f:(Y^^^T).toNat<18446744073709551616:=(Y^^^T).isLt
 have g:((Y^^^T).toNat:Int)=(rn n:Int):=by
  rw[<-d,a];omega
 have i:BitVec.ofInt IntKind.u64.bits (rn n:Int)=Y^^^T:=by
  rw[<-g]
  show BitVec.ofInt 64 (((Y^^^T).toNat:Nat):Int)=_
  rw[iQ,BitVec.ofNat_toNat];exact BitVec.setWidth_eq _
 rw[i,BitVec.xor_assoc,BitVec.xor_self,Jj]
 have j:(Y.toNat:Int)=n%18446744073709551616:=by
  rw[<-e,a]
  show((BitVec.ofInt 64 (n%18446744073709551616)).toNat:Int)=_
  rw[BitVec.toNat_ofInt]
  omega
 rw[j,a]
 have b:∀m:Int,w6 m=if(true&&decide (m%18446744073709551616>=9223372036854775808))=true then m%18446744073709551616-18446744073709551616 else m%18446744073709551616:=λm=>rfl
 rw[b]
 split
 .rename_i c
  simp only[hI,bX]at c
  omega
 .rename_i c
  simp only[hI,bX]at c
  omega
theorem uS {n:Nat} (h:ab E w (jx b s bad::L)) (hn:n<=s.length) (c:∀a,ab E a (jx b (s.drop n) bad::L)->k (B (s.take n)) a):CL 322 #[.pointer (some ⟨b,0,none⟩),iv (n:Int)] an k w:=by
 refine afM ?_
 refine aq ?_
 refine ld (t:=9) (x:=B s) (b:=b) (off:=0) h ?_
 refine ar (nW (by rw[cJ];omega)) ?_
 refine aq ?_
 refine ld (t:=9) (x:=B s) (b:=b) (off:=0) h ?_
 refine tS (m:=n) rfl hn ?_
 refine aq ?_
 refine ld (t:=9) (x:=B s) (b:=b) (off:=0) h ?_
 refine vC (m:=n) rfl hn ?_
 refine aq ?_
 refine st (t:=9) (b:=b) (off:=0) h λw h=>?_
 exact c _ h
theorem Vp {n:Nat} {k:Int->Pr} (h:ab E w L) (hn:n<18446744073709551616) (c:∀d,ab E d L->k ((AZ n:Nat):Int) d):CL 324 #[.int .u64 (n:Int)] (.one (.leaf (.int .u64))) k w:=by
 refine afO ?_
 rw[QT n hn]
 refine ax (λb=>?_) (λb=>?_)
 .have a:=lS b
  rw[SC n a hn]
  refine fin (c _ h) ?_
  unfold AZ;rw[ak a]
 .have a:=pB b
  rw[QU n hn]
  refine fin (c _ h) ?_
  unfold AZ;rw[ai a]
theorem LA {n:Nat} {rest:bc} {k:Int->Pr} (h:ab E w (jx b (dR 8 n++rest) bad::L)) (hn:n<18446744073709551616) (p:∀m,ab E m (jx b rest bad::L)->k (n:Int) m):CL 323 #[.pointer (some ⟨b,0,none⟩)] (.one (.leaf (.int .u64))) k w:=by
 have a:=jL 8 n
 refine afN ?_
 refine uS (n:=8) h (by simp;omega) λw h=>?_
 rw[show(dR 8 n++rest).drop 8=rest from Jz a]at h
 rw[show(dR 8 n++rest).take 8=dR 8 n from Ew a]
 refine xY h λt w c=>?_
 have l:t.len=8:=by obtain⟨_,_,_,_,_,e,_⟩:=c.out;rw[e,a]
 simp only[l]
 refine cy (S:=Int×Int) (cf:=λs=>s.2) 8 rfl (λi s w=>s.1=((n/2^(8*(8-i)):Nat):Int)/\BF E w (jx b rest bad::L) t (dR 8 n)) rfl ⟨?_,c⟩ ?_ ?_
 .have:n/2^(8*(8-0))=0:=Ju om
  rw[this];rfl
 .rintro next ⟨x,_⟩ w i o rfl ⟨rfl,c⟩ d
  have f:=zx 8 n i o
  have g:(dR 8 n)[i]'om=u8 ((n/2^(8*(8-1-i)):Nat):Int):=by
   rw[fA om]at f
   exact ja f
  refine c.ix (i:=i) om ?_
  rw[g]
  have eB:(((u8 ((n/2^(8*(8-1-i)):Nat):Int)).toNat:Nat):Int)=((n/2^(8*(8-1-i))%256:Nat):Int):=by
   have:u8 ((n/2^(8*(8-1-i)):Nat):Int)=u8 ((n/2^(8*(8-1-i))%256:Nat):Int):=by unfold u8;congr 2;omega
   rw[this,vF (qu _ dE)]
  rw[eB]
  refine jF (x:=IntKind.u64.wrap (((n/2^(8*(8-i)):Nat):Int)*2^8)) (If _ _ _ 8 om) ?_
  have j:n/2^(8*(8-i))=n/2^(8*(8-1-i))/256:=by
   rw[EH,show(256:Nat)=2^8 from rfl,<-Er,show 8*(8-1-i)+8=8*(8-i)by omega]
  have r:n/2^(8*(8-1-i))<18446744073709551616:=Jt (By _ _) om
  rw[j,O8 _ _ (qu _ dE) om]
  have u:n/2^(8*(8-1-i))/256*256+n/2^(8*(8-1-i))%256=n/2^(8*(8-(i+1))):=by
   rw[show 8-1-i=8-(i+1)by omega];omega
  rw[u]
  exact d _ _ (bV o om) ⟨rfl,c⟩
 .rintro⟨x,_⟩ w ⟨rfl,c⟩
  obtain⟨_,_,_,_,_,_,_,_,_,_,_,h⟩:=c.out
  refine fin (p _ h.drop) ?_
  simp
theorem Vq {rest:bc} (h:ab E w (jx b (rY s++rest) false::L)) (hs:s.length<=1000000) (v:∀u,ab E u (jx b rest false::L)->k (B s) u):CL 325 #[.pointer (some ⟨b,0,none⟩)] an k w:=by
 have c:(⟨#[0]⟩:ByteArray)=B [0]:=rfl
 have d:(⟨#[0,1]⟩:ByteArray)=B [0,1]:=rfl
 have p:(⟨#[0,255]⟩:ByteArray)=B [0,255]:=rfl
 refine afP ?_
 refine gD (S:=Sl) s.length (λi o w=>ab E w (OS 143 dW o (eh (s.take i))::jx b ((s.drop i).flatMap ye++[0,1]++rest) false::L)) (by
  rw[uw,mi,<-W9];exact fm h) ?_
 rintro next o w i C h a
 refine ao λ_=>?_
 refine aq ?_
 refine ld (t:=4) (x:=false) (b:=b) (off:=1) h ?_
 refine aR rfl ?_
 have h:=h.swap
 by_cases dy:i<s.length
 .rw[iB dy,fc]at h
  generalize D:(s.drop (i+1)).flatMap ye=R at*
  have f:s.take (i+1)=s.take i++[s[i]]:=lT dy
  by_cases j:s[i]=0
  .have g:ye s[i]++R++[0,1]++rest=0::255::(R++[0,1]++rest):=by rw[j];rfl
   rw[g]at h
   refine uS (n:=1) h sI λw h=>?_
   rw[show(0::255::(R++[0,1]++rest)).take 1=[0]from rfl,show(0::255::(R++[0,1]++rest)).drop 1=255::(R++[0,1]++rest)from rfl]at*
   refine ar (by rw[c,iK,eu rfl];rfl) ?_
   refine uS (n:=1) h sI λw h=>?_
   rw[show(255::(R++[0,1]++rest)).take 1=[255]from rfl,show(255::(R++[0,1]++rest)).drop 1=R++[0,1]++rest from rfl]at*
   refine cc sI ?_
   refine ar (by rw[d,iK,eM (λr=>by have:=pG.1 r;simp at this)]) ?_
   refine aR (by rw[p,iK];exact eu rfl) ?_
   refine bJ (T:=143) (ls:=dW) (y:=((0:Int),())) h λt w _ h=>?_
   refine eA (T:=143) (ls:=dW) (xs:=eh (s.take i)) h (by simp[eh];omega) λz w h=>?_
   refine a dy _ _ ?_
   have A:eh (s.take (i+1))=eh (s.take i)++[((0:Int),())]:=by rw[f,j];simp[eh]
   rw[A]
   exact h.sub sS
  .have g:ye s[i]++R++[0,1]++rest=s[i]::(R++[0,1]++rest):=by unfold ye;rw[ai j];rfl
   rw[g]at h
   refine uS (n:=1) h sI λw h=>?_
   rw[show(s[i]::(R++[0,1]++rest)).take 1=[s[i]]from rfl,show(s[i]::(R++[0,1]++rest)).drop 1=R++[0,1]++rest from rfl]at*
   refine aR (by rw[c,iK,eM (λr=>j (by have:=pG.1 r;simpa using this))];rfl) ?_
   refine E6 (l:=s.take i) (m:=[s[i]]) h pK (by simp;omega) λz w h=>?_
   refine a dy _ _ ?_
   rw[f]
   exact h.sub sS
 .have e:i=s.length:=om
  subst e
  rw[qv,xB,cB]at h
  have g:([]:bc)++[0,1]++rest=0::1::rest:=rfl
  rw[g]at h
  refine uS (n:=1) h sI λw h=>?_
  rw[show(0::1::rest).take 1=[(0:UInt8)]from rfl,show((0:UInt8)::1::rest).drop 1=1::rest from rfl]at*
  refine ar (by rw[c,iK,eu rfl];rfl) ?_
  refine uS (n:=1) h sI λw h=>?_
  rw[show((1:UInt8)::rest).take 1=[1]from rfl,show((1:UInt8)::rest).drop 1=rest from rfl]at*
  refine cc sI ?_
  refine aR (by rw[d,iK];exact eu rfl) ?_
  have h:=h.swap
  refine tr (e:=5) (bs:=s) kK kK kK ?_ (v _ h.drop)
  have:=h.iJ
  rw[pN]at this
  exact this
def AA (v:jf):bc:=if v.1=1 then[u8 v.2.1]else if v.1=2 then dR 8 (rn v.2.1)else if v.1=3 then dR 8 (pv v.2.2.1.toNat)else if v.1=4\/v.1=5 then rY v.2.2.2.1.data.toList else[]
theorem O5 (v:jf):m4 v=u8 (v.1+1)::AA v:=rfl
theorem Vk {rest:bc} {k:jf->Pr} (h:ab E w (jx b (m4 v++rest) false::L)) (hv:WV v) (hr:dM v=true)
  (y:∀t,ab E t (jx b rest false::L)->k v t):CL 316 #[.pointer (some ⟨b,0,none⟩)] (ya aP) k w:=by
 have l:=hv.b1
 have z:0<=v.1/\v.1<=5:=by rcases DN hr with rfl|⟨n,_,rfl⟩|⟨n,rfl⟩|⟨f,rfl⟩|⟨a,s,j,rfl,_⟩<;>simp only<;>omega
 have u:gq 27=⟨[iv 0,iv 0,.int .u64 0,.string ⟨#[]⟩]⟩:=kK
 refine afH ?_
 refine al h λd w h=>?_
 rw[u]at h
 rw[O5,nA]at h
 refine uS (h.pick (A:=jx b (u8 (v.1+1)::(AA v++rest)) false) pK) sI λw h=>?_
 rw[show(u8 (v.1+1)::(AA v++rest)).take 1=[u8 (v.1+1)]from rfl]
 rw[show(u8 (v.1+1)::(AA v++rest)).drop 1=AA v++rest from rfl]at h
 refine mJ sI ?_
 have C:w6 (w6 ((([u8 (v.1+1)][0]'sI).toNat:Nat):Int)-1)=v.1:=by
  obtain⟨m,D⟩:∃m:Nat,v.1+1=m:=⟨(v.1+1).toNat,om⟩
  rw[Bk,D,vF om,bQ (n:=(m:Int)) om,bQ om];omega
 rw[C]
 refine al h λg w h=>?_
 rw[u]at h
 refine bU h (λw h=>?_)
 refine br (λ_ w=>ab E w (lc g 27 (ay aP v)::lc d 27 [iv 0,iv 0,.int .u64 0,.string ⟨#[]⟩]::jx b rest false::L)) (λ_ w h=>?_) λJ o=>?_
 .refine ao λ_=>?_
  refine aq ?_
  refine ld h ?_
  refine aL ?_
  refine ar rfl ?_
  refine bN h ?_
  refine rR h (λw h=>?_) l.1
  rw[hr]
  refine ao λ_=>?_
  refine aq ?_
  refine st h λw h=>?_
  refine bN h ?_
  refine bU h (λw h=>?_)
  refine pf h ?_
  exact y _ (h.sub sS)
 refine ld h ?_
 rcases DN hr with rfl|⟨n,H,rfl⟩|⟨n,rfl⟩|⟨f,rfl⟩|⟨a,s,j,rfl,I⟩
 .refine ar rfl ?_
  refine ar rfl ?_
  refine ar rfl ?_
  refine aL ?_
  refine ar rfl ?_
  refine ao λ_=>?_
  refine ar rfl ?_
  exact o _ _ (h.sub sS)
 .refine aR rfl ?_
  have h:ab E w (lc g 27 [iv 1,iv 0,.int .u64 0,.string ⟨#[]⟩]::jx b (u8 n::rest) false::lc d 27 [iv 0,iv 0,.int .u64 0,.string ⟨#[]⟩]::L):=h
  refine uS (h.pick (A:=jx b (u8 n::rest) false) pK) sI λw h=>?_
  rw[show(u8 n::rest).take 1=[u8 n]from rfl]
  rw[show(u8 n::rest).drop 1=rest from rfl]at h
  refine mJ sI ?_
  have e:w6 ((([u8 n][0]'sI).toNat:Nat):Int)=n:=by
   rcases H with rfl|rfl<;>rfl
  rw[e]
  refine st h λw h=>?_
  exact o _ _ (h.sub sS)
 .refine ar rfl ?_
  refine aR rfl ?_
  have h:ab E w (lc g 27 [iv 2,iv 0,.int .u64 0,.string ⟨#[]⟩]::jx b (dR 8 (rn n)++rest) false::lc d 27 [iv 0,iv 0,.int .u64 0,.string ⟨#[]⟩]::L):=h
  refine LA (h.pick (A:=jx b (dR 8 (rn n)++rest) false) pK) (QP hv.n1) λw h=>?_
  rw[ai1 hv.n1]
  refine st h λw h=>?_
  exact o _ _ (h.sub sS)
 .refine ar rfl ?_
  refine ar rfl ?_
  refine aR rfl ?_
  simp only at l
  have i:f.toNat<18446744073709551616:=om
  have h:ab E w (lc g 27 [iv 3,iv 0,.int .u64 0,.string ⟨#[]⟩]::jx b (dR 8 (pv f.toNat)++rest) false::lc d 27 [iv 0,iv 0,.int .u64 0,.string ⟨#[]⟩]::L):=h
  refine LA (h.pick (A:=jx b (dR 8 (pv f.toNat)++rest) false) pK) (D5 i) λw h=>?_
  refine Vp h (D5 i) λw h=>?_
  rw[ahs i,show((f.toNat:Nat):Int)=f by omega]
  refine st h λw h=>?_
  exact o _ _ (h.sub sS)
 .have h:ab E w (lc g 27 [iv a,iv 0,.int .u64 0,.string ⟨#[]⟩]::jx b (rY s.data.toList++rest) false::lc d 27 [iv 0,iv 0,.int .u64 0,.string ⟨#[]⟩]::L):=by rcases j with rfl|rfl<;>exact h
  have n1:((a:Int)==1)=false:=by rcases j with rfl|rfl<;>rfl
  have n2:((a:Int)==2)=false:=by rcases j with rfl|rfl<;>rfl
  have n3:((a:Int)==3)=false:=by rcases j with rfl|rfl<;>rfl
  refine ar n1 ?_
  refine ar n2 ?_
  refine ar n3 ?_
  refine br (λ(c:Bool) w=>c=true/\ab E w (lc g 27 [iv a,iv 0,.int .u64 0,.string ⟨#[]⟩]::jx b (rY s.data.toList++rest) false::lc d 27 [iv 0,iv 0,.int .u64 0,.string ⟨#[]⟩]::L)) (λc w r=>?_) λK p=>?_
  .obtain⟨rfl,h⟩:=r
   refine ao λ_=>?_
   refine aR rfl ?_
   refine Vq (h.pick (A:=jx b (rY s.data.toList++rest) false) pK) om λw h=>?_
   refine st h λw h=>?_
   have h:ab E w (lc g 27 [iv a,iv 0,.int .u64 0,.string (B s.data.toList)]::jx b rest false::lc d 27 [iv 0,iv 0,.int .u64 0,.string ⟨#[]⟩]::L):=h
   exact o _ _ (h.sub sS)
  .refine ax ?_ ?_<;>intro x
   .exact p _ _ ⟨x,h⟩
   .refine p _ _ ⟨?_,h⟩
    rcases j with rfl|rfl
    .cases x
    .rfl
theorem Ve {k:Sl×Int×Unit->Pr} (h:ab E w L) (hr:dk r) (a:n8 r=true)
  (o:∀s m,ab E m (OS 28 aP s r::L)->k (s,0,()) m):CL 306 #[.string (B (keyOf r))] (.aG [.leaf .slice,.leaf (.int .i64)]) k w:=by
 have d:(⟨#[0]⟩:ByteArray)=B [0]:=rfl
 have f:(∀v∈r,dM v=true)/\r.length<=8:=by
  unfold n8 at a
  simpa only[bp,pD,bX]using a
 have p:keyOf r=r.flatMap m4++[0]:=by unfold keyOf;rw[ak a]
 rw[p]
 refine afy ?_
 refine bx h λb w h=>?_
 refine gD r.length (λi s w=>ab E w (OS 28 aP s (r.take i)::jx b ((r.drop i).flatMap m4++[0]) false::L)) (by
  rw[uw,mi];exact fm h) ?_
 rintro next s w i C h c
 refine ao λ_=>?_
 refine aq ?_
 refine ld h ?_
 refine aL ?_
 refine aR rfl ?_
 refine aq ?_
 by_cases dy:i<r.length
 .have n:=cp dy
  rw[iB dy,fc,cP]at h
  have g:r.take (i+1)=r.take i++[r[i]]:=lT dy
  generalize u:(r.drop (i+1)).flatMap m4++[0]=R at*
  have j:B (m4 r[i]++R)≠B [0]:=λx=>by
   have:=pG.1 x
   rw[O5,nA]at this
   have y:=gU List.length this
   simp only[db,aU,mO]at y
   have z:0<R.length:=by rw[<-u];simp
   omega
  refine ld h ?_
  refine ao λ_=>?_
  refine aR (by rw[d,iK,eM j];rfl) ?_
  refine Vk (h.pick (A:=jx b (m4 r[i]++R) false) pK) (hr.wv _ n) (f.1 _ n) λw h=>?_
  refine bJ h λt w _ h=>?_
  refine eA (ls:=aP) (xs:=r.take i) h (by rw[cn];omega) λD w h=>?_
  rw[<-g]at h
  have l:=fR h dE
  rw[cn]at l
  refine aq ?_
  refine ld h ?_
  refine aL ?_
  refine ar rfl ?_
  refine ao λ_=>?_
  rw[nW om]
  refine aq ?_
  refine st h λw h=>?_
  exact c dy _ _ (h.sub sS)
 .have e:i=r.length:=om
  subst e
  rw[qv,xB,cB]at h
  refine ld h ?_
  refine ao λ_=>?_
  refine ar (by rw[d,iK];show(!decide (B [0]=B [0]))=false;simp) ?_
  refine aq ?_
  refine ld h ?_
  refine ar rfl ?_
  exact o _ _ (h.sub sS)
structure BW (tm:Int) (T:dO):Prop where
 df:∀d∈T.defs,dK d.2=true/\d.1<=tm
 up:∀i (h:i+1<T.defs.length),(T.defs[i]'om).1<T.defs[i+1].1/\j5 (T.defs[i]'om).2 T.defs[i+1].2=true
 ky:∀k vs,T.keys k=some vs->(∃r,k=B (keyOf r)/\dk r/\n8 r=true/\nZ (dv T) r=true)/\vs≠[]/\gL vs=true/\qe vs<=tm/\∀v∈vs,(jq (dv T) v.2.2.2.2).2=0
theorem Vd {tm:Int} {k:Bool->Pr} (h:ab E w (ae F::bq t::L)) (C:oH F t T) (M:xK T) (N:BW tm T) (V:∀O,ab E O (ae F::bq t::L)->k true O):CL 305 #[.pointer (mL t),iv tm] aw k w:=by
 have h:=ox (h.pick (A:=bq t) pK)
 have D:=C.df.len
 have W:=M.dl
 have X:=M.ne
 have p:t.ds.len=T.defs.length:=by
  have:=fR (h.pick (A:=OS 112 bC t.ds t.bB) pK) dE
  rw[this,D]
 refine afx ?_
 refine aq ?_
 refine ld (t:=112) (x:=t.ds) (b:=t.b) (off:=0) h ?_
 simp only[p]
 refine cy (S:=Int) (cf:=λs=>s) T.defs.length rfl (λi _ w=>ab E w (dG t.b t.ds t.m::OS 112 bC t.ds t.bB::bG .str bH t.m t.es t.ck::ae F::L)) rfl h ?_ ?_
 .rintro next _ w i u rfl h e
  have g:i<t.bB.length:=om
  obtain⟨n,v⟩:=C.df.get i g u
  obtain⟨Y,Z⟩:=N.df _ (cp u)
  refine eO (T:=112) (ls:=bC) (xs:=t.bB) (i:=i) h pK g (λa ha=>?_) rfl
  refine oV (T:=112) (ls:=bC) (xs:=t.bB) (i:=i) h pK ha g ?_
  generalize Zx:t.bB[i]=r at*
  obtain⟨H,P,Q,R,⟨⟩⟩:=r
  simp only at n
  refine al h λo w h=>?_
  refine bU (t:=191) (b:=o) h (λw h=>?_)
  refine fK (t:=63) (ls:=aD) (b:=o) (off:=1) (x:=(P,Q,R,())) h ?_
  refine wj (F:=F) (S:=T.defs[i].2) (h.pick (A:=ae F) pK) v λw h=>?_
  rw[Y]
  refine aL ?_
  refine ar rfl ?_
  refine ld (t:=3) (x:=H) (b:=o) (off:=0) h ?_
  refine ao λ_=>?_
  refine ar (nW (by rw[n];exact Z)) ?_
  refine dr h λw h=>?_
  refine ax (λhc=>?_) (λhc=>?_)
  .have hi0:0<i:=by have h1:(i:Int)>0:=cT hc;omega
   obtain⟨d,rfl⟩:∃d,i=d+1:=⟨i-1,om⟩
   have c:d<t.bB.length:=om
   obtain⟨u1,u2⟩:=N.up d u
   obtain⟨I,J⟩:=C.df.get d c om
   have U:w6 (((d+1:Nat):Int)-1)=((d:Nat):Int):=by rw[bQ om];omega
   refine ld (t:=3) (x:=H) (b:=o) (off:=0) h ?_
   refine aq ?_
   refine ld (t:=112) (x:=t.ds) (b:=t.b) (off:=0) h ?_
   refine eO (T:=112) (ls:=bC) (xs:=t.bB) (i:=d) h pK c (λa1 y=>?_) U
   have f:(ay bC (t.bB[d]'c))[0]?=some ((bD.int .i64).val (t.bB[d]'c).1):=rfl
   refine kH (T:=112) (ls:=bC) (i:=d) (l:=.int .i64) (j:=0) (x:=(t.bB[d]'c).1) h pK y c ?_ (hc:=f)
   have z:¬(H:Int)<=(t.bB[d]'c).1:=by rw[n,I];omega
   refine ar (eM z) ?_
   refine aq ?_
   refine ld (t:=112) (x:=t.ds) (b:=t.b) (off:=0) h ?_
   refine eO (T:=112) (ls:=bC) (xs:=t.bB) (i:=d) h pK c (λa2 K=>?_) U
   refine MZ (T:=112) (ls:=bC) (ms:=aD) (j:=1) (x:=(t.bB[d]'c).2) h pK (K.add 1) c ?_
   refine fK (t:=63) (ls:=aD) (b:=o) (off:=1) (x:=(P,Q,R,())) h ?_
   refine Ki (F:=F) (A:=T.defs[d].2) (B:=T.defs[d+1].2) (h.pick (A:=ae F) pK) J v λw h=>?_
   rw[u2]
   refine lk (t:=3) (b:=o) (off:=0) h ?_
   refine lk (t:=112) (b:=t.b) (off:=0) h ?_
   refine lz (t:=ah) (kH (T:=112) (ls:=bC) (i:=d) (l:=.int .i64) (j:=0) (x:=(t.bB[d]'c).1) h pK y c rfl (hc:=f)) ?_
   refine lk (t:=112) (b:=t.b) (off:=0) h ?_
   refine ar rfl ?_
   exact e _ _ (bV u om) (h.sub sS)
  .refine ar rfl ?_
   exact e _ _ (bV u om) (h.sub sS)
 .rintro _ w h
  refine aq ?_
  refine ld (t:=112) (x:=t.ds) (b:=t.b) (off:=0) h ?_
  rw[GB (by rw[p];omega)]
  exact V _ ((mm h).sub sS)
theorem U1 {tm:Int} {k:Bool->Pr} (h:ab E w (ae F::bq t::L)) (C:oH F t T) (hZ:xK T) (hG:BW tm T) (hk:∀G w',F.le G->ab E w' (ae G::bq t::L)->k true w'):CL 276 #[.pointer (mL t),iv tm] aw k w:=by
 have tw:=C.df.len
 have Ap:=hZ.dl
 obtain⟨J,r0,yc,v,er,ed,N,O⟩:=cw.AW C.df hZ.ne
 have d:dv T=v.2:=by
  have:T=⟨yc++[v],T.keys⟩:=by rw[<-ed]
  rw[this];unfold dv;rw[wZ]
 have jl:t.bB.length=J.length+1:=by rw[er];simp
 have f:t.bB[t.bB.length-1]'om=r0:=by
  have:t.bB.length-1=J.length:=om
  simp only[this,er];simp
 have z6:dK v.2=true:=(hG.df v (by rw[ed];simp)).1
 have CQ:v.2.2.2<=v.2.2.1.length:=(mb z6).2.1
 refine ae2 ?_
 refine Vd (F:=F) h C hZ hG λw h=>?_
 refine ar rfl ?_
 have h:=ox (h.pick (A:=bq t) pK)
 refine aL ?_
 refine aq ?_
 refine ld (t:=113) (x:=some t.m) (b:=t.b) (off:=1) h ?_
 refine wF (K:=9) (V:=109) h pK kK λr w h=>?_
 refine sX (λn _ w=>∃seen G,n=lP t.es seen/\F.le G/\ab E w (aT r (.mapIter (some t.m) t.ck seen t.ck)::bG .str bH t.m t.es t.ck::dG t.b t.ds t.m::OS 112 bC t.ds t.bB::ae G::L)) (lP t.es #[]) ⟨#[],F,rfl,.refl _,h.sub sS⟩ ?_
 rintro n next s w ⟨seen,G,rfl,c,h⟩ D
 refine ao λ_=>?_
 refine w9 h C.ky.st (λN=>?_) (λe he vh w h=>?_)
 .refine ar rfl ?_
  refine ao λ_=>?_
  exact hk G w c ((mm (h.sub (M:=dG t.b t.ds t.m::OS 112 bC t.ds t.bB::bG .str bH t.m t.es t.ck::ae G::L) sS)).sub sS)
 have jQ:=sm ji C.ky.nd he
 have P:iE (jv F) (dz fB e.key t.es) (T.keys e.key):=C.ky.at_ e.key
 rw[jQ]at P
 obtain⟨vs,Q,R⟩:=BD P
 obtain⟨⟨row,U,Ak,Hg,W⟩,X,Z6,Hq,Z9⟩:=hG.ky _ _ Q
 obtain⟨g,akm⟩:=hZ.ky _ _ Q
 have Db:=R.up gw c
 have y:e.val.len=vs.length:=by obtain⟨rs,h1,h2⟩:=R;rw[h1.2,h2.len]
 refine aR rfl ?_
 refine wH h C.ky.st he ?_
 simp only[U]
 refine Ve h Ak Hg λs1 w h=>?_
 obtain⟨G1,p,h,u9⟩:=dT (T:=28) (ls:=aP) (s:=s1) (F:=G) h
 refine aL ?_
 refine ar rfl ?_
 refine xV (h.bF (A1:=dG t.b t.ds t.m) (A2:=OS 112 bC t.ds t.bB) pK pK) om om λw h=>?_
 rw[f]
 refine Kj (F:=G1) (S:=v.2) (r:=row) (h.pick (A:=ae G1) pK) (O.2.up (c.trans p)) u9 Ak CQ λw h=>?_
 rw[<-d,W]
 refine ao λ_=>?_
 refine aL ?_
 refine ar rfl ?_
 have akn:0<vs.length:=List.length_pos_iff.2 X
 have GU:((e.val.len:Int)==0)=false:=by rw[y];simp;omega
 rw[GU]
 refine ao λ_=>?_
 refine aL ?_
 refine ar rfl ?_
 refine xW (F:=G1) (h.pick (A:=ae G1) pK) (R.up gw (c.trans p)) g λG2 w Y h=>?_
 rw[Z6]
 refine ao λ_=>?_
 refine aL ?_
 refine ar rfl ?_
 refine Cq (F:=G2) (h.pick (A:=ae G2) pK) (R.up gw ((c.trans p).trans Y)) g λG3 w tu h=>?_
 refine ao λ_=>?_
 refine ar (nW Hq) ?_
 have l:=((c.trans p).trans Y).trans tu
 simp only[y]
 refine cy (S:=Int) (cf:=λs=>s) vs.length rfl (λj _ w=>∃H,G3.le H/\ab E w (ae H::dG t.b t.ds t.m::OS 112 bC t.ds t.bB::aT r (.mapIter (some t.m) t.ck (seen.push e.born) t.ck)::bG .str bH t.m t.es t.ck::L)) rfl ⟨G3,.refl _,h.sub sS⟩ ?_ ?_
 .rintro w8 _ w j hj rfl ⟨H,o,h⟩ u
  obtain⟨rs,Z,z⟩:=R.up gw (l.trans o)
  have vf:j<rs.length:=by have:=z.len;omega
  obtain⟨v1,v2,v3,v4,v5⟩:=z.get j vf hj
  have tz:=g.row _ (cp hj)
  have hww:=Z9 _ (cp hj)
  refine ix (T:=109) (ls:=bg) (i:=j) Z vf (λa ha=>?_)
  refine fJ h ?_
  generalize rs[j]=q at*
  obtain⟨q1,q2,q3,q4,q5,⟨⟩⟩:=q
  refine al h λI w h=>?_
  refine bU (t:=172) (b:=I) h (λw h=>?_)
  refine dr h λw h=>?_
  refine ld (t:=28) (x:=q5) (b:=I) (off:=4) h ?_
  refine xV (h.bF (A1:=dG t.b t.ds t.m) (A2:=OS 112 bC t.ds t.bB) pK pK) om om λw h=>?_
  rw[f]
  refine lk (t:=28) (b:=I) (off:=4) h ?_
  refine KS (F:=H) (S:=v.2) (r:=vs[j].2.2.2.2) (h.pick (A:=ae H) pK) (O.2.up (l.trans o)) v5 tz λG5 s5 w wJ C8 h=>?_
  rw[<-d,hww]
  refine ar rfl ?_
  exact u _ _ (bV hj om) ⟨G5,o.trans wJ,h.sub sS⟩
 .rintro _ w ⟨H,o,h⟩
  exact D _ _ _ (uf he vh) ⟨_,H,rfl,l.trans o,h.sub sS⟩
structure JM (B0:b9):Prop where
 sq:pb B0.seq
 tm:pb (B0.time+1)
 hr:pb B0.aM
 hm:B0.aM<=if B0.time>0 then B0.time else 0
 tb:∀y T,B0.aJ y=some T->EZ T/\BW B0.time T/\(dv T).1=y
 ln:(gh B0).length<=1000000000
theorem ajb:gq 57=⟨[.pointer none]⟩:=kK
theorem ai9:gq 4=⟨[.bool false]⟩:=kK
abbrev X4:=Nat×bh×List TE×Nat×List TR
theorem Uw {k:Option Addr×Int×Unit->Pr} (h:ab E w (ae F::L)) (hZ:dN B0.aJ) (hN:lu B0.aJ) (hE:sZ B0) (C:JM B0)
  (hk:∀b G w',F.le G->ab E w' (ae G::az G b B0::L)->k (some ⟨b,0,none⟩,0,()) w'):CL 222 #[.string (B (gh B0))] (.aG [.leaf .ptr,.leaf (.int .i64)]) k w:=by
 have R:=C.ln
 have S:gh B0=te B0 (ir B0.aJ).length++(ir B0.aJ).flatMap (od B0.aJ):=rfl
 have o:=xa hN.t
 have wS:=C.sq.2
 have D:=C.tm
 have aj8:ir B0.aJ=ir B0.aJ:=rfl
 generalize vh:ir B0.aJ=c at*
 have G0:c.length<=1000000:=by
  obtain⟨ks,q1,q2⟩:=hN.t
  have:=lL o.1.nodup (m:=ks) λy hy=>by
   obtain⟨v,hv⟩:=Option.isSome_iff_exists.1 ((o.2 y).1 hy)
   exact q2 y v hv
  omega
 generalize GU:gh B0=l at*
 have e1:l.drop 0=cM B0.seq++(cM (B0.time+1)++(cM B0.aM++(aH c.length++c.flatMap (od B0.aJ)))):=by
  rw[mi,S];unfold te;simp only[cP]
 have e2:=fj e1
 have e3:=fj e2
 have e4:=fj e3
 refine ad9 _ _ _<|tg h λrb w h=>?_
 refine al h λg w h=>bU (t:=318) (b:=g) h (λw h=>?_)
 refine Kq h λb m w h=>al h λa w h=>?_
 rw[ajb]at h
 refine st (t:=57) (b:=a) (off:=0) h λw h=>dr h λw h=>?_
 refine ld (t:=57) (x:=some ⟨b,0,none⟩) (b:=a) (off:=0) h<|bN (t:=318) (ls:=[.ptr]) (x:=(some ⟨rb,0,none⟩,())) (b:=g) h ?_
 refine xQ (n:=B0.seq) (h.pick (A:=be rb l (0:Nat) 0) pK) R e1 C.sq λw h=>lk (t:=57) (b:=a) (off:=0) h ?_
 refine aq<|st (t:=3) (b:=b) (off:=0) h λw h=>?_
 refine dr h λw h=>ld (t:=57) (x:=some ⟨b,0,none⟩) (b:=a) (off:=0) h ?_
 refine bN (t:=318) (ls:=[.ptr]) (x:=(some ⟨rb,0,none⟩,())) (b:=g) h<|xQ (n:=B0.time+1) (h.pick (A:=be rb l (0+(cM B0.seq).length:Nat) 0) pK) R e2 C.tm λw h=>?_
 have ew:w6 (B0.time+1-1)=B0.time:=by rw[bQ (by have:=D.1;have:=D.2;omega)];omega
 rw[ew]
 refine lk (t:=57) (b:=a) (off:=0) h<|aq ?_
 refine st (t:=3) (b:=b) (off:=1) h λw h=>dr h λw h=>?_
 refine ld (t:=57) (x:=some ⟨b,0,none⟩) (b:=a) (off:=0) h<|bN (t:=318) (ls:=[.ptr]) (x:=(some ⟨rb,0,none⟩,())) (b:=g) h ?_
 refine xQ (n:=B0.aM) (h.pick (A:=be rb l (0+(cM B0.seq).length+(cM (B0.time+1)).length:Nat) 0) pK) R e3 C.hr λw h=>lk (t:=57) (b:=a) (off:=0) h ?_
 refine aq<|st (t:=3) (b:=b) (off:=2) h λw h=>?_
 have h:ab E w (bY b B0.seq B0.time B0.aM m::be rb l (0+(cM B0.seq).length+(cM (B0.time+1)).length+(cM B0.aM).length:Nat) 0::lc a 57 [.pointer (some ⟨b,0,none⟩)]::lc g 318 [.pointer (some ⟨rb,0,none⟩)]::aT m (.map #[] 0)::ae F::L):=h.sub sS
 rw[<-qf (kl:=.str) (vl:=.leaf .ptr)]at h
 refine dr h λw h=>ld (t:=57) (x:=some ⟨b,0,none⟩) (b:=a) (off:=0) h ?_
 refine aq<|ld (t:=3) (x:=B0.seq) (b:=b) (off:=0) h ?_
 refine aR (eu wS)<|ld (t:=57) (x:=some ⟨b,0,none⟩) (b:=a) (off:=0) h ?_
 refine aq<|ld (t:=3) (x:=B0.time) (b:=b) (off:=1) h ?_
 refine aR (Dn (by have:=D.2;omega)) ?_
 refine ld (t:=57) (x:=some ⟨b,0,none⟩) (b:=a) (off:=0) h<|aq ?_
 refine ld (t:=3) (x:=B0.aM) (b:=b) (off:=2) h<|ld (t:=57) (x:=some ⟨b,0,none⟩) (b:=a) (off:=0) h ?_
 refine aq<|ld (t:=3) (x:=B0.time) (b:=b) (off:=1) h ?_
 refine al h λU w h=>?_
 rw[ai9]at h
 refine lk (t:=57) (b:=a) (off:=0) h<|lk (t:=3) (b:=b) (off:=0) h ?_
 refine lk (t:=57) (b:=a) (off:=0) h<|lk (t:=3) (b:=b) (off:=1) h ?_
 refine lk (t:=57) (b:=a) (off:=0) h<|lk (t:=3) (b:=b) (off:=2) h ?_
 refine lk (t:=57) (b:=a) (off:=0) h<|lk (t:=3) (b:=b) (off:=1) h ?_
 have Hb:decide ((B0.aM:Int)<=(if(B0.time:Int)>0 then(B0.time:Int)else(0:Int)))=true:=eu C.hm
 rw[Hb]
 refine st (t:=4) (b:=U) (off:=0) h λw h=>?_
 refine bN (t:=318) (ls:=[.ptr]) (x:=(some ⟨rb,0,none⟩,())) (b:=g) h ?_
 refine pJ.go h (gf:=274) (bd:=[vy rb]) (lb:=[]) rfl (λargs w=>rfl) λH P rec w hs W pW hR h=>?_
 have h:=ab.Ik (f:=bq) h
 have MA:l.drop (0+(cM B0.seq).length+(cM (B0.time+1)).length+(cM B0.aM).length)=aH c.length++c.flatMap (od B0.aJ):=e4
 generalize 0+(cM B0.seq).length+(cM (B0.time+1)).length+(cM B0.aM).length=p0 at*
 refine Cm (X:=X4) (rb:=rb) (lp:=H) (n:=c.length) (pos:=p0) (l:=l) (rec:=rec) (ps:=λx=>x.1)
  (co:=λx=>lc g 318 [.pointer (some ⟨rb,0,none⟩)]::lc a 57 [.pointer (some ⟨b,0,none⟩)]::lc U 4 [.bool true]::bY b B0.seq B0.time B0.aM m::bS m x.2.2.1 x.2.2.2.1::bO bq x.2.2.2.2::aT P (.deferred (some []))::ae x.2.1::L)
  (fa:=λi x=>F.le x.2.1/\fT x.2.1 x.2.2.1 x.2.2.2.1 x.2.2.2.2 (part _ B0.aJ (c.take i))/\l.drop x.1=(c.drop i).flatMap (od B0.aJ))
  (p0+(aH c.length).length,F,[],0,[]) (h.sub sS) R MA om pW ⟨.refl _,by rw[uw,DE];exact fT.nil,fj MA⟩ rfl hR (λi x N w kb hi hf h Ah=>?_) (λx w hf h=>?_)
 .obtain⟨Y,G,p,r,d⟩:=x
  obtain⟨Z,Q,e⟩:=hf
  simp only at Z Q e
  have h:ab E w (be rb l Y 0::aT H (.loop rec)::N::lc g 318 [.pointer (some ⟨rb,0,none⟩)]::lc a 57 [.pointer (some ⟨b,0,none⟩)]::lc U 4 [.bool true]::bY b B0.seq B0.time B0.aM m::bS m p r::bO bq d::aT P (.deferred (some []))::ae G::L):=h
  obtain⟨T,j⟩:=Option.isSome_iff_exists.1 ((o.2 c[i]).1 (cp hi))
  obtain⟨tD,tG,tN⟩:=C.tb _ _ j
  have tZ:=hZ _ _ j
  have tC:=hN.k _ _ j
  rw[iB hi,fc]at e
  have eta:od B0.aJ c[i]=ud (ir T.keys) T:=by unfold od;rw[j];rfl
  rw[eta]at e
  refine rJ.go (h.pick (A:=aT H (.loop rec)) pK) hs λw h=>bN (t:=318) (ls:=[.ptr]) (x:=(some ⟨rb,0,none⟩,())) (b:=g) h ?_
  refine U0 (F:=G) (T:=T) (nm:=c[i]) (h.bF (A1:=be rb l Y 0) (A2:=ae G) pK pK) R e (xa tC) tZ tD tC λt G2 p2 w z7 u ZS z h=>ld (t:=57) (x:=some ⟨b,0,none⟩) (b:=a) (off:=0) h ?_
  refine aq<|ld (t:=3) (x:=B0.time) (b:=b) (off:=1) h ?_
  refine U1 (F:=G2) (tm:=B0.time) (h.bF (A1:=ae G2) (A2:=bq t) pK pK) z tZ tG λG3 w I h=>ar rfl ?_
  refine dr h λw h=>ld (t:=57) (x:=some ⟨b,0,none⟩) (b:=a) (off:=0) h ?_
  refine aq<|ld (t:=99) (x:=some m) (b:=b) (off:=3) h ?_
  have tw:=z.df.len
  have Ap:=tZ.dl
  obtain⟨AN,r0,yc,d0,er,ed,tv,qR⟩:=cw.AW z.df tZ.ne
  have J:dv T=d0.2:=by
   have:T=⟨yc++[d0],T.keys⟩:=by rw[<-ed]
   rw[this];unfold dv;rw[wZ]
  have jl:t.bB.length=AN.length+1:=by rw[er];simp
  have O:t.bB[t.bB.length-1]'om=r0:=by
   have:t.bB.length-1=AN.length:=om
   simp only[this,er];simp
  have h:=ox (h.pick (A:=bq t) pK)
  refine xV (h.bF (A1:=dG t.b t.ds t.m) (A2:=OS 112 bC t.ds t.bB) pK pK) om om λw h=>?_
  rw[O]
  have Zd:r0.2.1=c[i]:=by rw[qR.2.1,<-J];exact tN
  refine lk (t:=57) (b:=a) (off:=0) h<|lk (t:=99) (b:=b) (off:=3) h ?_
  rw[Zd]
  refine mw (kl:=.str) (vl:=.leaf .ptr) (K:=9) (V:=116) (x:=c[i]) (v:=mL t) kK gi (h.pick (A:=bS m p r) pK) .head λw h=>?_
  have h:=mm (h.sub (M:=dG t.b t.ds t.m::OS 112 bC t.ds t.bB::bG .str bH t.m t.es t.ck::bO bq d::bS m (fk fB c[i] (mL t) p r) (iU fB c[i] p r)::be rb l p2 0::aT H (.loop {rec with state:=.busy})::N::lc g 318 [.pointer (some ⟨rb,0,none⟩)]::lc a 57 [.pointer (some ⟨b,0,none⟩)]::lc U 4 [.bool true]::bY b B0.seq B0.time B0.aM m::aT P (.deferred (some []))::ae G3::L) sS)
  have h:=h.Io
  refine rM.go (h.pick (A:=aT H (.loop {rec with state:=.busy})) pK) λw h=>?_
  rw[DK hs W]at h
  refine Ah (p2,G3,fk fB c[i] (mL t) p r,iU fB c[i] p r,d++[t]) w ⟨(Z.trans u).trans I,?_,z7⟩ (h.sub sS)
  rw[lT hi,DF,j]
  have:=(Q.up (u.trans I)).add (z.up I)
  rw[ZS]at this
  exact this
 obtain⟨Y,G,p,r,d⟩:=x
 obtain⟨Z,Q,e⟩:=hf
 simp only at Z Q e
 rw[cB,DD B0.aJ c (λy v hy=>(o.2 y).2 (by rw[hy];rfl))]at Q
 have h:ab E w (be rb l Y 0::aT H (.loop rec)::lc g 318 [.pointer (some ⟨rb,0,none⟩)]::lc a 57 [.pointer (some ⟨b,0,none⟩)]::lc U 4 [.bool true]::bY b B0.seq B0.time B0.aM m::bS m p r::bO bq d::aT P (.deferred (some []))::ae G::L):=h
 refine rL.go (h.pick (A:=aT H (.loop rec)) pK) hs W λw h=>ld h ?_
 refine aL<|ar rfl ?_
 refine ld h<|pO (h.pick (A:=be rb l Y 0) pK) λw h=>?_
 refine ao λ_=>aL ?_
 refine ar rfl<|ld h ?_
 have h:=jb Q (h.sub (M:=bY b B0.seq B0.time B0.aM m::bS m p r::bO bq d::ae G::aT P (.deferred (some []))::lc a 57 [.pointer (some ⟨b,0,none⟩)]::L) sS)
 refine KQ (h.bF (A1:=ae G) (A2:=az G b B0) pK pK) hZ hN hE λG2 w u h=>?_
 rw[GU]
 refine ao λ_=>ar (by rw[iK];show(!decide (B l=B l))=false;simp) ?_
 refine ld h<|v9.go (h.pick (A:=aT P (.deferred (some []))) pK) λw h=>?_
 exact hk b G2 w (Z.trans u) (h.sub sS)
end Go.Proofs.YtelhccfmfnaegaaGreat
