/- Lemmas for topAudits_holds. No conditions. -/
import Derived.Test.YtelhccfmfnaegaaGreatAd
set_option linter.unusedSectionVars false
set_option linter.unusedVariables false
set_option linter.unusedSimpArgs false
set_option linter.defProp false
set_option maxRecDepth 100000
namespace Go.Sh
variable {ro:Option Nat} {P:Program} {N:Nat} {x y z:fZ} {r:Code} {Q':Exit->Act->World->Prop} {a:Act} {w:World} {ops:Array Oper} {Q:Exit->Act->World->Prop} {i:Nat} {o:Oper} {K:Act->World->Prop} {d:Tmp} {v:Value} {e:Tmp}
theorem Aa (hm:P.follows .mixedOrders=true) {Q:Exit->Act->Pr} (o:codeOk N x=true) (p:codeOk N y=true) (t:codeOk N z=true) (i:a.tmps.size=N)
  (h:vc P (.seq x (.seq y z)) Q a w) (hn:∀b d,Q .normal b d->b.defers=a.defers->b.tmps.size=N->r.wpIn (Fr ro) 0 P Q' b d) (j:∀e b d,e≠.normal->Q e b d->b.defers=a.defers->Q' e b d):
  (Code.seq x.erase (.seq y.erase (.seq z.erase r))).wpIn (Fr ro) 0 P Q' a w:=by
 simp only[vc]at h
 refine gz (lq (mM hm x _ a w o i h) λe u v ⟨k,c⟩=>?_)
 cases e with
 |normal=>
  simp only[Exit.then]at k⊢
  refine gz (lq (mM hm y _ u v p (c.2.1.trans i) k) λe A C ⟨l,f⟩=>?_)
  cases e with
  |normal=>
   simp only[Exit.then]at l⊢
   refine gz (lq (mM hm z _ A C t (f.2.1.trans (c.2.1.trans i)) l) λe D F ⟨n,m⟩=>?_)
   cases e with
   |normal=>exact hn D F n (m.1.trans (f.1.trans c.1)) (m.2.1.trans (f.2.1.trans (c.2.1.trans i)))
   |_=>exact j _ _ _ (by intro g;cases g) n (m.1.trans (f.1.trans c.1))
  |_=>exact j _ _ _ (by intro g;cases g) l (f.1.trans c.1)
 |_=>exact j _ _ _ (by intro g;cases g) k c.1
theorem fQ (b:ops[i]?=some o) (c:o.guard=none) (h:o.wpIn (Fr ro) 0 P a w K Q):wpOpIn (Fr ro) 0 P ops Q i K a w:=by
 unfold wpOpIn
 simp only[b]
 have d:Region.wanted o (yielded ops a.tmps)=true:=by unfold Region.wanted;rw[c]
 rw[ak d];exact h
theorem fW (h:d<a.tmps.size):(a.put (some d) v).eval (.tmp d)=v:=by simp[Act.eval,Act.put,h]
theorem fV (h:d≠e):(a.put (some d) v).eval (.tmp e)=a.eval (.tmp e):=by
 simp only[Act.eval,Act.put,sV,Ec,h,fF]
theorem ng:(a.put (some d) v).defers=a.defers:=rfl
theorem vx (a:Act) (v:Value):a.put none v=a:=rfl
theorem CC:a.eval (.tmp d)=slot a d:=rfl
def tU:fZ->fZ|.seq a _=>a|c=>c
def tV:fZ->fZ|.seq _ (.seq b _)=>b|c=>c
def tW:fZ->fZ|.seq _ (.seq _ c)=>c|c=>c
def c1:Code->Code|.seq a _=>a|c=>c
def c2:Code->Code|.seq _ (.seq b _)=>b|c=>c
def c3:Code->Code|.seq _ (.seq _ (.seq c _))=>c|c=>c
def d78:Code->Code|.seq _ (.block _ (.seq _ (.cond _ _ (.seq _ (.cond _ (.seq _ r) _)))))=>r|c=>c
def VR:Code->Code|.seq a (.seq b (.seq c _))=>.seq a (.seq b c)|c=>c
def QR (R:Value->Value->Value->Value->Pr) (S:Value->Pr):Exit->Act->Pr
 |.normal,a=>R (slot a 1) (slot a 2) (slot a 4) (slot a 5)
 |.ret,a=>S (slot a 4)
 |_,_=>λ_=>False
inductive Rd (α:Type)where
 |ok (x:α) (pos:Nat)
 |bad (e:Int)
end Go.Sh
namespace Go.Proofs.YtelhccfmfnaegaaGreat
open Go Go.Sh Tryz
attribute [local irreducible] aT jC gk dV kO dg hex iT jk ae
def tyX:List Ty:=[dB,aI,aw,ah,.one (.leaf (.int .u64)),an,aE]
def eX (n:Nat) (a:Func):fZ:=(SA.dec tyX [] [] [3,1,4,0,4,0,0,3,3,1,3,1,3,2,1,1,9,8,14,1,9,4,3,1,2,0,1,1,3,3,1,2,0,0,5,3,1,3,n,5,0,0,0,1,3,1,2,0,1,1,3,3,4,0,5,0]).on (VR (ee a))
variable {E w:World} {L L':List aK} {t:TypeId} {b:Nat} {cs:List Value} {T:TypeId} {fr:Nat×Nat} {v:Value} {R:Ending->FrameMode->World->Prop} {g:Nat} {l:List UInt8} {p2:Int} {f:Value} {args:Array Value} {Rel:(.one (.leaf (.int .u64)):Ty).den->List aK->Prop} {t2 t4 t5:Nat} {e er:Int} {k:Int->Pr} {pos n:Nat} {rest:List UInt8} {ops:Array Oper} {Q:Exit->Act->World->Prop} {i:Nat} {o:Oper} {s:List UInt8} {m:Nat} {a:List UInt8} {x:UInt8} {r:List UInt8} {S:di} {C:jc} {off:Nat} {vs:List Value} {P:Pk}
theorem AF (h:ab E w L) (p:b6 L (aT b (.cells ⟨cs⟩ T fr)) L') (hc:(⟨cs⟩:Array Value)[0]?=some v) (c:jK t=some false):
  (gl [.cell (.pointer (some ⟨b,0,none⟩)) t]).run prog w=.ok v w:=by
 have d:=H8 (P:=prog) (w:=w) (a:=⟨b,0,none⟩) c (by rw[rS (h.pick p).own,hc])
 unfold gl
 simp[AJ,asAddr,d]
theorem HU (m:Option Addr) (n:Value) (R:Value->Value->Value->Value->Pr) (S:Value->Pr) (w:World) (h:(BX 288 (.pointer m) λa=>AL 25 λb=>LD 288 a aI λo=>GT (cL .eql 288 (.tmp 6) (.const (.pointer none)) (.pointer o) (.pointer none)) aw λp=>JB (λc=>af c (LD 25 b (.one (.leaf (.int .u64))) λd=>ST 25 b (.int .u64 d)<|S (pa b)) (LD 288 a aI λf=>NC f λg=>LD 3 (Addr.add g 1) ah λi=>AL 3 λl=>ST 3 l (iv i)<|R n (pa a) (pa b) (pa l))) λJ=>af p (J true) (LD 288 a aI λr=>NC r λj=>LD 31 (Addr.add j 2) ah λk=>J ((k:Int) !=0))) w):
  vc prog (eX 4 Tryz.f271) (QR R S) {tmps:=⟨[.pointer m,n]++List.replicate 21 undef⟩,defers:=[]} w:=by
 have e:vc prog (eX 4 Tryz.f271) (QR R S) {tmps:=⟨[.pointer m,n]++List.replicate 21 undef⟩,defers:=[]}=(BX 288 (.pointer m) λa=>AL 25 λb=>LD 288 a aI λo=>GT (cL .eql 288 (.tmp 6) (.const (.pointer none)) (.pointer o) (.pointer none)) aw λp=>JB (λc=>af c (LD 25 b (.one (.leaf (.int .u64))) λd=>ST 25 b (.int .u64 d)<|S (pa b)) (LD 288 a aI λf=>NC f λg=>LD 3 (Addr.add g 1) ah λi=>AL 3 λl=>ST 3 l (iv i)<|R n (pa a) (pa b) (pa l))) λJ=>af p (J true) (LD 288 a aI λr=>NC r λj=>LD 31 (Addr.add j 2) ah λk=>J ((k:Int) !=0))):=kK
 rw[e];exact h
theorem HQ:∃f a b g c d e,(Tryz.f271).body=some (.seq (c1 (ee Tryz.f271)) (.seq (c2 (ee Tryz.f271)) (.seq (c3 (ee Tryz.f271)) (.seq (.region f #[a,b] false) (.seq (.region g #[c,d,e] false) .ret)))))/\
  a.guard=none/\a.dst=some 20/\a.op=.makeFunc (.func 302) #[] #[.tmp 5,.tmp 4,.tmp 2]/\b.guard=none/\b.dst=none/\b.op=.defer ⟨.value (.tmp 20),#[],#[]⟩/\
  c.guard=none/\c.dst=some 21/\c.op=.move (.tmp 1)/\d.guard=none/\d.dst=some 22/\d.op=.call ⟨.value (.tmp 21),#[],#[]⟩/\e.guard=none/\e.dst=none/\e.op=.store 25 (.tmp 4) (.tmp 22):=
 ⟨_,_,_,_,_,_,_,rfl,rfl,rfl,rfl,rfl,rfl,rfl,rfl,rfl,rfl,rfl,rfl,rfl,rfl,rfl,rfl⟩
theorem Hi:eX 4 Tryz.f271=.seq (tU (eX 4 Tryz.f271)) (.seq (tV (eX 4 Tryz.f271)) (tW (eX 4 Tryz.f271)))/\(tU (eX 4 Tryz.f271)).erase=c1 (ee Tryz.f271)/\(tV (eX 4 Tryz.f271)).erase=c2 (ee Tryz.f271)/\(tW (eX 4 Tryz.f271)).erase=c3 (ee Tryz.f271)/\
  codeOk 23 (tU (eX 4 Tryz.f271))=true/\codeOk 23 (tV (eX 4 Tryz.f271))=true/\codeOk 23 (tW (eX 4 Tryz.f271))=true:=
 ⟨by kernel_rfl,by kernel_rfl,by kernel_rfl,by kernel_rfl,by kernel_rfl,by kernel_rfl,by kernel_rfl⟩
theorem WO:∃e a f b g d c,(Tryz.f302).body=some (.seq (.region e #[a] false) (.block 0 (.seq (.region f #[b] false) (.cond (.tmp 9) (.region g #[d] false) c))))/\
  a.guard=none/\a.dst=some 7/\a.op=.call ⟨.builtin .recover,#[],#[]⟩/\b.guard=none/\b.dst=some 9/\b.op=.binOp .eql 20 (.tmp 7) (.const .nilIface) 20/\d.guard=none/\d.dst=some 3/\d.op=.assign (.tmp 7):=
 ⟨_,_,_,_,_,_,_,rfl,rfl,rfl,rfl,rfl,rfl,rfl,rfl,rfl,rfl⟩
theorem d302 (x y z:Value) (w:World) (j:∀v,R (.returned v) .returning w):CallsDIn (Fr none) 0 prog 302 #[x,y,z] .returning w R:=by
 obtain⟨J,f,K,g,M,i,c,k,l,m,n,p,r,t,u,A,C⟩:=WO
 refine EA func302 k trivial λd D e=>?_
 refine EB (EC ?_)
 show wpOpsSIn (Fr none) 0 prog #[f] _ [0] _ _ w
 have F:(#[f]:Array Oper)[0]?=some f:=rfl
 simp only[wpOpsSIn,F]
 refine⟨λ_ _=>trivial,?_⟩
 rw[ak (by unfold Region.wanted;rw[l])]
 have hex:∀ρ:Operand->Value,(execOp ρ f).run prog w=.ok .recover w:=λρ=>by
  unfold execOp;rw[n];rfl
 rw[hex]
 simp only
 have G:recoverD (d::D)=none:=by simp[recoverD,e]
 rw[G]
 simp only[Exit.thenS]
 refine ED rfl (vJ (gz (js ?_)))
 show wpOpsIn (Fr none) 0 prog #[g] _ [0] _ w
 rw[eR]
 have b:({tmps:=(#[x,y,z]:Array Value)++Array.replicate ((Tryz.f302).ntmps-(#[x,y,z]:Array Value).size) undef,defers:=[]}:Act).tmps.size=23:=sI
 rw[m]
 generalize H:({tmps:=(#[x,y,z]:Array Value)++Array.replicate ((Tryz.f302).ntmps-(#[x,y,z]:Array Value).size) undef,defers:=[]}:Act)=a at*
 have I:a.defers=[]:=by rw[<-H]
 refine fQ (o:=g) rfl p (gp (v:=.bool true) (w':=w) ?_ ?_)
 .unfold execOp;rw[t]
  simp only
  rw[fW (by rw[b];decide)]
  exact cd _ kK w
 show(Code.cond _ _ _).wpIn _ _ _ _ _ _
 rw[r]
 refine y8 (fW (by rw[size_put,b];decide)) (js ?_)
 show wpOpsIn (Fr none) 0 prog #[i] _ [0] _ w
 rw[eR]
 refine fQ (o:=i) rfl u (gp (v:=.nilIface) (w':=w) ?_ ?_)
 .unfold execOp;rw[C]
  simp only
  rw[fV dE,fW (by rw[b];decide)];rfl
 simp only[wpOpsIn,Exit.inBlock]
 rw[A]
 refine⟨I,.returning,by rw[<-e],.tuple #[],cd _ kK w,j _⟩
theorem t271 {pos:Int} {k:(.one (.leaf (.int .u64)):Ty).den->Pr} (h:ab E w (be b l pos 0::L)) (hr:∀w,(eW f #[]).run prog w=.ok (.enter g args) w)
  (hc:∀u (M:List aK),ab E u (be b l pos 0::(M++L))->Calls prog g args u λe w'=>∃x m,e=.returned ((.one (.leaf (.int .u64)):Ty).val x)/\Rel x m/\ab E w' (be b l p2 0::(M++m))) (Y:∀x m w',Rel x m->ab E w' (be b l p2 0::m)->k x w'):
  CL 271 #[.pointer (some ⟨b,0,none⟩),f] (.one (.leaf (.int .u64))) k w:=by
 obtain⟨i4,R,H,i5,S,J,T,Z,g1,d1,p1,g2,d2,q2,g3,d3,p3,g4,d4,p4,g5,d5,p5⟩:=HQ
 obtain⟨hs,e1,e2,e3,k1,k2,k3⟩:=Hi
 refine⟨(mv (ro:=none) (n:=0)).1 (xF func271 Z trivial ?_)⟩
 rw[<-e1,<-e2,<-e3]
 have ha:({tmps:=(#[.pointer (some ⟨b,0,none⟩),f]:Array Value)++Array.replicate ((Tryz.f271).ntmps-(#[.pointer (some ⟨b,0,none⟩),f]:Array Value).size) undef,defers:=[]}:Act)={tmps:=⟨[.pointer (some ⟨b,0,none⟩),f]++List.replicate 21 undef⟩,defers:=[]}:=kK
 rw[ha]
 have U:vc prog (eX 4 Tryz.f271) (QR (λv1 v2 v4 v5 w'=>∃c a i z,v1=f/\v2=pa ⟨c,0,none⟩/\v4=pa ⟨a,0,none⟩/\v5=pa ⟨i,0,none⟩/\ab E w' (be b l pos 0::lc i 3 [iv pos]::lc a 25 [z]::lc c 288 [.pointer (some ⟨b,0,none⟩)]::L)) (λ_ _=>False)) {tmps:=⟨[.pointer (some ⟨b,0,none⟩),f]++List.replicate 21 undef⟩,defers:=[]} w:=by
  refine HU _ _ _ _ _ ?_
  refine bx h λc w h=>?_
  refine al h λa w h=>?_
  rw[show gq 25=⟨[.int .u64 0]⟩by kernel_rfl]at h
  refine ld h ?_
  refine dw (x:=false) kK ?_
  refine aL ?_
  refine ar rfl ?_
  refine ld h ?_
  refine aq ?_
  refine ld h ?_
  refine ao λ_=>?_
  refine ar rfl ?_
  refine ld h ?_
  refine aq ?_
  refine ld h ?_
  refine al h λi w h=>?_
  refine nu h λw h=>?_
  exact⟨c,a,i,_,rfl,rfl,rfl,rfl,h.sub (by repeat (first|exact Sub.done|refine Sub.take pK ?_|refine Sub.skip ?_))⟩
 rw[hs]at U
 refine Aa follows k1 k2 k3 sI U (λt w' K y A=>?_) (λe t w' O K y=>?_)
 rotate_left
 .cases e<;>first|exact(O rfl).elim|exact K.elim
 obtain⟨c,a,i,z,s1,s2,V,s5,h⟩:=K
 refine gz (js ?_)
 show wpOpsIn (Fr none) 0 prog #[R,H] _ [0,1] _ _
 rw[eR]
 refine fQ (o:=R) rfl g1 (gp (v:=.func (.func 302) #[] #[pa ⟨i,0,none⟩,pa ⟨a,0,none⟩,pa ⟨c,0,none⟩]) (w':=w') ?_ ?_)
 .unfold execOp;rw[p1]
  simp only[pE,eZ,ki,CC,s5,V,s2]
  exact cd _ kK w'
 rw[eR,d1]
 refine fQ (o:=H) rfl g2 ⟨λ_ _=>trivial,?_⟩
 have C:(H.semAt none (t.put (some 20) (.func (.func 302) #[] #[pa ⟨i,0,none⟩,pa ⟨a,0,none⟩,pa ⟨c,0,none⟩])).eval).run prog w'=.ok (.defer {target:=.fn (.func 302) #[pa ⟨i,0,none⟩,pa ⟨a,0,none⟩,pa ⟨c,0,none⟩],args:=#[]}) w':=by
  show(execOp _ H).run prog w'=_
  unfold execOp;rw[q2]
  simp only[resolve,pE,ki]
  rw[fW (by rw[A];decide)]
  exact cd _ kK w'
 rw[show(Fr none).round=none from rfl,C,EE]
 simp only[wpOpsIn,Exit.then]
 rw[d2,vx,ng,y]
 refine gz (js ?_)
 show wpOpsIn (Fr none) 0 prog #[S,J,T] _ [0,1,2] _ _
 generalize j:({t.put (some 20) (.func (.func 302) #[] #[pa ⟨i,0,none⟩,pa ⟨a,0,none⟩,pa ⟨c,0,none⟩])with defers:=[{target:=.fn (.func 302) #[pa ⟨i,0,none⟩,pa ⟨a,0,none⟩,pa ⟨c,0,none⟩],args:=#[]}]}:Act)=p
 have W:p.tmps.size=23:=by rw[<-j];show(t.put _ _).tmps.size=23;rw[size_put,A]
 have r1:p.eval (.tmp 1)=f:=by rw[<-j];show(t.put _ _).eval (.tmp 1)=f;rw[fV dE];exact s1
 have X:p.eval (.tmp 4)=pa ⟨a,0,none⟩:=by rw[<-j];show(t.put _ _).eval (.tmp 4)=_;rw[fV dE];exact V
 have rd:p.defers=[{target:=.fn (.func 302) #[pa ⟨i,0,none⟩,pa ⟨a,0,none⟩,pa ⟨c,0,none⟩],args:=#[]}]:=by rw[<-j]
 clear j
 rw[eR]
 refine fQ (o:=S) rfl g3 (gp (v:=f) (w':=w') ?_ ?_)
 .unfold execOp;rw[p3]
  simp only[r1];rfl
 rw[eR,d3]
 refine fQ (o:=J) rfl g4 ⟨λ_ _=>trivial,?_⟩
 have r:execOp (p.put (some 21) f).eval J=eW f #[]:=by
  unfold execOp;rw[p4]
  simp only[resolve,pE,ki]
  rw[fW (by rw[W];decide)];rfl
 rw[show(Fr none).round=none from rfl,re (x:=.enter g args) (w':=w') (by rw[r];exact hr w') (λd hd=>by cases hd),vH]
 refine⟨λh=>(by cases h),vI (mv.2 (hc w' [lc i 3 [iv pos],lc a 25 [z],lc c 288 [.pointer (some ⟨b,0,none⟩)]] h)) λe u O=>?_⟩
 obtain⟨x,m,rfl,D,h⟩:=O
 have h:ab E u (be b l p2 0::lc i 3 [iv pos]::lc a 25 [z]::lc c 288 [.pointer (some ⟨b,0,none⟩)]::m):=h
 simp only
 rw[eR,d4]
 have Q:(ST 25 ⟨a,0,none⟩ (.int .u64 x) λw'=>ab E w' (lc a 25 [.int .u64 x]::be b l p2 0::lc i 3 [iv pos]::lc c 288 [.pointer (some ⟨b,0,none⟩)]::m)) u:=nu h λw' h=>by exact h
 obtain⟨I,F,h⟩:=Q.out
 refine fQ (o:=T) rfl g5 (yQ (w':=I) ?_ ?_)
 .unfold execOp;rw[p5]
  simp only
  rw[fW (by simp only[size_put,W];decide),fV dE,fV dE,X]
  exact F
 simp only[wpOpsIn,Exit.then]
 refine Ef ?_
 show LeavesIn (Fr none) 0 prog Tryz.f271 _ _ _ .returning I
 rw[d5,vx,ng,ng,rd]
 refine EF (f:=302) (args:=#[pa ⟨i,0,none⟩,pa ⟨a,0,none⟩,pa ⟨c,0,none⟩]) (by intro hh;cases hh) (λh=>by cases h) (cd _ kK I) (λ_ _=>trivial) ?_
 refine d302 _ _ _ I λv=>?_
 simp only[settle]
 refine⟨(.one (.leaf (.int .u64)):Ty).val x,?_,x,rfl,Y _ _ _ D (h.swap.sub (by repeat (first|exact Sub.done|refine Sub.take pK ?_|refine Sub.skip ?_)))⟩
 rw[xg]
 have G:ph Tryz.f271 (((p.put (some 21) f).put (some 22) ((.one (.leaf (.int .u64)):Ty).val x)).tmps)=[.cell (pa ⟨a,0,none⟩) 25]:=by
  have:ph Tryz.f271 (((p.put (some 21) f).put (some 22) ((.one (.leaf (.int .u64)):Ty).val x)).tmps)=[.cell (((p.put (some 21) f).put (some 22) ((.one (.leaf (.int .u64)):Ty).val x)).eval (.tmp 4)) 25]:=kK
  rw[this,fV dE,fV dE,X]
 rw[G]
 exact AF h .head rfl kK
theorem ab3 (m:Option Addr) (n:Value) (R:Value->Value->Value->Value->Pr) (S:Value->Pr) (w:World) (h:(BX 288 (.pointer m) λa=>AL 9 λb=>LD 288 a aI λo=>GT (cL .eql 288 (.tmp 6) (.const (.pointer none)) (.pointer o) (.pointer none)) aw λp=>JB (λc=>af c (LD 9 b (an) λd=>ST 9 b (.string d)<|S (pa b)) (LD 288 a aI λf=>NC f λg=>LD 3 (Addr.add g 1) ah λi=>AL 3 λl=>ST 3 l (iv i)<|R n (pa a) (pa b) (pa l))) λJ=>af p (J true) (LD 288 a aI λr=>NC r λj=>LD 31 (Addr.add j 2) ah λk=>J ((k:Int) !=0))) w):
  vc prog (eX 5 Tryz.f310) (QR R S) {tmps:=⟨[.pointer m,n]++List.replicate 21 undef⟩,defers:=[]} w:=by
 have e:vc prog (eX 5 Tryz.f310) (QR R S) {tmps:=⟨[.pointer m,n]++List.replicate 21 undef⟩,defers:=[]}=(BX 288 (.pointer m) λa=>AL 9 λb=>LD 288 a aI λo=>GT (cL .eql 288 (.tmp 6) (.const (.pointer none)) (.pointer o) (.pointer none)) aw λp=>JB (λc=>af c (LD 9 b (an) λd=>ST 9 b (.string d)<|S (pa b)) (LD 288 a aI λf=>NC f λg=>LD 3 (Addr.add g 1) ah λi=>AL 3 λl=>ST 3 l (iv i)<|R n (pa a) (pa b) (pa l))) λJ=>af p (J true) (LD 288 a aI λr=>NC r λj=>LD 31 (Addr.add j 2) ah λk=>J ((k:Int) !=0))):=kK
 rw[e];exact h
theorem abS:∃f a b g c d e,(Tryz.f310).body=some (.seq (c1 (ee Tryz.f310)) (.seq (c2 (ee Tryz.f310)) (.seq (c3 (ee Tryz.f310)) (.seq (.region f #[a,b] false) (.seq (.region g #[c,d,e] false) .ret)))))/\
  a.guard=none/\a.dst=some 20/\a.op=.makeFunc (.func 318) #[] #[.tmp 5,.tmp 4,.tmp 2]/\b.guard=none/\b.dst=none/\b.op=.defer ⟨.value (.tmp 20),#[],#[]⟩/\
  c.guard=none/\c.dst=some 21/\c.op=.move (.tmp 1)/\d.guard=none/\d.dst=some 22/\d.op=.call ⟨.value (.tmp 21),#[],#[]⟩/\e.guard=none/\e.dst=none/\e.op=.store 9 (.tmp 4) (.tmp 22):=
 ⟨_,_,_,_,_,_,_,rfl,rfl,rfl,rfl,rfl,rfl,rfl,rfl,rfl,rfl,rfl,rfl,rfl,rfl,rfl,rfl⟩
theorem ZG:eX 5 Tryz.f310=.seq (tU (eX 5 Tryz.f310)) (.seq (tV (eX 5 Tryz.f310)) (tW (eX 5 Tryz.f310)))/\(tU (eX 5 Tryz.f310)).erase=c1 (ee Tryz.f310)/\(tV (eX 5 Tryz.f310)).erase=c2 (ee Tryz.f310)/\(tW (eX 5 Tryz.f310)).erase=c3 (ee Tryz.f310)/\
  codeOk 23 (tU (eX 5 Tryz.f310))=true/\codeOk 23 (tV (eX 5 Tryz.f310))=true/\codeOk 23 (tW (eX 5 Tryz.f310))=true:=
 ⟨by kernel_rfl,by kernel_rfl,by kernel_rfl,by kernel_rfl,by kernel_rfl,by kernel_rfl,by kernel_rfl⟩
theorem WQ:∃e a f b g d c,(Tryz.f318).body=some (.seq (.region e #[a] false) (.block 0 (.seq (.region f #[b] false) (.cond (.tmp 9) (.region g #[d] false) c))))/\
  a.guard=none/\a.dst=some 7/\a.op=.call ⟨.builtin .recover,#[],#[]⟩/\b.guard=none/\b.dst=some 9/\b.op=.binOp .eql 20 (.tmp 7) (.const .nilIface) 20/\d.guard=none/\d.dst=some 3/\d.op=.assign (.tmp 7):=
 ⟨_,_,_,_,_,_,_,rfl,rfl,rfl,rfl,rfl,rfl,rfl,rfl,rfl,rfl⟩
theorem d318 (x y z:Value) (w:World) (j:∀v,R (.returned v) .returning w):CallsDIn (Fr none) 0 prog 318 #[x,y,z] .returning w R:=by
 obtain⟨J,f,K,g,M,i,c,k,l,m,n,p,r,t,u,A,C⟩:=WQ
 refine EA func318 k trivial λd D e=>?_
 refine EB (EC ?_)
 show wpOpsSIn (Fr none) 0 prog #[f] _ [0] _ _ w
 have F:(#[f]:Array Oper)[0]?=some f:=rfl
 simp only[wpOpsSIn,F]
 refine⟨λ_ _=>trivial,?_⟩
 rw[ak (by unfold Region.wanted;rw[l])]
 have hex:∀ρ:Operand->Value,(execOp ρ f).run prog w=.ok .recover w:=λρ=>by
  unfold execOp;rw[n];rfl
 rw[hex]
 simp only
 have G:recoverD (d::D)=none:=by simp[recoverD,e]
 rw[G]
 simp only[Exit.thenS]
 refine ED rfl (vJ (gz (js ?_)))
 show wpOpsIn (Fr none) 0 prog #[g] _ [0] _ w
 rw[eR]
 have b:({tmps:=(#[x,y,z]:Array Value)++Array.replicate ((Tryz.f318).ntmps-(#[x,y,z]:Array Value).size) undef,defers:=[]}:Act).tmps.size=23:=sI
 rw[m]
 generalize H:({tmps:=(#[x,y,z]:Array Value)++Array.replicate ((Tryz.f318).ntmps-(#[x,y,z]:Array Value).size) undef,defers:=[]}:Act)=a at*
 have I:a.defers=[]:=by rw[<-H]
 refine fQ (o:=g) rfl p (gp (v:=.bool true) (w':=w) ?_ ?_)
 .unfold execOp;rw[t]
  simp only
  rw[fW (by rw[b];decide)]
  exact cd _ kK w
 show(Code.cond _ _ _).wpIn _ _ _ _ _ _
 rw[r]
 refine y8 (fW (by rw[size_put,b];decide)) (js ?_)
 show wpOpsIn (Fr none) 0 prog #[i] _ [0] _ w
 rw[eR]
 refine fQ (o:=i) rfl u (gp (v:=.nilIface) (w':=w) ?_ ?_)
 .unfold execOp;rw[C]
  simp only
  rw[fV dE,fW (by rw[b];decide)];rfl
 simp only[wpOpsIn,Exit.inBlock]
 rw[A]
 refine⟨I,.returning,by rw[<-e],.tuple #[],cd _ kK w,j _⟩
theorem t310 {pos:Int} {Rel:(an:Ty).den->List aK->Prop} {k:(an:Ty).den->Pr} (h:ab E w (be b l pos 0::L)) (hr:∀w,(eW f #[]).run prog w=.ok (.enter g args) w)
  (hc:∀u (M:List aK),ab E u (be b l pos 0::(M++L))->Calls prog g args u λe w'=>∃x m,e=.returned ((an:Ty).val x)/\Rel x m/\ab E w' (be b l p2 0::(M++m))) (Y:∀x m w',Rel x m->ab E w' (be b l p2 0::m)->k x w'):
  CL 310 #[.pointer (some ⟨b,0,none⟩),f] (an) k w:=by
 obtain⟨i4,R,H,i5,S,J,T,Z,g1,d1,p1,g2,d2,q2,g3,d3,p3,g4,d4,p4,g5,d5,p5⟩:=abS
 obtain⟨hs,e1,e2,e3,k1,k2,k3⟩:=ZG
 refine⟨(mv (ro:=none) (n:=0)).1 (xF func310 Z trivial ?_)⟩
 rw[<-e1,<-e2,<-e3]
 have ha:({tmps:=(#[.pointer (some ⟨b,0,none⟩),f]:Array Value)++Array.replicate ((Tryz.f310).ntmps-(#[.pointer (some ⟨b,0,none⟩),f]:Array Value).size) undef,defers:=[]}:Act)={tmps:=⟨[.pointer (some ⟨b,0,none⟩),f]++List.replicate 21 undef⟩,defers:=[]}:=kK
 rw[ha]
 have U:vc prog (eX 5 Tryz.f310) (QR (λv1 v2 v4 v5 w'=>∃c a i z,v1=f/\v2=pa ⟨c,0,none⟩/\v4=pa ⟨a,0,none⟩/\v5=pa ⟨i,0,none⟩/\ab E w' (be b l pos 0::lc i 3 [iv pos]::lc a 9 [z]::lc c 288 [.pointer (some ⟨b,0,none⟩)]::L)) (λ_ _=>False)) {tmps:=⟨[.pointer (some ⟨b,0,none⟩),f]++List.replicate 21 undef⟩,defers:=[]} w:=by
  refine ab3 _ _ _ _ _ ?_
  refine bx h λc w h=>?_
  refine al h λa w h=>?_
  rw[show gq 9=⟨[.string ⟨#[]⟩]⟩by kernel_rfl]at h
  refine ld h ?_
  refine dw (x:=false) kK ?_
  refine aL ?_
  refine ar rfl ?_
  refine ld h ?_
  refine aq ?_
  refine ld h ?_
  refine ao λ_=>?_
  refine ar rfl ?_
  refine ld h ?_
  refine aq ?_
  refine ld h ?_
  refine al h λi w h=>?_
  refine nu h λw h=>?_
  exact⟨c,a,i,_,rfl,rfl,rfl,rfl,h.sub (by repeat (first|exact Sub.done|refine Sub.take pK ?_|refine Sub.skip ?_))⟩
 rw[hs]at U
 refine Aa follows k1 k2 k3 sI U (λt w' K y A=>?_) (λe t w' O K y=>?_)
 rotate_left
 .cases e<;>first|exact(O rfl).elim|exact K.elim
 obtain⟨c,a,i,z,s1,s2,V,s5,h⟩:=K
 refine gz (js ?_)
 show wpOpsIn (Fr none) 0 prog #[R,H] _ [0,1] _ _
 rw[eR]
 refine fQ (o:=R) rfl g1 (gp (v:=.func (.func 318) #[] #[pa ⟨i,0,none⟩,pa ⟨a,0,none⟩,pa ⟨c,0,none⟩]) (w':=w') ?_ ?_)
 .unfold execOp;rw[p1]
  simp only[pE,eZ,ki,CC,s5,V,s2]
  exact cd _ kK w'
 rw[eR,d1]
 refine fQ (o:=H) rfl g2 ⟨λ_ _=>trivial,?_⟩
 have C:(H.semAt none (t.put (some 20) (.func (.func 318) #[] #[pa ⟨i,0,none⟩,pa ⟨a,0,none⟩,pa ⟨c,0,none⟩])).eval).run prog w'=.ok (.defer {target:=.fn (.func 318) #[pa ⟨i,0,none⟩,pa ⟨a,0,none⟩,pa ⟨c,0,none⟩],args:=#[]}) w':=by
  show(execOp _ H).run prog w'=_
  unfold execOp;rw[q2]
  simp only[resolve,pE,ki]
  rw[fW (by rw[A];decide)]
  exact cd _ kK w'
 rw[show(Fr none).round=none from rfl,C,EE]
 simp only[wpOpsIn,Exit.then]
 rw[d2,vx,ng,y]
 refine gz (js ?_)
 show wpOpsIn (Fr none) 0 prog #[S,J,T] _ [0,1,2] _ _
 generalize j:({t.put (some 20) (.func (.func 318) #[] #[pa ⟨i,0,none⟩,pa ⟨a,0,none⟩,pa ⟨c,0,none⟩])with defers:=[{target:=.fn (.func 318) #[pa ⟨i,0,none⟩,pa ⟨a,0,none⟩,pa ⟨c,0,none⟩],args:=#[]}]}:Act)=p
 have W:p.tmps.size=23:=by rw[<-j];show(t.put _ _).tmps.size=23;rw[size_put,A]
 have r1:p.eval (.tmp 1)=f:=by rw[<-j];show(t.put _ _).eval (.tmp 1)=f;rw[fV dE];exact s1
 have X:p.eval (.tmp 4)=pa ⟨a,0,none⟩:=by rw[<-j];show(t.put _ _).eval (.tmp 4)=_;rw[fV dE];exact V
 have rd:p.defers=[{target:=.fn (.func 318) #[pa ⟨i,0,none⟩,pa ⟨a,0,none⟩,pa ⟨c,0,none⟩],args:=#[]}]:=by rw[<-j]
 clear j
 rw[eR]
 refine fQ (o:=S) rfl g3 (gp (v:=f) (w':=w') ?_ ?_)
 .unfold execOp;rw[p3]
  simp only[r1];rfl
 rw[eR,d3]
 refine fQ (o:=J) rfl g4 ⟨λ_ _=>trivial,?_⟩
 have r:execOp (p.put (some 21) f).eval J=eW f #[]:=by
  unfold execOp;rw[p4]
  simp only[resolve,pE,ki]
  rw[fW (by rw[W];decide)];rfl
 rw[show(Fr none).round=none from rfl,re (x:=.enter g args) (w':=w') (by rw[r];exact hr w') (λd hd=>by cases hd),vH]
 refine⟨λh=>(by cases h),vI (mv.2 (hc w' [lc i 3 [iv pos],lc a 9 [z],lc c 288 [.pointer (some ⟨b,0,none⟩)]] h)) λe u O=>?_⟩
 obtain⟨x,m,rfl,D,h⟩:=O
 have h:ab E u (be b l p2 0::lc i 3 [iv pos]::lc a 9 [z]::lc c 288 [.pointer (some ⟨b,0,none⟩)]::m):=h
 simp only
 rw[eR,d4]
 have Q:(ST 9 ⟨a,0,none⟩ (.string x) λw'=>ab E w' (lc a 9 [.string x]::be b l p2 0::lc i 3 [iv pos]::lc c 288 [.pointer (some ⟨b,0,none⟩)]::m)) u:=nu h λw' h=>by exact h
 obtain⟨I,F,h⟩:=Q.out
 refine fQ (o:=T) rfl g5 (yQ (w':=I) ?_ ?_)
 .unfold execOp;rw[p5]
  simp only
  rw[fW (by simp only[size_put,W];decide),fV dE,fV dE,X]
  exact F
 simp only[wpOpsIn,Exit.then]
 refine Ef ?_
 show LeavesIn (Fr none) 0 prog Tryz.f310 _ _ _ .returning I
 rw[d5,vx,ng,ng,rd]
 refine EF (f:=318) (args:=#[pa ⟨i,0,none⟩,pa ⟨a,0,none⟩,pa ⟨c,0,none⟩]) (by intro hh;cases hh) (λh=>by cases h) (cd _ kK I) (λ_ _=>trivial) ?_
 refine d318 _ _ _ I λv=>?_
 simp only[settle]
 refine⟨(an:Ty).val x,?_,x,rfl,Y _ _ _ D (h.swap.sub (by repeat (first|exact Sub.done|refine Sub.take pK ?_|refine Sub.skip ?_)))⟩
 rw[xg]
 have G:ph Tryz.f310 (((p.put (some 21) f).put (some 22) ((an:Ty).val x)).tmps)=[.cell (pa ⟨a,0,none⟩) 9]:=by
  have:ph Tryz.f310 (((p.put (some 21) f).put (some 22) ((an:Ty).val x)).tmps)=[.cell (((p.put (some 21) f).put (some 22) ((an:Ty).val x)).eval (.tmp 4)) 9]:=kK
  rw[this,fV dE,fV dE,X]
 rw[G]
 exact AF h .head rfl kK
theorem ab4 (m:Option Addr) (n:Value) (R:Value->Value->Value->Value->Pr) (S:Value->Pr) (w:World) (h:(BX 288 (.pointer m) λa=>AL 28 λb=>LD 288 a aI λo=>GT (cL .eql 288 (.tmp 6) (.const (.pointer none)) (.pointer o) (.pointer none)) aw λp=>JB (λc=>af c (LD 28 b (aE) λd=>ST 28 b (sv d)<|S (pa b)) (LD 288 a aI λf=>NC f λg=>LD 3 (Addr.add g 1) ah λi=>AL 3 λl=>ST 3 l (iv i)<|R n (pa a) (pa b) (pa l))) λJ=>af p (J true) (LD 288 a aI λr=>NC r λj=>LD 31 (Addr.add j 2) ah λk=>J ((k:Int) !=0))) w):
  vc prog (eX 6 Tryz.f313) (QR R S) {tmps:=⟨[.pointer m,n]++List.replicate 21 undef⟩,defers:=[]} w:=by
 have e:vc prog (eX 6 Tryz.f313) (QR R S) {tmps:=⟨[.pointer m,n]++List.replicate 21 undef⟩,defers:=[]}=(BX 288 (.pointer m) λa=>AL 28 λb=>LD 288 a aI λo=>GT (cL .eql 288 (.tmp 6) (.const (.pointer none)) (.pointer o) (.pointer none)) aw λp=>JB (λc=>af c (LD 28 b (aE) λd=>ST 28 b (sv d)<|S (pa b)) (LD 288 a aI λf=>NC f λg=>LD 3 (Addr.add g 1) ah λi=>AL 3 λl=>ST 3 l (iv i)<|R n (pa a) (pa b) (pa l))) λJ=>af p (J true) (LD 288 a aI λr=>NC r λj=>LD 31 (Addr.add j 2) ah λk=>J ((k:Int) !=0))):=kK
 rw[e];exact h
theorem abT:∃f a b g c d e,(Tryz.f313).body=some (.seq (c1 (ee Tryz.f313)) (.seq (c2 (ee Tryz.f313)) (.seq (c3 (ee Tryz.f313)) (.seq (.region f #[a,b] false) (.seq (.region g #[c,d,e] false) .ret)))))/\
  a.guard=none/\a.dst=some 20/\a.op=.makeFunc (.func 319) #[] #[.tmp 5,.tmp 4,.tmp 2]/\b.guard=none/\b.dst=none/\b.op=.defer ⟨.value (.tmp 20),#[],#[]⟩/\
  c.guard=none/\c.dst=some 21/\c.op=.move (.tmp 1)/\d.guard=none/\d.dst=some 22/\d.op=.call ⟨.value (.tmp 21),#[],#[]⟩/\e.guard=none/\e.dst=none/\e.op=.store 28 (.tmp 4) (.tmp 22):=
 ⟨_,_,_,_,_,_,_,rfl,rfl,rfl,rfl,rfl,rfl,rfl,rfl,rfl,rfl,rfl,rfl,rfl,rfl,rfl,rfl⟩
theorem ZH:eX 6 Tryz.f313=.seq (tU (eX 6 Tryz.f313)) (.seq (tV (eX 6 Tryz.f313)) (tW (eX 6 Tryz.f313)))/\(tU (eX 6 Tryz.f313)).erase=c1 (ee Tryz.f313)/\(tV (eX 6 Tryz.f313)).erase=c2 (ee Tryz.f313)/\(tW (eX 6 Tryz.f313)).erase=c3 (ee Tryz.f313)/\
  codeOk 23 (tU (eX 6 Tryz.f313))=true/\codeOk 23 (tV (eX 6 Tryz.f313))=true/\codeOk 23 (tW (eX 6 Tryz.f313))=true:=
 ⟨by kernel_rfl,by kernel_rfl,by kernel_rfl,by kernel_rfl,by kernel_rfl,by kernel_rfl,by kernel_rfl⟩
theorem WR:∃e a f b g d c,(Tryz.f319).body=some (.seq (.region e #[a] false) (.block 0 (.seq (.region f #[b] false) (.cond (.tmp 9) (.region g #[d] false) c))))/\
  a.guard=none/\a.dst=some 7/\a.op=.call ⟨.builtin .recover,#[],#[]⟩/\b.guard=none/\b.dst=some 9/\b.op=.binOp .eql 20 (.tmp 7) (.const .nilIface) 20/\d.guard=none/\d.dst=some 3/\d.op=.assign (.tmp 7):=
 ⟨_,_,_,_,_,_,_,rfl,rfl,rfl,rfl,rfl,rfl,rfl,rfl,rfl,rfl⟩
theorem d319 (x y z:Value) (w:World) (j:∀v,R (.returned v) .returning w):CallsDIn (Fr none) 0 prog 319 #[x,y,z] .returning w R:=by
 obtain⟨J,f,K,g,M,i,c,k,l,m,n,p,r,t,u,A,C⟩:=WR
 refine EA func319 k trivial λd D e=>?_
 refine EB (EC ?_)
 show wpOpsSIn (Fr none) 0 prog #[f] _ [0] _ _ w
 have F:(#[f]:Array Oper)[0]?=some f:=rfl
 simp only[wpOpsSIn,F]
 refine⟨λ_ _=>trivial,?_⟩
 rw[ak (by unfold Region.wanted;rw[l])]
 have hex:∀ρ:Operand->Value,(execOp ρ f).run prog w=.ok .recover w:=λρ=>by
  unfold execOp;rw[n];rfl
 rw[hex]
 simp only
 have G:recoverD (d::D)=none:=by simp[recoverD,e]
 rw[G]
 simp only[Exit.thenS]
 refine ED rfl (vJ (gz (js ?_)))
 show wpOpsIn (Fr none) 0 prog #[g] _ [0] _ w
 rw[eR]
 have b:({tmps:=(#[x,y,z]:Array Value)++Array.replicate ((Tryz.f319).ntmps-(#[x,y,z]:Array Value).size) undef,defers:=[]}:Act).tmps.size=23:=sI
 rw[m]
 generalize H:({tmps:=(#[x,y,z]:Array Value)++Array.replicate ((Tryz.f319).ntmps-(#[x,y,z]:Array Value).size) undef,defers:=[]}:Act)=a at*
 have I:a.defers=[]:=by rw[<-H]
 refine fQ (o:=g) rfl p (gp (v:=.bool true) (w':=w) ?_ ?_)
 .unfold execOp;rw[t]
  simp only
  rw[fW (by rw[b];decide)]
  exact cd _ kK w
 show(Code.cond _ _ _).wpIn _ _ _ _ _ _
 rw[r]
 refine y8 (fW (by rw[size_put,b];decide)) (js ?_)
 show wpOpsIn (Fr none) 0 prog #[i] _ [0] _ w
 rw[eR]
 refine fQ (o:=i) rfl u (gp (v:=.nilIface) (w':=w) ?_ ?_)
 .unfold execOp;rw[C]
  simp only
  rw[fV dE,fW (by rw[b];decide)];rfl
 simp only[wpOpsIn,Exit.inBlock]
 rw[A]
 refine⟨I,.returning,by rw[<-e],.tuple #[],cd _ kK w,j _⟩
theorem t313 {pos:Int} {Rel:(aE:Ty).den->List aK->Prop} {k:(aE:Ty).den->Pr} (h:ab E w (be b l pos 0::L)) (hr:∀w,(eW f #[]).run prog w=.ok (.enter g args) w)
  (hc:∀u (M:List aK),ab E u (be b l pos 0::(M++L))->Calls prog g args u λe w'=>∃x m,e=.returned ((aE:Ty).val x)/\Rel x m/\ab E w' (be b l p2 0::(M++m))) (Y:∀x m w',Rel x m->ab E w' (be b l p2 0::m)->k x w'):
  CL 313 #[.pointer (some ⟨b,0,none⟩),f] (aE) k w:=by
 obtain⟨i4,R,H,i5,S,J,T,Z,g1,d1,p1,g2,d2,q2,g3,d3,p3,g4,d4,p4,g5,d5,p5⟩:=abT
 obtain⟨hs,e1,e2,e3,k1,k2,k3⟩:=ZH
 refine⟨(mv (ro:=none) (n:=0)).1 (xF func313 Z trivial ?_)⟩
 rw[<-e1,<-e2,<-e3]
 have ha:({tmps:=(#[.pointer (some ⟨b,0,none⟩),f]:Array Value)++Array.replicate ((Tryz.f313).ntmps-(#[.pointer (some ⟨b,0,none⟩),f]:Array Value).size) undef,defers:=[]}:Act)={tmps:=⟨[.pointer (some ⟨b,0,none⟩),f]++List.replicate 21 undef⟩,defers:=[]}:=kK
 rw[ha]
 have U:vc prog (eX 6 Tryz.f313) (QR (λv1 v2 v4 v5 w'=>∃c a i z,v1=f/\v2=pa ⟨c,0,none⟩/\v4=pa ⟨a,0,none⟩/\v5=pa ⟨i,0,none⟩/\ab E w' (be b l pos 0::lc i 3 [iv pos]::lc a 28 [z]::lc c 288 [.pointer (some ⟨b,0,none⟩)]::L)) (λ_ _=>False)) {tmps:=⟨[.pointer (some ⟨b,0,none⟩),f]++List.replicate 21 undef⟩,defers:=[]} w:=by
  refine ab4 _ _ _ _ _ ?_
  refine bx h λc w h=>?_
  refine al h λa w h=>?_
  rw[show gq 28=⟨[sv au]⟩by kernel_rfl]at h
  refine ld h ?_
  refine dw (x:=false) kK ?_
  refine aL ?_
  refine ar rfl ?_
  refine ld h ?_
  refine aq ?_
  refine ld h ?_
  refine ao λ_=>?_
  refine ar rfl ?_
  refine ld h ?_
  refine aq ?_
  refine ld h ?_
  refine al h λi w h=>?_
  refine nu h λw h=>?_
  exact⟨c,a,i,_,rfl,rfl,rfl,rfl,h.sub (by repeat (first|exact Sub.done|refine Sub.take pK ?_|refine Sub.skip ?_))⟩
 rw[hs]at U
 refine Aa follows k1 k2 k3 sI U (λt w' K y A=>?_) (λe t w' O K y=>?_)
 rotate_left
 .cases e<;>first|exact(O rfl).elim|exact K.elim
 obtain⟨c,a,i,z,s1,s2,V,s5,h⟩:=K
 refine gz (js ?_)
 show wpOpsIn (Fr none) 0 prog #[R,H] _ [0,1] _ _
 rw[eR]
 refine fQ (o:=R) rfl g1 (gp (v:=.func (.func 319) #[] #[pa ⟨i,0,none⟩,pa ⟨a,0,none⟩,pa ⟨c,0,none⟩]) (w':=w') ?_ ?_)
 .unfold execOp;rw[p1]
  simp only[pE,eZ,ki,CC,s5,V,s2]
  exact cd _ kK w'
 rw[eR,d1]
 refine fQ (o:=H) rfl g2 ⟨λ_ _=>trivial,?_⟩
 have C:(H.semAt none (t.put (some 20) (.func (.func 319) #[] #[pa ⟨i,0,none⟩,pa ⟨a,0,none⟩,pa ⟨c,0,none⟩])).eval).run prog w'=.ok (.defer {target:=.fn (.func 319) #[pa ⟨i,0,none⟩,pa ⟨a,0,none⟩,pa ⟨c,0,none⟩],args:=#[]}) w':=by
  show(execOp _ H).run prog w'=_
  unfold execOp;rw[q2]
  simp only[resolve,pE,ki]
  rw[fW (by rw[A];decide)]
  exact cd _ kK w'
 rw[show(Fr none).round=none from rfl,C,EE]
 simp only[wpOpsIn,Exit.then]
 rw[d2,vx,ng,y]
 refine gz (js ?_)
 show wpOpsIn (Fr none) 0 prog #[S,J,T] _ [0,1,2] _ _
 generalize j:({t.put (some 20) (.func (.func 319) #[] #[pa ⟨i,0,none⟩,pa ⟨a,0,none⟩,pa ⟨c,0,none⟩])with defers:=[{target:=.fn (.func 319) #[pa ⟨i,0,none⟩,pa ⟨a,0,none⟩,pa ⟨c,0,none⟩],args:=#[]}]}:Act)=p
 have W:p.tmps.size=23:=by rw[<-j];show(t.put _ _).tmps.size=23;rw[size_put,A]
 have r1:p.eval (.tmp 1)=f:=by rw[<-j];show(t.put _ _).eval (.tmp 1)=f;rw[fV dE];exact s1
 have X:p.eval (.tmp 4)=pa ⟨a,0,none⟩:=by rw[<-j];show(t.put _ _).eval (.tmp 4)=_;rw[fV dE];exact V
 have rd:p.defers=[{target:=.fn (.func 319) #[pa ⟨i,0,none⟩,pa ⟨a,0,none⟩,pa ⟨c,0,none⟩],args:=#[]}]:=by rw[<-j]
 clear j
 rw[eR]
 refine fQ (o:=S) rfl g3 (gp (v:=f) (w':=w') ?_ ?_)
 .unfold execOp;rw[p3]
  simp only[r1];rfl
 rw[eR,d3]
 refine fQ (o:=J) rfl g4 ⟨λ_ _=>trivial,?_⟩
 have r:execOp (p.put (some 21) f).eval J=eW f #[]:=by
  unfold execOp;rw[p4]
  simp only[resolve,pE,ki]
  rw[fW (by rw[W];decide)];rfl
 rw[show(Fr none).round=none from rfl,re (x:=.enter g args) (w':=w') (by rw[r];exact hr w') (λd hd=>by cases hd),vH]
 refine⟨λh=>(by cases h),vI (mv.2 (hc w' [lc i 3 [iv pos],lc a 28 [z],lc c 288 [.pointer (some ⟨b,0,none⟩)]] h)) λe u O=>?_⟩
 obtain⟨x,m,rfl,D,h⟩:=O
 have h:ab E u (be b l p2 0::lc i 3 [iv pos]::lc a 28 [z]::lc c 288 [.pointer (some ⟨b,0,none⟩)]::m):=h
 simp only
 rw[eR,d4]
 have Q:(ST 28 ⟨a,0,none⟩ (sv x) λw'=>ab E w' (lc a 28 [sv x]::be b l p2 0::lc i 3 [iv pos]::lc c 288 [.pointer (some ⟨b,0,none⟩)]::m)) u:=nu h λw' h=>by exact h
 obtain⟨I,F,h⟩:=Q.out
 refine fQ (o:=T) rfl g5 (yQ (w':=I) ?_ ?_)
 .unfold execOp;rw[p5]
  simp only
  rw[fW (by simp only[size_put,W];decide),fV dE,fV dE,X]
  exact F
 simp only[wpOpsIn,Exit.then]
 refine Ef ?_
 show LeavesIn (Fr none) 0 prog Tryz.f313 _ _ _ .returning I
 rw[d5,vx,ng,ng,rd]
 refine EF (f:=319) (args:=#[pa ⟨i,0,none⟩,pa ⟨a,0,none⟩,pa ⟨c,0,none⟩]) (by intro hh;cases hh) (λh=>by cases h) (cd _ kK I) (λ_ _=>trivial) ?_
 refine d319 _ _ _ I λv=>?_
 simp only[settle]
 refine⟨(aE:Ty).val x,?_,x,rfl,Y _ _ _ D (h.swap.sub (by repeat (first|exact Sub.done|refine Sub.take pK ?_|refine Sub.skip ?_)))⟩
 rw[xg]
 have G:ph Tryz.f313 (((p.put (some 21) f).put (some 22) ((aE:Ty).val x)).tmps)=[.cell (pa ⟨a,0,none⟩) 28]:=by
  have:ph Tryz.f313 (((p.put (some 21) f).put (some 22) ((aE:Ty).val x)).tmps)=[.cell (((p.put (some 21) f).put (some 22) ((aE:Ty).val x)).eval (.tmp 4)) 28]:=kK
  rw[this,fV dE,fV dE,X]
 rw[G]
 exact AF h .head rfl kK
abbrev nQ (e:Int):Value:=.iface 331 (.agg #[iv e])
theorem abY:∃j a k b l m d e f n g i c,(Tryz.f302).body=some (.seq (.region j #[a] false) (.block 0 (.seq (.region k #[b] false) (.cond (.tmp 9) l (.seq (.region m #[d,e,f] false) (.cond (.tmp 11) (.seq (.region n #[g,i] false) (d78 (ee Tryz.f302))) c))))))/\
  a.guard=none/\a.dst=some 7/\a.op=.call ⟨.builtin .recover,#[],#[]⟩/\b.guard=none/\b.dst=some 9/\b.op=.binOp .eql 20 (.tmp 7) (.const .nilIface) 20/\
  d.guard=none/\d.dst=some 10/\d.op=.typeAssert (.tmp 7) 20 331 true/\e.guard=none/\e.dst=some 11/\e.op=.extract (.tmp 10) 1/\f.guard=none/\f.dst=some 12/\f.op=.extract (.tmp 10) 0/\
  g.guard=none/\g.dst=some 4/\g.op=.alloc 331/\i.guard=none/\i.dst=none/\i.op=.store 331 (.tmp 4) (.tmp 12):=
 ⟨_,_,_,_,_,_,_,_,_,_,_,_,_,rfl,rfl,rfl,rfl,rfl,rfl,rfl,rfl,rfl,rfl,rfl,rfl,rfl,rfl,rfl,rfl,rfl,rfl,rfl,rfl,rfl,rfl⟩
def tyY:List Ty:=[aI,ah,dB]
def yp (a:Func):fZ:=(SA.dec tyY [] [] [3,1,1,1,0,2,3,0,0,3,1,0,1,2,1,3,3,1,1,4,1,3,5,1,5,6,1,5,0,2,7,2,1,8,1,5,9,1,5,0,2,10,2,1,11,1,5,12,0,0]).on (d78 (ee a))
theorem ZJ:(yp Tryz.f302).erase=d78 (ee Tryz.f302)/\codeOk 23 (yp Tryz.f302)=true:=⟨by kernel_rfl,by kernel_rfl⟩
def QN (R:Pr):Exit->Act->Pr
 |.normal,a=>R
 |_,_=>λ_=>False
def aA (x y z:Value):Act:={tmps:=(#[x,y,z]:Array Value)++Array.replicate 20 undef,defers:=[]}
theorem Sw (x y z:Value):(aA x y z).tmps.size=23:=by simp[aA]
theorem Sv (x y z:Value):({tmps:=(#[x,y,z]:Array Value)++Array.replicate ((Tryz.f302).ntmps-(#[x,y,z]:Array Value).size) undef,defers:=[]}:Act)=aA x y z:=kK
theorem Su (x y z:Value):(aA x y z).defers=[]:=rfl
def aF (x y z F a:Value) (b:Addr):Act:=((((((aA x y z).put (some 7) F).put (some 9) (.bool false)).put (some 10) (.tuple #[a,.bool true])).put (some 11) (.bool true)).put (some 12) a).put (some 4) (pa b)
attribute [local irreducible] aA
theorem ab5 (k c1 c2 b:Addr) (F j:Value) (R:Pr) (w:World) (h:(aY<|LD 288 c2 aI λc=>LD 288 c2 aI λd=>LD 3 k ah λf=>LD 31 (Addr.add b 0) ah λa=>ST 25 c1 (.int .u64 0)<|LK 31 (Addr.add b 0) (iv a)<|NC c λg=>ST 3 (Addr.add g 1) (iv f)<|LK 31 (Addr.add b 0) (iv a)<|NC d λi=>ST 31 (Addr.add i 2) (iv a)<|R) w):
  vc prog (yp Tryz.f302) (QN R) (aF (pa k) (pa c1) (pa c2) F j b) w:=by
 have e:vc prog (yp Tryz.f302) (QN R) (aF (pa k) (pa c1) (pa c2) F j b)=(aY<|LD 288 c2 aI λc=>LD 288 c2 aI λd=>LD 3 k ah λf=>LD 31 (Addr.add b 0) ah λa=>ST 25 c1 (.int .u64 0)<|LK 31 (Addr.add b 0) (iv a)<|NC c λg=>ST 3 (Addr.add g 1) (iv f)<|LK 31 (Addr.add b 0) (iv a)<|NC d λi=>ST 31 (Addr.add i 2) (iv a)<|R):=kK
 rw[e];exact h
theorem abD {pos:Int} {x:Int} (h:ab E w (be b l p2 0::lc t5 3 [iv pos]::lc t4 25 [.int .u64 x]::lc t2 288 [.pointer (some ⟨b,0,none⟩)]::L))
  (M:∀v u w',settle u=.returning->ab E w' (be b l pos e::lc t5 3 [iv pos]::lc t4 25 [.int .u64 0]::lc t2 288 [.pointer (some ⟨b,0,none⟩)]::L)->R (.returned v) u w'):
  CallsDIn (Fr none) 0 prog 302 #[pa ⟨t5,0,none⟩,pa ⟨t4,0,none⟩,pa ⟨t2,0,none⟩] (.panicking [{v:=nQ e,recovered:=false}]) w R:=by
 obtain⟨i0,i,i3,z,c4,i5,A,C,D,i6,F,G,c,O,Q,S,T,U,V,j,W,X,Y,Z,d4,p4,g5,d5,p5,g6,d6,p6,g7,d7,p7⟩:=abY
 refine EA func302 O trivial λd H k=>?_
 rw[Sv]
 refine EB (EC ?_)
 show wpOpsSIn (Fr none) 0 prog #[i] _ [0] _ _ w
 have h0:(#[i]:Array Oper)[0]?=some i:=rfl
 simp only[wpOpsSIn,h0]
 refine⟨λ_ _=>trivial,?_⟩
 rw[ak (by unfold Region.wanted;rw[Q])]
 have hex:∀ρ:Operand->Value,(execOp ρ i).run prog w=.ok .recover w:=λρ=>by
  unfold execOp;rw[T];rfl
 rw[hex]
 simp only
 have hn:recoverD (d::H)=some (nQ e,{d with mode:=.panicking [{v:=nQ e,recovered:=true}]}::H):=by simp[recoverD,k]
 rw[hn]
 simp only[Exit.thenS]
 generalize m:({d with mode:=.panicking [{v:=nQ e,recovered:=true}]}:Frame)=c1
 refine ED rfl (vJ (gz (js ?_)))
 show wpOpsIn (Fr none) 0 prog #[z] _ [0] _ w
 rw[eR,S]
 have a:=Sw (pa ⟨t5,0,none⟩) (pa ⟨t4,0,none⟩) (pa ⟨t2,0,none⟩)
 refine fQ (o:=z) rfl U (gp (v:=.bool false) (w':=w) ?_ ?_)
 .unfold execOp;rw[j]
  simp only
  rw[fW (by exact vV dE a.symm)]
  exact cd _ kK w
 show(Code.cond _ _ _).wpIn _ _ _ _ _ _
 rw[V]
 refine wpIn_cond_false (fW (by rw[size_put];exact vV dE a.symm)) (gz (js ?_))
 show wpOpsIn (Fr none) 0 prog #[A,C,D] _ [0,1,2] _ w
 rw[eR]
 refine fQ (o:=A) rfl W (gp (v:=.tuple #[.agg #[iv e],.bool true]) (w':=w) ?_ ?_)
 .unfold execOp;rw[Y]
  simp only
  rw[fV dE,fW (by exact vV dE a.symm)]
  exact cd _ kK w
 rw[eR,X]
 refine fQ (o:=C) rfl Z (gp (v:=.bool true) (w':=w) ?_ ?_)
 .unfold execOp;rw[p4]
  simp only
  rw[fW (by rw[size_put,size_put];exact vV dE a.symm)]
  exact cd _ kK w
 rw[eR,d4]
 refine fQ (o:=D) rfl g5 (gp (v:=.agg #[iv e]) (w':=w) ?_ ?_)
 .unfold execOp;rw[p5]
  simp only
  rw[fV dE,fW (by rw[size_put,size_put];exact vV dE a.symm)]
  exact cd _ kK w
 simp only[wpOpsIn,Exit.then]
 rw[d5]
 refine y8 ?_ (gz (js ?_))
 .rw[fV dE]
  exact fW (by rw[size_put,size_put,size_put];exact vV dE a.symm)
 show wpOpsIn (Fr none) 0 prog #[F,G] _ [0,1] _ w
 rw[eR]
 refine fQ (o:=F) rfl g6 ?_
 have n:(AL 331 λt=>λw'=>∃c,t=⟨c,0,none⟩/\ab E w' (lc c 331 [iv 0]::be b l p2 0::lc t5 3 [iv pos]::lc t4 25 [.int .u64 x]::lc t2 288 [.pointer (some ⟨b,0,none⟩)]::L)) w:=al h λb' w' h=>⟨b',rfl,by exact h⟩
 obtain⟨t,I,f,g,rfl,h⟩:=n.out
 refine gp (v:=pa ⟨g,0,none⟩) (w':=I) (by unfold execOp;rw[p6];exact f) ?_
 rw[eR,d6]
 refine fQ (o:=G) rfl g7 ?_
 have p:(ST 331 ⟨g,0,none⟩ (.agg #[iv e]) λw'=>ab E w' (lc g 331 [iv e]::be b l p2 0::lc t5 3 [iv pos]::lc t4 25 [.int .u64 x]::lc t2 288 [.pointer (some ⟨b,0,none⟩)]::L)) I:=bU h λw' h=>by exact h
 obtain⟨r,f,h⟩:=p.out
 refine yQ (w':=r) ?_ ?_
 .unfold execOp;rw[p7]
  simp only
  rw[fW (by simp only[size_put];exact vV dE a.symm),fV dE,fW (by simp only[size_put];exact vV dE a.symm)]
  exact f
 simp only[wpOpsIn,Exit.then]
 rw[d7,vx]
 obtain⟨he,y⟩:=ZJ
 rw[<-he]
 have hQ:vc prog (yp Tryz.f302) (QN λw'=>ab E w' (be b l pos e::lc t5 3 [iv pos]::lc t4 25 [.int .u64 0]::lc t2 288 [.pointer (some ⟨b,0,none⟩)]::L)) (aF (pa ⟨t5,0,none⟩) (pa ⟨t4,0,none⟩) (pa ⟨t2,0,none⟩) (nQ e) (.agg #[iv e]) ⟨g,0,none⟩) r:=by
  refine ab5 _ _ _ _ _ _ _ _ ?_
  refine dr h λw h=>?_
  refine ld h ?_
  refine ld h ?_
  refine ld h ?_
  refine ld h ?_
  refine st h λw h=>?_
  refine lk h ?_
  refine aq ?_
  refine st h λw h=>?_
  refine lk h ?_
  refine aq ?_
  refine st h λw h=>?_
  exact h.sub (by repeat (first|exact Sub.done|refine Sub.take pK ?_|refine Sub.skip ?_))
 refine lq (mM (N:=23) (ro:=none) follows (yp Tryz.f302) _ (aF (pa ⟨t5,0,none⟩) (pa ⟨t4,0,none⟩) (pa ⟨t2,0,none⟩) (nQ e) (.agg #[iv e]) ⟨g,0,none⟩) r y (by simp only[aF,size_put];exact a) hQ) λex J w' ⟨K,h2⟩=>?_
 cases ex with
 |normal=>
  have hd:J.defers=[]:=by rw[h2.1];simp only[aF,ng,Su]
  have hs:settle (.panicking [{v:=nQ e,recovered:=true}])=.returning:=rfl
  have hr:(results Tryz.f302 J.tmps).run prog w'=.ok (.tuple #[]) w':=cd _ kK w'
  simp only[Exit.inBlock]
  exact⟨hd,.panicking [{v:=nQ e,recovered:=true}],by rw[<-m],.tuple #[],hr,M _ _ _ hs K⟩
 |_=>exact K.elim
theorem ahu {pos:Int} (h:ab E w (be b l pos 0::L)) (hr:∀w,(eW f #[]).run prog w=.ok (.enter g args) w)
  (hc:∀r (M:List aK),ab E r (be b l pos 0::(M++L))->Calls prog g args r λe w'=>e=.panicked [{v:=nQ er,recovered:=false}]/\ab E w' (be b l p2 0::(M++L))) (Q:∀w',ab E w' (be b l pos er::L)->k 0 w'):
  CL 271 #[.pointer (some ⟨b,0,none⟩),f] (.one (.leaf (.int .u64))) k w:=by
 obtain⟨i4,I,D,i5,J,F,R,S,T,U,V,W,X,Y,Z,d3,p3,g4,d4,p4,g5,d5,p5⟩:=HQ
 obtain⟨hs,e1,e2,e3,k1,k2,k3⟩:=Hi
 refine⟨(mv (ro:=none) (n:=0)).1 (xF func271 S trivial ?_)⟩
 rw[<-e1,<-e2,<-e3]
 have ha:({tmps:=(#[.pointer (some ⟨b,0,none⟩),f]:Array Value)++Array.replicate ((Tryz.f271).ntmps-(#[.pointer (some ⟨b,0,none⟩),f]:Array Value).size) undef,defers:=[]}:Act)={tmps:=⟨[.pointer (some ⟨b,0,none⟩),f]++List.replicate 21 undef⟩,defers:=[]}:=kK
 rw[ha]
 have K:vc prog (eX 4 Tryz.f271) (QR (λv1 v2 v4 v5 w'=>∃c a i,v1=f/\v2=pa ⟨c,0,none⟩/\v4=pa ⟨a,0,none⟩/\v5=pa ⟨i,0,none⟩/\ab E w' (be b l pos 0::lc i 3 [iv pos]::lc a 25 [.int .u64 0]::lc c 288 [.pointer (some ⟨b,0,none⟩)]::L)) (λ_ _=>False)) {tmps:=⟨[.pointer (some ⟨b,0,none⟩),f]++List.replicate 21 undef⟩,defers:=[]} w:=by
  refine HU _ _ _ _ _ ?_
  refine bx h λc w h=>?_
  refine al h λa w h=>?_
  rw[show gq 25=⟨[.int .u64 0]⟩by kernel_rfl]at h
  refine ld h ?_
  refine dw (x:=false) kK ?_
  refine aL ?_
  refine ar rfl ?_
  refine ld h ?_
  refine aq ?_
  refine ld h ?_
  refine ao λ_=>?_
  refine ar rfl ?_
  refine ld h ?_
  refine aq ?_
  refine ld h ?_
  refine al h λi w h=>?_
  refine nu h λw h=>?_
  exact⟨c,a,i,rfl,rfl,rfl,rfl,h.sub (by repeat (first|exact Sub.done|refine Sub.take pK ?_|refine Sub.skip ?_))⟩
 rw[hs]at K
 refine Aa follows k1 k2 k3 sI K (λt w' G y z=>?_) (λe t w' H G y=>?_)
 rotate_left
 .cases e<;>first|exact(H rfl).elim|exact G.elim
 obtain⟨c,a,i,s1,s2,O,s5,h⟩:=G
 refine gz (js ?_)
 show wpOpsIn (Fr none) 0 prog #[I,D] _ [0,1] _ _
 rw[eR]
 refine fQ (o:=I) rfl T (gp (v:=.func (.func 302) #[] #[pa ⟨i,0,none⟩,pa ⟨a,0,none⟩,pa ⟨c,0,none⟩]) (w':=w') ?_ ?_)
 .unfold execOp;rw[V]
  simp only[pE,eZ,ki,CC,s5,O,s2]
  exact cd _ kK w'
 rw[eR,U]
 refine fQ (o:=D) rfl W ⟨λ_ _=>trivial,?_⟩
 have A:(D.semAt none (t.put (some 20) (.func (.func 302) #[] #[pa ⟨i,0,none⟩,pa ⟨a,0,none⟩,pa ⟨c,0,none⟩])).eval).run prog w'=.ok (.defer {target:=.fn (.func 302) #[pa ⟨i,0,none⟩,pa ⟨a,0,none⟩,pa ⟨c,0,none⟩],args:=#[]}) w':=by
  show(execOp _ D).run prog w'=_
  unfold execOp;rw[Y]
  simp only[resolve,pE,ki]
  rw[fW (by rw[z];decide)]
  exact cd _ kK w'
 rw[show(Fr none).round=none from rfl,A,EE]
 simp only[wpOpsIn,Exit.then]
 rw[X,vx,ng,y]
 refine gz (js ?_)
 show wpOpsIn (Fr none) 0 prog #[J,F,R] _ [0,1,2] _ _
 generalize j:({t.put (some 20) (.func (.func 302) #[] #[pa ⟨i,0,none⟩,pa ⟨a,0,none⟩,pa ⟨c,0,none⟩])with defers:=[{target:=.fn (.func 302) #[pa ⟨i,0,none⟩,pa ⟨a,0,none⟩,pa ⟨c,0,none⟩],args:=#[]}]}:Act)=m
 have z2:m.tmps.size=23:=by rw[<-j];show(t.put _ _).tmps.size=23;rw[size_put,z]
 have r1:m.eval (.tmp 1)=f:=by rw[<-j];show(t.put _ _).eval (.tmp 1)=f;rw[fV dE];exact s1
 have r4:m.eval (.tmp 4)=pa ⟨a,0,none⟩:=by rw[<-j];show(t.put _ _).eval (.tmp 4)=_;rw[fV dE];exact O
 have rd:m.defers=[{target:=.fn (.func 302) #[pa ⟨i,0,none⟩,pa ⟨a,0,none⟩,pa ⟨c,0,none⟩],args:=#[]}]:=by rw[<-j]
 clear j
 rw[eR]
 refine fQ (o:=J) rfl Z (gp (v:=f) (w':=w') ?_ ?_)
 .unfold execOp;rw[p3]
  simp only[r1];rfl
 rw[eR,d3]
 refine fQ (o:=F) rfl g4 ⟨λ_ _=>trivial,?_⟩
 have p:execOp (m.put (some 21) f).eval F=eW f #[]:=by
  unfold execOp;rw[p4]
  simp only[resolve,pE,ki]
  rw[fW (by rw[z2];decide)];rfl
 rw[show(Fr none).round=none from rfl,re (x:=.enter g args) (w':=w') (by rw[p];exact hr w') (λd hd=>by cases hd),vH]
 refine⟨λh=>(by cases h),vI (mv.2 (hc w' [lc i 3 [iv pos],lc a 25 [.int .u64 0],lc c 288 [.pointer (some ⟨b,0,none⟩)]] h)) λe r H=>?_⟩
 obtain⟨rfl,h⟩:=H
 have h:ab E r (be b l p2 0::lc i 3 [iv pos]::lc a 25 [.int .u64 0]::lc c 288 [.pointer (some ⟨b,0,none⟩)]::L):=h
 show LeavesIn (Fr none) 0 prog Tryz.f271 _ _ _ (.panicking _) r
 rw[ng,rd]
 refine EF (f:=302) (args:=#[pa ⟨i,0,none⟩,pa ⟨a,0,none⟩,pa ⟨c,0,none⟩]) (by intro hh;cases hh) (λh=>by cases h) (cd _ kK r) (λ_ _=>trivial) ?_
 refine abD h λv u w3 hu h=>?_
 simp only[hu]
 refine⟨.int .u64 0,?_,(0:Int),rfl,Q _ (h.sub (by repeat (first|exact Sub.done|refine Sub.take pK ?_|refine Sub.skip ?_)))⟩
 rw[xg]
 have C:ph Tryz.f271 ((m.put (some 21) f).tmps)=[.cell (pa ⟨a,0,none⟩) 25]:=by
  have:ph Tryz.f271 ((m.put (some 21) f).tmps)=[.cell ((m.put (some 21) f).eval (.tmp 4)) 25]:=kK
  rw[this,fV dE,r4]
 rw[C]
 exact AF h (.tail (.tail .head)) rfl kK
theorem ahv {pos:Int} (h:ab E w (be b l pos er::L)) (o:er≠0) (r:∀a,ab E a (be b l pos er::L)->k 0 a):
  CL 271 #[.pointer (some ⟨b,0,none⟩),f] (.one (.leaf (.int .u64))) k w:=by
 obtain⟨J,K,M,O,Q,R,S,t,T,U,V,W,X,Y,Z,d3,p3,g4,d4,p4,g5,d5,p5⟩:=HQ
 obtain⟨u,v,y,z,A,C,D⟩:=Hi
 refine⟨(mv (ro:=none) (n:=0)).1 (xF func271 t trivial ?_)⟩
 rw[<-v,<-y,<-z]
 have F:({tmps:=(#[.pointer (some ⟨b,0,none⟩),f]:Array Value)++Array.replicate ((Tryz.f271).ntmps-(#[.pointer (some ⟨b,0,none⟩),f]:Array Value).size) undef,defers:=[]}:Act)={tmps:=⟨[.pointer (some ⟨b,0,none⟩),f]++List.replicate 21 undef⟩,defers:=[]}:=kK
 rw[F]
 have p:vc prog (eX 4 Tryz.f271) (QR (λ_ _ _ _ _=>False) (λG a=>∃c i,G=pa ⟨c,0,none⟩/\ab E a (lc c 25 [.int .u64 0]::lc i 288 [.pointer (some ⟨b,0,none⟩)]::be b l pos er::L))) {tmps:=⟨[.pointer (some ⟨b,0,none⟩),f]++List.replicate 21 undef⟩,defers:=[]} w:=by
  refine HU _ _ _ _ _ ?_
  refine bx h λi w h=>?_
  refine al h λc w h=>?_
  rw[show gq 25=⟨[.int .u64 0]⟩by kernel_rfl]at h
  refine ld h ?_
  refine dw (x:=false) kK ?_
  refine aL ?_
  refine ar rfl ?_
  refine ld h ?_
  refine aq ?_
  refine ld h ?_
  refine ao λ_=>?_
  refine aR (bne_iff_ne.2 o) ?_
  refine ld h ?_
  refine nu h λw h=>?_
  exact⟨c,i,rfl,h.sub (by repeat (first|exact Sub.done|refine Sub.take pK ?_|refine Sub.skip ?_))⟩
 rw[u]at p
 refine Aa follows A C D sI p (λj a m d H=>m.elim) (λe j a o m d=>?_)
 cases e with
 |ret=>
  obtain⟨c,i,I,h⟩:=m
  show LeavesIn (Fr none) 0 prog Tryz.f271 _ _ _ .returning a
  rw[d]
  refine⟨.int .u64 0,?_,(0:Int),rfl,r _ (h.sub (by repeat (first|exact Sub.done|refine Sub.take pK ?_|refine Sub.skip ?_)))⟩
  rw[xg]
  have g:ph Tryz.f271 j.tmps=[.cell (pa ⟨c,0,none⟩) 25]:=by
   have:ph Tryz.f271 j.tmps=[.cell (slot j 4) 25]:=kK
   rw[this,I]
  rw[g]
  exact AF h .head rfl kK
 |_=>first|exact(o rfl).elim|exact m.elim
theorem ag7 (x y:Operand) (n:Int) (c:Nat) (hc:c<=64):aQ prog (cL .shl 25 x y (.int .u64 n) (iv (c:Int)))=some (.value (.int .u64 (IntKind.u64.wrap (n*2^c)))):=by
 have a:¬((c:Int)<0):=om
 have b:min (c:Int).toNat IntKind.u64.bits=c:=by
  have:IntKind.u64.bits=64:=rfl
  rw[this];omega
 have d:aQ prog (cL .shl 25 x y (.int .u64 n) (iv (c:Int)))=aQ prog (do let v<-Op.shift .shl .u64 n .i64 (c:Int);pure (Next.value v)):=kK
 rw[d,eJ]
 unfold Op.shift
 rw[ai a]
 simp only[b]
 rfl
theorem u64_in {n:Int} (h:0<=n/\n<=18446744073709551615):IntKind.u64.wrap n=n:=yY _ h
theorem abw (a b k:Nat) (ha:a<128^k) (g:k<=9) (j:b<128) (h:a+b*128^k<18446744073709551616):IntKind.u64.wrap ((BitVec.ofInt IntKind.u64.bits (a:Int)|||BitVec.ofInt IntKind.u64.bits (IntKind.u64.wrap ((b:Int)*2^(7*k)))).toNat:Int)=((a+b*128^k:Nat):Int):=by
 have c:(128:Nat)^k=2^(7*k):=by rw[Nat.pow_mul]
 have d:IntKind.u64.wrap ((b:Int)*2^(7*k))=((b*128^k:Nat):Int):=by
  have:((b:Int)*2^(7*k))=((b*128^k:Nat):Int):=by rw[c];push_cast;rfl
  rw[this]
  exact u64_in om
 have e:IntKind.u64.bits=64:=rfl
 rw[d,e,Ey,iQ,iQ,gW,gW,hU om,hU om]
 have f:a|||b*128^k=a+b*128^k:=by
  have:=Jr (i:=7*k) (show a<2^(7*k)by rw[<-c];exact ha) b
  rw[Ep,<-c]at this
  rw[Jl,<-this,Eg]
 rw[f]
 exact u64_in om
variable {F:bh}
theorem FU (h:ab E w (be b l pos 0::L)) (i:l.length<=1000000000) (c:pos<l.length) (d:∀a,ab E a (be b l (pos+1:Nat) 0::L)->k ((l[pos].toNat:Nat):Int) a):CL 303 #[.pointer (some ⟨b,0,none⟩)] (.one (.leaf (.int .u8))) k w:=by
 refine afv ?_
 refine aL ?_
 refine dr h λw h=>?_
 refine aq ?_
 refine ld h ?_
 refine aq ?_
 refine ld h ?_
 refine ar ?_ ?_
 .have f:¬((pos:Int)>=((B l).size:Int)):=by rw[cJ];omega
  exact eM f
 refine ao λ_=>?_
 refine aq ?_
 refine ld h ?_
 refine aq ?_
 refine st h λw h=>?_
 refine dr h λw h=>?_
 refine aq ?_
 refine ld h ?_
 refine aq ?_
 refine ld (x:=w6 ((pos:Int)+1)) h ?_
 have e:w6 (w6 ((pos:Int)+1)-1)=(pos:Int):=by rw[bQ (n:=(pos:Int)+1) om,bQ om];omega
 rw[e]
 refine mJ c ?_
 have g:w6 ((pos:Int)+1)=((pos+1:Nat):Int):=by rw[bQ om];omega
 refine d _ ?_
 rw[<-g]
 exact h
theorem A9 (n:Nat):aH n=if n<128 then[u8 n]else u8 ((n%128+128:Nat):Int)::aH (n/128):=by
 conv=>lhs;unfold aH
 split<;>rfl
theorem vF (h:n<256):(u8 (n:Int)).toNat=n:=by
 unfold u8
 have:((n:Int)%256).toNat=n:=om
 rw[this]
 exact EG h
theorem Cj (h:ab E w (be b l pos 0::L)) (hl:l.length<=1000000000) (hd:l.drop pos=aH n++rest) (hn:n<18446744073709551616)
  (hk:∀w',ab E w' (be b l (pos+(aH n).length:Nat) 0::L)->k (n:Int) w'):CL 272 #[.pointer (some ⟨b,0,none⟩)] (.one (.leaf (.int .u64))) k w:=by
 refine aeY ?_
 refine aL ?_
 refine gD (S:=Int×Int) 10 (λi s w=>s.2=(i:Int)/\i<=9/\∃p:Nat,s.1=((n%128^i:Nat):Int)/\(0<i->128^i<=n)/\l.drop p=aH (n/128^i)++rest/\p+(aH (n/128^i)).length=pos+(aH n).length/\ab E w (be b l p 0::L))
  ⟨rfl,jt _,pos,by simp[Nat.mod_one],λh=>absurd h dE,by simpa using hd,sI,h⟩ ?_
 rintro next ⟨a,_⟩ w i hi ⟨rfl,O,p,ha,P,d,f,h⟩ y
 simp only at ha
 subst ha
 refine ao λ_=>?_
 refine aR (eu (by simp only;omega)) ?_
 have dy:n/128^i<18446744073709551616:=Jt (By _ _) hn
 have N:=A9 (n/128^i)
 have t:0<128^i:=Nat.pow_pos dE
 have u:=Nat.div_add_mod n (128^i)
 have Q:=qu n t
 have R:0<i->1<=n/128^i:=λm=>(Nat.one_le_div_iff t).2 (P m)
 have T:i=9->n/128^i<2:=λe=>by subst e;exact Nat.div_lt_of_lt_mul om
 have A:∀c:Nat,c<=n/128^i->n%128^i+c*128^i<18446744073709551616:=λc C=>by
  have:c*128^i<=n/128^i*128^i:=lR _ C
  rw[vO]at u
  omega
 generalize D:n/128^i=q at*
 have r:128<=q->i<=8:=λC=>by
  by_cases e:i=9
  .have:=T e;omega
  .omega
 have o:p<l.length:=by
  rcases kj p l.length with m|m
  .exact m
  .rw[Br m,N]at d
   split at d<;>simp at d
 have hb:∃c:Nat,l[p]=u8 (c:Int)/\c<256/\c%128=q%128/\(c<128↔q<128)/\(0<i->c≠0)/\(i=9->c<=1):=by
  rw[iB o,N]at d
  by_cases C:q<128
  .rw[ak C]at d
   simp only[nA,xG]at d
   exact⟨q,d.1,om,rfl,Iff.rfl,λm=>by have:=R m;omega,λe=>by have:=T e;omega⟩
  .rw[ai C]at d
   simp only[nA,xG]at d
   exact⟨q%128+128,d.1,om,om,om,λ_=>by omega,λe=>by have:=T e;omega⟩
 obtain⟨c,U,V,W,G,X,Y⟩:=hb
 refine FU h hl o λw h=>?_
 rw[U,vF V]
 refine br (λ_ w=>ab E w (be b l (p+1:Nat) 0::L)) (λ_ w h=>?_) λJ hJ=>?_
 .refine ao λ_=>?_
  have e1:w6 (7*(i:Int))=((7*i:Nat):Int):=by rw[bQ om];omega
  have e2:IntKind.u64.wrap (Int.tmod (c:Int) 128)=((q%128:Nat):Int):=by
   have:Int.tmod (c:Int) 128=((c%128:Nat):Int):=rfl
   rw[this,W];exact u64_in om
  rw[e1,e2]
  refine jF (x:=IntKind.u64.wrap (((q%128:Nat):Int)*2^(7*i))) (ag7 (.tmp 30) (.tmp 32) _ (7*i) om) ?_
  have Z:q%128<=q:=Nat.mod_le _ _
  rw[abw _ _ _ Q O (qu _ dE) (A _ Z)]
  refine ax (λhd=>?_) (λhd=>?_)
  .have g:q<128:=G.1 (by have h1:(c:Int)<128:=cT hd;omega)
   rw[hU g,vO q,Eg,u]
   rw[N,ak g]at f
   refine ao λ_=>?_
   refine hk _ ?_
   rw[<-f];exact h
  .have j:128<=q:=by
      have:¬(c<128):=λm=>by have h1:¬(c:Int)<128:=cF hd;omega
      exact RQ λm=>this (G.2 m)
   have Ad:=r j
   have v:n/128^(i+1)=q/128:=by rw[vQ,<-EH,D]
   have H:n%128^(i+1)=n%128^i+q%128*128^i:=by
    rw[vQ,Nat.mod_mul,D,vO (128^i)]
   rw[N,ai om]at f d
   refine y om _ _ ⟨bV (n:=10) om om,om,p+1,by rw[H],λ_=>?_,?_,?_,h⟩
   .have h1:128*128^i<=q*128^i:=lR _ j
    have h2:q*128^i<=n:=by rw[vO];omega
    rw[vQ,vO];omega
   .rw[v]
    rw[iB o]at d
    simp only[nA,xG]at d
    exact d.2
   .rw[v,<-f,db];omega
 .have I:∀z:Bool,z=false->(JB (λFb=>af Fb (DU (vN (Instr.panic (.iface 331 (.agg #[iv 7]))))<|J ()) (J ())) λK=>af z (K true) (JB (λSO=>K SO) λM=>af ((i:Int)==9) (M (decide ((c:Int)>1))) (M false))) w:=by
     rintro z rfl
     refine aL ?_
     refine ar rfl ?_
     refine aL ?_
     refine ax (λhd=>?_) (λhd=>?_)
     .have:=Y (by have:=ek hd;omega)
      refine ao λ_=>?_
      refine ao λ_=>?_
      refine ar (eM om) ?_
      exact hJ _ _ h
     .refine ao λ_=>?_
      refine ao λ_=>?_
      refine ar rfl ?_
      exact hJ _ _ h
  refine aL ?_
  refine ax (λhd=>?_) (λhd=>?_)
  .have h0:=ek hd
   refine ao λ_=>?_
   refine I _ (eM ?_)
   intro m
   exact X om om
  .refine ao λ_=>?_
   exact I _ rfl
def tyZ:List Ty:=[dB,ah,an]
def n1 (c:Code):Code:=match c with|.seq a (.seq (.seq b _) _)=>.seq a b|c=>c
def n2 (c:Code):Code:=match c with|.seq _ (.seq (.seq _ d) _)=>d|c=>c
def n3 (c:Code):Code:=match c with|.seq _ (.seq _ r)=>r|c=>c
def qS (a:Func):fZ:=(SA.dec tyZ [] [] [3,1,1,1,0,2,1,0,1,2,1,0,1,2,1,3,3,1,1,4,1,2,5,0,1,6,1,3,7,2,1,8,1,1,9,1,0]).on (n1 (ee a))
def sA:fZ->fZ|.seq a _=>a|c=>c
def sB:fZ->fZ|.seq _ b=>b|c=>c
theorem abR:∃g a d f r,(Tryz.f303).body=some (.seq (c1 (ee Tryz.f303)) (.seq (.seq (sB (qS Tryz.f303)).erase (.cond (.tmp 12) (.region g #[a,d,f] false) .skip)) r))/\
  a.guard=none/\a.dst=some 13/\a.op=.build 331 #[(0,.const (iv 8))]/\d.guard=none/\d.dst=some 14/\d.op=.makeInterface 331 (.tmp 13)/\f.guard=none/\f.dst=none/\f.op=.panic (.tmp 14):=by
 have e:(sB (qS Tryz.f303)).erase=(match ee Tryz.f303 with|.seq _ (.seq (.seq b _) _)=>b|c=>c):=kK
 rw[e]
 exact⟨_,_,_,_,_,rfl,rfl,rfl,rfl,rfl,rfl,rfl,rfl,rfl,rfl⟩
theorem ZF:qS Tryz.f303=.seq (sA (qS Tryz.f303)) (sB (qS Tryz.f303))/\(sA (qS Tryz.f303)).erase=c1 (ee Tryz.f303)/\codeOk 32 (sA (qS Tryz.f303))=true/\codeOk 32 (sB (qS Tryz.f303))=true:=⟨by kernel_rfl,by kernel_rfl,by kernel_rfl,by kernel_rfl⟩
def QB (R:Value->Pr):Exit->Act->Pr
 |.normal,a=>R (slot a 12)
 |_,_=>λ_=>False
theorem ab2 (b:Option Addr) (R:Value->Pr) (w:World) (h:(aY<|NC b λc=>LD 3 (Addr.add c 1) ah λd=>NC b λf=>LD 9 (Addr.add f 0) an λa=>R (.bool (decide ((d:Int)>=a.size)))) w):vc prog (qS Tryz.f303) (QB R) {tmps:=⟨[.pointer b]++List.replicate 31 undef⟩,defers:=[]} w:=by
 have e:vc prog (qS Tryz.f303) (QB R) {tmps:=⟨[.pointer b]++List.replicate 31 undef⟩,defers:=[]}=(aY<|NC b λc=>LD 3 (Addr.add c 1) ah λd=>NC b λf=>LD 9 (Addr.add f 0) an λa=>R (.bool (decide ((d:Int)>=a.size)))):=kK
 rw[e];exact h
theorem Vc (h:ab E w (be b l pos 0::L)) (p:l.length<=pos):Calls prog 303 #[.pointer (some ⟨b,0,none⟩)] w λe w'=>e=.panicked [{v:=nQ 8,recovered:=false}]/\ab E w' (be b l pos 0::L):=by
 obtain⟨U,t,u,g,r,y,z,A,C,D,G,H,I,V,J⟩:=abR
 obtain⟨K,M,N,O⟩:=ZF
 refine(mv (ro:=none) (n:=0)).1 (xF func303 y trivial ?_)
 have P:({tmps:=(#[.pointer (some ⟨b,0,none⟩)]:Array Value)++Array.replicate ((Tryz.f303).ntmps-(#[.pointer (some ⟨b,0,none⟩)]:Array Value).size) undef,defers:=[]}:Act)={tmps:=⟨[.pointer (some ⟨b,0,none⟩)]++List.replicate 31 undef⟩,defers:=[]}:=kK
 rw[P]
 have i:vc prog (qS Tryz.f303) (QB λv w'=>v=.bool true/\ab E w' (be b l pos 0::L)) {tmps:=⟨[.pointer (some ⟨b,0,none⟩)]++List.replicate 31 undef⟩,defers:=[]} w:=by
  refine ab2 _ _ _ ?_
  refine dr h λw h=>?_
  refine aq ?_
  refine ld h ?_
  refine aq ?_
  refine ld h ?_
  refine⟨?_,h⟩
  have Q:(pos:Int)>=((B l).size:Int):=by rw[cJ];omega
  rw[eu Q]
 rw[K]at i
 simp only[vc]at i
 rw[<-M]
 refine gz (lq (mM (ro:=none) follows _ _ _ w N sI i) λe R S ⟨j,c⟩=>?_)
 cases e with
 |normal=>
  simp only[Exit.then]at j⊢
  refine gz (gz (lq (mM (ro:=none) follows _ _ R S O (by rw[c.2.1];simp) j) λe k a ⟨x,d⟩=>?_))
  cases e with
  |normal=>
   obtain⟨T,h⟩:=x
   simp only[Exit.then]
   have f:k.tmps.size=32:=by rw[d.2.1,c.2.1];simp
   have m:k.defers=[]:=by rw[d.1,c.1]
   refine y8 T (js ?_)
   show wpOpsIn (Fr none) 0 prog #[t,u,g] _ [0,1,2] _ _
   rw[eR]
   refine fQ (o:=t) rfl z (gp (v:=.agg #[iv 8]) (w':=a) ?_ ?_)
   .unfold execOp;rw[C]
    exact cd _ kK a
   rw[eR,A]
   refine fQ (o:=u) rfl D (gp (v:=nQ 8) (w':=a) ?_ ?_)
   .unfold execOp;rw[H]
    simp only
    rw[fW (by rw[f];decide)]
    exact cd _ kK a
   rw[eR,G]
   refine fQ (o:=g) rfl I ⟨λ_ _=>trivial,?_⟩
   have p:((g.semAt none ((k.put (some 13) (.agg #[iv 8])).put (some 14) (nQ 8)).eval).run prog a)=.halt (.panic (nQ 8)) a:=by
    show(execOp _ g).run prog a=_
    unfold execOp;rw[J]
    simp only
    rw[fW (by rw[size_put,f];decide)]
    rfl
   rw[show(Fr none).round=none from rfl,p,Oper.uponIn_panic]
   show LeavesIn (Fr none) 0 prog Tryz.f303 _ _ _ (.panicking _) a
   rw[ng,ng,m]
   exact⟨rfl,h⟩
  |_=>exact x.elim
 |_=>exact j.elim
theorem abQ:∃j a k b l c m d n e f o g i p r t u,(Tryz.f272).body=some (.seq (.region j #[a] false) (.seq (.region k #[b] false) (.seq (.seq (.region l #[c] false) (.block 0 (.loop (.seq (.region m #[d] false) (.seq (.cond (.tmp 7) .skip (.exit 0)) (.seq (.block 1 (.seq (.region n #[e,f] false) (.seq (.region o #[g,i,p] false) r))) t)))))) u)))/\
  a.guard=none/\a.dst=some 2/\a.op=.assign (.const (.int .u64 0))/\b.guard=none/\b.dst=some 3/\b.op=.assign (.const (.int .u64 0))/\c.guard=none/\c.dst=some 6/\c.op=.move (.const (iv 0))/\
  d.guard=none/\d.dst=some 7/\d.op=.binOp .lss 3 (.tmp 6) (.const (iv 10)) 3/\e.guard=none/\e.dst=some 8/\e.op=.move (.tmp 6)/\f.guard=none/\f.dst=some 4/\f.op=.assign (.tmp 8)/\
  g.guard=none/\g.dst=some 9/\g.op=.move (.tmp 0)/\i.guard=none/\i.op=.call ⟨.value (.func 303),#[.tmp 9],#[288]⟩:=
 ⟨_,_,_,_,_,_,_,_,_,_,_,_,_,_,_,_,_,_,rfl,rfl,rfl,rfl,rfl,rfl,rfl,rfl,rfl,rfl,rfl,rfl,rfl,rfl,rfl,rfl,rfl,rfl,rfl,rfl,rfl,rfl,rfl,rfl⟩
theorem xb {rest:List Nat} {a:Act} (b:ops[i]?=some o) (c:o.guard=none) (hv:aQ prog (execOp a.eval o)=some (.value v)) (h:wpOpsIn (Fr none) 0 prog ops Q rest (a.put o.dst v) w):wpOpsIn (Fr none) 0 prog ops Q (i::rest) a w:=by
 rw[eR]
 exact fQ b c (gp (cd _ hv w) h)
theorem UZ (h:ab E w (be b l pos 0::L)) (m:l.length<=pos):Calls prog 272 #[.pointer (some ⟨b,0,none⟩)] w λe p=>e=.panicked [{v:=nQ 8,recovered:=false}]/\ab E p (be b l pos 0::L):=by
 obtain⟨i0,r,i1,t,i2,u,i3,x,i4,y,z,i5,k,g,A,ra,rb,rc,C,D,G,H,I,J,K,M,N,O,P,Q,R,S,T,U,V,W,X,Y,Z,p6,g7,p7⟩:=abQ
 refine(mv (ro:=none) (n:=0)).1 (xF func272 C trivial ?_)
 have ha:({tmps:=(#[.pointer (some ⟨b,0,none⟩)]:Array Value)++Array.replicate ((Tryz.f272).ntmps-(#[.pointer (some ⟨b,0,none⟩)]:Array Value).size) undef,defers:=[]}:Act)={tmps:=⟨[.pointer (some ⟨b,0,none⟩)]++List.replicate 38 undef⟩,defers:=[]}:=kK
 rw[ha]
 have c:({tmps:=⟨[.pointer (some ⟨b,0,none⟩)]++List.replicate 38 undef⟩,defers:=[]}:Act).tmps.size=39:=sI
 have h0:({tmps:=⟨[.pointer (some ⟨b,0,none⟩)]++List.replicate 38 undef⟩,defers:=[]}:Act).eval (.tmp 0)=.pointer (some ⟨b,0,none⟩):=rfl
 have i:({tmps:=⟨[.pointer (some ⟨b,0,none⟩)]++List.replicate 38 undef⟩,defers:=[]}:Act).defers=[]:=rfl
 generalize ({tmps:=⟨[.pointer (some ⟨b,0,none⟩)]++List.replicate 38 undef⟩,defers:=[]}:Act)=a at*
 refine gz (js (xb (o:=r) (v:=.int .u64 0) rfl D (by unfold execOp;rw[H];rfl) ?_))
 simp only[wpOpsIn,Exit.then,G]
 refine gz (js (xb (o:=t) (v:=.int .u64 0) rfl I (by unfold execOp;rw[K];rfl) ?_))
 simp only[wpOpsIn,Exit.then,J]
 refine gz (gz (js (xb (o:=u) (v:=iv 0) rfl M (by unfold execOp;rw[O];rfl) ?_)))
 simp only[wpOpsIn,Exit.then,N]
 refine vJ (wpIn_loop_rounds 1 ?_)
 rw[roundsIn_succ]
 refine gz (js (xb (o:=x) (v:=.bool true) rfl P (by unfold execOp;rw[R];simp only;rw[fW (by simp only[size_put,c];decide)];kernel_rfl) ?_))
 simp only[wpOpsIn,Exit.then,Q]
 refine gz (y8 (fW (by simp only[size_put,c];decide)) (wpIn_skip ?_))
 simp only[Exit.then]
 refine gz (vJ (gz (js ?_)))
 refine xb (o:=y) (v:=iv 0) rfl S (by unfold execOp;rw[U];simp only;rw[fV dE,fW (by simp only[size_put,c];decide)];rfl) ?_
 rw[T]
 refine xb (o:=z) (v:=iv 0) rfl V (by unfold execOp;rw[X];simp only;rw[fW (by simp only[size_put,c];decide)];rfl) ?_
 simp only[wpOpsIn,Exit.then,W]
 refine gz (js ?_)
 refine xb (o:=k) (v:=.pointer (some ⟨b,0,none⟩)) rfl Y (by unfold execOp;rw[p6];simp only;rw[fV dE,fV dE,fV dE,fV dE,fV dE,fV dE,h0];rfl) ?_
 rw[Z]
 show wpOpsIn (Fr none) 0 prog #[k,g,A] _ [1,2] _ _
 rw[eR]
 refine fQ (o:=g) rfl g7 ⟨λ_ _=>trivial,?_⟩
 have f:∀j:Act,j.tmps.size=39->(execOp (j.put (some 9) (.pointer (some ⟨b,0,none⟩))).eval g).run prog w=.ok (.enter 303 #[.pointer (some ⟨b,0,none⟩)]) w:=λj h3=>by
  unfold execOp;rw[p7]
  simp only[resolve,pE,eZ,ki]
  rw[fW (by rw[h3];decide)]
  exact cd _ kK w
 rw[show(Fr none).round=none from rfl,re (f _ (by simp only[size_put,c])) (λd hd=>by cases hd),vH]
 refine⟨λh=>(by cases h),vI (mv.2 (Vc h m)) λe w1 he=>?_⟩
 obtain⟨rfl,h⟩:=he
 show LeavesIn (Fr none) 0 prog Tryz.f272 _ _ _ (.panicking _) w1
 simp only[ng,i]
 exact⟨rfl,h⟩
theorem nL (h:ab E w (be b l pos 0::L)) (d:l.length<=1000000000) (hd:l.drop pos=aH n++rest) (hn:n<18446744073709551616)
  (f:∀a,ab E a (be b l (pos+(aH n).length:Nat) 0::L)->k (n:Int) a):CL 219 #[.pointer (some ⟨b,0,none⟩)] (.one (.leaf (.int .u64))) k w:=by
 refine HX ?_
 refine t271 (g:=272) (args:=#[.pointer (some ⟨b,0,none⟩)]) (p2:=(pos+(aH n).length:Nat)) (Rel:=λx c=>x=(n:Int)/\c=L) h (λw=>cd _ kK w) (λr M h=>?_) λx c a ⟨i,j⟩ m=>by subst i j;exact f _ m
 exact Calls.mono (Cj (k:=λx a=>x=(n:Int)/\ab E a (be b l (pos+(aH n).length:Nat) 0::(M++L))) h d hd hn λa h=>⟨rfl,h⟩).out λe a ⟨x,o,p,h⟩=>⟨x,L,o,⟨p,rfl⟩,h⟩
theorem K1 (h:ab E w (be b l pos 0::L)) (c:l.length<=pos) (d:∀a,ab E a (be b l pos 8::L)->k 0 a):CL 219 #[.pointer (some ⟨b,0,none⟩)] (.one (.leaf (.int .u64))) k w:=by
 refine HX ?_
 exact ahu (g:=272) (args:=#[.pointer (some ⟨b,0,none⟩)]) h (λw=>cd _ kK w) (λe M h=>UZ h c) d
theorem Uv {pos:Int} (h:ab E w (be b l pos er::L)) (c:er≠0) (d:∀a,ab E a (be b l pos er::L)->k 0 a):CL 219 #[.pointer (some ⟨b,0,none⟩)] (.one (.leaf (.int .u64))) k w:=by
 refine HX ?_
 exact ahv h c d
theorem AD {B:aK} {L:List aK}:∀M:List aK,b6 (M++B::L) B (M++L)
 |[]=>.head
 |_::M=>.tail (AD M)
theorem aio (n:Nat) (h:n<18446744073709551616):IntKind.u64.wrap ((BitVec.ofInt IntKind.u64.bits (n:Int)&&&BitVec.ofInt IntKind.u64.bits 1).toNat:Int)=((n%2:Nat):Int):=by
 show IntKind.u64.wrap ((BitVec.ofInt 64 (n:Int)&&&BitVec.ofInt 64 ((1:Nat):Int)).toNat:Int)=_
 rw[iQ,iQ,vT,gW,gW,hU om]
 have:n&&&1=n%2:=RS n
 rw[show 1%2^64=1 from rfl,this]
 exact u64_in om
theorem aiw {n:Int} (h:-9223372036854775808<=n/\n<=9223372036854775807):w6 ((BitVec.ofInt IntKind.i64.bits (w6 (((zz n/2:Nat):Int)))^^^BitVec.ofInt IntKind.i64.bits (w6 (0-(w6 ((zz n%2:Nat):Int))))).toNat:Int)=n:=by
 have c:IntKind.i64.bits=64:=rfl
 rw[c]
 have d:=vY h
 rw[bQ (n:=((zz n/2:Nat):Int)) om,bQ (n:=((zz n%2:Nat):Int)) om]
 by_cases b:0<=n
 .have e:zz n=2*n.toNat:=by unfold zz;rw[ak b]
  rw[e,show 2*n.toNat%2=0 by omega,show 2*n.toNat/2=n.toNat by omega]
  have a:BitVec.ofInt 64 (w6 (0-((0:Nat):Int)))=0#64:=by rfl
  rw[a,Jj,iQ,gW,hU om,bQ om]
  omega
 .have e:zz n=2*(-n).toNat-1:=by unfold zz;rw[ai b]
  rw[e,show(2*(-n).toNat-1)%2=1 by omega,show(2*(-n).toNat-1)/2=(-n).toNat-1 by omega]
  have a:BitVec.ofInt 64 (w6 (0-((1:Nat):Int)))=BitVec.allOnes 64:=by rfl
  rw[a,RI,iQ,Ex,gW,hU om]
  show w6 (((2^64-1-((-n).toNat-1):Nat):Int))=n
  show IntKind.i64.wrap _=n
  rw[IntKind.wrap_i64];omega
theorem Vr {n:Int} (h:ab E w (be b l pos 0::L)) (c:l.length<=1000000000) (hd:l.drop pos=aH (zz n)++rest) (hn:-9223372036854775808<=n/\n<=9223372036854775807)
  (d:∀a,ab E a (be b l (pos+(aH (zz n)).length:Nat) 0::L)->k n a):CL 326 #[.pointer (some ⟨b,0,none⟩)] ah k w:=by
 refine afQ ?_
 refine Cj h c hd (vY hn) λw h=>?_
 refine jF (x:=((zz n/2^1:Nat):Int)) (D0 _ _ (zz n) 1 .u64 om) ?_
 rw[show zz n/2^1=zz n/2 from rfl,aio _ (vY hn)]
 exact fin (d _ h) (aiw hn)
theorem Ly {k:ByteArray->Pr} (h:ab E w (be b l pos 0::L)) (g:l.length<=1000000000) (hd:l.drop pos=cz s++rest) (hm:s.length<=m) (o:m<=1000000)
  (p:∀e,ab E e (be b l (pos+(cz s).length:Nat) 0::L)->k (B s) e):CL 312 #[.pointer (some ⟨b,0,none⟩),.int .u64 (m:Int)] an k w:=by
 have a:pos+(cz s).length<=l.length:=by
  have:=gU List.length hd
  rw[fq,aU]at this
  unfold cz at this⊢
  rw[aU]at this⊢
  have f:0<(aH s.length).length:=by rw[A9];split<;>simp
  omega
 have r:(cz s).length=(aH s.length).length+s.length:=by unfold cz;rw[aU]
 have c:l.drop pos=aH s.length++(s++rest):=by rw[hd];unfold cz;rw[cP]
 have t:(l.drop (pos+(aH s.length).length)).take s.length=s:=by
  rw[<-uv,c,vP,vW]
 refine afE ?_
 refine Cj h g c om λw h=>?_
 refine aL ?_
 refine ax (λd=>?_) (λd=>?_)
 .have f:(s.length:Int)>(m:Int):=cT d
  omega
 refine dr h λw h=>?_
 refine aq ?_
 refine ld h ?_
 refine aq ?_
 refine ld h ?_
 refine lk h ?_
 refine lk h ?_
 have u:IntKind.u64.wrap (w6 (((B l).size:Int)-((pos+(aH s.length).length:Nat):Int)))=((l.length-(pos+(aH s.length).length):Nat):Int):=by
  rw[cJ,bQ om,u64_in om];omega
 rw[u]
 refine ax (λd=>?_) (λd=>?_)
 .have f:(s.length:Int)>((l.length-(pos+(aH s.length).length):Nat):Int):=cT d
  omega
 refine ao λ_=>?_
 refine aq ?_
 refine ld h ?_
 refine aq ?_
 have v:w6 (((pos+(aH s.length).length:Nat):Int)+w6 (s.length:Int))=((pos+(cz s).length:Nat):Int):=by
  rw[bQ (n:=(s.length:Int)) om,bQ om];omega
 rw[v]
 refine st h λw h=>?_
 refine dr h λw h=>?_
 refine aq ?_
 refine ld h ?_
 refine aq ?_
 refine ld (x:=((pos+(cz s).length:Nat):Int)) h ?_
 refine aq ?_
 refine ld (x:=((pos+(cz s).length:Nat):Int)) h ?_
 have y:w6 (((pos+(cz s).length:Nat):Int)-w6 (s.length:Int))=((pos+(aH s.length).length:Nat):Int):=by
  rw[bQ (n:=(s.length:Int)) om,bQ om];omega
 rw[y]
 refine Ib (i:=pos+(aH s.length).length) (j:=pos+(cz s).length) rfl rfl om a ?_
 rw[show pos+(cz s).length-(pos+(aH s.length).length)=s.length by omega,t]
 exact p _ h
theorem wq {k:ByteArray->Pr} (h:ab E w (be b l pos 0::L)) (j:l.length<=1000000000) (hd:l.drop pos=cz s++rest) (hm:s.length<=1000000)
  (n:∀a,ab E a (be b l (pos+(cz s).length:Nat) 0::L)->k (B s) a):CL 284 #[.pointer (some ⟨b,0,none⟩)] an k w:=by
 refine afb ?_
 refine bx h λc w h=>?_
 refine ld h ?_
 refine t310 (g:=311) (args:=#[pa ⟨c,0,none⟩]) (L:=lc c 288 [.pointer (some ⟨b,0,none⟩)]::L) (p2:=(pos+(cz s).length:Nat)) (Rel:=λx f=>x=B s/\f=lc c 288 [.pointer (some ⟨b,0,none⟩)]::L) (h.sub sS) (λw=>cd _ kK w) (λi M h=>?_) λx f a ⟨o,d⟩ p=>by subst o d;exact n _ (p.sub sS)
 have d:ab E i (lc c 288 [.pointer (some ⟨b,0,none⟩)]::be b l pos 0::(M++L)):=h.pick (.tail (AD M))
 have r:CL 311 #[pa ⟨c,0,none⟩] an (λx a=>x=B s/\ab E a (be b l (pos+(cz s).length:Nat) 0::lc c 288 [.pointer (some ⟨b,0,none⟩)]::(M++L))) i:=by
  refine afD ?_
  refine ld d ?_
  exact Ly (m:=1000000) d.swap j hd hm om λw h=>⟨rfl,h⟩
 exact Calls.mono r.out λe a ⟨x,t,u,h⟩=>⟨x,_,t,⟨u,rfl⟩,h.swap.Q1 (.tail (AD M))⟩
theorem DN {v:jf} (h:dM v=true):v=(0,0,0,eB,())\/(∃n,(n=0\/n=1)/\v=(1,n,0,eB,()))\/(∃n,v=(2,n,0,eB,()))\/(∃f,v=(3,0,f,eB,()))\/∃b s,(b=4\/b=5)/\v=(b,0,0,s,())/\s.data.toList.length<=4096:=by
 have c:=AK h
 obtain⟨b,n,f,s,⟨⟩⟩:=v
 unfold dM at h
 cases a:wi (b,n,f,s,())with
 |none=>rw[a]at h;cases h
 |some u=>
  rw[a]at h
  simp only[bp,Gn,bX]at h
  have e:=h.1
  unfold wi at a
  simp only at a c
  by_cases d:b=0
  .rw[ak d]at a
   rw[<-ja a]at e
   simp only[nD]at e
   obtain⟨_,rfl,rfl,rfl,_⟩:=e
   subst d;exact .inl rfl
  rw[ai d]at a
  by_cases g:b=1
  .rw[ak g]at a
   rw[<-ja a]at e
   simp only[nD]at e
   obtain⟨_,l,rfl,rfl,_⟩:=e
   subst g
   refine .inr (.inl ⟨n,?_,rfl⟩)
   have o:(BitVec.ofInt IntKind.i64.bits n&&&BitVec.ofInt IntKind.i64.bits 1).toNat<=1:=by
    rw[vT]
    exact qw RT dE
   generalize (BitVec.ofInt IntKind.i64.bits n&&&BitVec.ofInt IntKind.i64.bits 1).toNat=m at*
   rw[bQ om]at l
   omega
  rw[ai g]at a
  by_cases i:b=2
  .rw[ak i]at a
   rw[<-ja a]at e
   simp only[nD]at e
   obtain⟨_,_,rfl,rfl,_⟩:=e
   subst i;exact .inr (.inr (.inl ⟨n,rfl⟩))
  rw[ai i]at a
  by_cases j:b=3
  .rw[ak j]at a
   rw[<-ja a]at e
   simp only[nD]at e
   obtain⟨_,rfl,_,rfl,_⟩:=e
   subst j;exact .inr (.inr (.inr (.inl ⟨f,rfl⟩)))
  rw[ai j]at a
  by_cases k:b=4\/b=5
  .rw[ak k]at a
   rw[<-ja a]at e
   simp only[nD]at e
   obtain⟨_,rfl,rfl,_,_⟩:=e
   exact .inr (.inr (.inr (.inr ⟨b,s,k,rfl,c⟩)))
  .rw[ai k]at a;cases a
theorem O8 (a b:Nat) (g:b<256) (h:a*256+b<18446744073709551616):IntKind.u64.wrap ((BitVec.ofInt IntKind.u64.bits (IntKind.u64.wrap ((a:Int)*2^8))|||BitVec.ofInt IntKind.u64.bits (IntKind.u64.wrap (b:Int))).toNat:Int)=((a*256+b:Nat):Int):=by
 have c:IntKind.u64.wrap ((a:Int)*2^8)=((a*256:Nat):Int):=by
  rw[u64_in om];omega
 have d:IntKind.u64.wrap (b:Int)=((b:Nat):Int):=u64_in om
 have e:IntKind.u64.bits=64:=rfl
 rw[c,d,e,Ey,iQ,iQ,gW,gW,hU om,hU om]
 have f:a*256|||b=a*256+b:=by
  have:=Jr (i:=8) (show b<2^8 by omega) a
  rw[Ep]at this
  exact this.symm
 rw[f]
 exact u64_in om
theorem VU (hd:l.drop pos=a++rest) (hn:n<=a.length):l.drop (pos+n)=a.drop n++rest:=by
 rw[<-uv,hd,RU hn]
theorem My (hd:l.drop pos=x::r):∃b:pos<l.length,l[pos]=x/\l.drop (pos+1)=r:=by
 rcases kj pos l.length with a|a
 .rw[iB a]at hd
  simp only[xG]at hd
  exact⟨a,hd.1,hd.2⟩
 .rw[Br a]at hd;cases hd
theorem Lw (h:ab E w (be b l pos 0::L)) (c:l.length<=1000000000) (hd:l.drop pos=x::r) (d:∀a,ab E a (be b l (pos+1:Nat) 0::L)->k ((x.toNat:Nat):Int) a):CL 303 #[.pointer (some ⟨b,0,none⟩)] (.one (.leaf (.int .u8))) k w:=by
 obtain⟨e,f,_⟩:=My hd
 exact FU h c e λw h=>by rw[f];exact d w h
theorem Vm {v:jf} {k:jf->Pr} (h:ab E w (be b l pos 0::L)) (t:l.length<=1000000000) (hd:l.drop pos=fP v++rest) (hv:WV v) (hr:dM v=true)
  (M:∀N,ab E N (be b l (pos+(fP v).length:Nat) 0::L)->k v N):CL 320 #[.pointer (some ⟨b,0,none⟩)] (ya aP) k w:=by
 have u:=hv.b1
 have T:fP v=u8 v.1::(if v.1=1 then[u8 v.2.1]else if v.1=2 then aH (zz v.2.1)else if v.1=3 then dR 8 v.2.2.1.toNat else if v.1=4\/v.1=5 then cz v.2.2.2.1.data.toList else[]):=by unfold fP;rw[ak hr]
 have U:0<=v.1/\v.1<=5:=by rcases DN hr with rfl|⟨n,_,rfl⟩|⟨n,rfl⟩|⟨f,rfl⟩|⟨c,s,d,rfl,_⟩<;>simp only<;>omega
 rw[T]at hd M
 obtain⟨V,W,a⟩:=My hd
 refine afK ?_
 refine al h λH w h=>?_
 refine FU (h.pick (A:=be b l pos 0) pK) t V λw h=>?_
 have X:w6 ((l[pos].toNat:Nat):Int)=v.1:=by
  rw[W]
  obtain⟨m,Y⟩:∃m:Nat,v.1=m:=⟨v.1.toNat,om⟩
  rw[Y,vF om,bQ om]
 rw[X]
 refine al h λy w h=>?_
 refine bU h (λw h=>?_)
 refine br (λ_ w=>ab E w (lc y 27 (ay aP v)::lc H 27 [iv 0,iv 0,.int .u64 0,.string ⟨#[]⟩]::be b l (pos+(u8 v.1::(if v.1=1 then[u8 v.2.1]else if v.1=2 then aH (zz v.2.1)else if v.1=3 then dR 8 v.2.2.1.toNat else if v.1=4\/v.1=5 then cz v.2.2.2.1.data.toList else[])).length:Nat) 0::L)) (λ_ w h=>?_) λJ g=>?_
 .refine ao λ_=>?_
  refine aL ?_
  refine bN h ?_
  refine rR h (λw h=>?_) u.1
  rw[hr]
  refine ar rfl ?_
  refine ao λ_=>?_
  refine bN h ?_
  refine bU h (λw h=>?_)
  refine pf (ls:=aP) (x:=v) h ?_
  exact M _ (h.sub sS)
 have Z:gq 27=⟨[iv 0,iv 0,.int .u64 0,.string ⟨#[]⟩]⟩:=kK
 rw[Z]at h
 rw[db]at g
 refine ld (x:=v.1) h ?_
 rcases DN hr with rfl|⟨n,hn,rfl⟩|⟨n,rfl⟩|⟨f,rfl⟩|⟨c,s,d,rfl,hs⟩
 .refine ar rfl ?_
  refine ar rfl ?_
  refine ar rfl ?_
  refine aL ?_
  refine ar rfl ?_
  refine ao λ_=>?_
  refine ar rfl ?_
  exact g _ _ (h.sub sS)
 .simp only[gr]at a g
  refine aR rfl ?_
  refine Lw (h.pick (A:=be b l (pos+1:Nat) 0) pK) t a λw h=>?_
  have e:w6 (((u8 n).toNat:Nat):Int)=n:=by
   rcases hn with rfl|rfl<;>rfl
  rw[e]
  refine st h λw h=>?_
  exact g _ _ (h.sub sS)
 .refine ar rfl ?_
  refine aR rfl ?_
  have a:l.drop (pos+1)=aH (zz n)++rest:=a
  refine Vr (h.pick (A:=be b l (pos+1:Nat) 0) pK) t a hv.n1 λw h=>?_
  refine st h λw h=>?_
  rw[show pos+1+(aH (zz n)).length=pos+((aH (zz n)).length+1)by omega]at h
  exact g _ _ (h.sub sS)
 .refine ar rfl ?_
  refine ar rfl ?_
  refine aR rfl ?_
  have a:l.drop (pos+1)=dR 8 f.toNat++rest:=a
  simp only at u
  refine cy (S:=Int) (cf:=λs=>s) 8 rfl (λi s w=>ab E w (lc y 27 [iv 3,iv 0,.int .u64 ((f.toNat/2^(8*(8-i)):Nat):Int),.string ⟨#[]⟩]::be b l (pos+1+i:Nat) 0::lc H 27 [iv 0,iv 0,.int .u64 0,.string ⟨#[]⟩]::L)) rfl ?_ ?_ ?_
  .have:f.toNat/2^(8*(8-0))=0:=Ju om
   rw[this]
   exact h.sub sS
  .rintro next _ w i O rfl h j
   refine dr h λw h=>?_
   refine ld h ?_
   refine jF (x:=IntKind.u64.wrap (((f.toNat/2^(8*(8-i)):Nat):Int)*2^8)) (If _ _ _ 8 om) ?_
   have P:=zx 8 f.toNat i O
   have z:=jL 8 f.toNat
   have o:=VU a (n:=i) om
   rw[iB (l:=dR 8 f.toNat) (i:=i) om]at o
   have C:(dR 8 f.toNat)[i]'om=u8 ((f.toNat/2^(8*(8-1-i)):Nat):Int):=by
    rw[fA om]at P
    exact ja P
   rw[C]at o
   refine Lw (x:=u8 ((f.toNat/2^(8*(8-1-i)):Nat):Int)) (r:=(dR 8 f.toNat).drop (i+1)++rest) (h.pick (A:=be b l (pos+1+i:Nat) 0) pK) t o λw h=>?_
   refine lk h ?_
   have eB:(((u8 ((f.toNat/2^(8*(8-1-i)):Nat):Int)).toNat:Nat):Int)=((f.toNat/2^(8*(8-1-i))%256:Nat):Int):=by
    have:u8 ((f.toNat/2^(8*(8-1-i)):Nat):Int)=u8 ((f.toNat/2^(8*(8-1-i))%256:Nat):Int):=by unfold u8;congr 2;omega
    rw[this,vF (qu _ dE)]
   rw[eB]
   have D:f.toNat/2^(8*(8-i))=f.toNat/2^(8*(8-1-i))/256:=by
    rw[EH,show(256:Nat)=2^8 from rfl,<-Er,show 8*(8-1-i)+8=8*(8-i)by omega]
   have dy:f.toNat/2^(8*(8-1-i))<18446744073709551616:=Jt (By _ _) om
   rw[D,O8 _ _ (qu _ dE) om]
   have e3:f.toNat/2^(8*(8-1-i))/256*256+f.toNat/2^(8*(8-1-i))%256=f.toNat/2^(8*(8-(i+1))):=by
    rw[show 8-1-i=8-(i+1)by omega];omega
   rw[e3]
   refine st h λw h=>?_
   refine j _ _ (bV O om) ?_
   rw[show pos+1+i+1=pos+1+(i+1)by omega]at h
   exact h.sub sS
  .rintro _ w h
   have e:f.toNat/2^(8*(8-8))=f.toNat:=sI
   have ef:((f.toNat:Nat):Int)=f:=om
   rw[e,ef]at h
   have z:=jL 8 f.toNat
   refine g _ _ ?_
   have e8:pos+((dR 8 f.toNat).length+1)=pos+1+8:=om
   show ab E w (_::_::be b l (pos+((dR 8 f.toNat).length+1):Nat) 0::L)
   rw[e8]
   exact h.sub sS
 .have a:l.drop (pos+1)=cz s.data.toList++rest:=by rcases d with rfl|rfl<;>exact a
  have I:∀w,ab E w (lc y 27 (ay aP (c,0,0,s,()))::lc H 27 [iv 0,iv 0,.int .u64 0,.string ⟨#[]⟩]::be b l (pos+((cz s.data.toList).length+1):Nat) 0::L)->J () w:=λw h=>g _ _ (by rcases d with rfl|rfl<;>exact h)
  have rest:(JB (λK=>af K (CL 312 #[.pointer (some ⟨b,0,none⟩),.int .u64 4096] an λp=>ST 9 (Addr.add ⟨y,0,none⟩ 3) (.string p)<|J ()) (J ())) λG=>af ((c:Int)==4) (G ((c:Int)==4)) (G ((c:Int)==5))) w:=by
   have Q:∀R:Bool,R=true->(af R (CL 312 #[.pointer (some ⟨b,0,none⟩),.int .u64 4096] an λp=>ST 9 (Addr.add ⟨y,0,none⟩ 3) (.string p)<|J ()) (J ())) w:=by
    rintro _ rfl
    refine aR rfl ?_
    refine Ly (m:=4096) (h.pick (A:=be b l (pos+1:Nat) 0) pK) t a hs om λw h=>?_
    refine st h λw h=>?_
    rw[show pos+1+(cz s.data.toList).length=pos+((cz s.data.toList).length+1)by omega]at h
    exact I _ (h.sub sS)
   refine aL ?_
   refine ax (λhd=>?_) (λhd=>?_)
   .exact ao λ_=>Q _ hd
   .refine ao λ_=>Q _ ?_
    rcases d with rfl|rfl
    .cases hd
    .rfl
  have n1:((c:Int)==1)=false:=by rcases d with rfl|rfl<;>rfl
  have n2:((c:Int)==2)=false:=by rcases d with rfl|rfl<;>rfl
  have n3:((c:Int)==3)=false:=by rcases d with rfl|rfl<;>rfl
  refine ar n1 ?_
  refine ar n2 ?_
  refine ar n3 ?_
  exact rest
theorem Vi {r:Row} {k:Sl->Pr} (h:ab E w (be b l pos 0::ae F::L)) (m:l.length<=1000000000) (hd:l.drop pos=jD r++rest) (hr:dk r) (ha:r.all dM=true) (hn:r.length<=1000)
  (n:∀G e p,F.le G->FL G aP e r->ab E p (be b l (pos+(jD r).length:Nat) 0::ae G::L)->k e p):CL 314 #[.pointer (some ⟨b,0,none⟩)] aE k w:=by
 have x:jD r=aH r.length++r.flatMap fP:=by unfold jD;rw[ak ha]
 rw[x]at hd n
 rw[cP]at hd
 refine afF ?_
 refine Cj h m hd om λw h=>?_
 refine aL ?_
 refine ax (λd=>?_) (λd=>?_)
 .have u:((r.length:Nat):Int)>1000:=cT d
  omega
 refine ao λ_=>?_
 have f:l.drop (pos+(aH r.length).length)=r.flatMap fP++rest:=by rw[<-uv,hd,vP]
 refine gD (S:=Sl×Int) r.length (λi s w=>s.2=(i:Int)/\l.drop (pos+(aH r.length).length+((r.take i).flatMap fP).length)=(r.drop i).flatMap fP++rest/\ab E w (OS 28 aP s.1 (r.take i)::be b l (pos+(aH r.length).length+((r.take i).flatMap fP).length:Nat) 0::ae F::L)) ⟨rfl,by simpa using f,fm h⟩ ?_
 rintro next ⟨o,_⟩ w i H ⟨rfl,a,h⟩ c
 refine ao λ_=>?_
 refine ax (λd=>?_) (λd=>?_)
 .have cH:i<r.length:=by have u:(i:Int)<((r.length:Nat):Int):=cT d;omega
  have v:=cp cH
  have g:=List.all_eq_true.1 ha _ v
  rw[iB cH,fc,cP]at a
  refine Vm (h.pick (A:=be b l _ 0) pK) m a (hr.wv _ v) g λw h=>?_
  refine bJ (ls:=aP) (y:=r[i]) h λt w _ h=>?_
  refine eA (ls:=aP) (xs:=r.take i) h (by rw[cn];omega) λe w h=>?_
  have z:IntKind.u64.wrap ((i:Int)+1)=((i+1:Nat):Int):=by rw[u64_in om];omega
  have j:pos+(aH r.length).length+((r.take i).flatMap fP).length+(fP r[i]).length=pos+(aH r.length).length+((r.take (i+1)).flatMap fP).length:=by
   rw[cR cH,gM,aU];simp;omega
  rw[j]at h
  rw[z]
  refine c cH _ _ ⟨rfl,?_,?_⟩
  .rw[<-j,<-uv,a,vP]
  .rw[cR cH]at j h⊢
   show ab E w (OS 28 aP e (r.take i++[r[i]])::_)
   exact h.sub sS
 .have cH:i=r.length:=by have u:¬(i:Int)<((r.length:Nat):Int):=cF d;omega
  subst cH
  rw[cB]at h
  obtain⟨G,C,h,D⟩:=dT (T:=28) (ls:=aP) (F:=F) h
  refine n G _ _ C D ?_
  rw[aU,<-m7]
  exact h.sub sS
theorem Lo {r:Row} {k:Sl->Pr} (h:ab E w (be b l pos 0::ae F::L)) (j:l.length<=1000000000) (hd:l.drop pos=jD r++rest) (hr:dk r) (ha:r.all dM=true) (hn:r.length<=1000)
  (m:∀G a c,F.le G->FL G aP a r->ab E c (be b l (pos+(jD r).length:Nat) 0::ae G::L)->k a c):CL 285 #[.pointer (some ⟨b,0,none⟩)] aE k w:=by
 refine afc ?_
 refine t313 (g:=314) (args:=#[.pointer (some ⟨b,0,none⟩)]) (p2:=(pos+(jD r).length:Nat)) (Rel:=λa i=>∃G,F.le G/\FL G aP a r/\i=ae G::L) h (λw=>cd _ kK w) (λt M h=>?_) λx i c ⟨G,f,d,n⟩ o=>by subst n;exact m G _ _ f d o
 have d:=h.pick (A:=ae F) (.tail (AD M))
 exact Calls.mono (Vi (L:=M++L) (k:=λa c=>∃G,F.le G/\FL G aP a r/\ab E c (be b l (pos+(jD r).length:Nat) 0::ae G::(M++L))) d.swap j hd hr ha hn λG a c f d h=>⟨G,f,d,h⟩).out λe c ⟨x,p,⟨G,f,d,h⟩⟩=>⟨x,_,p,⟨G,f,d,rfl⟩,h.swap.Q1 (.tail (AD M))⟩
theorem fj (hd:l.drop pos=a++r):l.drop (pos+a.length)=r:=by
 rw[<-uv,hd,vP]
theorem Eb:gq 63=⟨[.string ⟨#[]⟩,sv au,iv 0]⟩:=kK
theorem ajc:gq 60=⟨[.string ⟨#[]⟩,iv 0,.bool false]⟩:=kK
theorem Ln {k:nG×Int×Unit->Pr} (h:ab E w (ae F::L)) (f:dK S=true) (z:∀G p n,F.le G->ft G p S->ab E n (ae G::L)->k (p,0,()) n):CL 283 #[.string (B (gm S))] (.aG [.agg aD,.leaf (.int .i64)]) k w:=by
 have r:=tX S
 have u:gm S=cz (cY S.1)++aH S.2.2.toNat++aH S.2.1.length++S.2.1.flatMap ij:=by unfold gm;rw[ak f]
 have C:=mb f
 have D:=sr (DM f)
 obtain⟨d,a,c⟩:=S
 simp only at C D u
 have d0:(gm (d,a,c)).drop 0=cz (cY d)++(aH c.toNat++(aH a.length++a.flatMap ij)):=by rw[mi,u];simp only[cP]
 refine afa ?_
 refine al h λH w h=>?_
 rw[Eb]at h
 refine tg h λb w h=>?_
 refine wq (pos:=0) h om d0 om λw h=>?_
 have d1:=fj d0
 refine nL h om d1 om λw h=>?_
 have d2:=fj d1
 refine al h λI w h=>?_
 refine bU h (λw h=>?_)
 have g:w6 (if(9:Int)<((c.toNat:Nat):Int)then(9:Int)else((c.toNat:Nat):Int))=c:=by rw[ai om,bQ om];omega
 have j:B (cY d)=d:=rI d
 rw[g,j]at h
 refine nL (h.pick (A:=be b _ _ _) pK) om d2 om λw h=>?_
 have J:=fj d2
 generalize K:0+(cz (cY d)).length+(aH c.toNat).length+(aH a.length).length=M at*
 refine gD (S:=Int) a.length (λi s w=>s=((a.length-i:Nat):Int)/\∃(o:Sl) (pos:Nat),(gm (d,a,c)).drop pos=(a.drop i).flatMap ij/\ab E w (be b (gm (d,a,c)) pos 0::lc I 63 [.string d,sv o,iv c]::OS 61 dj o (a.take i)::lc H 63 [.string ⟨#[]⟩,sv au,iv 0]::ae F::L)) ⟨rfl,au,M,J,?_⟩ ?_
 .exact(fm (T:=61) (ls:=dj) h).sub sS
 rintro next s w i Z ⟨rfl,o,pos,hd,h⟩ e
 have l:=fR (h.pick (A:=OS 61 dj o (a.take i)) pK) dE
 rw[cn]at l
 refine ao λ_=>?_
 refine aL ?_
 refine ax (λm=>?_) (λm=>?_)
 .have cH:i<a.length:=by have N:((a.length-i:Nat):Int)>0:=cT m;omega
  refine pO h λw h=>?_
  refine ao λ_=>?_
  refine aL ?_
  refine aR rfl ?_
  refine ld (x:=o) h ?_
  refine ao λ_=>?_
  refine aR (eu om) ?_
  have O:=cp cH
  obtain⟨P,q2,q3⟩:=xh f O
  have Q:=sr P
  rw[iB cH,fc,show ij a[i]=cz (cY a[i].1)++aH a[i].2.1.toNat++aH (if a[i].2.2.1 then 1 else 0)from rfl,cP,cP]at hd
  have e1:=fj hd
  have e2:=fj e1
  have R:=fj e2
  refine wq h om hd om λw h=>?_
  refine nL h om e1 om λw h=>?_
  refine al h λt7 w h=>?_
  rw[ajc]at h
  refine bU h (λw h=>?_)
  have g:w6 (if(6:Int)<((a[i].2.1.toNat:Nat):Int)then(6:Int)else((a[i].2.1.toNat:Nat):Int))=a[i].2.1:=by rw[ai om,bQ om];omega
  have j:B (cY a[i].1)=a[i].1:=rI _
  rw[g,j]at h
  refine nL (h.pick (A:=be b _ _ _) pK) om e2 (by split<;>omega) λw h=>?_
  refine st h λw h=>?_
  have U:decide ((((if a[i].2.2.1 then 1 else 0:Nat):Nat):Int)>0)=a[i].2.2.1:=by cases a[i].2.2.1<;>rfl
  rw[U]at h
  refine ld (x:=o) h ?_
  refine bN (ls:=dj) (x:=a[i]) h ?_
  refine bJ (ls:=dj) (y:=a[i]) h λt w _ h=>?_
  refine eA (ls:=dj) (xs:=a.take i) h (by rw[cn];omega) λV w h=>?_
  refine st h λw h=>?_
  have W:IntKind.u64.wrap (((a.length-i:Nat):Int)-1)=((a.length-(i+1):Nat):Int):=by rw[u64_in om];omega
  rw[W]
  refine e cH _ _ ⟨rfl,V,_,R,?_⟩
  rw[cR cH]
  exact h.sub sS
 .have cH:i=a.length:=by have N:¬((a.length-i:Nat):Int)>0:=cF m;omega
  subst cH
  rw[cB]at h
  refine ao λ_=>?_
  refine aL ?_
  refine ar rfl ?_
  refine ao λ_=>?_
  refine ar rfl ?_
  refine pO h λw h=>?_
  refine aL ?_
  refine ar rfl ?_
  obtain⟨G,X,h,Y⟩:=dT (T:=61) (ls:=dj) (F:=F) h
  have v:ft G (d,o,c,()) (d,a,c):=⟨rfl,Y,rfl⟩
  refine bN (ls:=aD) (x:=(d,o,c,())) h ?_
  refine FR (h.pick (A:=ae G) pK) v λw h=>?_
  refine ao λ_=>?_
  refine ar sI ?_
  refine bN (ls:=aD) (x:=(d,o,c,())) h ?_
  refine bU h (λw h=>?_)
  refine nr (ls:=aD) (x:=(d,o,c,())) (y:=(0:Int)) h ?_
  exact z G _ _ X v (h.sub sS)
theorem wm (h:ab E w (be b l pos 0::L)) (c:l.length<=1000000000) (hd:l.drop pos=aH n++rest) (hn:n<=1099511627776)
  (d:∀a,ab E a (be b l (pos+(aH n).length:Nat) 0::L)->k (n:Int) a):CL 228 #[.pointer (some ⟨b,0,none⟩)] ah k w:=by
 refine aef ?_
 refine nL h c hd om λw h=>?_
 refine fin (d _ h) ?_
 rw[ai om,bQ om]
theorem IK:gq 65=⟨[iv 0,.string ⟨#[]⟩,sv au,iv 0,iv 0,.string ⟨#[]⟩,sv au,iv 0]⟩:=kK
theorem VZ (h:gg C=true) (n:C.1≠3):(C.1=1\/C.1=2)/\fD C.2.1=true/\C.2.2.1.all dM=true/\C.2.2.1.length<=16/\0<C.2.2.1.length/\cA (C.2.2.2.1,C.2.2.2.2.1,())=true/\C.2.2.2.2.2=jA:=by
 unfold gg at h
 rw[ai n]at h
 by_cases j:C.1=1\/C.1=2
 .rw[ak j]at h
  unfold lC lO at h
  simp only[bp,bX]at h
  obtain⟨o,⟨p,u,r⟩,t,k,l,m⟩:=h
  refine⟨j,o,p,?_,om,t,?_⟩
  .split at r<;>omega
  .obtain⟨a,b,c,d,e,f,g,i⟩:=C
   simp only at k l m⊢
   rw[k,l,m]
 .rw[ai j]at h;cases h
theorem V0 (h:gg C=true) (g:C.1=3):dK C.2.2.2.2.2=true/\C=(3,C.2.2.2.2.2.1,[],0,0,C.2.2.2.2.2):=by
 unfold gg at h
 rw[ak g]at h
 simp only[bp,bX]at h
 obtain⟨m,i,j,k,l⟩:=h
 refine⟨m,?_⟩
 obtain⟨a,b,c,d,e,f⟩:=C
 simp only at i j k l g⊢
 subst g
 rw[i,List.length_eq_zero_iff.1 j,k,l]
theorem yJ {a:Addr} {k:Pr} (h:ab E w L)
  (l:∀w',ab E w' (aT b (.cells ⟨cs.take off++(vs++cs.drop (off+vs.length))⟩ T (0,0))::L')->k w')
  (ha:a=⟨b,off,none⟩:=by rfl) (p:b6 L (aT b (.cells ⟨cs⟩ T (0,0))) L':=by exact pK) (dy:Nat.ble (off+vs.length) cs.length=true:=by rfl) (hv:Ds vs=true:=by rfl) (hn:jW t=some vs.length:=by rfl):
  lv prog (uN (Instr.storeAt t (.pointer (some a)) (.agg ⟨vs⟩))) k w:=by
 subst ha
 have g:=h.pick p
 have dy:off+vs.length<=cs.length:=by simpa using dy
 obtain⟨m,n,u,o⟩:=xj (P:=prog) (T:=T) (b:=b) vs off 0 ⟨cs⟩ w g.own (by simpa using dy) (HK hv)
 have c:m=⟨cs.take off++(vs++cs.drop (off+vs.length))⟩:=by
  apply lr
  apply Bp
  intro j
  have:=o j
  rw[RL,this]
  simp only[sO,oo,List.getElem?_append,cn,List.getElem?_take,nB]
  by_cases d:j<off
  .have:¬(off<=j):=om
   simp[d,this]
   try omega
  .by_cases i:j<off+vs.length
   .have e:min off cs.length=off:=om
    have f:j-off<vs.length:=om
    simp[d,i,e,f]
    try omega
   .have e:min off cs.length=off:=om
    have f:¬(j-off<vs.length):=om
    have r:off+vs.length+(j-off-vs.length)=j:=om
    simp[d,i,e,f,r]
 subst c
 refine⟨_,xk ?_,l _ g.set⟩
 unfold Instr.storeAt
 rw[da (a:=⟨b,off,none⟩) (w':=w) rfl]
 unfold storeVar
 rw[ke hn]
 simp only[Value.cells,Ej,uo,Bg,fF]
 exact n
theorem UA {k:v7->Pr} (h:ab E w (be b l pos 0::ae F::L)) (d:l.length<=1000000000) (hd:l.drop pos=ig C++rest) (N:oy C) (o:gg C=true)
  (f:∀G c H,F.le G->nE G c C->ab E H (be b l (pos+(ig C).length:Nat) 0::ae G::L)->k c H):CL 229 #[.pointer (some ⟨b,0,none⟩)] (ya bP) k w:=by
 have r:=Cu o
 have O:=r.kd
 have P:=r.lo
 have Q:=r.hi
 refine aeg ?_
 refine al h λt2 w h=>?_
 rw[IK]at h
 by_cases e:C.1=3
 .obtain⟨t,R⟩:=V0 o e
  have j:ig C=aH 3++cz (gm C.2.2.2.2.2):=by unfold ig;rw[ak e,e];rfl
  generalize C.2.2.2.2.2=S at*
  subst R
  rw[j,cP]at hd
  rw[j,aU,<-m7]at f
  have I:=tX S
  refine wm (h.pick (A:=be b _ _ _) pK) d hd om λw h=>?_
  have d1:=fj hd
  refine al h λT w h=>?_
  rw[IK]at h
  refine bU h (λw h=>?_)
  refine ld h ?_
  refine aR rfl ?_
  refine wq (h.pick (A:=be b _ _ _) pK) d d1 om λw h=>?_
  refine Ln (h.pick (A:=ae F) pK) t λG p w u J h=>?_
  obtain⟨a,K,g,⟨⟩⟩:=p
  refine yJ h (λw h=>?_)
  refine ld (x:=a) h ?_
  refine st h λw h=>?_
  have v:a=S.1:=J.1
  refine bN (ls:=bP) (x:=(3,a,au,0,0,a,K,g,())) h ?_
  refine bU h (λw h=>?_)
  refine pf (ls:=bP) (x:=(3,a,au,0,0,a,K,g,())) h ?_
  exact f G _ _ u ⟨rfl,v,.nil,rfl,rfl,J⟩ (h.sub sS)
 .obtain⟨U,V,W,hn,X,hs,t⟩:=VZ o e
  have j:ig C=aH C.1.toNat++cz (cY C.2.1)++jD C.2.2.1++aH C.2.2.2.1.toNat++aH C.2.2.2.2.1.toNat:=by unfold ig;rw[ai e]
  obtain⟨i,a,Y,m,n,S⟩:=C
  simp only at*
  subst t
  rw[j]at hd f
  simp only[cP]at hd
  simp only[aU,<-m7]at f
  have d1:=fj hd
  have d2:=fj d1
  have d3:=fj d2
  have Z:=fj d3
  have hNl:=sr V
  have y:((i.toNat:Nat):Int)=i:=om
  have z:((m.toNat:Nat):Int)=m:=om
  have D:((n.toNat:Nat):Int)=n:=om
  have en:B (cY a)=a:=rI a
  refine wm (h.pick (A:=be b _ _ _) pK) d hd om λw h=>?_
  rw[y]
  refine al h λT w h=>?_
  rw[IK]at h
  refine bU h (λw h=>?_)
  refine ld (x:=i) h ?_
  refine ar (beq_eq_false_iff_ne.2 e) ?_
  refine wq (h.pick (A:=be b _ _ _) pK) d d1 om λw h=>?_
  rw[en]
  refine st h λw h=>?_
  refine Lo (h.bF (A1:=be b _ _ _) (A2:=ae F) pK pK) d d2 N.row W om λG M w u hf h=>?_
  refine st h λw h=>?_
  refine wm (h.pick (A:=be b _ _ _) pK) d d3 om λw h=>?_
  rw[z]
  refine st h λw h=>?_
  refine wm (h.pick (A:=be b _ _ _) pK) d Z om λw h=>?_
  rw[D]
  refine st h λw h=>?_
  refine bN (ls:=bP) (x:=(i,a,M,m,n,⟨#[]⟩,au,0,())) h ?_
  refine bU h (λw h=>?_)
  refine pf (ls:=bP) (x:=(i,a,M,m,n,⟨#[]⟩,au,0,())) h ?_
  exact f G _ _ u ⟨rfl,rfl,hf,rfl,rfl,rfl,.nil,rfl⟩ (h.sub sS)
theorem Rm:gq 68=⟨[iv 0,iv 0,sv au]⟩:=kK
theorem KL {k:pH×Int×Unit->Pr} (h:ab E w (ae F::L)) (H:kt P) (I:gT P=true) (O:(cZ P).length<=100000) (Q:∀G p J,F.le G->je G p P->ab E J (ae G::L)->k (p,0,()) J):
  CL 181 #[.string (B (cZ P))] (.aG [.agg av,.leaf (.int .i64)]) k w:=by
 have g:fv P=cZ P:=by unfold fv;rw[ak I,ai om]
 obtain⟨n,t,a⟩:=P
 have R:cZ (n,t,a)=aH n.toNat++aH t.toNat++aH a.length++a.flatMap ig:=rfl
 have j:=I
 unfold gT at j
 simp only[bp,bX]at j
 obtain⟨d,⟨n1,n2⟩,n3,n4,n5⟩:=j
 have d:=List.all_eq_true.1 d
 have U:((n.toNat:Nat):Int)=n:=om
 have V:((t.toNat:Nat):Int)=t:=om
 have d0:(cZ (n,t,a)).drop 0=aH n.toNat++(aH t.toNat++(aH a.length++a.flatMap ig)):=by rw[mi,R];simp only[cP]
 have d1:=fj d0
 have d2:=fj d1
 have W:=fj d2
 refine ady ?_
 refine al h λX w h=>?_
 rw[Rm]at h
 refine tg h λb w h=>?_
 refine wm (pos:=0) h om d0 om λw h=>?_
 rw[U]
 refine al h λY w h=>?_
 rw[Rm]at h
 refine bU h (λw h=>?_)
 refine wm (h.pick (A:=be b _ _ _) pK) om d1 om λw h=>?_
 rw[V]
 refine st h λw h=>?_
 refine wm (h.pick (A:=be b _ _ _) pK) om d2 om λw h=>?_
 generalize Z:0+(aH n.toNat).length+(aH t.toNat).length+(aH a.length).length=p0 at*
 refine gD (S:=Int) a.length (λi s w=>s=((a.length-i:Nat):Int)/\∃(o:Sl) (pos:Nat) (G:bh) (l:List v7),F.le G/\cw (nE G) l (a.take i)/\(cZ (n,t,a)).drop pos=(a.drop i).flatMap ig/\ab E w (be b (cZ (n,t,a)) pos 0::lc Y 68 [iv n,iv t,sv o]::OS 66 bP o l::lc X 68 [iv 0,iv 0,sv au]::ae G::L)) ⟨rfl,au,p0,F,[],.refl _,.nil,W,?_⟩ ?_
 .exact(fm (T:=66) (ls:=bP) h).sub sS
 rintro next s w i hi ⟨rfl,o,pos,G,l,K,f,hd,h⟩ m
 have v:=f.len
 have oY:=fR (h.pick (A:=OS 66 bP o l) pK) dE
 rw[cn]at v
 refine ao λ_=>?_
 refine aL ?_
 refine ax (λz=>?_) (λz=>?_)
 .have cH:i<a.length:=by have h1:((a.length-i:Nat):Int)>0:=cT z;omega
  refine pO h λw h=>?_
  refine ao λ_=>?_
  refine aL ?_
  refine aR rfl ?_
  refine ld (x:=o) h ?_
  refine ao λ_=>?_
  refine aR (eu om) ?_
  have M:=cp cH
  rw[iB cH,fc]at hd
  refine dr h λw h=>?_
  refine ld (x:=o) h ?_
  refine UA (h.bF (A1:=be b _ _ _) (A2:=ae G) pK pK) om hd (H.ok _ M) (d _ M) λu c w e C h=>?_
  refine lk h ?_
  refine bJ (ls:=bP) (y:=c) h λt w _ h=>?_
  refine lk h ?_
  refine eA (ls:=bP) (xs:=l) h om λs' w h=>?_
  refine st h λw h=>?_
  have es:w6 (((a.length-i:Nat):Int)-1)=((a.length-(i+1):Nat):Int):=by rw[bQ om];omega
  rw[es]
  refine m cH _ _ ⟨rfl,s',_,u,l++[c],K.trans e,?_,fj hd,h.sub sS⟩
  rw[cR cH]
  exact(f.imp λr p D=>D.up e).app (.one C)
 .have cH:i=a.length:=by have h1:¬((a.length-i:Nat):Int)>0:=cF z;omega
  subst cH
  rw[cB]at f
  refine ao λ_=>?_
  refine aL ?_
  refine ar rfl ?_
  refine ao λ_=>?_
  refine ar rfl ?_
  refine pO h λw h=>?_
  refine aL ?_
  refine ar rfl ?_
  obtain⟨u,e,h,hf⟩:=dT (T:=66) (ls:=bP) (F:=G) h
  have N:je u (n,t,o,()) (n,t,a):=⟨rfl,rfl,l,hf,f.imp λr p D=>D.up e⟩
  refine bN (ls:=av) (x:=(n,t,o,())) h ?_
  refine K5 (h.pick (A:=ae u) pK) N H λw h=>?_
  refine ao λ_=>?_
  refine ar (by rw[g];simp) ?_
  refine bN (ls:=av) (x:=(n,t,o,())) h ?_
  refine bU h (λw h=>?_)
  refine nr (ls:=av) (x:=(n,t,o,())) (y:=(0:Int)) h ?_
  exact Q u _ _ (K.trans e) N (h.sub sS)
end Go.Proofs.YtelhccfmfnaegaaGreat
