/- Lemmas for topAudits_holds. No conditions. -/
import Derived.Test.YtelhccfmfnaegaaGreatAn
set_option linter.unusedSectionVars false
set_option linter.unusedVariables false
set_option linter.unusedSimpArgs false
set_option linter.defProp false
set_option maxRecDepth 10000
namespace Go.Proofs.YtelhccfmfnaegaaGreat
open Go Go.Sh Tryz
abbrev bc:=List UInt8
abbrev dt:=Nat->bc
abbrev Wr:=Nat×bc
def iy (S:dt) (w:Wr):dt:=λn=>if n=w.1 then w.2 else S n
def fC (S:dt) (l:List Wr):dt:=l.foldl iy S
theorem DZ (S:dt) (a:Nat) (x:bc):iy S (a,x) a=x:=by simp[iy]
variable {n:Nat} {S':dt} {T U b:Nat} {P:Nat->bc} {x y:Nat×Nat} {pl:Nat->Option Nat} {h:Nat->bc} {t:Nat} {g:Nat->Option bc} {d:Nat} {k:Int->Pr} {a ck m:Nat} {o:Sl} {i:Nat} {r hd:bc} {l:Nat} {u:Int} {rs:Sl} {bl:Bool} {b2:Nat} {e:Int} {ca:List bc}
theorem ob (S:dt) (a:Nat) (x:bc) (h:n≠a):iy S (a,x) n=S n:=by simp[iy,h]
theorem tq (S:dt) (a b:List Wr):fC S (a++b)=fC (fC S a) b:=by simp[fC]
def fY (S:dt) (c:List Wr) (S':dt):Prop:=∃a:List Wr,a.Sublist c/\S'=fC S a
theorem fY.all (S:dt) (c:List Wr):fY S c (fC S c):=⟨c,.refl _,rfl⟩
theorem fY.nil {S:dt} (h:fY S [] S'):S'=S:=by
 obtain⟨a,b,rfl⟩:=h
 rw[List.sublist_nil.1 b];rfl
theorem fY.snoc {S:dt} {c:List Wr} {x:Wr} (h:fY S (c++[x]) S'):fY S c S'\/∃e,fY S c e/\S'=iy e x:=by
 obtain⟨g,i,rfl⟩:=h
 obtain⟨a,b,rfl,f,d⟩:=List.sublist_append_iff.1 i
 have d:b=[]\/b=[x]:=by
  cases d with
  |cons _ h=>exact .inl (List.sublist_nil.1 h)
  |cons_cons _ h=>exact .inr (by rw[List.sublist_nil.1 h])
 rcases d with rfl|rfl
 .rw[iO];exact .inl ⟨a,f,rfl⟩
 .exact .inr ⟨_,⟨a,f,rfl⟩,by rw[tq];rfl⟩
theorem fY.dh {S:dt} {Q:dt->Prop}:∀{ws c:List Wr},(∀a,fY S c a->Q a)->(∀w,w∈ws->∀a,Q a->Q (iy a w))->∀a,fY S (c++ws) a->Q a
 |[],c,h,_,a,b=>h a (by rwa[iO]at b)
 |w::ws,c,h,e,a,b=>by
  rw[show c++w::ws=(c++[w])++ws by simp]at b
  refine fY.dh (λi d=>?_) (λu f=>e u (dH _ f)) a b
  rcases d.snoc with d|⟨j,g,rfl⟩
  .exact h _ d
  .exact e w eo _ (h _ g)
inductive ju where
 |w (a:Nat) (x:bc)
 |fl
abbrev DS:=dt×List Wr
def vD (s:DS):ju->DS
 |.w a x=>(s.1,s.2++[(a,x)])
 |.fl=>(fC s.1 s.2,[])
def jU (s:DS) (l:List ju):DS:=l.foldl vD s
def cN (ws:List Wr):List ju:=ws.map λw=>.w w.1 w.2
theorem yA (s:DS) (a b:List ju):jU s (a++b)=jU (jU s a) b:=by simp[jU]
theorem yB:∀(a:List Wr) (s:DS),jU s (cN a)=(s.1,s.2++a)
 |[],s=>by simp[jU,cN]
 |w::a,s=>by
  have:=yB a (vD s (.w w.1 w.2))
  show jU (vD s (.w w.1 w.2)) (cN a)=_
  rw[this];simp[vD]
theorem Ri (ws:List Wr) (j:Nat):(cN ws).take j=cN (ws.take j):=by simp[cN,Ez]
theorem sM (ws:List Wr):(cN ws).length=ws.length:=by simp[cN]
def dI:bc:=List.replicate 128 0
def gu (l:bc):bc:=l++List.replicate (128-l.length) 0
def kP (r:bc):Nat:=max 1 ((r.length+99)/100)
def qZ (b:bc):bc:=u8 b.length::kN b
def lF (t i c:Nat):bc:=76::(aH t++(aH i++aH c))
def gK (r:bc):bc:=nn 4 (pR 0 r)
def dJ (r:bc) (i:Nat):bc:=(r.drop (100*i)).take 100
def sC (t:Nat) (r:bc) (i:Nat):bc:=gu (qZ (lF t i (if i+1=kP r then 0 else 1)++(gK r++dJ r i)))
def jV (t b:Nat):bc:=gu (qZ (83::(aH t++aH b)))
def lX (t:bc):bc:=(t.reverse.dropWhile λb=>decide (b=0)).reverse
def jS (c:Nat->Option bc) (n:Nat):bc:=match c n with
 |none=>[]
 |some t=>aH n++cz (lX t)
def dm (c:Nat->Option bc):Nat:=((List.range 180).filter λn=>(c n).isSome).length
def cO (c:Nat->Option bc):bc:=aH (dm c)++(List.range 180).flatMap (jS c)
structure uL (S:dt) (pl:Nat->Option Nat) (h:Nat->bc):Prop where
 z:∀i,i<118->pl i=none->S (2+i)=dI
 p:∀i t,pl i=some t->i<118/\i<kP (h t)/\S (2+i)=sC t (h t) i
def yF (x:Nat×Nat):bc:=if x.1=0 then dI else jV x.1 x.2
structure EW (S:dt) (T b:Nat) (x y:Nat×Nat):Prop where
 s0:S 0=yF x
 s1:S 1=yF y
 e0:x.1%2=0
 e1:y.1%2=1\/y.1=0
 z0:x.2<=x.1
 z1:y.2<=y.1
 top:(T,b)=if x.1<y.1 then y else x
def lx (S:dt) (T b:Nat):Prop:=∃x y,EW S T b x y
def comp (pl:Nat->Option Nat) (h:Nat->bc) (t:Nat):Prop:=∀i,i<kP (h t)->pl i=some t
def Home (S:dt) (P:Nat->bc):Prop:=∀n,n<180->S (120+n)=P n
def jR (c:Nat->Option bc) (P:Nat->bc) (n:Nat):bc:=(c n).getD (P n)
theorem sd (r:bc):0<kP r:=by unfold kP;omega
structure Idle (S:dt) (T b:Nat) (P:Nat->bc) (pl:Nat->Option Nat) (h:Nat->bc):Prop where
 log:uL S pl h
 le:∀i t,pl i=some t->t<=T
 no:∀t,b<=t->¬comp pl h t
 home:Home S P
structure kz (S:dt) (T b:Nat) (P:Nat->bc) (pl:Nat->Option Nat) (h:Nat->bc) (t:Nat) (c:Nat->Option bc):Prop where
 log:uL S pl h
 le:∀i u,pl i=some u->u<=t
 bt:b<=t
 tT:t<=T
 all:comp pl h t
 xe:h t=cO c
 home:∀n,n<180->jR c (λn=>S (120+n)) n=P n
 wf:∀n x,c n=some x->n<180/\x.length=128
def mT (S:dt) (T b:Nat) (P:Nat->bc):Prop:=(∃a h,Idle S T b P a h)\/∃a h t c,kz S T b P a h t c
structure eU (S:dt) (c:List Wr) (T b:Nat) (P:Nat->bc):Prop where
 view:lx (fC S c) T b
 out:∀S',fY S c S'->∃T' b',lx S' T' b'/\T'<=T/\mT S' T' b' P/\mT S' T b P
structure Clean (S:dt) (T b:Nat) (P:Nat->bc):Prop where
 sl:lx S T b
 out:∃pl h,uL S pl h/\(∀i t,pl i=some t->t<T)/\(∀t,b<=t->¬comp pl h t)/\Home S P
theorem mT.mono {S:dt} (h:mT S T b P) (d:T<=U):mT S U b P:=by
 rcases h with⟨a,g,h⟩|⟨a,g,t,c,h⟩
 .exact .inl ⟨a,g,h.log,λi t e=>qw (h.le i t e) d,h.no,h.home⟩
 .exact .inr ⟨a,g,t,c,h.log,h.le,h.bt,qw h.tT d,h.all,h.xe,h.home,h.wf⟩
theorem EW.le {S:dt} (h:EW S T b x y):x.1<=T/\y.1<=T/\b<=T:=by
 have c:=h.top
 have d:=h.z0
 have e:=h.z1
 by_cases a:x.1<y.1
 .rw[ak a]at c;rw[<-c]at a e⊢;exact⟨EI a,cV _,e⟩
 .rw[ai a]at c;rw[<-c]at a d⊢;exact⟨cV _,RQ a,d⟩
theorem lx.base {S:dt} (h:lx S T b):b<=T:=by obtain⟨x,y,h⟩:=h;exact h.le.2.2
theorem lx.congr {S:dt} (h:lx S T b) (a:S' 0=S 0) (c:S' 1=S 1):lx S' T b:=by
 obtain⟨x,y,h⟩:=h
 exact⟨x,y,by rw[a];exact h.s0,by rw[c];exact h.s1,h.e0,h.e1,h.z0,h.z1,h.top⟩
theorem lx.put {S:dt} {B:Nat} (h:lx S T b) (d:T<U) (a:B<=U):lx (iy S (U%2,jV U B)) U B:=by
 obtain⟨x,y,h⟩:=h
 obtain⟨f,g,_⟩:=h.le
 have c:yF (U,B)=jV U B:=by unfold yF;rw[ai (by show¬U=0;omega)]
 rcases Jv U with e|e
 .refine⟨(U,B),y,?_,?_,e,h.e1,a,h.z1,?_⟩
  .rw[c,e];exact DZ _ _ _
  .rw[e,ob _ _ _ dE];exact h.s1
  .rw[ai (by show¬U<y.1;omega)]
 .refine⟨x,(U,B),?_,?_,h.e0,.inl e,h.z0,a,?_⟩
  .rw[e,ob _ _ _ dE];exact h.s0
  .rw[c,e];exact DZ _ _ _
  .rw[ak (by show x.1<U;omega)]
theorem uL.congr {S:dt} (b:uL S pl h) (c:∀i,i<118->S' (2+i)=S (2+i)):uL S' pl h:=
 ⟨λi d a=>by rw[c i d];exact b.z i d a,λi t a=>by obtain⟨e,f,g⟩:=b.p i t a;exact⟨e,f,by rw[c i e];exact g⟩⟩
theorem mT.congr {S:dt} (h:mT S T b P) (a:∀n,2<=n->S' n=S n):mT S' T b P:=by
 rcases h with⟨d,g,h⟩|⟨d,g,t,c,h⟩
 .exact .inl ⟨d,g,h.log.congr λi _=>a _ om,h.le,h.no,λn e=>by rw[a _ om];exact h.home n e⟩
 .exact .inr ⟨d,g,t,c,h.log.congr λi _=>a _ om,h.le,h.bt,h.tT,h.all,h.xe,λn e=>by
   have:=h.home n e
   simp only[jR]at this⊢
   rw[a _ om];exact this,h.wf⟩
theorem xm {x:bc} {S:dt} (h:2<=n):iy S (U%2,x) n=S n:=ob _ _ _ om
theorem eU.slot {S:dt} {c:List Wr} (h:eU S c T b P):eU S (c++[((T+1)%2,jV (T+1) b)]) (T+1) b P:=by
 have o:=h.view.base
 refine⟨?_,λS' a=>?_⟩
 .rw[tq];exact h.view.put om om
 .rcases a.snoc with a|⟨j,k,rfl⟩
  .obtain⟨f,g,d,l,i,e⟩:=h.out _ a
   exact⟨f,g,d,om,i,e.mono om⟩
  .obtain⟨f,g,d,l,i,e⟩:=h.out _ k
   have:=(e.mono (Nat.le_succ T)).congr (S':=iy j ((T+1)%2,jV (T+1) b)) λn m=>xm m
   exact⟨T+1,b,d.put om om,cV _,this,this⟩
theorem eU.flush {S:dt} {c:List Wr} (h:eU S c T b P):eU (fC S c) [] T b P:=by
 refine⟨h.view,λe d=>?_⟩
 cases d.nil
 obtain⟨f,g,i,j,k,a⟩:=h.out _ (fY.all S c)
 exact⟨T,b,h.view,cV _,a,a⟩
theorem eU.Cv {S:dt} {c:List Wr} (h:eU S c T b P) (g:fY S c S'):∃a d,a<=T/\eU S' [] a d P:=by
 obtain⟨a,d,e,i,f,k⟩:=h.out _ g
 refine⟨a,d,i,e,λl j=>?_⟩
 cases j.nil
 exact⟨a,d,e,cV _,f,f⟩
theorem eU.xe {S:dt} {c:List Wr} (h:eU S c T b P):mT (fC S c) T b P:=by
 obtain⟨d,e,f,g,i,a⟩:=h.out _ (fY.all S c)
 exact a
theorem Clean.down {S:dt} (h:Clean S T b P):eU S [] T b P:=by
 obtain⟨a,g,c,d,e,f⟩:=h.out
 refine⟨h.sl,λl j=>?_⟩
 cases j.nil
 have:mT S T b P:=.inl ⟨a,g,c,λi t k=>EI (d i t k),e,f⟩
 exact⟨T,b,h.sl,cV _,this,this⟩
def eN (c:Nat->Option bc):List Wr:=(List.range 180).filterMap λn=>(c n).map λx=>(120+n,x)
theorem NO {c:Nat->Option bc} {w:Wr} (h:w∈eN c):∃n x,n<180/\c n=some x/\w=(120+n,x):=by
 unfold eN at h
 rw[IN]at h
 obtain⟨n,b,h⟩:=h
 rw[yT]at b
 cases a:c n with
 |none=>rw[a]at h;cases h
 |some x=>rw[a]at h;cases h;exact⟨n,x,b,a,rfl⟩
theorem CI:∀(a:List Wr) (S:dt) (n:Nat),(∀w∈a,w.1≠n)->fC S a n=S n
 |[],_,_,_=>rfl
 |w::a,S,n,h=>by
  show fC (iy S w) a n=S n
  rw[CI a _ n λu b=>h u (dH _ b)]
  exact ob _ _ _ (λe=>h w eo e.symm)
theorem Zj (c:Nat->Option bc) (S:dt) (n:Nat) (hn:n<180):fC S (eN c) (120+n)=jR c (λn=>S (120+n)) n:=by
 have f:∀m,n<m->fC S ((List.range m).filterMap λn=>(c n).map λx=>(120+n,x)) (120+n)=jR c (λn=>S (120+n)) n:=by
  intro m j
  induction m with
  |zero=>omega
  |succ m g=>
   rw[qz,RV,tq]
   by_cases e:n=m
   .subst e
    have d:fC S ((List.range n).filterMap λn=>(c n).map λx=>(120+n,x)) (120+n)=S (120+n):=by
     refine CI _ _ _ λw b=>?_
     rw[IN]at b
     obtain⟨q,i,b⟩:=b
     rw[yT]at i
     cases a:c q with
     |none=>rw[a]at b;cases b
     |some x=>rw[a]at b;cases b;show 120+q≠120+n;omega
    cases a:c n with
    |none=>simp only[EJ,a,sP,EK];unfold jR;rw[a];exact d
    |some x=>
     simp only[EJ,a,rB,EK]
     unfold jR;rw[a]
     exact DZ _ _ _
   .rw[<-g om]
    cases a:c m with
    |none=>simp only[EJ,a,sP,EK];rfl
    |some x=>
     simp only[EJ,a,rB,EK]
     exact ob _ _ _ om
 exact f 180 hn
def mH (c:Nat->Option bc) (T:Nat):List ju:=cN (eN c)++[.fl,.w ((T+1)%2) (jV (T+1) (T+1)),.fl]
theorem kz.abN {S:dt} {c:Nat->Option bc} (hr:kz S T b P pl h t c) {w:Wr} (a:w∈eN c):kz (iy S w) T b P pl h t c:=by
 obtain⟨n,x,g,d,rfl⟩:=NO a
 refine⟨hr.log.congr λi j=>ob _ _ _ om,hr.le,hr.bt,hr.tT,hr.all,hr.xe,λm f=>?_,hr.wf⟩
 have:=hr.home m f
 simp only[jR]at this⊢
 by_cases e:m=n
 .subst e;rw[d]at this⊢;exact this
 .rw[ob _ _ _ om];exact this
theorem H0 {S:dt} {c:Nat->Option bc} (hs:lx S T b) (hr:kz S T b P pl h t c):
  (∀j,∃G N,G<=T+1/\eU (jU (S,[]) ((mH c T).take j)).1 (jU (S,[]) ((mH c T).take j)).2 G N P)/\
  ∃d,jU (S,[]) (mH c T)=(d,[])/\Clean d (T+1) (T+1) P:=by
 have A:∀ws:List Wr,(∀w∈ws,w∈eN c)->∀d,fY S ws d->lx d T b/\kz d T b P pl h t c:=by
  refine λws e d k=>fY.dh (c:=[]) (ws:=ws) (Q:=λd=>lx d T b/\kz d T b P pl h t c) (λO m=>?_) (λw g O m=>⟨?_,m.2.abN (e w g)⟩) d k
  .cases m.nil;exact⟨hs,hr⟩
  .obtain⟨n,x,f,H,rfl⟩:=NO (e w g)
   exact m.1.congr (ob _ _ _ om) (ob _ _ _ om)
 have I:∀ws:List Wr,(∀w∈ws,w∈eN c)->eU S ws T b P:=λws e=>by
  refine⟨(A ws e _ (fY.all S ws)).1,λd k=>?_⟩
  obtain⟨m,J⟩:=A ws e d k
  exact⟨T,b,m,cV _,.inr ⟨_,_,_,_,J⟩,.inr ⟨_,_,_,_,J⟩⟩
 obtain⟨z,p⟩:=A _ (λw g=>g) _ (fY.all S (eN c))
 have o:Home (fC S (eN c)) P:=λn f=>by
  rw[Zj c S n f]
  have:=p.home n f
  rw[<-hr.home n f]
 have Y:=hs.base
 have R:=hr.tT
 have C:eU (fC S (eN c)) [] T b P:=(I _ λw g=>g).flush
 generalize K:fC S (eN c)=V at*
 have a:∀D:dt,(∀n,2<=n->D n=V n)->Idle D (T+1) (T+1) P pl h:=λD M=>
  ⟨p.log.congr λi _=>M _ om,λi u F=>by have:=p.le i u F;omega,λu Z H=>by
    have:=p.le 0 u (H 0 (sd _));omega,λn f=>by rw[M _ om];exact o n f⟩
 have r:eU V [((T+1)%2,jV (T+1) (T+1))] (T+1) (T+1) P:=by
  refine⟨z.put om om,λd k=>?_⟩
  rcases fY.snoc (c:=[]) k with k|⟨S0,U,rfl⟩
  .cases k.nil
   exact⟨T,b,z,om,.inr ⟨_,_,_,_,p⟩,.inl ⟨_,_,a V λ_ _=>rfl⟩⟩
  .cases U.nil
   have:=a (iy V ((T+1)%2,jV (T+1) (T+1))) λn f=>xm f
   exact⟨T+1,T+1,z.put om om,cV _,.inl ⟨_,_,this⟩,.inl ⟨_,_,this⟩⟩
 have v:=sM (eN c)
 have y:jU (S,[]) (mH c T)=(iy V ((T+1)%2,jV (T+1) (T+1)),[]):=by
  unfold mH
  rw[yA,yB]
  simp only[mQ,jU,kV,Bs,vD]
  rw[K];rfl
 refine⟨λj=>?_,_,y,?_⟩
 .unfold mH
  rw[Jw,yA]
  by_cases m:j<=(eN c).length
  .have:j-(cN (eN c)).length=0:=om
   rw[this,Ri,yB]
   refine⟨T,b,om,?_⟩
   exact I _ λw g=>mj g
  rw[iP om,yB,v]
  have W:jU (S,[]++eN c) [.fl]=(V,[]):=by simp only[jU,kV,Bs,vD,mQ];rw[K]
  obtain⟨q,X⟩:∃q,j-(eN c).length=q+1:=⟨j-(eN c).length-1,om⟩
  rw[X,yV,show∀l,ju.fl::l=[ju.fl]++l from λ_=>rfl,yA,W]
  match q with
  |0=>exact⟨T,b,om,C⟩
  |1=>exact⟨T+1,T+1,om,r⟩
  |q+2=>
   refine⟨T+1,T+1,om,?_⟩
   simp only[yV,List.take_nil]
   exact r.flush
 .refine⟨z.put om om,pl,h,?_⟩
  have:=a (iy V ((T+1)%2,jV (T+1) (T+1))) λn f=>xm f
  exact⟨this.log,λi u F=>by have:=p.le i u F;omega,this.no,this.home⟩
def fi (T:Nat) (r:bc):List Wr:=(List.range (kP r)).map λi=>(2+i,sC T r i)
def oP (T:Nat) (r:bc):List ju:=cN (fi T r)++[.fl]
def BK (S:dt) (c:List Wr) (T b:Nat) (P Q:Nat->bc):Prop:=∀a,fY S c a->lx a T b/\(mT a T b P\/mT a T b Q)
theorem JS {S:dt} {c:Nat->Option bc} (hc:Clean S T b P) (hk:kP (cO c)<=118) (D:∀n x,c n=some x->n<180/\x.length=128):
  (∀j,j<=(fi T (cO c)).length->BK (jU (S,[]) ((oP T (cO c)).take j)).1 (jU (S,[]) ((oP T (cO c)).take j)).2 T b P (jR c P))/\
  ∃a F h,jU (S,[]) (oP T (cO c))=(a,[])/\lx a T b/\kz a T b (jR c P) F h T c:=by
 obtain⟨F,h,Y,l,O,hh⟩:=hc.out
 generalize Z:cO c=r at*
 have hb:=hc.sl.base
 let g:Nat->bc:=λt=>if t=T then r else h t
 have M:g T=r:=by simp[g]
 have e2:∀t,t<T->g t=h t:=λt R=>by simp[g,Nat.ne_of_lt R]
 let Q:dt->(Nat->Option Nat)->Prop:=λa p=>lx a T b/\Home a P/\uL a p g/\∀i,p i=some T\/p i=F i
 have G:Q S F:=by
  refine⟨hc.sl,hh,⟨Y.z,λi t d=>?_⟩,λi=>.inr rfl⟩
  rw[e2 t (l i t d)];exact Y.p i t d
 have H:∀a p i,Q a p->i<kP r->Q (iy a (2+i,sC T r i)) (λq=>if q=i then some T else p q):=by
  rintro a p i ⟨N,A,o,C⟩ d
  refine⟨N.congr (ob _ _ _ om) (ob _ _ _ om),λn I=>by rw[ob _ _ _ om];exact A n I,⟨λq hq f=>?_,λq t f=>?_⟩,λq=>?_⟩
  .by_cases e:q=i
   .simp[e]at f
   .simp only[e,fF]at f
    rw[ob _ _ _ om];exact o.z q hq f
  .by_cases e:q=i
   .subst e
    simp only[gr]at f
    cases f
    rw[M]
    exact⟨om,d,DZ _ _ _⟩
   .simp only[e,fF]at f
    rw[ob _ _ _ om];exact o.p q t f
  .by_cases e:q=i
   .simp[e]
   .simp only[e,fF];exact C q
 have J:∀a p,Q a p->mT a T b P\/mT a T b (jR c P):=by
  rintro a p ⟨N,A,o,C⟩
  have u:∀i t,p i=some t->t<=T:=λi t d=>by
   rcases C i with e|e
   .rw[e]at d;cases d;exact cV _
   .rw[e]at d;exact EI (l i t d)
  by_cases k:comp p g T
  .refine .inr (.inr ⟨p,g,T,c,o,u,hb,cV _,k,by rw[M,Z],λn I=>?_,D⟩)
   simp only[jR]
   rw[A n I]
  .refine .inl (.inl ⟨p,g,o,u,λt R v=>?_,A⟩)
   rcases kj t T with U|GR
   .refine O t R λi d=>?_
    rw[<-e2 t U]at d
    have:=v i d
    rcases C i with e|e
    .rw[e]at this;cases this;omega
    .rw[<-e];exact this
   .have h0:=u 0 t (v 0 (sd _))
    have:t=T:=om
    exact k (this▸v)
 have hO:∀j a,fY S ((fi T r).take j) a->∃p,Q a p:=by
  refine λj a V=>fY.dh (c:=[]) (ws:=(fi T r).take j) (Q:=λa=>∃p,Q a p) (λS1 W=>?_) (λw K S1 ⟨p,W⟩=>?_) a V
  .cases W.nil;exact⟨_,G⟩
  .have K:=mj K
   unfold fi at K
   rw[Be]at K
   obtain⟨i,d,rfl⟩:=K
   exact⟨_,H S1 p i W (List.mem_range.1 d)⟩
 have hE:∀j,BK S ((fi T r).take j) T b P (jR c P):=λj a V=>by
  obtain⟨p,f⟩:=hO j a V
  exact⟨f.1,J _ p f⟩
 have y:∀m,m<=kP r->∃p,Q (fC S ((List.range m).map λi=>(2+i,sC T r i))) p/\∀i,i<m->p i=some T:=by
  intro m hm
  induction m with
  |zero=>exact⟨F,G,λi d=>by omega⟩
  |succ m ih=>
   obtain⟨p,f,X⟩:=ih om
   refine⟨λq=>if q=m then some T else p q,?_,?_⟩
   .rw[qz,fe,tq];exact H _ p m f om
   .intro i d
    by_cases e:i=m
    .simp[e]
    .simp only[e,fF];exact X i om
 obtain⟨p,f,X⟩:=y (kP r) (cV _)
 obtain⟨N,A,o,C⟩:=f
 refine⟨λj hj=>?_,_,p,g,?_,N,o,λi t d=>?_,hb,cV _,λi d=>X i (by rwa[M]at d),by rw[M,Z],λn I=>?_,D⟩
 .unfold oP
  rw[Jw,sM,show j-(fi T r).length=0 by omega,uw,iO,Ri,yB]
  exact hE j
 .unfold oP
  rw[yA,yB]
  rfl
 .rcases C i with e|e
  .rw[e]at d;cases d;exact cV _
  .rw[e]at d;exact EI (l i t d)
 .simp only[jR]
  rw[A n I]
theorem abj {S:dt} {c:List Wr} (hd:eU S c T b P) (hi:Idle (fC S c) T b P pl h):Clean (iy (fC S c) ((T+1)%2,jV (T+1) b)) (T+1) b P:=by
 have e:=hd.view.base
 refine⟨hd.view.put om om,pl,h,hi.log.congr λi _=>xm om,λi t a=>by have:=hi.le i t a;omega,hi.no,λn d=>by rw[xm om];exact hi.home n d⟩
theorem abn {S:dt} {c:List Wr} (hd:eU S c T b P) (hr:kz (fC S c) T b P pl h t g):
  lx (iy (fC S c) ((T+1)%2,jV (T+1) b)) (T+1) b/\kz (iy (fC S c) ((T+1)%2,jV (T+1) b)) (T+1) b P pl h t g:=by
 have d:=hd.view.base
 refine⟨hd.view.put om om,hr.log.congr λi _=>xm om,hr.le,hr.bt,by have:=hr.tT;omega,hr.all,hr.xe,λn a=>?_,hr.wf⟩
 have:=hr.home n a
 simp only[jR]at this⊢
 rw[xm om];exact this
attribute [local irreducible] aT jC gk dV kO dg hex iT jk ae bG
structure DX where
 S:dt
 c:List Wr
 fu:Bool
 lf:Int
def DX.view (X:DX):dt:=fC X.S X.c
structure DX.Wf (X:DX):Prop where
 s:∀a,a<300->(X.S a).length=128
 c:∀u∈X.c,u.1<300/\u.2.length=128
def DX.jN (X:DX):Bool:=X.fu&&X.lf==0
def DX.wr (X:DX) (a:Nat) (s:bc):DX:={X with c:=X.c++[(a,gu s)],lf:=w6 (X.lf-1)}
def DX.fl (X:DX):DX:={X with S:=X.view,c:=[],lf:=w6 (X.lf-1)}
abbrev m5 (u:Wr):Int×ByteArray×Unit:=((u.1:Int),B u.2,())
abbrev IE:=dd Int ByteArray
abbrev cQ (m:Nat) (es:List IE) (ck:Nat):aK:=bG (.int .i64) (.leaf .str) m es ck
structure qJ (es:List IE) (S:dt):Prop where
 nd:(es.map (·.key)).Nodup
 at_:∀a:Nat,a<300->(dz my (a:Int) es).getD (B dI)=B (S a)
abbrev v8:=Nat×List IE×Nat×Sl×Int×Int
abbrev mW (d:Nat) (r:v8) (X:DX):aK:=lc d 217 [iv 300,.map (some r.1),sv r.2.2.2.1,iv r.2.2.2.2.1,iv r.2.2.2.2.2,.bool X.fu,iv X.lf]
abbrev n7 (o:Sl) (c:List Wr):aK:=OS 215 gQ o (c.map m5)
def aj (d:Nat) (X:DX):aK:=hex λr:v8=>dg (iT (qJ r.2.1 X.S/\X.Wf/\X.c.length<=1000000)) (dg (mW d r X) (dg (cQ r.1 r.2.1 r.2.2.1) (n7 r.2.2.2.1 X.c)))
theorem j7:uK prog 3 (.int .i64) my:=aay kK
theorem DB {s:bc} (h:s.length<=128):(gu s).length=128:=by unfold gu;simp;omega
theorem abL {s:bc} (h:s.length=128):gu s=s:=by unfold gu;rw[h];simp
theorem um:dI.length=128:=by unfold dI;simp
theorem M4 {S:dt}:∀{c:List Wr},(∀a,a<300->(S a).length=128)->(∀u∈c,u.1<300/\u.2.length=128)->∀a,a<300->(fC S c a).length=128:=by
 intro c
 induction c generalizing S with
 |nil=>intro h _;exact h
 |cons u c d=>
  intro h b
  refine d (S:=iy S u) (λa e=>?_) λv f=>b v (dH _ f)
  unfold iy
  split
  .exact(b u eo).2
  .exact h a e
variable {X:DX} {es:List IE}
theorem DX.Wf.view (h:X.Wf):∀a,a<300->(X.view a).length=128:=M4 h.s h.c
theorem Xm (S:dt) (c:List Wr) (i:Nat) (hi:i<c.length) (a:Nat) (ha:c[i].1=a) (b:∀j,i<j->∀h:j<c.length,c[j].1≠a):fC S c a=c[i].2:=by
 have e:c=c.take i++c[i]::c.drop (i+1):=by rw[List.getElem_cons_drop,oq]
 have d:∀u∈c.drop (i+1),u.1≠a:=λu f=>by
  obtain⟨j,g,rfl⟩:=List.mem_iff_getElem.1 f
  rw[fq]at g
  rw[yW]
  exact b _ om om
 generalize c[i]=x at e ha⊢
 rw[e,tq,show fC (fC S (c.take i)) (x::c.drop (i+1))=fC (iy (fC S (c.take i)) x) (c.drop (i+1))from rfl,CI _ _ _ d]
 unfold iy
 rw[ak ha.symm]
section
variable {E w:World} {L:List aK} {F:bh}
theorem aj.opened (h:ab E w (aj d X::L)):∃r:v8,qJ r.2.1 X.S/\X.Wf/\X.c.length<=1000000/\ab E w (mW d r X::cQ r.1 r.2.1 r.2.2.1::n7 r.2.2.2.1 X.c::L):=by
 obtain⟨r,h⟩:=h.Gr
 obtain⟨⟨a,b,e⟩,h⟩:=h.AY.HW
 exact⟨r,a,b,e,h.yH⟩
def ow:=@aj.opened
theorem aj.closed (r:v8) (a:qJ r.2.1 X.S) (b:X.Wf) (e:X.c.length<=1000000) (h:ab E w (mW d r X::cQ r.1 r.2.1 r.2.2.1::n7 r.2.2.2.1 X.c::L)):ab E w (aj d X::L):=
 ab.Gq r (ab.AX (ab.HV ⟨a,b,e⟩ h.yG))
def qD:=@aj.closed
theorem FI {k:ByteArray->Pr} (h:ab E w L) (b:∀a,ab E a L->k (B dI) a):CL 245 #[] an k w:=by
 refine aew ?_
 refine HJ (ls:=dW) (n:=128) (((0:Int),()):bK dW) h om λs w c h=>?_
 refine tr (e:=5) (bs:=List.replicate 128 0) kK kK kK ?_ (b _ h.drop)
 have:=h.iJ
 exact this
theorem xN (h:ab E w (aj d X::L)) (b:∀a,ab E a (aj d X::L)->k 300 a):CL 151 #[.pointer (some ⟨d,0,none⟩)] ah k w:=by
 obtain⟨r,c,e,f,h⟩:=ow h
 refine PI ?_
 refine dw (x:=false) kK ?_
 refine ar rfl ?_
 refine aq ?_
 refine ld h ?_
 exact b _ (qD r c e f h)
theorem zC {r:v8} (h:ab E w (mW d r X::L)) (b:∀a,ab E a (mW d r X::L)->k 300 a):CL 151 #[.pointer (some ⟨d,0,none⟩)] ah k w:=by
 refine PI ?_
 refine dw (x:=false) kK ?_
 refine ar rfl ?_
 refine aq ?_
 refine ld h ?_
 exact b _ h
theorem Lu {r:v8} (h:ab E w (mW d r X::L)) (ha:a<300) (e:∀b,ab E b (mW d r X::L)->k 0 b):CL 299 #[.pointer (some ⟨d,0,none⟩),iv (a:Int)] ah k w:=by
 refine afq ?_
 refine zC h λw h=>?_
 refine ar rfl ?_
 refine aL ?_
 refine ax (λc=>?_) (λc=>?_)
 .have f:(a:Int)<0:=cT c
  omega
 refine aq ?_
 refine ld h ?_
 refine ao λ_=>?_
 refine ar (eM om) ?_
 exact e _ h
theorem Lv {r:v8} {k:Bool->Pr} (h:ab E w (mW d r X::L)) (b:∀c,ab E c (mW d r X::L)->k X.jN c):CL 301 #[.pointer (some ⟨d,0,none⟩)] aw k w:=by
 refine afu ?_
 refine aq ?_
 refine ld (x:=X.fu) h ?_
 refine aL ?_
 refine ax (λa=>?_) (λa=>?_)
 .refine aq ?_
  refine ld (x:=X.lf) h ?_
  refine ao λ_=>?_
  refine fin (b _ h) ?_
  unfold DX.jN;rw[a];rfl
 .refine ao λ_=>?_
  refine fin (b _ h) ?_
  unfold DX.jN;rw[a];rfl
theorem qJ.lay {S:dt} {u:Wr} (h:qJ es S):qJ (if u.2=dI then lK my (u.1:Int) es else fk my (u.1:Int) (B u.2) es ck) (iy S u):=by
 have b:=j7.iff
 split
 .rename_i f
  refine⟨Dp _ _ _ h.nd,λa c=>?_⟩
  rw[Dr b _ _ _ h.nd]
  unfold iy
  by_cases e:a=u.1
  .subst e
   rw[ak ((b _ _).2 rfl),ak rfl,f];rfl
  .rw[ai (λd=>e (by have g:(a:Int)=(u.1:Int):=(b _ _).1 d;omega)),ai e]
   exact h.at_ a c
 .refine⟨w7 b _ _ _ _ h.nd,λa c=>?_⟩
  rw[sp b]
  unfold iy
  by_cases e:a=u.1
  .subst e
   rw[ak ((b _ _).2 rfl),ak rfl];rfl
  .rw[ai (λd=>e (by have g:(a:Int)=(u.1:Int):=(b _ _).1 d;omega)),ai e]
   exact h.at_ a c
theorem KR {S:dt} {wr fl lf:Int} {fu:Bool} {u:Wr} {k:Unit->Pr} (h:ab E w (lc d 217 [iv 300,.map (some m),sv o,iv wr,iv fl,.bool fu,iv lf]::cQ m es ck::L)) (j:qJ es S)
  (g:∀a e i,qJ a (iy S u)->ab E i (lc d 217 [iv 300,.map (some m),sv o,iv wr,iv fl,.bool fu,iv lf]::cQ m a e::L)->k () i):CL 192 #[.pointer (some ⟨d,0,none⟩),ag gQ (m5 u)] (.aG []) k w:=by
 have c:=j.lay (u:=u) (ck:=ck)
 refine adG ?_
 refine bx h λn w h=>?_
 refine dr h λw h=>?_
 refine ld (x:=B u.2) h ?_
 refine FI h λw h=>?_
 refine lk h ?_
 refine ax (λb=>?_) (λb=>?_)
 .have f:u.2=dI:=by rw[iK]at b;exact pG.1 (lS b)
  rw[ak f]at c
  refine dr h λw h=>?_
  refine aq ?_
  refine ld h ?_
  refine ld (x:=(u.1:Int)) h ?_
  refine Gi (V:=9) (kl:=.int .i64) (vl:=.leaf .str) (x:=(u.1:Int)) kK j7 h pK λw h=>?_
  exact g _ _ _ c (h.sub sS)
 .have f:¬u.2=dI:=by rw[iK]at b;exact λl=>pB b (pG.2 l)
  rw[ai f]at c
  refine dr h λw h=>?_
  refine aq ?_
  refine ld h ?_
  refine ld (x:=(u.1:Int)) h ?_
  refine ld (x:=B u.2) h ?_
  refine mw (K:=3) (V:=9) (kl:=.int .i64) (vl:=.leaf .str) (x:=(u.1:Int)) (v:=B u.2) kK j7 h pK λw h=>?_
  exact g _ _ _ c (h.sub sS)
end
theorem DX.Wf.wr {s:bc} (h:X.Wf) (ha:a<300) (hs:s.length<=128):(X.wr a s).Wf:=
 ⟨h.s,λu hu=>by
   rcases List.mem_append.1 hu with hu|hu
   .exact h.c u hu
   .simp only[fE]at hu
    subst hu
    exact⟨ha,DB hs⟩⟩
theorem DX.Wf.fl (h:X.Wf):(X.fl).Wf:=⟨h.view,λu a=>by cases a⟩
theorem AE {c:List Wr} (hi:i<c.length) (a:i<(c.map m5).length):(c.map m5)[i]=m5 c[i]:=qB ..
section
variable {E w:World} {L:List aK} {F:bh}
theorem Cf {k:ByteArray×Int×Unit->Pr} (h:ab E w (aj d X::L)) (ha:a<300) (C:∀P,ab E P (aj d X::L)->k (B (X.view a),0,()) P):CL 256 #[.pointer (some ⟨d,0,none⟩),iv (a:Int)] (.aG [.leaf .str,.leaf (.int .i64)]) k w:=by
 obtain⟨r,n,I,J,h⟩:=ow h
 refine aeH ?_
 refine Lu h ha λw h=>?_
 refine ar rfl ?_
 refine aq ?_
 refine ld (x:=r.2.2.2.1) h ?_
 have D:=fR (h.pick (A:=n7 r.2.2.2.1 X.c) pK) dE
 rw[bW]at D
 have R:w6 ((r.2.2.2.1.len:Int)-1)=(X.c.length:Int)-1:=by rw[D,bQ om]
 rw[R]
 refine uD (S:=Int) (λs w=>∃i:Nat,s=(i:Int)-1/\i<=X.c.length/\(∀j,i<=j->∀G:j<X.c.length,X.c[j].1≠a)/\ab E w (mW d r X::cQ r.1 r.2.1 r.2.2.1::n7 r.2.2.2.1 X.c::L)) (λs _=>(s+1).toNat) ⟨X.c.length,rfl,cV _,λj G b=>by omega,h⟩ ?_
 rintro next s w ⟨i,rfl,Y,o,h⟩ p
 refine ao λ_=>?_
 refine ax (λhc=>?_) (λhc=>?_)
 .have H:0<i:=by have n:(i:Int)-1>=0:=cT hc;omega
  have f:i-1<X.c.length:=om
  have g:i-1<(X.c.map m5).length:=by rw[bW];exact f
  refine aq ?_
  refine ld (x:=r.2.2.2.1) h ?_
  refine eO (T:=215) (ls:=gQ) (i:=i-1) h pK g (λU t=>?_) om
  refine kH (T:=215) (ls:=gQ) (j:=0) (x:=((X.c[i-1].1:Nat):Int)) h pK (t.add 0) g ?_ (hc:=by rw[AE f];rfl)
  refine ax (λM=>?_) (λM=>?_)
  .have y:X.c[i-1].1=a:=by have n:((X.c[i-1].1:Nat):Int)=(a:Int):=ek M;omega
   refine aq ?_
   refine ld (x:=r.2.2.2.1) h ?_
   refine eO (T:=215) (ls:=gQ) (i:=i-1) h pK g (λU t=>?_) om
   refine kH (T:=215) (ls:=gQ) (l:=.str) (j:=1) (x:=B X.c[i-1].2) h pK (t.add 1) g ?_ (hc:=by rw[AE f];rfl)
   have N:X.view a=X.c[i-1].2:=Xm X.S X.c (i-1) f a y λj G b=>o j om b
   rw[N]at C
   exact C _ (qD r n I J h)
  .have y:X.c[i-1].1≠a:=by have n:¬((X.c[i-1].1:Nat):Int)=(a:Int):=ei M;omega
   have O:w6 ((i:Int)-1-1)=((i-1:Nat):Int)-1:=by rw[bQ om];omega
   rw[O]
   refine p _ _ ⟨i-1,rfl,om,λj G b=>?_,h⟩ om
   by_cases e:j=i-1
   .subst e;exact y
   .exact o j om b
 .have H:i=0:=by have n:¬(i:Int)-1>=0:=cF hc;omega
  subst H
  have N:X.view a=X.S a:=CI _ _ _ λu W=>by
   obtain⟨j,G,rfl⟩:=List.mem_iff_getElem.1 W
   exact o j (jt _) G
  have m:=n.at_ a ha
  rw[N]at C
  refine aq ?_
  refine ld (x:=some r.1) h ?_
  refine yj (K:=3) (V:=9) (kl:=.int .i64) (vl:=.leaf .str) (x:=(a:Int)) (z:=(⟨#[]⟩:ByteArray)) kK j7 kK h pK ?_
  cases Q:dz my (a:Int) r.2.1 with
  |none=>
   rw[Q]at m
   refine aR rfl ?_
   refine FI h λw h=>?_
   have e:B dI=B (X.S a):=m
   rw[e]
   exact C _ (qD r n I J h)
  |some v=>
   rw[Q]at m
   refine ar rfl ?_
   have e:v=B (X.S a):=m
   rw[e]
   exact C _ (qD r n I J h)
theorem UU {s:bc} (h:ab E w (aj d X::L)) (ha:a<300) (hs:s.length<=128) (hn:X.c.length<1000000) (f:∀g,ab E g (aj d (if X.jN then X else X.wr a s)::L)->k (if X.jN then 6 else 0) g):
  CL 263 #[.pointer (some ⟨d,0,none⟩),iv (a:Int),.string (B s)] ah k w:=by
 obtain⟨r,i,j,m,h⟩:=ow h
 refine aeP ?_
 refine Lu h ha λw h=>?_
 refine ar rfl ?_
 refine ar (eM (by rw[cJ];omega)) ?_
 refine Lv h λw h=>?_
 refine ax (λb=>?_) (λb=>?_)
 .rw[ak b,ak b]at f
  exact f _ (qD r i j m h)
 rw[ai (by rw[b];decide),ai (by rw[b];decide)]at f
 refine aq ?_
 refine ld (x:=X.lf) h ?_
 refine aq ?_
 refine st h λw h=>?_
 refine dr h λw h=>?_
 refine aq ?_
 refine ld (x:=r.2.2.2.1) h ?_
 refine FI h λw h=>?_
 refine lk h ?_
 refine IB kK om (by rw[cJ,cJ,um];omega) ?_
 have n:(B dI).extract ((B s).size:Int).toNat (B dI).size=B (List.replicate (128-s.length) 0):=by
  rw[cJ,cJ,zi,kW,um]
  unfold dI
  rw[Jp,List.take_replicate]
  congr 2;omega
 rw[n]
 refine Q7 (by rw[cJ,cJ];simp;omega) ?_
 rw[ET]
 refine bJ (ls:=gQ) (y:=m5 (a,gu s)) h λt w _ h=>?_
 refine lk h ?_
 refine eA (ls:=gQ) (xs:=X.c.map m5) h (by rw[bW];omega) λl w h=>?_
 refine aq ?_
 refine st h λw h=>?_
 refine aq ?_
 refine ld (x:=r.2.2.2.2.1) h ?_
 refine aq ?_
 refine st h λw h=>?_
 refine f _ (qD (X:=X.wr a s) (r.1,r.2.1,r.2.2.1,l,w6 (r.2.2.2.2.1+1),r.2.2.2.2.2) i (j.wr ha hs) (by unfold DX.wr;simp;omega) ?_)
 have e:((X.wr a s).c.map m5)=X.c.map m5++[m5 (a,gu s)]:=by unfold DX.wr;simp
 show ab E w (_::_::OS 215 gQ l ((X.wr a s).c.map m5)::L)
 rw[e]
 exact h.sub sS
theorem UW (h:ab E w (aj d X::L)) (m:∀u,ab E u (aj d (if X.jN then X else X.fl)::L)->k (if X.jN then 6 else 0) u):CL 267 #[.pointer (some ⟨d,0,none⟩)] ah k w:=by
 obtain⟨r,v,y,z,h⟩:=ow h
 refine aeT ?_
 refine zC h λw h=>?_
 refine ar rfl ?_
 refine Lv h λw h=>?_
 refine ax (λf=>?_) (λf=>?_)
 .rw[ak f,ak f]at m
  exact m _ (qD r v y z h)
 rw[ai (by rw[f];decide),ai (by rw[f];decide)]at m
 refine aq ?_
 refine ld (x:=X.lf) h ?_
 refine aq ?_
 refine st h λw h=>?_
 refine aq ?_
 refine ld (x:=r.2.2.2.1) h ?_
 have g:=fR (h.pick (A:=n7 r.2.2.2.1 X.c) pK) dE
 rw[bW]at g
 refine cy (S:=Int) (cf:=λs=>s) X.c.length (by rw[g]) (λi s w=>∃b j,qJ b (fC X.S (X.c.take i))/\ab E w (lc d 217 [iv 300,.map (some r.1),sv r.2.2.2.1,iv r.2.2.2.2.1,iv r.2.2.2.2.2,.bool X.fu,iv (w6 (X.lf-1))]::cQ r.1 b j::n7 r.2.2.2.1 X.c::L)) rfl ⟨r.2.1,r.2.2.1,v,h.sub sS⟩ ?_ ?_
 .rintro next _ w i n rfl ⟨b,j,e,h⟩ a
  have l:i<(X.c.map m5).length:=by rw[bW];exact n
  refine eO (T:=215) (ls:=gQ) (i:=i) h pK l (λC o=>?_) rfl
  refine oV (T:=215) (ls:=gQ) h pK o l ?_
  rw[AE n]
  refine al h λD w h=>?_
  refine bU h (λw h=>?_)
  refine bN (ls:=gQ) (x:=m5 X.c[i]) h ?_
  refine KR (h.bF (A1:=lc d 217 _) (A2:=cQ r.1 b j) pK pK) e λp t w e h=>?_
  refine a _ _ (bV n om) ⟨p,t,?_,h.sub sS⟩
  rw[cR n,tq]
  exact e
 .rintro _ w ⟨b,j,e,h⟩
  rw[cB]at e
  refine aq ?_
  refine st h λw h=>?_
  refine aq ?_
  refine ld (x:=r.2.2.2.2.2) h ?_
  refine aq ?_
  refine st h λw h=>?_
  refine m _ (qD (X:=X.fl) (r.1,b,j,au,r.2.2.2.2.1,w6 (r.2.2.2.2.2+1)) e y.fl (jt _) ?_)
  exact(fm (T:=215) (ls:=gQ) h).sub sS
theorem TO {k:Sl->Pr} (h:ab E w (aj d X::L)) (m:∀(s:Sl) j,s.len=X.c.length->ab E j (aj d X::L)->k s j):CL 148 #[.pointer (some ⟨d,0,none⟩)] aE k w:=by
 obtain⟨r,n,p,v,h⟩:=ow h
 refine ac0 ?_
 refine zC h λw h=>?_
 refine ar rfl ?_
 refine aq ?_
 refine ld (x:=r.2.2.2.1) h ?_
 have b:=fR (h.pick (A:=n7 r.2.2.2.1 X.c) pK) dE
 rw[bW]at b
 refine cy (S:=Sl×Int) (cf:=λs=>s.2) X.c.length (by rw[b]) (λi s w=>ab E w (OS 41 [.int .i64] s.1 ((X.c.take i).map λu=>(((u.1:Int),()):bK [.int .i64]))::mW d r X::cQ r.1 r.2.1 r.2.2.1::n7 r.2.2.2.1 X.c::L)) rfl (fm h) ?_ ?_
 .rintro next ⟨o,_⟩ w i f rfl h a
  have h:ab E w (OS 41 [.int .i64] o ((X.c.take i).map λu=>(((u.1:Int),()):bK [.int .i64]))::mW d r X::cQ r.1 r.2.1 r.2.2.1::n7 r.2.2.2.1 X.c::L):=h
  have e:i<(X.c.map m5).length:=by rw[bW];exact f
  refine eO (T:=215) (ls:=gQ) (i:=i) h pK e (λC g=>?_) rfl
  refine oV (T:=215) (ls:=gQ) h pK g e ?_
  rw[AE f]
  refine al h λD w h=>?_
  refine bU h (λw h=>?_)
  refine ld (x:=((X.c[i].1:Nat):Int)) h ?_
  refine bJ (ls:=[.int .i64]) (y:=(((X.c[i].1:Nat):Int),())) h λt w _ h=>?_
  refine eA (ls:=[.int .i64]) (xs:=(X.c.take i).map λu=>(((u.1:Int),()):bK [.int .i64])) h (by rw[bW,cn];omega) λz w h=>?_
  refine a _ _ (bV f om) ?_
  rw[cR f,fe]
  show ab E w (OS 41 [.int .i64] z _::_)
  exact h.sub sS
 .rintro⟨o,_⟩ w h
  have h:ab E w (OS 41 [.int .i64] o ((X.c.take X.c.length).map λu=>(((u.1:Int),()):bK [.int .i64]))::mW d r X::cQ r.1 r.2.1 r.2.2.1::n7 r.2.2.2.1 X.c::L):=h
  have l:=fR h dE
  rw[cB,bW]at l
  exact m _ _ l (qD r n p v h.drop)
theorem Kh {n:Int} {k:Unit->Pr} (h:ab E w (aj d X::L)) (e:∀a,ab E a (aj d {X with fu:=true,lf:=if 0>n then 0 else n}::L)->k () a):CL 110 #[.pointer (some ⟨d,0,none⟩),iv n] (.aG []) k w:=by
 obtain⟨r,f,b,g,h⟩:=ow h
 refine acp ?_
 refine zC h λw h=>?_
 refine aR rfl ?_
 refine aq ?_
 refine st h λw h=>?_
 refine aq ?_
 refine st h λw h=>?_
 exact e _ (qD (X:={X with fu:=true,lf:=if 0>n then 0 else n}) r f ⟨b.s,b.c⟩ g (h.sub sS))
theorem VQ {k:Option Addr×Int×Unit->Pr} (h:ab E w L) (f:∀d e,ab E e (aj d {S:=λ_=>dI,c:=[],fu:=false,lf:=0}::L)->k (some ⟨d,0,none⟩,0,()) e):CL 99 #[iv 300] (.aG [.leaf .ptr,.leaf (.int .i64)]) k w:=by
 refine agL ?_
 refine aL ?_
 refine ar rfl ?_
 refine ao λ_=>?_
 refine ar rfl ?_
 refine nP h λm w h=>?_
 refine bx h λb w h=>?_
 refine f b _ (qD (m,[],0,au,0,0) ⟨qp,λa _=>rfl⟩ ⟨λa _=>um,λu g=>by cases g⟩ (jt _) ?_)
 have h:=fm (T:=215) (ls:=gQ) h
 rw[<-qf (kl:=.int .i64) (vl:=.leaf .str)]at h
 exact h.sub sS
def wY (dh:List Bool) (c:List Wr):List Wr:=((dh.zip c).filter (·.1)).map (·.2)
theorem Ok (dh:List Bool) (c:List Wr):(wY dh c).Sublist c:=by
 induction dh generalizing c with
 |nil=>exact RW _
 |cons b dh a=>
  cases c with
  |nil=>exact RW _
  |cons u c=>
   cases b with
   |true=>exact(a c).cons_cons u
   |false=>exact(a c).cons u
theorem Kv {s:Sl} {dh:List Bool} (h:ab E w (aj d X::ae F::L)) (hs:FL F [.bool] s (dh.map λb=>((b,()):bK [.bool]))) (Z:dh.length<=X.c.length)
  (V:∀K M,fY X.S X.c K->ab E M (aj d {S:=K,c:=[],fu:=false,lf:=X.lf}::ae F::L)->k 0 M):CL 147 #[.pointer (some ⟨d,0,none⟩),sv s] ah k w:=by
 obtain⟨r,W,N,h3,h⟩:=ow h
 have v:s.len=dh.length:=by rw[hs.2,bW]
 refine acZ ?_
 refine zC h λw h=>?_
 refine ar rfl ?_
 refine aq ?_
 refine ld (x:=r.2.2.2.1) h ?_
 have y:=fR (h.pick (A:=n7 r.2.2.2.1 X.c) pK) dE
 rw[bW]at y
 refine ar (eM om) ?_
 have Y:(dh.zip X.c).length=dh.length:=by rw[vU];omega
 refine cy (S:=Int) (cf:=λs=>s) dh.length (by rw[v]) (λi s w=>∃e g,qJ e (fC X.S (wY (dh.take i) X.c))/\ab E w (mW d r X::cQ r.1 e g::n7 r.2.2.2.1 X.c::ae F::L)) rfl ⟨r.2.1,r.2.2.1,W,h⟩ ?_ ?_
 .rintro next _ w i O rfl ⟨e,g,m,h⟩ n
  have o:i<X.c.length:=om
  have P:wY (dh.take (i+1)) X.c=wY (dh.take i) X.c++if dh[i]then[X.c[i]]else[]:=by
   unfold wY
   have Q:∀j,(dh.take j).zip X.c=(dh.zip X.c).take j:=λj=>by
    have:=List.take_zipWith (f:=Prod.mk) (l:=dh) (l':=X.c) (i:=j)
    show List.zipWith Prod.mk _ _=(List.zipWith Prod.mk _ _).take j
    rw[this]
    by_cases hj:j<=X.c.length
    .apply Bp
     intro q
     simp only[List.getElem?_zipWith]
     by_cases R:q<j
     .rw[pC R,pC R]
     .rw[pA (l:=dh.take j) (by rw[cn];omega)]
    .rw[iP (l:=X.c) om]
   rw[Q,Q,cR om,nC,fe,xE]
   congr 1
   cases dh[i]<;>simp
  refine br (λ_ w=>∃e g,qJ e (fC X.S (wY (dh.take (i+1)) X.c))/\ab E w (mW d r X::cQ r.1 e g::n7 r.2.2.2.1 X.c::ae F::L)) (λ_ w h=>?_) λJ t=>?_
  .exact .go λ_=>n _ _ (bV O om) h
  have z:i<(dh.map λb=>((b,()):bK [.bool])).length:=by rw[bW];exact O
  refine ix hs z λa U=>?_
  rw[qB]at U
  refine nU (l:=.bool) (x:=dh[i]) h ?_ U
  refine ax (λC=>?_) (λC=>?_)
  .rw[P,ak C,tq]at t
   have p:i<(X.c.map m5).length:=by rw[bW];exact o
   refine aq ?_
   refine ld (x:=r.2.2.2.1) h ?_
   refine eO (T:=215) (ls:=gQ) (i:=i) h pK p (λa1 D=>?_) rfl
   refine oV (T:=215) (ls:=gQ) h pK D p ?_
   rw[AE o]
   refine KR (h.bF (A1:=mW d r X) (A2:=cQ r.1 e g) pK pK) m λG H w m h=>?_
   exact t _ _ ⟨G,H,m,h.sub sS⟩
  .rw[P,ai (by rw[C];decide),iO]at t
   exact t _ _ ⟨e,g,m,h⟩
 .rintro _ w ⟨e,g,m,h⟩
  rw[cB]at m
  refine aq ?_
  refine st h λw h=>?_
  refine aq ?_
  refine st h λw h=>?_
  refine V _ _ ⟨_,Ok dh X.c,rfl⟩ (qD (X:={S:=fC X.S (wY dh X.c),c:=[],fu:=false,lf:=X.lf}) (r.1,e,g,au,r.2.2.2.2.1,r.2.2.2.2.2) m ⟨M4 N.s λu I=>N.c u ((Ok dh X.c).mem I),λu I=>by cases I⟩ (jt _) ?_)
  exact(fm (T:=215) (ls:=gQ) h).sub sS
end
attribute [local irreducible] aj
theorem HD:∀(n:Nat) (x:Int),(nn n x).length=n
 |0,_=>rfl
 |n+1,x=>by unfold nn;rw[db,HD n]
theorem Qx (r:bc):(gK r).length=4:=HD _ _
theorem Qj (b:bc):(qZ b).length=b.length+5:=by unfold qZ;rw[db,pe]
theorem HP (r:bc) (i:Nat):(dJ r i).length<=100:=by unfold dJ;rw[cn];omega
theorem A8 (h:n<128):(aH n).length=1:=by rw[A9,ak h];rfl
theorem Nv {c:Nat} (a:t<18446744073709551616) (hi:i<128) (hc:c<128):(lF t i c).length<=13:=by
 unfold lF
 have:=cD a
 rw[db,aU,aU,A8 hi,A8 hc]
 omega
def oQ (s h:bc):bc×Bool:=if s.take h.length=h then(s.drop h.length,true)else(s,false)
theorem B6 (h r:bc):oQ (h++r) h=(r,true):=by unfold oQ;rw[vW,ak rfl,vP]
section
variable {E w:World} {L:List aK} {F:bh}
theorem zH {k:ByteArray->Pr} (h:ab E w L) (hn:n<=9223372036854775807) (b:∀a,ab E a L->k (B (aH n)) a):CL 298 #[iv (n:Int)] an k w:=by
 refine afp ?_
 rw[ug om]
 exact nf h om b
theorem FM {c:Nat} {k:ByteArray->Pr} (h:ab E w L) (b:t<=9223372036854775807) (hi:i<128) (hc:c<128) (d:∀a,ab E a L->k (B (lF t i c)) a):CL 265 #[iv (t:Int),iv (i:Int),iv (c:Int)] an k w:=by
 have f:=cD (n:=t) om
 have g:=A8 hi
 have j:=A8 hc
 refine aeR ?_
 refine zH h b λw h=>?_
 have e:(⟨#[76]⟩:ByteArray)=B [76]:=rfl
 rw[e]
 refine cc (by simp;omega) ?_
 refine zH h om λw h=>?_
 refine cc (by simp;omega) ?_
 refine zH h om λw h=>?_
 refine cc (by simp;omega) ?_
 refine fin (d _ h) ?_
 unfold lF;simp
theorem Lk {k:ByteArray->Pr} (h:ab E w L) (b:r.length<=1000000000) (c:∀a,ab E a L->k (B (gK r)) a):CL 266 #[.string (B r)] an k w:=by
 refine aeS ?_
 refine Cc h b λw h=>?_
 refine IB kK om (by rw[cJ,cJ,pe];omega) ?_
 have e:(B (kN r)).extract ((B r).size:Int).toNat (B (kN r)).size=B (gK r):=by
  rw[cJ,cJ,zi,kW,pe]
  unfold kN gK
  rw[vP,iP (by rw[HD];omega)]
 rw[e]
 exact c _ h
theorem Lj {b:bc} {k:ByteArray->Pr} (h:ab E w L) (l:b.length<=123) (f:∀e,ab E e L->k (B (qZ b)) e):CL 264 #[.string (B b)] an k w:=by
 have g:IntKind.u8.wrap ((B b).size:Int)=(((u8 (b.length:Int)).toNat:Nat):Int):=by rw[cJ];exact ny _
 have m:B [u8 (b.length:Int)]++B (kN b)=B (qZ b):=by rw[ET];rfl
 refine aeQ ?_
 refine ar (eM (by rw[cJ];omega)) ?_
 refine dr h λw h=>?_
 refine⟨?_,?_⟩
 .refine bJ (T:=143) (ls:=dW) (y:=(((u8 (b.length:Int)).toNat:Int),())) h (λt w _ h=>?_) (by rw[g];rfl)
  have c:BF E w L t [u8 (b.length:Int)]:=BF.own h sI
  refine BF.str c ?_
  refine Cc h om λw h=>?_
  have c:BF E w L t [u8 (b.length:Int)]:=BF.own h sI
  obtain⟨i,n⟩:(Go.convert 143 9 (.slice t.a t.len t.cap)).run prog w=.ok (.string (B [u8 (b.length:Int)])) w/\True:=by
   have j:dQ prog (vN (Go.convert 143 9 (.slice t.a t.len t.cap))) an (λx e=>x=B [u8 (b.length:Int)]/\e=w) w:=BF.str c ⟨rfl,rfl⟩
   obtain⟨x,d,rfl,_⟩:=j.out
   exact⟨Ia d,trivial⟩
  refine⟨eE i,?_⟩
  refine cc (by rw[pe];simp;omega) ?_
  refine fin (f _ h.drop) ?_
  rfl
 .refine Cc h om λw h=>?_
  refine bJ (T:=143) (ls:=dW) (y:=(((u8 (b.length:Int)).toNat:Int),())) h (λt w _ h=>?_) (by rw[g];rfl)
  have c:BF E w L t [u8 (b.length:Int)]:=BF.own h sI
  refine BF.str c ?_
  refine cc (by rw[pe];simp;omega) ?_
  refine fin (f _ h.drop) ?_
  rfl
theorem vC {l:List UInt8} {n:Int} {k:ByteArray->Pr} (hn:n=(m:Int)) (hm:m<=l.length) (a:k (B (l.drop m)) w):fU prog (vN (Instr.sliceAt 9 (.string (B l)) (some (.int .i64 n)) none none)) an k w:=by
 subst hn
 refine IB kK om (by rw[cJ];omega) ?_
 rw[zi,kW,cJ]
 rw[iP (by rw[fq];omega)]
 exact a
theorem xR {s:bc} {k:ByteArray×Bool×Unit->Pr} (h:ab E w L) (b:∀f,ab E f L->k (B (oQ s hd).1,(oQ s hd).2,()) f):CL 295 #[.string (B s),.string (B hd)] (.aG [.leaf .str,.leaf .bool]) k w:=by
 refine afn ?_
 refine aL ?_
 refine ax (λc=>?_) (λc=>?_)
 .have d:((B s).size:Int)<((B hd).size:Int):=cT c
  rw[cJ,cJ]at d
  refine ao λ_=>?_
  refine aR rfl ?_
  refine fin (b _ h) ?_
  unfold oQ
  rw[ai (λe=>by have:=gU List.length e;rw[cn]at this;omega)]
 .have d:¬((B s).size:Int)<((B hd).size:Int):=cF c
  rw[cJ,cJ]at d
  refine tS (m:=hd.length) (by rw[cJ]) om ?_
  refine ao λ_=>?_
  rw[iK]
  refine ax (λa=>?_) (λa=>?_)
  .refine fin (b _ h) ?_
   unfold oQ
   have:¬s.take hd.length=hd:=λe=>by rw[e]at a;simp at a
   rw[ai this]
  .have e:s.take hd.length=hd:=by have:=nF a;exact pG.1 (lS this)
   refine vC (m:=hd.length) (by rw[cJ]) om ?_
   refine fin (b _ h) ?_
   unfold oQ
   rw[ak e]
def vG (s:bc):Option bc:=match s with
 |[]=>none
 |n::a=>if n.toNat>123\/n.toNat+4>a.length then none else mf (a.take (n.toNat+4))
theorem Q2 {b:bc} (c:b.length<=123):vG (gu (qZ b))=some b:=by
 have e:gu (qZ b)=u8 (b.length:Int)::(kN b++List.replicate (128-(qZ b).length) 0):=rfl
 have a:(u8 (b.length:Int)).toNat=b.length:=vF om
 rw[e]
 unfold vG
 simp only[a]
 rw[ai (by rw[aU,pe];omega),I2 (by rw[pe];omega),iP (by rw[pe];omega),QI]
theorem Q3:vG dI=some []:=by
 have e:dI=0::List.replicate 127 0:=rfl
 rw[e]
 unfold vG
 simp only
 rw[ai sI]
 show mf [0,0,0,0]=some []
 unfold mf
 have a:kN []=[0,0,0,0]:=by
  unfold kN
  have:nn 4 (pR 0 [])=[0,0,0,0]:=kK
  rw[this];rfl
 rw[ak ⟨by decide,a⟩];rfl
theorem FT {s:bc} {k:ByteArray×Bool×Unit->Pr} (h:ab E w L) (l:s.length=128) (f:∀o,ab E o L->k (B ((vG s).getD []),(vG s).isSome,()) o):CL 294 #[.string (B s)] (.aG [.leaf .str,.leaf .bool]) k w:=by
 obtain⟨n,a,rfl⟩:∃n a,s=n::a:=by cases s with
  |nil=>simp at l
  |cons n a=>exact⟨n,a,rfl⟩
 have A:a.length=127:=by simpa using l
 have C:=n.toNat_lt
 refine afm ?_
 refine ar ?_ ?_
 .have e:(⟨#[]⟩:ByteArray)=B []:=rfl
  rw[e,iK]
  exact eM λt=>by have:=pG.1 t;cases this
 refine dr h λw h=>?_
 refine mJ (i:=0) sI ?_
 show VL _ _ _ w
 refine vC (m:=1) rfl sI ?_
 have u:w6 (((n::a)[0].toNat:Nat):Int)=((n.toNat:Nat):Int):=bQ (by simp;omega)
 rw[u]
 have v:w6 (((n.toNat:Nat):Int)+4)=((n.toNat+4:Nat):Int):=by rw[bQ om];omega
 rw[v]
 show(JB _ _) w
 have x:(n::a).drop 1=a:=rfl
 rw[x]
 have p:∀b:Bool,b=decide (n.toNat>123\/n.toNat+4>a.length)->af b (k ((⟨#[]⟩),false,())) (
   VL (vN (Instr.sliceAt 9 (.string (B a)) none (some (iv ((n.toNat+4:Nat):Int))) none)) an λj=>
   CL 180 #[.string j] (.aG [.leaf .str,.leaf .bool]) λd=>k (d.1,d.2.1,())) w:=by
  intro b g
  have r:vG (n::a)=if n.toNat>123\/n.toNat+4>a.length then none else mf (a.take (n.toNat+4)):=rfl
  refine ax (λc=>?_) (λc=>?_)
  .rw[c]at g
   rw[r,ak (lS g.symm)]at f
   exact f _ h
  .rw[c]at g
   have y:=pB g.symm
   rw[r,ai y]at f
   refine tS (m:=n.toNat+4) rfl om ?_
   refine KK h (by rw[cn];omega) λw h=>?_
   exact f _ h
 refine aL ?_
 refine ax (λc=>?_) (λc=>?_)
 .have z:((n.toNat:Nat):Int)>123:=cT c
  refine ao λ_=>p _ ?_
  exact(eu (.inl om)).symm
 .have z:¬((n.toNat:Nat):Int)>123:=cF c
  refine ao λ_=>p _ ?_
  rw[cJ]
  rw[gb,vR,vR]
  omega
end
abbrev eL:List bD:=[.str]
abbrev iY (r:bc):bK eL:=(B r,())
abbrev cq (l d:Nat) (T b a:Int) (rs:Sl) (bl:Bool):aK:=lc l 305 [.pointer (some ⟨d,0,none⟩),iv 0,iv 118,iv T,iv b,iv a,sv rs,.bool bl]
theorem nW {a b:Int} (h:a<=b):decide (a>b)=false:=eM om
theorem GB {a b:Int} (h:b<a):decide (a>b)=true:=eu h
theorem Aw {a b:Int} (h:b<=a):decide (a<b)=false:=eM om
theorem Dn {a b:Int} (h:a<b):decide (a<b)=true:=eu h
theorem xv:gq 327=⟨[iv 0,.string ⟨#[]⟩,.string ⟨#[]⟩,.bool false]⟩:=kK
theorem wX (r:bc):kP r=max 1 ((r.length+99)/100):=rfl
theorem abO (h:i+1<kP r):(dJ r i).length=100:=by
 rw[wX]at h
 unfold dJ
 rw[cn,fq];omega
section
variable {E w:World} {L:List aK} {F:bh}
theorem UT {k:Sl->Pr} (h:ab E w L) (z:r.length<=1000000) (n:∀s g,ab E g (OS 204 eL s ((List.range (kP r)).map λi=>iY (dJ r i))::L)->k s g):CL 261 #[.string (B r)] aE k w:=by
 have p:=wX r
 refine aeN ?_
 refine uD (S:=ByteArray×Sl) (λs w=>∃i:Nat,s.1=B (r.drop (100*i))/\i+1<=kP r/\100*i<=r.length/\ab E w (OS 204 eL s.2 ((List.range i).map λi=>iY (dJ r i))::L)) (λs _=>s.1.size) ⟨0,sI,sd r,om,fm h⟩ ?_
 rintro next ⟨x,o⟩ w ⟨i,j,A,u,h⟩ b
 simp only at j
 subst j
 have h:ab E w (OS 204 eL o ((List.range i).map λi=>iY (dJ r i))::L):=h
 refine ao λ_=>?_
 have c:(r.drop (100*i)).length=r.length-100*i:=fq ..
 have a:(List.range (i+1)).map (λi=>iY (dJ r i))=(List.range i).map (λi=>iY (dJ r i))++[iY (dJ r i)]:=by rw[qz,fe];rfl
 refine ax (λe=>?_) (λe=>?_)
 .have f:((B (r.drop (100*i))).size:Int)>100:=cT e
  rw[cJ,c]at f
  refine tS (m:=100) rfl om ?_
  refine bJ (ls:=eL) (y:=iY (dJ r i)) h λt w _ h=>?_
  refine eA (ls:=eL) (xs:=(List.range i).map λi=>iY (dJ r i)) h (by rw[bW,px];omega) λl w h=>?_
  refine vC (m:=100) rfl om ?_
  rw[uv,show 100*i+100=100*(i+1)by omega]
  refine b _ _ ⟨i+1,rfl,om,om,?_⟩ ?_
  .rw[a]
   show ab E w (OS 204 eL l _::_)
   exact h.sub sS
  .show(B _).size<(B _).size
   rw[cJ,cJ,c,fq];omega
 .have f:¬((B (r.drop (100*i))).size:Int)>100:=cF e
  rw[cJ,c]at f
  have d:kP r=i+1:=om
  have v:dJ r i=r.drop (100*i):=by unfold dJ;rw[iP om]
  refine bJ (ls:=eL) (y:=iY (dJ r i)) h (λt w _ h=>?_) (by rw[v];rfl)
  refine eA (ls:=eL) (xs:=(List.range i).map λi=>iY (dJ r i)) h (by rw[bW,px];omega) λl w h=>?_
  refine n _ _ ?_
  rw[d,a]
  exact h.sub sS
theorem IJ (h:i<118):w6 (w6 (0+2)+(i:Int))=((2+i:Nat):Int):=by
 rw[bQ (n:=0+2) om,bQ om];omega
theorem Lt {T b:Int} {k:(Int×ByteArray×ByteArray×Bool×Unit)×Bool×Unit->Pr} (h:ab E w (aj d X::cq l d T b u rs bl::L)) (hi:i<118) (c:X.view (2+i)=dI)
  (e:∀p a,ab E a (aj d X::cq l d T b u rs bl::L)->k (p,false,()) a):CL 297 #[.pointer (some ⟨l,0,none⟩),iv (i:Int)] (.aG [.agg kr,.leaf .bool]) k w:=by
 refine PR ?_
 refine al h λg w h=>?_
 rw[xv]at h
 refine dr h λw h=>?_
 refine aq ?_
 refine ld h ?_
 refine aq ?_
 refine ld h ?_
 rw[IJ hi]
 refine Cf (h.pick (A:=aj d X) pK) om λw h=>?_
 rw[c]
 refine lk h ?_
 refine FT h um λw h=>?_
 rw[Q3]
 refine ar rfl ?_
 refine xR (s:=[]) (hd:=[76]) h λw h=>?_
 have f:oQ [] [76]=([],false):=dE
 rw[f]
 refine tg h λj w h=>?_
 refine K1 (pos:=0) h (cV _) λw h=>?_
 refine pO h λw h=>?_
 refine aL ?_
 refine aR rfl ?_
 refine ao λ_=>?_
 refine aR rfl ?_
 refine bU h (λw h=>?_)
 refine nr (ls:=kr) (x:=(0,⟨#[]⟩,⟨#[]⟩,false,())) (y:=false) h ?_
 exact e _ _ (h.sub sS)
theorem YA (t i:Nat) (r:bc):oQ (lF t i 0++r) (lF t i 1)=(lF t i 0++r,false):=by
 have a:(lF t i 1).length=(lF t i 0).length:=by unfold lF;simp[A8]
 unfold oQ
 rw[a,vW,ai]
 unfold lF
 intro e
 simp only[xG,List.append_cancel_left_eq,sT]at e
 have b:aH 0=[u8 0]:=by rw[A9];rfl
 have c:aH 1=[u8 1]:=by rw[A9];rfl
 rw[b,c]at e
 exact absurd e dE
theorem Lr {T b:Int} {k:(Int×ByteArray×ByteArray×Bool×Unit)×Bool×Unit->Pr} (h:ab E w (aj d X::cq l d T b u rs bl::L)) (hi:i<118) (M:X.view (2+i)=sC t r i) (N:X.Wf) (ht:t<=1099511627776) (O:i<kP r)
  (C:∀D,ab E D (aj d X::cq l d T b u rs bl::L)->k (((t:Int),B (gK r),B (dJ r i),decide (i+1≠kP r),()),true,()) D):CL 297 #[.pointer (some ⟨l,0,none⟩),iv (i:Int)] (.aG [.agg kr,.leaf .bool]) k w:=by
 have P:=HP r i
 have g:=Qx r
 have Q:=Nv (t:=t) (i:=i) (c:=if i+1=kP r then 0 else 1) om om (by split<;>omega)
 have R:(if i+1=kP r then 0 else 1)<=1:=by split<;>omega
 generalize f:(if i+1=kP r then 0 else 1)=c at*
 have a:(lF t i c++(gK r++dJ r i)).length<=123:=by rw[aU,aU];omega
 have v:vG (X.view (2+i))=some (lF t i c++(gK r++dJ r i)):=by
  rw[M];unfold sC;rw[f];exact Q2 a
 refine PR ?_
 refine al h λS w h=>?_
 rw[xv]at h
 refine dr h λw h=>?_
 refine aq ?_
 refine ld h ?_
 refine aq ?_
 refine ld h ?_
 rw[IJ hi]
 refine Cf (h.pick (A:=aj d X) pK) om λw h=>?_
 refine lk h ?_
 refine FT h (N.view _ om) λw h=>?_
 rw[v]
 refine ar rfl ?_
 simp only[vX]
 refine xR (hd:=[76]) h λw h=>?_
 have G:oQ (lF t i c++(gK r++dJ r i)) [76]=(aH t++(aH i++aH c++(gK r++dJ r i)),true):=by
  have:lF t i c++(gK r++dJ r i)=[76]++(aH t++(aH i++aH c++(gK r++dJ r i))):=by unfold lF;simp
  rw[this];exact B6 _ _
 rw[G]
 have H:(aH t++(aH i++aH c++(gK r++dJ r i))).length<=1000:=by
  have:=gU (λp=>List.length p.1) G
  unfold lF at a
  simp only[aU,db]at a⊢
  omega
 simp only
 refine tg h λrb w h=>?_
 refine nL (n:=t) (pos:=0) (rest:=aH i++aH c++(gK r++dJ r i)) h om (by rw[mi]) om λw h=>?_
 refine pO h λw h=>?_
 refine aL ?_
 refine ar rfl ?_
 refine ao λ_=>?_
 refine ar (nW om) ?_
 have U:w6 (t:Int)=(t:Int):=bQ om
 rw[U]
 refine FM (c:=1) h om om om λw h=>?_
 refine xR h λw h=>?_
 refine br (λs w=>s=(true,decide (i+1≠kP r),B (gK r++dJ r i))/\∃j,ab E w (j::aj d X::cq l d T b u rs bl::lc S 327 [iv 0,.string ⟨#[]⟩,.string ⟨#[]⟩,.bool false]::L)) (λs w h=>?_) λJ I=>?_
 .obtain⟨rfl,j,h⟩:=h
  refine ao λ_=>?_
  refine aL ?_
  refine ar rfl ?_
  refine ao λ_=>?_
  have V:¬(((B (gK r++dJ r i)).size:Int)<4):=by rw[cJ,aU];omega
  refine ar (eM V) ?_
  refine dr h λw h=>?_
  refine tS (m:=4) rfl (by rw[aU];omega) ?_
  refine vC (m:=4) rfl (by rw[aU];omega) ?_
  have W:(gK r++dJ r i).take 4=gK r:=by rw[<-g,vW]
  have Y:(gK r++dJ r i).drop 4=dJ r i:=by rw[<-g,vP]
  rw[W,Y]
  refine al h λZ w h=>?_
  rw[xv]at h
  refine bU h (λw h=>?_)
  refine dr h λw h=>?_
  refine bN (ls:=kr) (x:=((t:Int),B (gK r),B (dJ r i),decide (i+1≠kP r),())) h ?_
  refine ld (x:=B (dJ r i)) h ?_
  refine aR (eu (by rw[cJ];omega)) ?_
  refine ax (λK=>?_) (λK=>?_)
  .refine bU h (λw h=>?_)
   refine lk h ?_
   refine nr (ls:=kr) (x:=((t:Int),B (gK r),B (dJ r i),decide (i+1≠kP r),())) (y:=true) h ?_
   exact C _ (h.sub sS)
  .have z:i+1<kP r:=by
     have:=nF K
     have:i+1≠kP r:=lS this
     omega
   refine ld (x:=B (dJ r i)) h ?_
   refine bU h (λw h=>?_)
   refine lk h ?_
   refine lk h ?_
   have o:(((B (dJ r i)).size:Int)==100)=true:=by rw[cJ,abO z];rfl
   rw[o]
   refine nr (ls:=kr) (x:=((t:Int),B (gK r),B (dJ r i),decide (i+1≠kP r),())) (y:=true) h ?_
   exact C _ (h.sub sS)
 .by_cases e:i+1=kP r
  .rw[ak e]at f
   subst f
   rw[YA]
   refine aR rfl ?_
   refine FM (c:=0) h om om om λw h=>?_
   refine xR h λw h=>?_
   rw[B6]
   refine I _ _ ⟨?_,_,h.sub sS⟩
   rw[eM om]
  .rw[ai e]at f
   subst f
   rw[B6]
   refine ar rfl ?_
   refine I _ _ ⟨?_,_,h.sub sS⟩
   rw[eu e]
theorem La {s:Nat} {T b:Int} {k:Int×Int×Unit->Pr} (h:ab E w (aj d X::cq l d T b u rs bl::L)) (hs:s<2) (g:X.view s=yF x) (i:X.Wf) (v:x.1<=1099511627776) (j:x.2<=x.1)
  (a:∀f,ab E f (aj d X::cq l d T b u rs bl::L)->k ((x.1:Int),(x.2:Int),()) f):CL 246 #[.pointer (some ⟨l,0,none⟩),iv (s:Int)] (.aG [.leaf (.int .i64),.leaf (.int .i64)]) k w:=by
 have m:w6 (0+(s:Int))=((s:Nat):Int):=by rw[bQ om];omega
 refine aex ?_
 refine dr h λw h=>?_
 refine aq ?_
 refine ld h ?_
 refine aq ?_
 refine ld h ?_
 rw[m]
 refine Cf (h.pick (A:=aj d X) pK) om λw h=>?_
 refine lk h ?_
 refine FT h (i.view _ om) λw h=>?_
 rw[g]
 unfold yF
 by_cases c:x.1=0
 .rw[ak c,Q3]
  refine xR (s:=[]) (hd:=[83]) h λw h=>?_
  have e:oQ [] [83]=([],false):=dE
  rw[e]
  refine tg h λo w h=>?_
  refine K1 (pos:=0) h (cV _) λw h=>?_
  refine Uv h dE λw h=>?_
  refine aL ?_
  refine aR rfl ?_
  refine ao λ_=>?_
  refine aL ?_
  refine aR rfl ?_
  refine ao λ_=>?_
  refine aL ?_
  refine aR rfl ?_
  refine ao λ_=>?_
  refine aL ?_
  refine aR rfl ?_
  refine ao λ_=>?_
  refine aR rfl ?_
  have p:x.2=0:=om
  rw[c,p]at a
  exact a _ (h.sub sS)
 .have y:=cD (n:=x.1) om
  have z:=cD (n:=x.2) om
  rw[ai c]
  unfold jV
  rw[Q2 (by rw[db,aU];omega)]
  simp only[vX]
  refine xR (hd:=[83]) h λw h=>?_
  have e:oQ (83::(aH x.1++aH x.2)) [83]=(aH x.1++aH x.2,true):=B6 [83] _
  rw[e]
  simp only
  have r:(aH x.1++aH x.2).length<=20:=by rw[aU];omega
  have d0:(aH x.1++aH x.2).drop 0=aH x.1++aH x.2:=by rw[mi]
  have t:(aH x.1++aH x.2).drop (0+(aH x.1).length)=aH x.2++[]:=by rw[iO];exact fj d0
  refine tg h λo w h=>?_
  refine nL (pos:=0) h om d0 om λw h=>?_
  refine nL h om t om λw h=>?_
  refine aL ?_
  refine ar rfl ?_
  refine pO h λw h=>?_
  refine ao λ_=>?_
  refine aL ?_
  refine ar rfl ?_
  refine Va h om (by rw[aU];omega) λw h=>?_
  refine ao λ_=>?_
  refine aL ?_
  refine ar (nW (by rw[aU];omega)) ?_
  refine ao λ_=>?_
  refine aL ?_
  refine ar (nW om) ?_
  refine ao λ_=>?_
  refine ar (nW om) ?_
  rw[bQ om,bQ om]
  exact a _ (h.sub sS)
end
abbrev dA (rs:Sl) (ca:List bc):aK:=OS 204 eL rs (ca.map iY)
theorem abP (b:0<i) (h:i<kP r):dJ r i≠[]:=by
 intro e
 have a:=gU List.length e
 unfold dJ at a
 rw[wX]at h
 rw[cn,fq]at a
 simp only[mO]at a
 omega
theorem aia (r:bc) (i:Nat):r.take (100*i)++dJ r i=r.take (100*(i+1)):=by
 unfold dJ
 rw[show 100*(i+1)=100*i+100 by omega,List.take_add]
theorem ah8 (h:i+1=kP r):r.take (100*(i+1))=r:=by
 rw[wX]at h
 exact iP om
section
variable {E w:World} {L:List aK} {F:bh}
theorem UQ {g:Nat->bc} {k:Unit->Pr} (h:ab E w (aj d X::cq l d T b 0 au bl::dA au []::L)) (hw:X.Wf) (hT:T<=1000000)
  (C:Idle X.view T b P pl g\/∃t c,kz X.view T b P pl g t c)
  (hk:∀(N:Nat) (D:Sl) (O:List bc) K,((N=0/\D=au/\O=[]/\Idle X.view T b P pl g)\/∃t c,kz X.view T b P pl g t c/\N=kP (g t)/\O=[g t]/\kP (g t)<=118)->ab E K (aj d X::cq l d T b N D bl::dA D O::L)->k () K):
  CL 247 #[.pointer (some ⟨l,0,none⟩)] (.aG []) k w:=by
 have G:uL X.view pl g:=by rcases C with n|⟨t,c,n⟩<;>exact n.log
 have hle:∀i t,pl i=some t->t<=T:=by
  rcases C with n|⟨t,c,n⟩
  .exact n.le
  .exact λi u hi=>qw (n.le i u hi) n.tT
 have M:∀K,ab E K (aj d X::cq l d T b 0 au bl::dA au []::L)->(¬∃t c,kz X.view T b P pl g t c)->k () K:=λK h lG=>by
  refine hk 0 au [] K (.inl ⟨rfl,rfl,rfl,?_⟩) h
  rcases C with n|n
  .exact n
  .exact(lG n).elim
 refine aey ?_
 refine dr h λw h=>?_
 refine aq ?_
 refine ld (x:=(b:Int)) h ?_
 refine lk h ?_
 refine lk h ?_
 refine lk h ?_
 refine uD (S:=ByteArray×ByteArray×Int×Int×Int) (λs w=>
   (∃i:Nat,s.2.2.2.2=(i:Int)/\i<=118/\s.2.2.1=0/\((i=0/\s.1=B []/\s.2.2.2.1=(b:Int))\/∃u:Nat,b<=u/\(∀j,j<i->pl j=some u)/\0<i/\i<kP (g u)/\s.1=B ((g u).take (100*i))/\s.2.1=B (gK (g u))/\s.2.2.2.1=(u:Int))/\ab E w (aj d X::cq l d T b 0 au bl::dA au []::L))\/
   ∃t c D,kz X.view T b P pl g t c/\kP (g t)<=118/\s.2.2.2.2=((kP (g t):Nat):Int)/\s.2.2.1=((kP (g t):Nat):Int)/\s.2.2.2.1=(t:Int)/\ab E w (aj d X::cq l d T b (kP (g t):Nat) D bl::dA D [g t]::L))
  (λs _=>(119-s.2.2.2.2).toNat) (.inl ⟨0,rfl,om,rfl,.inl ⟨rfl,rfl,rfl⟩,h⟩) ?_
 rintro next ⟨x,want,from_,Y,_⟩ w (⟨i,rfl,hi,rfl,Q,h⟩|⟨t,c,D,o,hP,rfl,rfl,rfl,h⟩) R
 .simp only at Q
  refine ao λ_=>?_
  refine aq ?_
  refine ld h ?_
  have r:∀t c,kz X.view T b P pl g t c->pl i=some t:=λt c o=>by
   rcases Q with⟨V,_,_⟩|⟨u,_,f,V,Z,_⟩
   .rw[V];exact o.all 0 (sd _)
   .have:=f 0 V
    rw[o.all 0 (sd _)]at this
    cases this
    exact o.all i Z
  refine ax (λhc=>?_) (λhc=>?_)
  .have H:i<118:=by have h1:(i:Int)<118:=cT hc;omega
   refine br (λs w=>
    (∃u:Nat,b<=u/\(∀j,j<i+1->pl j=some u)/\i+1<kP (g u)/\s.1=B ((g u).take (100*(i+1)))/\s.2.1=B (gK (g u))/\s.2.2.1=0/\s.2.2.2=(u:Int)/\ab E w (aj d X::cq l d T b 0 au bl::dA au []::L))\/
    ∃t c D,kz X.view T b P pl g t c/\kP (g t)=i+1/\s.2.2.1=((kP (g t):Nat):Int)/\s.2.2.2=(t:Int)/\ab E w (aj d X::cq l d T b (kP (g t):Nat) D bl::dA D [g t]::L)) (λs w hs=>?_) λJ hJ=>?_
   .obtain⟨s1,s2,s3,s4⟩:=s
    refine ao λ_=>?_
    have ew:w6 ((i:Int)+1)=((i+1:Nat):Int):=by rw[bQ om];omega
    rcases hs with⟨u,q1,q2,q3,q4,q5,q6,q7,h⟩|⟨t,c,D,o,q1,q2,q3,h⟩
    .simp only at q4 q5 q6 q7
     subst q4 q5 q6 q7
     refine R _ _ (.inl ⟨i+1,ew,om,rfl,.inr ⟨u,q1,q2,om,q3,rfl,rfl,rfl⟩,h⟩) ?_
     simp only[ew];omega
    .simp only at q2 q3
     subst q2 q3
     refine R _ _ (.inr ⟨t,c,D,o,om,by rw[q1];exact ew,rfl,rfl,h⟩) ?_
     simp only[ew];omega
   .cases m:pl i with
    |none=>
     refine Lt h H (G.z i H m) λp w h=>?_
     refine al h λt7 w h=>?_
     rw[xv]at h
     obtain⟨p1,p2,p3,p4,⟨⟩⟩:=p
     refine bU h (λw h=>?_)
     refine aL ?_
     refine aR rfl ?_
     refine ao λ_=>?_
     refine aR rfl ?_
     refine M _ (h.sub sS) λ⟨t,c,o⟩=>?_
     rw[r t c o]at m;cases m
    |some u=>
     obtain⟨_,W,Hm⟩:=G.p i u m
     have Z1:=hle i u m
     refine Lr h H Hm hw om W λw h=>?_
     refine al h λt7 w h=>?_
     rw[xv]at h
     refine bU h (λw h=>?_)
     have I:∀{K:World},ab E K (lc t7 327 [iv (u:Int),.string (B (gK (g u))),.string (B (dJ (g u) i)),.bool (decide (i+1≠kP (g u)))]::aj d X::cq l d T b 0 au bl::dA au []::L)->ab E K (aj d X::cq l d T b 0 au bl::dA au []::L):=λh=>h.drop
     refine br (λs w=>s=decide ((u:Int)<Y)/\ab E w (lc t7 327 [iv (u:Int),.string (B (gK (g u))),.string (B (dJ (g u) i)),.bool (decide (i+1≠kP (g u)))]::aj d X::cq l d T b 0 au bl::dA au []::L)) (λs w hs=>?_) λJ2 lE=>?_
     rotate_left
     .refine ar rfl ?_
      refine ld (x:=(u:Int)) h ?_
      refine ax (λhd=>?_) (λhd=>?_)
      .exact lE _ _ ⟨rfl,h.sub sS⟩
      .refine dr h λw h=>?_
       refine ld (x:=(u:Int)) h ?_
       refine aq ?_
       refine ld (x:=(T:Int)) h ?_
       refine lk h ?_
       refine lk h ?_
       refine lE _ _ ⟨?_,h.sub sS⟩
       rw[nW om]
       exact hd.symm
     obtain⟨rfl,h⟩:=hs
     refine ao λ_=>?_
     refine ax (λhd=>?_) (λhd=>?_)
     .have Z:(u:Int)<Y:=lS hd
      refine M _ (I h) λ⟨t,c,o⟩=>?_
      have:=r t c o
      rw[m]at this
      cases this
      rcases Q with⟨_,_,A⟩|⟨v,_,f,V,_,_,_,A⟩
      .have:=o.bt;omega
      .have:=f 0 V
       rw[o.all 0 (sd _)]at this
       cases this;omega
     have GR:¬(u:Int)<Y:=pB hd
     have N6:b<=u:=by
      rcases Q with⟨_,_,A⟩|⟨v,hv,f,V,_,_,_,A⟩<;>omega
     refine br (λs w=>(s=true->¬∃t c,kz X.view T b P pl g t c)/\(s=false->x=B ((g u).take (100*i))/\∀j,j<i+1->pl j=some u)/\ab E w (lc t7 327 [iv (u:Int),.string (B (gK (g u))),.string (B (dJ (g u) i)),.bool (decide (i+1≠kP (g u)))]::aj d X::cq l d T b 0 au bl::dA au []::L)) (λs w hs=>?_) λJ3 yl=>?_
     .obtain⟨Al,ZE,h⟩:=hs
      refine ao λ_=>?_
      refine ax (λhe=>?_) (λhe=>?_)
      .exact M _ (I h) (Al he)
      obtain⟨hx,f⟩:=ZE he
      subst hx
      refine dr h λw h=>?_
      refine ld (x:=B (dJ (g u) i)) h ?_
      refine cc (by rw[cn];have:=HP (g u) i;omega) ?_
      rw[aia]
      refine ld (x:=B (gK (g u))) h ?_
      refine ld (x:=(u:Int)) h ?_
      refine lk h ?_
      refine lk h ?_
      refine lk h ?_
      refine ld (x:=decide (i+1≠kP (g u))) h ?_
      refine ax (λhm=>?_) (λhm=>?_)
      .have mB:i+1≠kP (g u):=lS hm
       exact hJ _ _ (.inl ⟨u,N6,f,om,rfl,rfl,rfl,rfl,I h⟩)
      .have heq:i+1=kP (g u):=by
          have:=pB hm
          omega
       rw[ah8 heq]
       have hlen:(g u).length<=1000000:=by rw[wX]at heq;omega
       refine Lk h om λw h=>?_
       refine ar sI ?_
       have Yt:comp pl g u:=λj hj=>f j om
       have o:∃t c,kz X.view T b P pl g t c:=by
        rcases C with n|n
        .exact(n.no u N6 Yt).elim
        .exact n
       obtain⟨t,c,o⟩:=o
       have Z0:t=u:=by
        have:=r t c o
        rw[m]at this
        cases this;rfl
       subst Z0
       refine aq ?_
       refine ld (x:=au) h ?_
       refine bJ (ls:=eL) (y:=iY (g t)) h λtt w _ h=>?_
       refine eA (ls:=eL) (xs:=([]:List bc).map iY) h sI λD w h=>?_
       refine aq ?_
       refine st h λw h=>?_
       refine aq ?_
       refine st h λw h=>?_
       have ew:w6 ((i:Int)+1)=((kP (g t):Nat):Int):=by rw[bQ om];omega
       rw[ew]at h⊢
       refine hJ _ _ (.inr ⟨t,c,D,o,heq.symm,rfl,rfl,?_⟩)
       have h:ab E w (cq l d T b (kP (g t):Nat) D bl::OS 204 eL D (([]:List bc).map iY++[iY (g t)])::lc t7 327 [iv (t:Int),.string (B (gK (g t))),.string (B (dJ (g t) i)),.bool (decide (i+1≠kP (g t)))]::aj d X::L):=h.sub sS
       exact h.sub sS
     .rcases Q with⟨rfl,hx,A⟩|⟨v,hv,f,V,Z,hx,Hs,A⟩
      .refine ar rfl ?_
       refine yl _ _ ⟨λn=>(by cases n),λ_=>⟨by rw[hx];simp,λj hj=>?_⟩,h⟩
       have:j=0:=om
       rw[this];exact m
      .have XH:((i:Int)==0)=false:=by rw[Es];omega
       refine aR (by rw[XH];rfl) ?_
       subst A Hs hx
       by_cases N7:u=v
       .subst N7
        have mB:=abP V W
        refine ld (x:=(u:Int)) h ?_
        refine aL ?_
        refine ar sI ?_
        refine ld (x:=B (gK (g u))) h ?_
        refine ao λ_=>?_
        refine aL ?_
        refine ar sI ?_
        refine ld (x:=B (dJ (g u) i)) h ?_
        refine ao λ_=>?_
        have ep:((B (dJ (g u) i)).toList==(⟨#[]⟩:ByteArray).toList)=false:=by
         have e:(⟨#[]⟩:ByteArray)=B []:=rfl
         rw[e,iK]
         exact eM λn=>mB (pG.1 n)
        rw[ep]
        refine yl _ _ ⟨λn=>(by cases n),λ_=>⟨rfl,λj hj=>?_⟩,h⟩
        by_cases e:j=i
        .rw[e];exact m
        .exact f j om
       .have Ze:¬∃t c,kz X.view T b P pl g t c:=λ⟨t,c,o⟩=>by
          have h1:=r t c o
          have h2:=f 0 V
          rw[o.all 0 (sd _)]at h2
          rw[m]at h1
          cases h1;cases h2
          exact N7 rfl
        refine ld (x:=(u:Int)) h ?_
        refine aL ?_
        have Z4:(u:Int)≠(v:Int):=om
        refine aR (bne_iff_ne.2 Z4) ?_
        refine ao λ_=>?_
        refine aL ?_
        refine aR rfl ?_
        refine ao λ_=>?_
        exact yl _ _ ⟨λ_=>Ze,λn=>(by cases n),h⟩
  .have H:i=118:=by have h1:¬(i:Int)<118:=cF hc;omega
   refine M _ h λ⟨t,c,o⟩=>?_
   have:=r t c o
   have:=(G.p i t this).1
   omega
 .refine ao λ_=>?_
  refine aq ?_
  refine ld h ?_
  have U:∀K,ab E K (aj d X::cq l d T b (kP (g t):Nat) D bl::dA D [g t]::L)->k () K:=λK h=>hk _ _ _ _ (.inr ⟨t,c,o,rfl,rfl,hP⟩) h
  refine ax (λhc=>?_) (λhc=>?_)
  .have H:kP (g t)<118:=by have h1:((kP (g t):Nat):Int)<118:=cT hc;omega
   refine aL ?_
   cases m:pl (kP (g t))with
   |none=>
    refine Lt h H (G.z _ H m) λp w h=>?_
    refine al h λt7 w h=>?_
    rw[xv]at h
    obtain⟨p1,p2,p3,p4,⟨⟩⟩:=p
    refine bU h (λw h=>?_)
    refine aL ?_
    refine aR rfl ?_
    refine ao λ_=>?_
    refine aR rfl ?_
    exact U _ (h.sub sS)
   |some u=>
    obtain⟨_,W,Hm⟩:=G.p _ u m
    have Z1:=hle _ u m
    have hut:u<t:=by
     have:=o.le _ u m
     rcases kj u t with n|n
     .exact n
     .have:u=t:=om
      subst this;omega
    refine Lr h H Hm hw om W λw h=>?_
    refine al h λt7 w h=>?_
    rw[xv]at h
    refine bU h (λw h=>?_)
    refine aL ?_
    refine ar rfl ?_
    refine ld (x:=(u:Int)) h ?_
    refine aR (Dn (a:=(u:Int)) (b:=(t:Int)) om) ?_
    refine ao λ_=>?_
    refine aR (Dn (a:=(u:Int)) (b:=(t:Int)) om) ?_
    exact U _ (h.sub sS)
  .exact U _ h
end
def DX.step (X:DX):ju->DX
 |.w a x=>{X with c:=X.c++[(a,x)],lf:=w6 (X.lf-1)}
 |.fl=>X.fl
def DX.run:DX->List ju->Bool×DX
 |X,[]=>(true,X)
 |X,a::l=>if X.jN then(false,X)else(X.step a).run l
abbrev DX.to (X:DX) (l:List ju):DX:=(X.run l).2
abbrev DX.ok (X:DX) (l:List ju):Bool:=(X.run l).1
theorem tQ:∀(a b:List ju) (X:DX),X.run (a++b)=if X.ok a then(X.to a).run b else(false,X.to a)
 |[],b,X=>rfl
 |x::a,b,X=>by
  show(if X.jN then(false,X)else(X.step x).run (a++b))=_
  have e:X.run (x::a)=if X.jN then(false,X)else(X.step x).run a:=rfl
  unfold DX.ok DX.to
  rw[e]
  by_cases h:X.jN=true
  .rw[ak h,ak h];rfl
  .rw[ai h,ai h];exact tQ a b (X.step x)
theorem DV (X:DX) (a:ju):X.run [a]=if X.jN then(false,X)else(true,X.step a):=rfl
theorem AO:∀(l:List ju) (X:DX),∃j,j<=l.length/\((X.to l).S,(X.to l).c)=jU (X.S,X.c) (l.take j)/\(X.ok l=true->j=l.length)/\(X.ok l=false->j<l.length)
 |[],X=>⟨0,cV _,rfl,λ_=>rfl,λh=>by cases h⟩
 |a::l,X=>by
  have e:X.run (a::l)=if X.jN then(false,X)else(X.step a).run l:=rfl
  unfold DX.ok DX.to
  rw[e]
  by_cases h:X.jN=true
  .rw[ak h]
   exact⟨0,jt _,rfl,λb=>(by cases b),λ_=>by simp⟩
  .rw[ai h]
   obtain⟨j,d,f,g,i⟩:=AO l (X.step a)
   refine⟨j+1,by simpa using d,?_,λb=>by rw[db,g b],λb=>by have:=i b;simpa using this⟩
   rw[f,yV]
   show jU ((X.step a).S,(X.step a).c) (l.take j)=jU (vD (X.S,X.c) a) (l.take j)
   congr 1
   cases a<;>rfl
theorem DR:∀(l:List ju) (X:DX),(X.to l).fu=X.fu
 |[],X=>rfl
 |a::l,X=>by
  have e:X.run (a::l)=if X.jN then(false,X)else(X.step a).run l:=rfl
  unfold DX.to
  rw[e]
  by_cases h:X.jN=true
  .rw[ak h]
  .rw[ai h]
   refine(DR l (X.step a)).trans ?_
   cases a<;>rfl
theorem DQ:∀(l:List ju) (X:DX),X.fu=false->X.ok l=true
 |[],X,_=>rfl
 |a::l,X,h=>by
  have e:X.run (a::l)=if X.jN then(false,X)else(X.step a).run l:=rfl
  unfold DX.ok
  rw[e]
  have b:X.jN=false:=by unfold DX.jN;rw[h];rfl
  rw[ai (by rw[b];decide)]
  exact DQ l (X.step a) (by cases a<;>exact h)
theorem sE:∀(l:List ju) (X:DX),(X.to l).c.length<=X.c.length+l.length
 |[],X=>cV _
 |a::l,X=>by
  have e:X.run (a::l)=if X.jN then(false,X)else(X.step a).run l:=rfl
  unfold DX.to
  rw[e]
  by_cases h:X.jN=true
  .rw[ak h];simp only;omega
  .rw[ai h]
   have b:=sE l (X.step a)
   unfold DX.to at b
   have d:(X.step a).c.length<=X.c.length+1:=by
    cases a with
    |w a x=>show(X.c++[(a,x)]).length<=_;simp
    |fl=>show([]:List Wr).length<=_;simp
   rw[db]
   omega
section
variable {E w:World} {L:List aK} {F:bh}
theorem FK {s:bc} (h:ab E w (aj d X::L)) (ha:a<300) (hs:s.length<=128) (hn:X.c.length<1000000) (b:∀e,ab E e (aj d (X.to [.w a (gu s)])::L)->k (if X.ok [.w a (gu s)]then 0 else 6) e):
  CL 263 #[.pointer (some ⟨d,0,none⟩),iv (a:Int),.string (B s)] ah k w:=by
 refine UU h ha hs hn λw h=>?_
 unfold DX.to DX.ok at b
 rw[DV]at b
 by_cases f:X.jN=true
 .rw[ak f]at h b⊢
  exact b _ h
 .rw[ai f]at h b⊢
  exact b _ h
theorem FN (h:ab E w (aj d X::L)) (a:∀b,ab E b (aj d (X.to [.fl])::L)->k (if X.ok [.fl]then 0 else 6) b):CL 267 #[.pointer (some ⟨d,0,none⟩)] ah k w:=by
 refine UW h λw h=>?_
 unfold DX.to DX.ok at a
 rw[DV]at a
 by_cases c:X.jN=true
 .rw[ak c]at h a⊢
  exact a _ h
 .rw[ai c]at h a⊢
  exact a _ h
def eY (T b:Nat):List ju:=[.w ((T+1)%2) (jV (T+1) b),.fl]
theorem ahd (T b:Nat):jV T b=gu (qZ (83::(aH T++aH b))):=rfl
theorem Lc (h:ab E w (aj d X::cq l d T b u rs bl::L)) (r:T<=1000000) (t:b2<=1000001) (hn:X.c.length<1000000)
  (a:∀j,ab E j (aj d (X.to (eY T b2))::cq l d (if X.ok (eY T b2)then T+1 else T:Nat) (if X.ok (eY T b2)then b2 else b:Nat) u rs bl::L)->k (if X.ok (eY T b2)then 0 else 6) j):
  CL 248 #[.pointer (some ⟨l,0,none⟩),iv (b2:Int)] ah k w:=by
 have o:w6 ((T:Int)+1)=((T+1:Nat):Int):=by rw[bQ om];omega
 have v:=cD (n:=T+1) om
 have y:=cD (n:=b2) om
 have p:w6 (0+Int.tmod ((T+1:Nat):Int) 2)=(((T+1)%2:Nat):Int):=by
  have:Int.tmod ((T+1:Nat):Int) 2=(((T+1)%2:Nat):Int):=rfl
  rw[this,bQ om];omega
 refine aez ?_
 refine aq ?_
 refine ld (x:=(T:Int)) h ?_
 refine dr h λw h=>?_
 refine aq ?_
 refine ld h ?_
 refine aq ?_
 refine ld h ?_
 rw[o]
 refine zH h om λw h=>?_
 refine lk h ?_
 refine lk h ?_
 have g:(⟨#[83]⟩:ByteArray)=B [83]:=rfl
 rw[g]
 refine cc (by simp;omega) ?_
 refine zH h om λw h=>?_
 refine lk h ?_
 refine lk h ?_
 refine cc (by simp;omega) ?_
 have i:[83]++aH (T+1)++aH b2=83::(aH (T+1)++aH b2):=sI
 rw[i]
 refine Lj h (by simp;omega) λw h=>?_
 refine lk h ?_
 refine lk h ?_
 rw[p]
 refine FK (h.pick (A:=aj d X) pK) om (by rw[Qj];simp;omega) hn λw h=>?_
 rw[<-ahd]at h⊢
 refine lk h ?_
 have f:X.run (eY T b2)=if X.ok [.w ((T+1)%2) (jV (T+1) b2)]then(X.to [.w ((T+1)%2) (jV (T+1) b2)]).run [.fl]else(false,X.to [.w ((T+1)%2) (jV (T+1) b2)]):=tQ [.w ((T+1)%2) (jV (T+1) b2)] [.fl] X
 unfold DX.to DX.ok at a
 rw[f]at a
 cases m:X.ok [.w ((T+1)%2) (jV (T+1) b2)]with
 |false=>
  rw[m]at a
  refine aR rfl ?_
  exact a _ h
 |true=>
  rw[m]at a
  simp only[gr]at a
  refine ar rfl ?_
  refine aq ?_
  refine ld h ?_
  refine FN h λw h=>?_
  cases e:(X.to [.w ((T+1)%2) (jV (T+1) b2)]).ok [.fl]with
  |false=>
   unfold DX.ok at e
   rw[e]at a
   refine aR rfl ?_
   exact a _ h
  |true=>
   unfold DX.ok at e
   rw[e]at a
   refine ar rfl ?_
   refine aq ?_
   refine st h λw h=>?_
   refine aq ?_
   refine st h λw h=>?_
   exact a _ (h.sub sS)
theorem FJ {T b:Int} (h:ab E w (cq l d T b u rs bl::L)) (c:∀e,ab E e (cq l d T b u rs bl::L)->k (if bl then 6 else 0) e):CL 260 #[.pointer (some ⟨l,0,none⟩)] ah k w:=by
 refine aeM ?_
 refine dw (x:=false) kK ?_
 refine aL ?_
 refine ar rfl ?_
 refine aq ?_
 refine ld h ?_
 refine dw (x:=false) kK ?_
 refine ao λ_=>?_
 refine ar rfl ?_
 refine aq ?_
 refine ld (x:=bl) h ?_
 refine ax (λa=>?_) (λa=>?_)
 .subst a;exact c _ h
 .subst a;exact c _ h
theorem Ci {T b:Int} (h:ab E w (cq l d T b u rs bl::L)) (c:∀f,ab E f (cq l d T b u rs (bl||decide (e≠0))::L)->k e f):CL 262 #[.pointer (some ⟨l,0,none⟩),iv e] ah k w:=by
 refine aeO ?_
 refine aq ?_
 refine ld (x:=bl) h ?_
 refine aL ?_
 refine ax (λa=>?_) (λa=>?_)
 .subst a
  refine ao λ_=>?_
  refine aq ?_
  refine st h λw h=>?_
  exact c _ (h.sub sS)
 .subst a
  refine ao λ_=>?_
  refine aq ?_
  refine st h λw h=>?_
  refine c _ ?_
  have g:(false||decide (e≠0))=(e !=0):=by
   rw[Jg,gb,vR,bne_iff_ne]
  rw[g]
  exact h.sub sS
theorem Ut {T b:Int} (h:ab E w (aj d X::cq l d T b u rs false::L)) (c:∀a,ab E a (aj d (X.to [.fl])::cq l d T b u rs (!X.ok [.fl])::L)->k (if X.ok [.fl]then 0 else 6) a):CL 209 #[.pointer (some ⟨l,0,none⟩)] ah k w:=by
 refine adW ?_
 refine FJ (h.pick (A:=cq l d T b u rs false) pK) λw h=>?_
 refine ar rfl ?_
 refine aq ?_
 refine ld h ?_
 refine FN (h.pick (A:=aj d X) pK) λw h=>?_
 refine Ci (h.pick (A:=cq l d T b u rs false) pK) λw h=>?_
 have e:(false||decide ((if X.ok [.fl]then(0:Int)else 6)≠0))=!X.ok [.fl]:=by cases X.ok [.fl]<;>rfl
 rw[e]at h
 exact c _ (h.sub sS)
theorem UX (h:ab E w (aj d X::cq l d T b u rs false::dA rs ca::L)) (g:T<=1000000) (hn:X.c.length<1000000)
  (a:∀e,(if X.ok (eY T (T+1))then ab E e (aj d (X.to (eY T (T+1)))::cq l d (T+1:Nat) (T+1:Nat) 0 au false::dA au []::L)else ab E e (aj d (X.to (eY T (T+1)))::cq l d T b u rs true::dA rs ca::L))->k (if X.ok (eY T (T+1))then 0 else 6) e):
  CL 268 #[.pointer (some ⟨l,0,none⟩)] ah k w:=by
 refine aeU ?_
 refine FJ (h.pick (A:=cq l d T b u rs false) pK) λw h=>?_
 refine ar rfl ?_
 refine aq ?_
 refine ld (x:=(T:Int)) h ?_
 have i:w6 ((T:Int)+1)=((T+1:Nat):Int):=by rw[bQ om];omega
 rw[i]
 refine Lc (h.bF (A1:=aj d X) (A2:=cq l d T b u rs false) pK pK) g om hn λw h=>?_
 cases f:X.ok (eY T (T+1))with
 |false=>
  rw[f]at a h
  refine Ci (h.pick (A:=cq l d T b u rs false) pK) λw h=>?_
  refine aR rfl ?_
  exact a _ (h.sub sS)
 |true=>
  rw[f]at a h
  refine Ci (h.pick (A:=cq l d (T+1:Nat) (T+1:Nat) u rs false) pK) λw h=>?_
  refine ar rfl ?_
  refine aq ?_
  refine st h λw h=>?_
  refine aq ?_
  refine st h λw h=>?_
  exact a _ ((fm (T:=204) (ls:=eL) h).sub sS)
theorem Ld {T b:Int} {k:Sl->Pr} (h:ab E w (cq l d T b u rs bl::dA rs ca::L)) (hn:ca.length<=1000) (c:∀s a,ab E a (dA s ca::cq l d T b u rs bl::dA rs ca::L)->k s a):CL 249 #[.pointer (some ⟨l,0,none⟩)] aE k w:=by
 refine aeA ?_
 refine dw (x:=false) kK ?_
 refine ar rfl ?_
 refine aq ?_
 refine ld (x:=rs) h ?_
 have h:=fm (T:=204) (ls:=eL) h
 have e:=fR (h.pick (A:=dA rs ca) pK) dE
 rw[bW]at e
 refine ap (T:=204) (ls:=eL) (s:=au) (t:=rs) (xs:=[]) (ys:=ca.map iY) h (λw h=>(h.pick (A:=dA rs ca) pK).iJ) (by simp;omega) λf w h=>?_
 exact c _ _ (h.sub sS)
theorem KX {T b:Int} {k:Bool->Pr} (h:ab E w (cq l d T b 0 rs bl::L)) (p:r.length<=1000000000) (e:∀f,ab E f (cq l d T b 0 rs bl::L)->k (decide (kP r<=118)) f):CL 206 #[.pointer (some ⟨l,0,none⟩),iv (r.length:Int)] aw k w:=by
 have g:=wX r
 refine adT ?_
 refine dw (x:=false) kK ?_
 refine aL ?_
 refine ar rfl ?_
 refine aq ?_
 refine ld h ?_
 refine dw (x:=false) kK ?_
 refine ao λ_=>?_
 refine aL ?_
 refine ar rfl ?_
 refine ao λ_=>?_
 refine aL ?_
 refine ar (Aw (a:=(r.length:Int)) (b:=0) om) ?_
 refine ao λ_=>?_
 refine ax (λc=>?_) (λc=>?_)
 .have i:(r.length:Int)>100000:=lS c
  refine fin (e _ h) ?_
  exact(eM om).symm
 .have i:¬(r.length:Int)>100000:=pB c
  refine dr h λw h=>?_
  refine aq ?_
  refine ld h ?_
  refine aq ?_
  refine ld h ?_
  refine fin (e _ h) ?_
  have j:w6 (w6 ((r.length:Int)+100)-1)=((r.length+99:Nat):Int):=by rw[bQ (n:=(r.length:Int)+100) om,bQ om];omega
  have m:Int.tdiv ((r.length+99:Nat):Int) 100=(((r.length+99)/100:Nat):Int):=rfl
  rw[j,m,bQ (n:=(((r.length+99)/100:Nat):Int)) om]
  have o:w6 (118-0)=118:=dE
  rw[o]
  rw[gb,vR,vR]
  split<;>omega
end
theorem abV (T:Nat) (r:bc) (i:Nat):sC T r i=gu (qZ (lF T i (if i+1=kP r then 0 else 1)++(gK r++dJ r i))):=rfl
theorem E5 (T:Nat) (r:bc):(fi T r).length=kP r:=by unfold fi;simp
theorem SF (T:Nat) (r:bc) (i:Nat) (h:i<kP r):(fi T r).take (i+1)=(fi T r).take i++[(2+i,sC T r i)]:=by
 rw[cR (by rw[E5];exact h)]
 congr 2
 unfold fi
 rw[qB,RX]
theorem P7 {a b:List ju} (h:X.ok a=false):X.run (a++b)=(false,X.to a):=by rw[tQ,h];rfl
theorem yM {a b:List ju} (h:X.ok a=true):X.to (a++b)=(X.to a).to b/\X.ok (a++b)=(X.to a).ok b:=by
 have e:=tQ a b X
 rw[h]at e
 simp only[gr]at e
 exact⟨gU Prod.snd e,gU Prod.fst e⟩
section
variable {E w:World} {L:List aK} {F:bh}
theorem Us (h:ab E w (aj d X::cq l d T b 0 rs false::dA rs ca::L)) (hT:T<=1000000) (n:kP r<=118) (hn:X.c.length+118<1000000) (W:ca.length<=1000)
  (p:∀a G,(if X.ok (cN (fi T r))then ab E G (aj d (X.to (cN (fi T r)))::cq l d T b (kP r:Nat) a false::dA a (ca++[r])::L)else ab E G (aj d (X.to (cN (fi T r)))::cq l d T b 0 a true::dA a ca::L))->k (if X.ok (cN (fi T r))then 0 else 6) G):
  CL 208 #[.pointer (some ⟨l,0,none⟩),.string (B r)] ah k w:=by
 have Y:=wX r
 have P:=sd r
 have Z:r.length<=11800:=om
 refine adV ?_
 refine FJ (h.pick (A:=cq l d T b 0 rs false) pK) λw h=>?_
 refine ar rfl ?_
 rw[cJ]
 refine KX h om λw h=>?_
 refine ar (by rw[eu n];rfl) ?_
 refine UT h om λe w h=>?_
 have C:=fR h dE
 rw[bW,px]at C
 refine cy (S:=Int) (cf:=λs=>s) (kP r) (by rw[C]) (λi s w=>X.ok (cN ((fi T r).take i))=true/\ab E w (aj d (X.to (cN ((fi T r).take i)))::cq l d T b 0 rs false::OS 204 eL e ((List.range (kP r)).map λi=>iY (dJ r i))::dA rs ca::L)) rfl ⟨rfl,h.sub sS⟩ ?_ ?_
 .rintro next _ w i H rfl ⟨f,h⟩ o
  have u:=SF T r i H
  have pV:=HP r i
  have yq:=Qx r
  have Ac:=Nv (t:=T) (i:=i) (c:=if i+1=kP r then 0 else 1) om om (by split<;>omega)
  have v:i<((List.range (kP r)).map λi=>iY (dJ r i)).length:=by rw[bW,px];exact H
  refine eO (T:=204) (ls:=eL) (i:=i) h pK v (λa1 I=>?_) rfl
  refine kH (T:=204) (ls:=eL) (l:=.str) (j:=0) (x:=B (dJ r i)) h pK I v ?_ (hc:=by rw[qB,RX];rfl)
  have K:w6 ((e.len:Int)-1)=((kP r-1:Nat):Int):=by rw[C,bQ om];omega
  rw[K]
  refine br (λs w=>s=((if i+1=kP r then 0 else 1:Nat):Int)/\ab E w (aj d (X.to (cN ((fi T r).take i)))::cq l d T b 0 rs false::OS 204 eL e ((List.range (kP r)).map λi=>iY (dJ r i))::dA rs ca::L)) (λs w hs=>?_) λJ Q=>?_
  rotate_left
  .refine ax (λhc=>?_) (λhc=>?_)
   .have h1:(i:Int)=((kP r-1:Nat):Int):=ek hc
    exact Q _ _ ⟨by rw[ak om];rfl,h⟩
   .have h1:¬(i:Int)=((kP r-1:Nat):Int):=ei hc
    exact Q _ _ ⟨by rw[ai om];rfl,h⟩
  obtain⟨rfl,h⟩:=hs
  have hc1:(if i+1=kP r then 0 else 1)<=1:=by split<;>omega
  have g:=abV T r i
  generalize hcd:(if i+1=kP r then 0 else 1)=c at*
  refine ao λ_=>?_
  refine aq ?_
  refine ld h ?_
  refine dr h λw h=>?_
  refine aq ?_
  refine ld h ?_
  refine aq ?_
  refine ld h ?_
  refine aq ?_
  refine ld (x:=(T:Int)) h ?_
  have M:w6 (0+(i:Int))=(i:Int):=by rw[bQ om];omega
  have N:w6 (w6 (0+2)+(i:Int))=((2+i:Nat):Int):=IJ om
  rw[M,N]
  refine FM (c:=c) h om om om λw h=>?_
  refine lk h ?_
  refine lk h ?_
  refine Lk h om λw h=>?_
  refine lk h ?_
  refine lk h ?_
  refine cc om ?_
  refine cc (by rw[aU];omega) ?_
  rw[cP]
  refine Lj h (by rw[aU,aU];omega) λw h=>?_
  refine lk h ?_
  refine lk h ?_
  have O:=sE (cN ((fi T r).take i)) X
  rw[sM,cn]at O
  refine FK (h.pick (A:=aj d _) pK) om (by rw[Qj,aU,aU];omega) om λw h=>?_
  rw[<-g]at h⊢
  refine lk h ?_
  have m:cN ((fi T r).take (i+1))=cN ((fi T r).take i)++[.w (2+i) (sC T r i)]:=by rw[u];unfold cN;rw[fe];rfl
  obtain⟨R,U⟩:=yM (b:=[.w (2+i) (sC T r i)]) f
  rw[<-m]at R U
  rw[<-R]at h
  rw[<-U]
  refine Ci (h.pick (A:=cq l d T b 0 rs false) pK) λw h=>?_
  refine lk h ?_
  cases D:X.ok (cN ((fi T r).take (i+1)))with
  |true=>
   rw[D]at h
   refine ar rfl ?_
   exact o _ _ (bV H om) ⟨D,h.sub sS⟩
  |false=>
   rw[D]at h
   refine aR rfl ?_
   have z:cN (fi T r)=cN ((fi T r).take (i+1))++cN ((fi T r).drop (i+1)):=by unfold cN;rw[<-fe,oq]
   have V:=P7 (b:=cN ((fi T r).drop (i+1))) D
   rw[<-z]at V
   unfold DX.to DX.ok at p
   rw[V]at p
   exact p rs _ (h.sub sS)
 .rintro _ w ⟨f,h⟩
  rw[iP (by rw[E5];exact cV _)]at f h
  rw[f]at p
  refine aq ?_
  refine ld (x:=rs) h ?_
  refine bJ (ls:=eL) (y:=iY r) h λt w _ h=>?_
  refine eA (ls:=eL) (xs:=ca.map iY) h (by rw[bW];omega) λa w h=>?_
  refine aq ?_
  refine st h λw h=>?_
  refine aq ?_
  refine ld h ?_
  refine aq ?_
  refine st h λw h=>?_
  have M:w6 (0+(e.len:Int))=((kP r:Nat):Int):=by rw[C,bQ om];omega
  rw[M]at h
  refine p a _ ?_
  have N:(ca++[r]).map iY=ca.map iY++[iY r]:=by rw[fe];rfl
  show ab E w (_::_::OS 204 eL a ((ca++[r]).map iY)::L)
  rw[N]
  exact h.sub sS
theorem Un {k:Option Addr×Int×Unit->Pr} (h:ab E w (aj d X::L)) (r:X.Wf) (H:eU X.S X.c T b P) (I:T<=1000000) (hn:X.c.length<1000000)
  (u:∀l pl g f,X.ok (eY T b)=true->Idle X.view T b P pl g->ab E f (aj d (X.to (eY T b))::cq l d (T+1:Nat) b 0 au false::dA au []::L)->k (some ⟨l,0,none⟩,0,()) f)
  (v:∀l o pl g t c f,X.ok (eY T b)=true->kz X.view T b P pl g t c->kP (g t)<=118->ab E f (aj d (X.to (eY T b))::cq l d (T+1:Nat) b (kP (g t):Nat) o false::dA o [g t]::L)->k (some ⟨l,0,none⟩,0,()) f)
  (z:∀f,X.ok (eY T b)=false->ab E f (aj d (X.to (eY T b))::L)->k (none,6,()) f):
  CL 197 #[.pointer (some ⟨d,0,none⟩),iv 0,iv 120] (.aG [.leaf .ptr,.leaf (.int .i64)]) k w:=by
 obtain⟨x,y,i⟩:=H.view
 have A:=i.le
 have e:=i.top
 have Q:fC X.S X.c=X.view:=rfl
 rw[Q]at i
 refine adK ?_
 refine xN h λw h=>?_
 refine aL ?_
 refine ar rfl ?_
 refine ao λ_=>?_
 refine aL ?_
 refine ar rfl ?_
 refine ao λ_=>?_
 refine aL ?_
 refine ar rfl ?_
 refine ao λ_=>?_
 refine aL ?_
 refine ar rfl ?_
 refine xN h λw h=>?_
 refine ao λ_=>?_
 refine aL ?_
 refine ar rfl ?_
 refine xN h λw h=>?_
 refine ao λ_=>?_
 refine ar rfl ?_
 refine bx h λl w h=>?_
 have j:w6 (120-2)=118:=dE
 rw[j]at h
 refine La (s:=0) (x:=x) (h.bF (A1:=aj d X) (A2:=cq l d 0 0 0 au false) pK pK) om i.s0 r om i.z0 λw h=>?_
 refine aq ?_
 refine st h λw h=>?_
 refine aq ?_
 refine st h λw h=>?_
 refine br (λ_ w=>ab E w (aj d X::cq l d T b 0 au false::L)) (λ_ w h=>?_) λJ K=>?_
 .refine ao λ_=>?_
  have h:=fm (T:=204) (ls:=eL) h
  have a:∃pl g,Idle X.view T b P pl g\/∃t c,kz X.view T b P pl g t c:=by
   rcases H.xe with⟨pl,g,C⟩|⟨pl,g,t,c,D⟩
   .exact⟨pl,g,.inl C⟩
   .exact⟨pl,g,.inr ⟨t,c,D⟩⟩
  obtain⟨pl,g,a⟩:=a
  refine UQ (pl:=pl) (g:=g) (P:=P) (h.sub (M:=aj d X::cq l d T b 0 au false::dA au []::L) sS) r I a λN o O w m h=>?_
  refine aq ?_
  refine ld (x:=(b:Int)) h ?_
  have U:b<=T:=A.2.2
  refine Lc h I om hn λw h=>?_
  cases p:X.ok (eY T b)with
  |false=>
   refine aR rfl ?_
   exact z _ p (h.sub sS)
  |true=>
   rw[p]at h
   refine ar rfl ?_
   rcases m with⟨rfl,rfl,rfl,C⟩|⟨t,c,D,rfl,rfl,n⟩
   .refine u l pl g _ p C ?_
    exact h
   .exact v l o pl g t c _ p D n h
 .refine La (s:=1) (x:=y) (h.bF (A1:=aj d X) (A2:=cq l d _ _ 0 au false) pK pK) om i.s1 r om i.z1 λw h=>?_
  refine aq ?_
  refine ld (x:=(x.1:Int)) h ?_
  refine ax (λG=>?_) (λG=>?_)
  .have R:(y.1:Int)>(x.1:Int):=lS G
   rw[ak om]at e
   refine aq ?_
   refine st h λw h=>?_
   refine aq ?_
   refine st h λw h=>?_
   rw[<-e]at h
   exact K _ _ (h.sub sS)
  .have R:¬(y.1:Int)>(x.1:Int):=pB G
   rw[ai om]at e
   rw[<-e]at h
   exact K _ _ (h.sub sS)
end
end Go.Proofs.YtelhccfmfnaegaaGreat
