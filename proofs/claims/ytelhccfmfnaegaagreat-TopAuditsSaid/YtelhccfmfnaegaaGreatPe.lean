/- Lemmas for topAudits_holds. No conditions. -/
import Derived.Test.YtelhccfmfnaegaaGreatPc
set_option linter.unusedSectionVars false
set_option linter.unusedVariables false
set_option linter.unusedSimpArgs false
set_option linter.defProp false
set_option maxRecDepth 10000
namespace Go.Proofs.YtelhccfmfnaegaaGreat
open Go Go.Sh
structure mq (S:di) (r:Row):Prop where
 ok:dk r
 wd:(jq S r).2=0
variable {A C:di} {k:ByteArray} {n:Nat} {tk:Int} {ts:List Int} {vs:List Vn} {S:di} {T:dO} {m:Nat} {td:Int} {nm:ByteArray} {m':Nat} {QJ:Int} {p:List Pc} {α:Type} {f:ByteArray->Option α} {N M i:Nat} {at_:Int} {q:Pc} {ps:List Pc} {s:Sp} {QL:Int} {B0:b9} {P:Pk} {hz:Int} {v:Vn} {out:List St} {kx:ByteArray}
theorem mq.ext {r:Row} (h:mq A r) (a:j5 A C=true):mq C r:=⟨h.ok,aiU a h.wd⟩
def uJ (S:di) (k:ByteArray):Prop:=∃r,k=B (keyOf r)/\dk r/\n8 r=true/\nZ S r=true
theorem uJ.ext (h:uJ A k) (a:j5 A C=true):uJ C k:=by
 obtain⟨r,b,c,d,e⟩:=h
 exact⟨r,b,c,d,aaB a e⟩
structure oJ (n:Nat) (tk:Int) (ts:List Int) (S:di) (vs:List Vn):Prop where
 r:gL vs=true
 l:qe vs<=tk
 o:wA vs<=200*n
 z:vs.length<=100*(n*(n+1))
 w:∀v∈vs,mq S v.2.2.2.2
 t:∀v∈vs,v.1∈ts/\(kc v=true\/v.2.1∈ts)
theorem oJ.ext (h:oJ n tk ts A vs) (a:j5 A C=true):oJ n tk ts C vs:=⟨h.r,h.l,h.o,h.z,λv b=>(h.w v b).ext a,h.t⟩
theorem aiQ (b:0<=tk):oJ n tk ts S []:=⟨rfl,b,jt _,jt _,λv a=>(by cases a),λv a=>(by cases a)⟩
def rK (a b:Int×di):Prop:=a.1<b.1/\j5 a.2 b.2=true
structure Sq (m:Nat) (td:Int) (nm:ByteArray) (ds:List (Int×di)):Prop where
 ne:ds≠[]
 ln:ds.length<=m
 df:∀d∈ds,dK d.2=true/\0<=d.1/\d.1<=td/\d.2.1=nm
 up:ds.Pairwise rK
structure kA (n m:Nat) (td tk:Int) (ts:List Int) (nm:ByteArray) (T:dO):Prop where
 ds:Sq m td nm T.defs
 ky:∀k vs,T.keys k=some vs->uJ (dv T) k/\vs≠[]/\oJ n tk ts (dv T) vs
 cv:kX T.keys (100*n)
 rw:∀k vs,T.keys k=some vs->∀v∈vs,∃d∈T.defs,d.1<=v.1/\mq d.2 v.2.2.2.2
theorem Dk (h:T.defs≠[]):mG T∈T.defs/\T.defs=T.defs.dropLast++[mG T]:=by
 unfold mG
 rw[y6 h]
 exact⟨List.getLast_mem h,(Bx h).symm⟩
theorem rK.trans (a b c:Int×di) (d:rK a b) (e:rK b c):rK a c:=⟨by have:=d.1;have:=e.1;omega,MN d.2 e.2⟩
theorem kA.right (h:kA n m td tk ts nm T):dK (dv T)=true/\(dv T).1=nm/\(mG T).1<=td:=by
 have:=h.ds.df _ (Dk h.ds.ne).1
 exact⟨this.1,this.2.2.2,this.2.2.1⟩
theorem kA.mono (h:kA n m td tk ts nm T) (hm:m<=m') (b:td<=QJ):kA n m' QJ tk ts nm T:=
 ⟨⟨h.ds.ne,by have:=h.ds.ln;omega,λd a=>by have:=h.ds.df d a;exact⟨this.1,this.2.1,om,this.2.2.2⟩,h.ds.up⟩,h.ky,h.cv,h.rw⟩
theorem aax {C:jc} (m:dK S=true) (a:gg C=true) (g:C.1≠3) (b:oy C) (h:(gR S C).2=0):uJ S (B (gR S C).1)/\(C.1=1->mq S C.2.2.1):=by
 unfold gg at a
 rw[ai g]at a
 split at a
 .rename_i i
  simp only[bp]at a
  obtain⟨_,c,_⟩:=a
  unfold lC at c
  simp only[bp,bX]at c
  unfold gR at h⊢
  by_cases d:C.1=2
  .rw[ak d]at h⊢
   by_cases f:nZ S C.2.2.1=true
   .rw[ak f]
    refine⟨⟨_,rfl,b.row,?_,f⟩,λn=>by omega⟩
    unfold n8
    rw[bp,bX]
    refine⟨c.1,?_⟩
    have:=c.2.2
    rw[ak d]at this
    omega
   .rw[ai f]at h;cases h
  .rw[ai d]at h⊢
   have h:im S C.2.2.1=0:=h
   obtain⟨j,k⟩:=ab9 h
   refine⟨⟨_,rfl,?_,k,j⟩,λ_=>⟨b.row,MS h⟩⟩
   have e:mY S C.2.2.1=C.2.2.1.take S.2.2.toNat:=by unfold mY;rw[ak h]
   rw[e]
   exact⟨by rw[cn];have:=b.row.len;omega,λv l=>b.row.wv v (mj l)⟩
 .cases a
structure wa (m:Nat) (S:di) (p:List Pc):Prop where
 r:eG 0 p=true
 l:p.length<=m
 w:∀q∈p,mq S q.2.2
theorem wa.ext (h:wa m A p) (hm:m<=m') (a:j5 A C=true):wa m' C p:=⟨h.r,by have:=h.l;omega,λq b=>(h.w q b).ext a⟩
structure rN (n i:Nat) (td tk:Int) (ts:List Int) (st:m9):Prop where
 tb:∀y T,st.1 y=some T->kA n (100*n+i) td tk ts y T
 cv:kX st.1 (100*n+i)
 nw:∀y p,st.2 y=some p->∃T,st.1 y.1=some T/\wa (200*n+2*i) (dv T) p/\uJ (dv T) y.2
 nc:∃ks:List (ByteArray×ByteArray),ks.length<=i/\∀y p,st.2 y=some p->y∈ks
theorem kX.set (h:kX f N) (x:ByteArray) (v:Option α):kX (eH f x v) (N+1):=by
 obtain⟨b,d,c⟩:=h
 refine⟨x::b,by rw[db];omega,λy u a=>?_⟩
 unfold eH at a
 split at a
 .rename_i e;rw[e];exact eo
 .exact dH _ (c y u a)
theorem kX.mono (h:kX f N) (c:N<=M):kX f M:=by
 obtain⟨a,d,b⟩:=h
 exact⟨a,om,b⟩
theorem aaN {st:m9} (h:rN n i td tk ts st) (H:dK S=true) (ha:td<=at_) (Q:tk<at_) (I:0<=at_) (x:(lI st.1 at_ S).1=0):rN n (i+1) at_ tk ts ((lI st.1 at_ S).2,st.2):=by
 have F:∃T,(lI st.1 at_ S).2=eH st.1 S.1 (some T)/\dv T=S/\kA n (100*n+(i+1)) at_ tk ts S.1 T/\∀f,st.1 S.1=some f->j5 (dv f) S=true:=by
  unfold lI at x⊢
  cases J:st.1 S.1 with
  |none=>
   refine⟨⟨[(at_,S)],λ_=>none⟩,rfl,rfl,⟨⟨sI,by simp;omega,λd c=>?_,sI⟩,λk o m=>(by cases m),⟨[],sI,λy v C=>(by cases C)⟩,λk o m=>(by cases m)⟩,λf e=>(by cases e)⟩
   rw[fE]at c
   subst c
   exact⟨H,I,mP _,rfl⟩
  |some f=>
   rw[J]at x
   simp only at x⊢
   by_cases g:j5 (dv f) S=true
   .rw[ak g]at x⊢
    have j:=h.tb _ _ J
    obtain⟨r1,r2,r3⟩:=j.right
    obtain⟨l1,K⟩:=Dk j.ds.ne
    have t:=j.ds.up
    refine⟨_,rfl,?_,⟨⟨?_,?_,?_,?_⟩,?_,j.cv,?_⟩,λT1 e=>by cases e;exact g⟩
    .split<;>exact gU Prod.snd (wZ _ _ _)
    .simp only;split<;>simp
    .have:=j.ds.ln
     simp only
     split
     .rw[aU,Sg,m8];omega
     .rw[aU,m8];omega
    .intro d c
     have c:d∈f.defs\/d=(at_,S):=by
      simp only at c
      split at c
      .rcases List.mem_append.1 c with c|c
       .exact .inl (xD _ c)
       .exact .inr (List.mem_singleton.1 c)
      .rcases List.mem_append.1 c with c|c
       .exact .inl c
       .exact .inr (List.mem_singleton.1 c)
     rcases c with c|rfl
     .have:=j.ds.df d c
      exact⟨this.1,this.2.1,om,this.2.2.2⟩
     .exact⟨H,I,mP _,rfl⟩
    .simp only
     have z:(f.defs.dropLast).Pairwise rK/\∀a∈f.defs.dropLast,rK a (mG f):=by
      rw[K]at t
      obtain⟨R,p2,V⟩:=List.pairwise_append.1 t
      exact⟨R,λa ha=>V a ha _ sI⟩
     split
     .rename_i e
      refine List.pairwise_append.2 ⟨z.1,sI,λa ha b M=>?_⟩
      rw[fE]at M
      subst M
      have:=z.2 a ha
      exact⟨by have:=this.1;rw[e]at this;exact this,MN this.2 g⟩
     .rename_i e
      refine(PC rK.trans t).2 λu W=>?_
      have:u=mG f:=by unfold mG;rw[W];rfl
      subst this
      exact⟨om,g⟩
    .intro k o m
     obtain⟨X,Y,Z⟩:=j.ky k o m
     have e:dv (⟨if(mG f).1=at_ then f.defs.dropLast++[(at_,S)]else f.defs++[(at_,S)],f.keys⟩:dO)=S:=by
      split<;>exact gU Prod.snd (wZ _ _ _)
     rw[e]
     exact⟨X.ext g,Y,Z.ext g⟩
    .intro k o m v C
     obtain⟨d,c,N,d2⟩:=j.rw k o m v C
     have Ao:v.1<=tk:=(((Au (j.ky k o m).2.2.r).1 (j.ky k o m).2.2.l).2 v C).1
     refine⟨d,?_,N,d2⟩
     simp only
     split
     .rename_i e
      rw[K]at c
      rcases List.mem_append.1 c with c|c
      .exact uz _ c
      .rw[fE]at c
       rw[c,e]at N
       omega
     .exact uz _ c
   .rw[ai g]at x;cases x
 obtain⟨T,e1,O,hT,g⟩:=F
 rw[e1]
 refine⟨λy U A=>?_,(h.cv.set _ _).mono om,λy p hp=>?_,?_⟩
 .unfold eH at A
  simp only at A
  split at A
  .rename_i e;cases A;rw[e];exact hT
  .exact(h.tb y U A).mono om ha
 .obtain⟨U,G,D,P⟩:=h.nw y p hp
  by_cases e:y.1=S.1
  .refine⟨T,by unfold eH;simp only;rw[ak e],?_,?_⟩
   .rw[O];exact D.ext om (g U (e▸G))
   .rw[O];exact P.ext (g U (e▸G))
  .exact⟨U,by unfold eH;simp only;rw[ai e];exact G,⟨D.r,by have:=D.l;omega,D.w⟩,P⟩
 .obtain⟨ks,k1,k2⟩:=h.nc
  exact⟨ks,om,k2⟩
theorem B3 {l:List Vn} {t:Int} (h:q∈cK l t):∃v∈l,v.2.2=q:=by
 by_cases a:gL l=true
 .obtain⟨v,b,_,e⟩:=(zv a).1 h
  exact⟨v,b,e⟩
 .unfold cK at h
  rw[ai a]at h;cases h
theorem Gk (h:∀q∈ps,mq S q.2.2):∀q∈gG ps s,mq S q.2.2:=λq a=>by
 obtain⟨p,b,e⟩:=Mx a
 rw[e];exact h p b
theorem ab8 {r:Row} (h:∀q∈ps,mq S q.2.2) (hr:mq S r):∀q∈ma ps s r,mq S q.2.2:=λq a=>by
 unfold ma at a
 split at a
 .rcases List.mem_append.1 a with a|a
  .exact Gk h q (mj a)
  .rcases List.mem_cons.1 a with rfl|a
   .exact hr
   .exact Gk h q (Jc a)
 .exact h q a
theorem abc {st:m9} (h:rN n i td tk ts st) (d:st.1 nm=some T):wa (200*n+2*i) (dv T) (lM st T (nm,k)):=by
 unfold lM
 cases e:st.2 (nm,k)with
 |some p=>
  obtain⟨U,a,f,_⟩:=h.nw _ _ e
  simp only at a
  rw[d]at a
  cases a
  exact f
 |none=>
  simp only[Si]
  have j:=h.tb _ _ d
  cases l:T.keys k with
  |none=>exact⟨zu _ _,by simp only[Si];exact jt _,λq b=>(by
    obtain⟨v,c,_⟩:=B3 b
    cases c)⟩
  |some m=>
   obtain⟨_,_,g⟩:=j.ky k m l
   simp only[vX]
   refine⟨zu _ _,?_,λq b=>?_⟩
   .rw[JT g.r];have:=g.o;omega
   .obtain⟨v,c,rfl⟩:=B3 b
    exact g.w v c
theorem V2 {st:m9} {C:jc} (h:rN n i td tk ts st) (ha:td<=at_) (m:tk<at_) (z:0<=at_) (o:gg C=true) (A:oy C) (a:(dY at_ st C).1=0):rN n (i+1) at_ tk ts (dY at_ st C).2:=by
 unfold dY at a⊢
 by_cases f:C.1=3
 .rw[ak f]at a⊢
  rw[x7 f,bp]at o
  exact aaN h o.1 ha m z a
 rw[ai f]at a⊢
 cases c:st.1 C.2.1 with
 |none=>rw[c]at a;cases a
 |some T=>
  rw[c]at a
  simp only at a⊢
  by_cases g:(gR (dv T) C).2≠0
  .rw[ak g]at a
   exact absurd a g
  rw[ai g]at a⊢
  have t:(gR (dv T) C).2=0:=Classical.not_not.1 g
  have D:=h.tb _ _ c
  obtain⟨F,R,S⟩:=D.right
  obtain⟨G,H⟩:=aax F o f A t
  have d:=abc (k:=B (gR (dv T) C).1) h c
  generalize I:lM st T (C.2.1,B (gR (dv T) C).1)=j at*
  have J:wa (200*n+2*(i+1)) (dv T) (if C.1=1 then ma j (C.2.2.2.1,C.2.2.2.2.1,()) C.2.2.1 else gG j (C.2.2.2.1,C.2.2.2.2.1,())):=by
   have V:=d.l
   by_cases u:C.1=1
   .rw[ak u]
    obtain⟨v,K⟩:=ab7 d.r
    exact⟨v,om,ab8 d.w (H u)⟩
   .rw[ai u]
    obtain⟨v,K,_⟩:=Mv d.r
    exact⟨v,om,Gk d.w⟩
  generalize (if C.1=1 then ma j (C.2.2.2.1,C.2.2.2.2.1,()) C.2.2.1 else gG j (C.2.2.2.1,C.2.2.2.2.1,()))=W at*
  refine⟨λy U M=>(h.tb y U M).mono om ha,h.cv.mono om,λy p b=>?_,?_⟩
  .unfold qm at b
   simp only at b
   split at b
   .rename_i e
    cases b
    rw[e]
    exact⟨T,c,J,G⟩
   .obtain⟨U,N,x,O⟩:=h.nw y p b
    exact⟨U,N,⟨x.r,by have:=x.l;omega,x.w⟩,O⟩
  .obtain⟨P,X,Q⟩:=h.nc
   refine⟨(C.2.1,B (gR (dv T) C).1)::P,by rw[db];omega,λy p b=>?_⟩
   unfold qm at b
   simp only at b
   split at b
   .rename_i e;rw[e];exact eo
   .exact dH _ (Q y p b)
theorem F8 {n:Nat} {tk at_:Int} {ts:List Int} (a:tk<at_) (j:0<=at_):∀(l:List jc) {i:Nat} {c:Int} {st:m9},rN n i c tk ts st->c<=at_->(∀C∈l,gg C=true/\oy C)->(dS at_ st l).1=0->rN n (i+l.length) at_ tk ts (dS at_ st l).2
 |[],i,c,st,h,f,_,_=>⟨λy U k=>(h.tb y U k).mono sI f,h.cv.mono sI,λy p m=>h.nw y p m,h.nc⟩
 |C::l,i,c,st,h,f,g,b=>by
  have e:dS at_ st (C::l)=if(dY at_ st C).1≠0 then dY at_ st C else dS at_ (dY at_ st C).2 l:=rfl
  rw[e]at b⊢
  by_cases d:(dY at_ st C).1≠0
  .rw[ak d]at b;exact absurd b d
  .rw[ai d]at b⊢
   have o:=V2 h f a j (g C eo).1 (g C eo).2 (Classical.not_not.1 d)
   have:=F8 a j l o (mP _) (λD r=>g D (dH _ r)) b
   rw[db,show i+(l.length+1)=i+1+l.length by omega]
   exact this
structure gE (n:Nat) (ts:List Int) (B0:b9):Prop where
 sq:0<=B0.seq/\B0.seq<=1099511627776
 tm:-1<=B0.time/\B0.time<1099511627776
 hr:0<=B0.aM/\B0.aM<=if B0.time>0 then B0.time else 0
 tb:∀y T,B0.aJ y=some T->kA n (100*n) B0.time B0.time ts y T
 cv:kX B0.aJ (100*n)
 tl:ts.length<=n
theorem S6:gE 0 [] eQ:=⟨by decide,by decide,by decide,λy T h=>(by cases h),⟨[],sI,λy v h=>(by cases h)⟩,sI⟩
theorem kA.time (h:kA n m td tk ts nm T) (f:tk<=QL):kA n m td QL ts nm T:=
 ⟨h.ds,λk d e=>by
   obtain⟨a,b,c⟩:=h.ky k d e
   exact⟨a,b,⟨c.r,by have:=c.l;omega,c.o,c.z,c.w,c.t⟩⟩,h.cv,h.rw⟩
theorem gE.wk (h:gE n ts B0):rN n 0 B0.time B0.time ts (B0.aJ,eD):=
 ⟨h.tb,h.cv,λy p a=>(by cases a),⟨[],sI,λy p a=>(by cases a)⟩⟩
theorem ag2 {l:List Vn} (f:oJ n tk ts S l) (g:wa (200*n+200) S p) (D:0<=at_) (F:tk<=at_):∀d,qi l at_ p=some d->d≠[]/\oJ (n+1) at_ (at_::ts) S d:=by
 intro d a
 unfold qi at a
 by_cases i:m6 l at_ p=true
 .rw[ak i]at a
  split at a
  .cases a
  .rename_i j
   cases a
   obtain⟨y,A,G,H,r⟩:=Qk i
   refine⟨λe=>j (by rw[e];rfl),⟨y,A,by have:=g.l;omega,?_,λv k=>?_,λv k=>?_⟩⟩
   .have I:=f.z
    have J:=g.l
    have e:100*((n+1)*(n+1+1))=100*(n*(n+1))+200*n+200:=by
     have:(n+1)*(n+1+1)=n*(n+1)+2*n+2:=by
      rw[km,Jn n (n+1) 1];omega
     omega
    omega
   .rcases r v k with⟨u,m,_,_,e⟩|⟨c,x,rfl⟩
    .rw[e];exact f.w u m
    .exact g.w c x
   .rcases r v k with⟨u,m,C,b,_⟩|⟨c,x,rfl⟩
    .have:=f.t u m
     refine⟨by rw[C];exact dH _ this.1,?_⟩
     rcases b with b|b
     .rw[b]
      rcases this.2 with o|o
      .left;unfold kc at o⊢;rw[b];exact o
      .exact .inr (dH _ o)
     .rw[b];exact .inr eo
    .exact⟨eo,.inl rfl⟩
 .rw[ai i]at a
  cases a
theorem SG (h:gE n ts B0) (Z:kt P) (F:(cb B0 P).1=0):gE (n+1) (P.2.1::ts) (cb B0 P).2/\(cb B0 P).2.seq=B0.seq+1/\(cb B0 P).2.seq=P.1/\(cb B0 P).2.aM=B0.aM/\(cb B0 P).2.time=P.2.1:=by
 unfold cb at F⊢
 by_cases f:kU B0.seq B0.time P≠0
 .rw[ak f]at F;exact absurd F f
 rw[ai f]at F⊢
 by_cases A:(dS P.2.1 (B0.aJ,eD) P.2.2).1≠0
 .rw[ak A]at F;exact absurd F A
 rw[ai A]at F⊢
 have f:kU B0.seq B0.time P=0:=Classical.not_not.1 f
 have A:(dS P.2.1 (B0.aJ,eD) P.2.2).1=0:=Classical.not_not.1 A
 unfold kU at f
 split at f
 .rename_i O
  split at f
  .cases f
  split at f
  .cases f
  split at f
  .cases f
  unfold gT at O
  simp only[bp,bX,pD]at O
  obtain⟨r1,⟨r2,r3⟩,r4,r5,r6⟩:=O
  have Da:=h.tm
  have Hk:=h.sq
  have J:=h.hr
  have H:=F8 om om P.2.2 h.wk om (λC Y=>⟨r1 C Y,Z.ok C Y⟩) A
  rw[qt]at H
  generalize (dS P.2.1 (B0.aJ,eD) P.2.2).2=st at*
  refine⟨⟨by simp only;omega,by simp only;omega,?_,λy T g=>?_,?_,by rw[db];have:=h.tl;omega⟩,by simp only;omega,rfl,rfl,rfl⟩
  .simp only
   refine⟨J.1,?_⟩
   have:=J.2
   split at this<;>split<;>omega
  .unfold mz at g
   simp only at g
   cases D:st.1 y with
   |none=>rw[D]at g;cases g
   |some U=>
    rw[D]at g
    simp only[rB,I7]at g
    subst g
    have i:=H.tb y U D
    refine⟨⟨i.ds.ne,by have:=i.ds.ln;simp only;omega,i.ds.df,i.ds.up⟩,λk I e=>?_,?_,λk I e v M=>?_⟩
    .simp only at e
     cases x:st.2 (y,k)with
     |none=>
      rw[x]at e
      obtain⟨a,b,c⟩:=i.ky k I e
      refine⟨a,b,⟨c.r,by have:=c.l;simp only;omega,by have:=c.o;omega,?_,c.w,λv M=>?_⟩⟩
      .have:=c.z
       have:n*(n+1)<=(n+1)*(n+1+1):=xA om om
       omega
      .obtain⟨t1,t2⟩:=c.t v M
       refine⟨dH _ t1,?_⟩
       rcases t2 with t2|t2
       .exact .inl t2
       .exact .inr (dH _ t2)
     |some p=>
      rw[x]at e
      simp only at e
      obtain⟨V,G,K,Q⟩:=H.nw _ _ x
      simp only at G Q
      rw[D]at G
      cases G
      have j:oJ n B0.time ts (dv U) ((U.keys k).getD [])\/(U.keys k).getD []=[]:=by
       cases m:U.keys k with
       |none=>right;rfl
       |some R=>left;simp only[vX];exact(i.ky k R m).2.2
      have j:oJ n P.2.1 ts (dv U) ((U.keys k).getD []):=by
       rcases j with j|j
       .exact⟨j.r,by have:=j.l;omega,j.o,j.z,j.w,j.t⟩
       .rw[j];exact aiQ om
      obtain⟨s1,s2⟩:=ag2 j ⟨K.r,by have:=K.l;omega,K.w⟩ om (mP _) I e
      exact⟨Q,s1,s2⟩
    .obtain⟨S,k1,W⟩:=i.cv
     obtain⟨ms,m1,m2⟩:=H.nc
     refine⟨S++ms.map (·.2),by rw[aU,bW];omega,λk I e=>?_⟩
     simp only at e
     cases x:st.2 (y,k)with
     |none=>rw[x]at e;exact uz _ (W k I e)
     |some p=>exact BC _ (List.mem_map.2 ⟨(y,k),m2 _ _ x,rfl⟩)
    .simp only at e
     cases x:st.2 (y,k)with
     |none=>rw[x]at e;exact i.rw k I e v M
     |some p=>
      rw[x]at e
      simp only at e
      obtain⟨V,G,K,Q⟩:=H.nw _ _ x
      simp only at G
      rw[D]at G
      cases G
      unfold qi at e
      by_cases X:m6 ((U.keys k).getD []) P.2.1 p=true
      .rw[ak X]at e
       split at e
       .cases e
       .cases e
        rcases(Qk X).2.2.2.2 v M with⟨u,N,e1,_,e3⟩|⟨c,A,rfl⟩
        .cases m:U.keys k with
         |none=>rw[m]at N;cases N
         |some R=>
          rw[m]at N
          obtain⟨d,hd,d1,d2⟩:=i.rw k R m u N
          exact⟨d,hd,by rw[e1];exact d1,by rw[e3];exact d2⟩
        .exact⟨mG U,(Dk i.ds.ne).1,(i.ds.df _ (Dk i.ds.ne).1).2.2.1,K.w c A⟩
      .rw[ai X]at e
       cases e
  .obtain⟨S,k1,W⟩:=H.cv
   refine⟨S,om,λy T g=>?_⟩
   unfold mz at g
   simp only at g
   cases D:st.1 y with
   |none=>rw[D]at g;cases g
   |some U=>exact W y U D
 .cases f
theorem aiI (h:gE n ts B0) (u:fz B0.time B0.aM hz=0):gE n ts (lQ hz B0):=by
 unfold fz at u
 split at u
 .cases u
 split at u
 .cases u
 have I:=h.hr
 refine⟨h.sq,h.tm,⟨by show 0<=hz;omega,by show hz<=if B0.time>0 then B0.time else 0;split<;>omega⟩,λy T i=>?_,?_,h.tl⟩
 .have i:rq hz B0.aJ y=some T:=i
  unfold rq at i
  cases p:B0.aJ y with
  |none=>rw[p]at i;cases i
  |some U=>
   rw[p]at i
   simp only[rB,I7]at i
   subst i
   have x:=h.tb y U p
   refine⟨x.ds,λk m d=>?_,?_,λk m d v A=>?_⟩
   .have d:(U.keys k).bind (rv hz)=some m:=d
    cases f:U.keys k with
    |none=>rw[f]at d;cases d
    |some j=>
     rw[f]at d
     have d:rv hz j=some m:=d
     unfold rv at d
     split at d
     .cases d
     .rename_i C
      cases d
      obtain⟨a,b,c⟩:=x.ky k j f
      obtain⟨J,K,M,N,H⟩:=Q4 c.r c.l
      exact⟨a,λe=>C (by rw[e];rfl),⟨J,K,by have:=c.o;omega,by have:=c.z;omega,λv A=>c.w v (H v A),λv A=>c.t v (H v A)⟩⟩
   .obtain⟨D,F,G⟩:=x.cv
    refine⟨D,F,λk m d=>?_⟩
    have d:(U.keys k).bind (rv hz)=some m:=d
    cases f:U.keys k with
    |none=>rw[f]at d;cases d
    |some j=>exact G k j f
   .have d:(U.keys k).bind (rv hz)=some m:=d
    cases f:U.keys k with
    |none=>rw[f]at d;cases d
    |some j=>
     rw[f]at d
     have d:rv hz j=some m:=d
     unfold rv at d
     split at d
     .cases d
     .cases d
      have g:=(x.ky k j f).2.2
      exact x.rw k j f v ((Q4 g.r g.l).2.2.2.2 v A)
 .obtain⟨D,F,G⟩:=h.cv
  refine⟨D,F,λy T i=>?_⟩
  have i:rq hz B0.aJ y=some T:=i
  unfold rq at i
  cases p:B0.aJ y with
  |none=>rw[p]at i;cases i
  |some U=>exact G y U p
theorem ahi (h:n<=21):100*(n*(n+1))<=46200:=by
 have:n*(n+1)<=21*22:=xA h om
 omega
theorem oJ.ok (h:oJ n tk ts S vs) (hn:n<=21):kY vs/\vs.length<=46200:=by
 have b:=h.z
 have c:=ahi hn
 exact⟨⟨om,λv a=>(h.w v a).ok⟩,om⟩
theorem mq.len {r:Row} (h:mq S r):r.length<=16:=by
 obtain⟨a,b,_⟩:=xu.1 h.wd
 have:=(mb a).2.2.2
 omega
theorem kA.z (h:kA n m td tk ts nm T) (hn:n<=21) (hm:m<=10000):xK T:=
 ⟨List.length_pos_iff.2 h.ds.ne,by have:=h.ds.ln;omega,λk a b=>by
   obtain⟨_,_,g⟩:=h.ky k a b
   obtain⟨c,d⟩:=g.ok hn
   exact⟨c,om⟩⟩
theorem oJ.vd (h:oJ n tk ts S vs):∀v∈vs,E1 v:=λv c=>by
 obtain⟨a,b,d⟩:=(uj.1 h.r).1 v c
 have a:=fO.1 a
 have b:=fO.1 b
 simp only at a b
 have e:=(h.w v c).len
 exact⟨⟨a.1,om⟩,⟨om,a.2.2⟩,⟨b.1,om⟩,⟨om,b.2.2⟩,(h.w v c).ok,d,om⟩
theorem aaz {r:Row} (h:n8 r=true):(keyOf r).length<=72001:=by
 unfold keyOf
 rw[ak h,aU,m8]
 unfold n8 at h
 rw[bp,bX,pD]at h
 have:=lB (f:=m4) (m:=9000) (l:=r) λv a=>HM (h.1 v a)
 have:=h.2
 omega
theorem ahq (l:List UInt8):cY (B l)=l:=by simp[cY,B]
theorem uJ.len (h:uJ S k):(cY k).length<=72001:=by
 obtain⟨r,rfl,_,a,_⟩:=h
 rw[ahq]
 exact aaz a
theorem kA.d (h:kA n m td tk ts nm T) (f:td<=1099511627776):EZ T:=
 ⟨λd a=>by have:=h.ds.df d a;exact⟨⟨this.2.1,om⟩,this.1⟩,λk b c=>by
   obtain⟨e,_,g⟩:=h.ky k b c
   exact⟨by have:=e.len;omega,g.vd⟩⟩
theorem kA.e (h:kA n m td tk ts nm T) (b:td<=1099511627776):E0 T:=by
 have a:=h.d b
 exact⟨λd c=>(a.df d c).1.n,λk f g v i=>by
  have:=(a.ky k f g).2 v i
  exact⟨this.n1.n,this.n2.n,this.n3.n,this.n4.n⟩⟩
theorem kA.g (h:kA n m td tk ts nm T) (hd:td<=tk):BW tk T:=
 ⟨λd a=>by have:=h.ds.df d a;exact⟨this.1,om⟩,λi b=>by
   have:=List.pairwise_iff_getElem.1 h.ds.up i (i+1) om b om
   exact⟨this.1,this.2⟩,λk c e=>by
   obtain⟨⟨r,f,j,o,p⟩,t,g⟩:=h.ky k c e
   exact⟨⟨r,f,j,o,p⟩,t,g.r,g.l,λv u=>(g.w v u).wd⟩⟩
theorem Gb (h:kX f N):(ir f).length<=N:=by
 have a:=xa h
 obtain⟨b,g,c⟩:=h
 have:=lL a.1.nodup (m:=b) λy d=>by
  obtain⟨v,e⟩:=Option.isSome_iff_exists.1 ((a.2 y).1 d)
  exact c y v e
 omega
theorem aiP (h:E1 v):(qo v).length<=5000100:=by
 have a:=sx _ h.n1.n
 have b:=sx _ h.n2.n
 have c:=sx _ h.n3.n
 have d:=sx _ h.n4.n
 have e:=P6 h.ro
 have f:=h.rl
 unfold qo
 simp only[aU]
 omega
theorem kA.len (h:kA n m td tk ts nm T) (hn:n<=21) (hm:m<=10000) (e:td<=1099511627776):(yL T).length<=600000000000000:=by
 have f:=h.d e
 have u:(T.defs.flatMap nO).length<=2100*T.defs.length:=lB λd i=>by
  have j:=sx _ (f.df d i).1.n
  have o:=tX d.2
  have p:=oe (l:=gm d.2) om
  unfold nO
  rw[aU];omega
 have j:=h.ds.ln
 have o:=Gb h.cv
 have c:∀k∈ir T.keys,(mE T.keys k).length<=240000000000:=λk c=>by
  obtain⟨b,a⟩:=Option.isSome_iff_exists.1 (((xa h.cv).2 k).1 c)
  obtain⟨r,_,g⟩:=h.ky k b a
  have x:=(g.ok hn).2
  have y:=r.len
  have z:=oe (l:=cY k) om
  have A:=cD (n:=b.length) om
  have C:(b.flatMap qo).length<=5000100*b.length:=lB λv t=>aiP (g.vd v t)
  unfold mE Dg
  rw[a]
  simp only[aU,vX]
  omega
 have p:=lB c
 have D:=cD (n:=T.defs.length) om
 have F:=cD (n:=(ir T.keys).length) om
 unfold yL ud wL
 simp only[aU]
 have G:240000000000*(ir T.keys).length<=240000000000*2100:=JC _ om
 omega
theorem gE.z (h:gE n ts B0) (hn:n<=21):dN B0.aJ:=λy T a=>(h.tb y T a).z hn om
theorem gE.bn (h:gE n ts B0) (hn:n<=21):lu B0.aJ:=⟨h.cv.mono om,λy T a=>(h.tb y T a).cv.mono om⟩
theorem gE.e (h:gE n ts B0) (hn:n<=21):sZ B0:=by
 have a:=h.sq
 have d:=h.tm
 have b:0<=B0.aM/\B0.aM<=1099511627776:=by
  have:=h.hr
  refine⟨this.1,?_⟩
  have:=this.2
  split at this<;>omega
 refine⟨⟨a.1,om⟩,⟨om,om⟩,⟨b.1,om⟩,λy T c=>(h.tb y T c).e om,?_⟩
 have i:=Gb h.cv
 have f:∀y∈ir B0.aJ,(od B0.aJ y).length<=600000000000000:=λy g=>by
  obtain⟨T,c⟩:=Option.isSome_iff_exists.1 (((xa h.cv).2 y).1 g)
  unfold od
  rw[c]
  exact(h.tb y T c).len hn om om
 have j:=lB f
 have k:=sx B0.seq ⟨a.1,om⟩
 have l:=sx (B0.time+1) ⟨om,om⟩
 have o:=sx B0.aM ⟨b.1,om⟩
 have p:=cD (n:=(ir B0.aJ).length) om
 unfold gh te
 simp only[aU]
 have r:600000000000000*(ir B0.aJ).length<=600000000000000*2100:=JC _ om
 omega
theorem gE.ok (h:gE n ts B0) (hn:n<=21) (f:(gh B0).length<=1000000000):BI B0:=by
 have b:=h.sq
 have i:=h.tm
 have a:=h.hr
 refine⟨h.z hn,h.bn hn,h.e hn,⟨⟨b.1,b.2⟩,⟨om,om⟩,⟨a.1,?_⟩,a.2,λy T j=>?_,f⟩⟩
 .have:=a.2
  split at this<;>omega
 .have c:=h.tb y T j
  exact⟨c.d om,c.g (mP _),c.right.2.1⟩
theorem rN.step {st:m9} (h:rN n i td tk ts st) (hn:n<=21) (hi:i<=100):EY st:=
 ⟨λy T a=>(h.tb y T a).z hn om,λy T a=>(mb (h.tb y T a).right.1).2.1,λy p b=>by
   obtain⟨T,_,g,_⟩:=h.nw y p b
   have:=g.l
   exact⟨⟨om,λq c=>(g.w q c).ok⟩,om⟩,λy p b=>by
   obtain⟨T,g,_⟩:=h.nw y p b
   exact⟨T,g⟩⟩
theorem gE.ap (h:gE n ts B0) (hn:n<=21) (c:kt P):rH B0 P:=by
 have g:=h.sq
 have i:=h.tm
 refine⟨om,c,h.z hn,λa d o e j=>?_⟩
 unfold kU at a
 split at a
 .rename_i b
  split at a
  .cases a
  split at a
  .cases a
  split at a
  .cases a
  unfold gT at b
  simp only[bp,bX,pD]at b
  obtain⟨k,⟨p,r⟩,t,u,v⟩:=b
  have x:d.length<=100:=by
   have:=gU List.length e
   rw[aU]at this
   omega
  have l:=F8 (at_:=P.2.1) om om d h.wk om (λC f=>⟨k C (by rw[e];exact uz _ f),c.ok C (by rw[e];exact uz _ f)⟩) j
  exact l.step hn om
 .cases a
theorem gE.Mc (h:gE n ts B0):∀y T,B0.aJ y=some T->∀d∈T.defs,d.2.2.1.length<=1000:=λy T a d b=>by
 have:=(mb ((h.tb y T a).ds.df d b).1).2.2.2
 omega
theorem gE.pY (h:gE n ts B0) (hn:n<=21) (nm k:ByteArray):kY (pY B0 nm k)/\(pY B0 nm k).length<=46200:=by
 unfold Go.Proofs.YtelhccfmfnaegaaGreat.pY
 cases b:B0.aJ nm with
 |none=>exact⟨⟨sI,λv a=>by cases a⟩,sI⟩
 |some T=>
  simp only
  cases c:T.keys k with
  |none=>exact⟨⟨sI,λv a=>by cases a⟩,sI⟩
  |some d=>exact((h.tb nm T b).ky k d c).2.2.ok hn
theorem gE.ie (h:gE n ts B0) (hn:n<=21) (nm k:ByteArray) (t:Int):(ie B0 nm k t).length<=46200/\∀q∈ie B0 nm k t,dk q.2.2:=by
 obtain⟨a,d⟩:=h.pY hn nm k
 unfold Go.Proofs.YtelhccfmfnaegaaGreat.ie
 refine⟨by rw[bW];have:=E8 (Go.Proofs.YtelhccfmfnaegaaGreat.pY B0 nm k) t;omega,λq b=>?_⟩
 obtain⟨p,c,rfl⟩:=List.mem_map.1 b
 exact IH ((wh a t).row p c)
theorem gE.iX (h:gE n ts B0) (hn:n<=21) (nm:ByteArray) (t:Int):(iX B0 nm t).length<=100000000/\∀x∈iX B0 nm t,dk x.2.2.2.2.2:=by
 unfold Go.Proofs.YtelhccfmfnaegaaGreat.iX
 cases c:B0.aJ nm with
 |none=>exact⟨sI,λx a=>by cases a⟩
 |some T=>
  simp only
  have e:=Gb (h.tb nm T c).cv
  refine⟨?_,λx a=>?_⟩
  .have g:=lB (f:=λb=>gI b 0 0 (Go.Proofs.YtelhccfmfnaegaaGreat.ie B0 nm b t)) (m:=46200) (l:=ir T.keys) λk _=>by
     unfold gI
     rw[bW]
     exact(h.ie hn nm k t).1
   have i:46200*(ir T.keys).length<=46200*2100:=JC _ om
   omega
  .obtain⟨k,_,a⟩:=List.mem_flatMap.1 a
   obtain⟨p,d,rfl⟩:=List.mem_map.1 a
   exact(h.ie hn nm k t).2 p d
theorem LX:∀(l a:List Pc),(l.foldl iS a).length<=a.length+l.length
 |[],a=>cV _
 |p::l,a=>by
  rw[kV]
  have b:=LX l (iS a p)
  have c:=F9 p a
  rw[db];omega
theorem Wb (ps:List Pc):(fw ps).length<=ps.length:=by
 unfold fw
 split
 .have:=LX ps [];simpa using this
 .exact cV _
theorem ahl {t n:Int} {q:St} (h:q∈jE out t n p):q.2.2=p\/∃s∈out,q.2.2=s.2.2:=by
 unfold jE at h
 split at h
 .exact .inr ⟨q,h,rfl⟩
 split at h
 .cases a:out.getLast? with
  |none=>rw[a]at h;cases h
  |some s=>
   rw[a]at h
   rcases List.mem_append.1 h with h|h
   .exact .inr ⟨q,xD _ h,rfl⟩
   .rw[fE]at h
    subst h
    exact .inr ⟨s,ux a,rfl⟩
 .rcases List.mem_append.1 h with h|h
  .exact .inr ⟨q,h,rfl⟩
  .rw[fE]at h;rw[h];exact .inl rfl
theorem ahk (a:List St) (t n:Int) (p:List Pc):(jE a t n p).length<=a.length+1:=by
 unfold jE
 split
 .omega
 split
 .cases c:a.getLast? with
  |none=>simp
  |some s=>
   have b:a≠[]:=λe=>by rw[e]at c;cases c
   have:=List.length_pos_iff.2 b
   simp only[aU,Sg,m8];omega
 .simp
theorem B7 {l:List Vn} {to:Int}:∀(f:Nat) (t:Int) (a:List St),(∀q∈a,∃u,q.2.2=fw (cK l u))->∀q∈lY l to f t a,∃u,q.2.2=fw (cK l u)
 |0,t,a,h,q,b=>h q b
 |f+1,t,a,h,q,b=>by
  have e:lY l to (f+1) t a=if t<to then lY l to f (ga l t to) (jE a t (ga l t to) (fw (cK l t)))else a:=rfl
  rw[e]at b
  split at b
  .refine B7 f _ _ (λs c=>?_) q b
   rcases ahl c with e|⟨d,g,e⟩
   .exact⟨t,e⟩
   .rw[e];exact h d g
  .exact h q b
theorem MQ {t n:Int} (h:t<n):∀{ts:List Int},n∈ts->(ts.filter λx=>decide (n<x)).length+1<=(ts.filter λx=>decide (t<x)).length
 |[],b=>by cases b
 |x::ts,b=>by
  have f:(ts.filter λx=>decide (n<x)).length<=(ts.filter λx=>decide (t<x)).length:=zR (λa g=>by rw[bX]at g⊢;omega) ts
  rw[jr,jr]
  by_cases c:x=n
  .subst c
   rw[ai sI,ak (by simpa using h),db]
   omega
  .have b:n∈ts:=by
      rcases List.mem_cons.1 b with e|e
      .exact absurd e.symm c
      .exact e
   have i:=MQ h b
   by_cases d:n<x
   .rw[ak (by simpa using d),ak (by rw[bX];omega),db,db];omega
   .rw[ai (by simpa using d)]
    split
    .rw[db];omega
    .exact i
theorem JY {l:List Vn} {to:Int} {us:List Int} (b:∀v∈l,(v.1∈us\/to<=v.1)/\(v.2.1∈us\/to<=v.2.1)):∀(f:Nat) (t:Int) (a:List St),(lY l to f t a).length<=a.length+1+(us.filter λx=>decide (t<x)).length
 |0,t,a=>by show a.length<=_;omega
 |f+1,t,a=>by
  have e:lY l to (f+1) t a=if t<to then lY l to f (ga l t to) (jE a t (ga l t to) (fw (cK l t)))else a:=rfl
  rw[e]
  split
  .rename_i c
   obtain⟨n1,n2,n3⟩:=Du t l to c
   have k:=ahk a t (ga l t to) (fw (cK l t))
   generalize ga l t to=n at*
   by_cases d:n=to
   .subst d
    cases f with
    |zero=>show(jE a t n (fw (cK l t))).length<=_;omega
    |succ f=>
     have i:lY l n (f+1) n (jE a t n (fw (cK l t)))=if n<n then lY l n f (ga l n n) (jE (jE a t n (fw (cK l t))) n (ga l n n) (fw (cK l n)))else jE a t n (fw (cK l t)):=rfl
     rw[i,ai om];omega
   .have j:n∈us:=by
      rcases n3 with e|⟨v,g,e|e⟩
      .exact absurd e d
      .rcases(b v g).1 with h|h
       .rw[e];exact h
       .omega
      .rcases(b v g).2 with h|h
       .rw[e];exact h
       .omega
    have o:=JY b f n (jE a t n (fw (cK l t)))
    have p:=MQ n1 j
    omega
  .omega
theorem gE.jM (h:gE n ts B0) (hn:n<=21) (nm k:ByteArray):(jM B0 nm k (B0.aM,B0.time+1,())).length<=22/\(∀q∈jM B0 nm k (B0.aM,B0.time+1,()),q.2.2.length<=46200/\∀p∈q.2.2,dk p.2.2):=by
 unfold Go.Proofs.YtelhccfmfnaegaaGreat.jM
 split
 .unfold uP
  cases i:B0.aJ nm with
  |none=>exact⟨sI,λq a=>by cases a⟩
  |some T=>
   simp only
   have j:kY ((T.keys k).getD [])/\((T.keys k).getD []).length<=46200/\∀v∈(T.keys k).getD [],v.1∈ts/\(kc v=true\/v.2.1∈ts):=by
    cases r:T.keys k with
    |none=>exact⟨⟨sI,λv b=>by cases b⟩,sI,λv b=>by cases b⟩
    |some c=>
     have g:=((h.tb nm T i).ky k c r).2.2
     exact⟨(g.ok hn).1,(g.ok hn).2,g.t⟩
   obtain⟨y,I,z⟩:=j
   generalize (T.keys k).getD []=c at*
   have A:kY (c.map (gn (gy (dv T)))):=⟨by rw[bW];omega,λv b=>by
    obtain⟨u,d,rfl⟩:=List.mem_map.1 b
    exact IH (y.row u d)⟩
   have C:=h.tl
   have D:=h.tm
   unfold oR
   split
   .refine⟨?_,λq a=>?_⟩
    .have:=JY (l:=c.map (gn (gy (dv T)))) (to:=B0.time+1) (us:=ts) (λv b=>by
       obtain⟨u,d,rfl⟩:=List.mem_map.1 b
       obtain⟨F,G⟩:=z u d
       refine⟨.inl F,?_⟩
       rcases G with o|o
       .right
        have:=vt.1 o
        show B0.time+1<=u.2.1
        omega
       .exact .inl o) (B0.time+1-B0.aM).toNat B0.aM []
     have f:=gV (λx=>decide (B0.aM<x)) ts
     simp only[mO]at this
     show(lY _ (B0.time+1) (B0.time+1-B0.aM).toNat B0.aM []).length<=22
     omega
    .obtain⟨u,e⟩:=B7 _ _ _ (λq a=>by cases a) q a
     rw[e]
     have H:=wh A u
     refine⟨?_,(L9 H).row⟩
     have J:=Wb (cK (c.map (gn (gy (dv T)))) u)
     have f:=E8 (c.map (gn (gy (dv T)))) u
     rw[bW]at f
     omega
   .exact⟨sI,λq a=>by cases a⟩
 .exact⟨sI,λq a=>by cases a⟩
theorem gE.jT (h:gE n ts B0) (hn:n<=21) (nm k:ByteArray):(jT B0 nm k).length<=100000000/\∀x∈jT B0 nm k,dk x.2.2.2.2.2:=by
 obtain⟨e,c⟩:=h.jM hn nm k
 unfold Go.Proofs.YtelhccfmfnaegaaGreat.jT mI
 refine⟨?_,λx a=>?_⟩
 .have g:=lB (f:=λs:St=>gI k s.1 s.2.1 s.2.2) (m:=46200) (l:=Go.Proofs.YtelhccfmfnaegaaGreat.jM B0 nm k (B0.aM,B0.time+1,())) λs b=>by
    unfold gI
    rw[bW]
    exact(c s b).1
  omega
 .obtain⟨s,b,a⟩:=List.mem_flatMap.1 a
  obtain⟨p,d,rfl⟩:=List.mem_map.1 a
  exact(c s b).2 p d
def xc (wd:Nat) (r:Row):Row:=r++List.replicate (wd-r.length) zV
def kh (rows:List Rw):Nat:=rows.foldl (λm x=>max m x.2.2.2.2.2.length) 0
def j0 (rows:List Rw) (t:Int):List Pc:=(rows.filter λx=>ey (x.2.1,x.2.2.1,()) t).map (·.2.2.2)
def HO (wd:Nat) (x:Rw):Pc:=(x.2.2.2.1,x.2.2.2.2.1,xc wd x.2.2.2.2.2)
def kT (rows:List Rw) (k:ByteArray) (wd:Nat):List Pc:=(rows.filter λx=>decide (x.1=k)).map (HO wd)
theorem JU (a b:List Rw) (t:Int):j0 (a++b) t=j0 a t++j0 b t:=by unfold j0;rw[nC,fe]
theorem SK (k:ByteArray) (a b:Int) (ps:List Pc) (t:Int):j0 (gI k a b ps) t=if ey (a,b,()) t then ps else[]:=by
 unfold j0 gI
 rw[Js]
 by_cases h:ey (a,b,()) t=true
 .have e:ps.filter ((λx:Rw=>ey (x.2.1,x.2.2.1,()) t)∘λp=>(k,a,b,p))=ps:=List.filter_eq_self.2 λp _=>h
  rw[ak h,e,rA]
  exact List.map_id _
 .rw[ai h]
  have:ps.filter ((λx:Rw=>ey (x.2.1,x.2.2.1,()) t)∘λp=>(k,a,b,p))=[]:=List.filter_eq_nil_iff.2 λp _=>h
  rw[this];rfl
theorem JV (k:ByteArray) (t:Int):∀l:List St,j0 (mI k l) t=pd l t
 |[]=>rfl
 |s::l=>by
  rw[show mI k (s::l)=gI k s.1 s.2.1 s.2.2++mI k l from rfl,JU,SK,JV k t l]
  unfold pd
  rw[jr]
  by_cases h:ey (uc s) t=true
  .rw[ak h,ak h];rfl
  .rw[ai h,ai h];rfl
theorem Q8 (a b:List Rw) (k:ByteArray) (wd:Nat):kT (a++b) k wd=kT a k wd++kT b k wd:=by unfold kT;rw[nC,fe]
def DA (wd:Nat) (p:Pc):Pc:=(p.1,p.2.1,xc wd p.2.2)
theorem aiS (k a:ByteArray) (ps:List Pc) (wd:Nat):kT (gI k 0 0 ps) a wd=if k=a then ps.map (DA wd)else[]:=by
 unfold kT gI
 rw[Js]
 by_cases h:k=a
 .have e:ps.filter ((λx:Rw=>decide (x.1=a))∘λp=>(k,0,0,p))=ps:=List.filter_eq_self.2 λp _=>eu h
  rw[ak h,e,rA];rfl
 .rw[ai h]
  have:ps.filter ((λx:Rw=>decide (x.1=a))∘λp=>(k,0,0,p))=[]:=List.filter_eq_nil_iff.2 λp _=>by simpa using h
  rw[this];rfl
theorem Q9 (f:ByteArray->List Pc) (a:ByteArray) (wd:Nat):∀l:List ByteArray,l.Nodup->kT (l.flatMap λk=>gI k 0 0 (f k)) a wd=if a∈l then(f a).map (DA wd)else[]
 |[],_=>rfl
 |k::l,h=>by
  obtain⟨c,d⟩:=List.nodup_cons.1 h
  rw[fc,Q8,aiS,Q9 f a wd l d]
  by_cases e:k=a
  .subst e
   rw[ak rfl,ai c,ak eo,iO]
  .rw[ai e,mQ]
   by_cases b:a∈l
   .rw[ak b,ak (dH _ b)]
   .rw[ai b,ai (λh=>by rcases List.mem_cons.1 h with h|h;exact e h.symm;exact b h)]
theorem LY:∀(l a:List Pc) (q:Pc),q∈l.foldl iS a->(∃p∈a,q.2.2=p.2.2)\/∃p∈l,q.2.2=p.2.2
 |[],a,q,h=>.inl ⟨q,h,rfl⟩
 |p::l,a,q,h=>by
  rw[kV]at h
  rcases LY l _ q h with⟨u,hu,e⟩|⟨u,hu,e⟩
  .unfold iS at hu
   cases b:a.getLast? with
   |none=>
    rw[b]at hu
    rcases List.mem_append.1 hu with hu|hu
    .exact .inl ⟨u,hu,e⟩
    .rw[fE]at hu;subst hu;exact .inr ⟨u,eo,e⟩
   |some s=>
    rw[b]at hu
    simp only at hu
    split at hu
    .rcases List.mem_append.1 hu with hu|hu
     .exact .inl ⟨u,xD _ hu,e⟩
     .rw[fE]at hu;subst hu;exact .inl ⟨s,ux b,e⟩
    .rcases List.mem_append.1 hu with hu|hu
     .exact .inl ⟨u,hu,e⟩
     .rw[fE]at hu;subst hu;exact .inr ⟨u,eo,e⟩
  .exact .inr ⟨u,dH _ hu,e⟩
theorem L8 (h:q∈fw ps):∃p∈ps,q.2.2=p.2.2:=by
 unfold fw at h
 split at h
 .rcases LY ps [] q h with⟨p,a,_⟩|h
  .cases a
  .exact h
 .exact⟨q,h,rfl⟩
theorem Re {m:Nat}:∀(b:List Rw) (a:Nat),(∀x∈b,x.2.2.2.2.2.length=m)->a<=m->b≠[]\/a=m->b.foldl (λm x=>max m x.2.2.2.2.2.length) a=m
 |[],a,_,_,h=>by
  rcases h with h|h
  .exact absurd rfl h
  .exact h
 |x::b,a,h,c,_=>by
  rw[kV,h x eo,Nat.max_eq_right c]
  exact Re b m (λy d=>h y (dH _ d)) (cV _) (.inr rfl)
theorem abM {r:Row} (d:A.2.1.length<=S.2.1.length) (a:(jq A r).2=0) (b:(jq S r).2=0):xc S.2.1.length (gy A r)=gy S r:=by
 obtain⟨_,e,_⟩:=xu.1 a
 rw[Ea a,Ea b]
 unfold xc
 have c:(iN A r).length=A.2.1.length:=by unfold iN;rw[aU,rE];omega
 rw[c]
 unfold iN
 rw[cP,List.replicate_append_replicate]
 congr 2;omega
theorem Mq {ds:List (Int×di)} (h:ds.Pairwise rK) {d e:Int×di} (hd:d∈ds) (b:ds.getLast?=some e):d=e\/rK d e:=by
 have a:ds≠[]:=λc=>by rw[c]at hd;cases hd
 have f:ds=ds.dropLast++[e]:=by
  rw[y6 a]at b
  conv=>lhs;rw[<-Bx a]
  rw[ja b]
 rw[f]at h hd
 rcases List.mem_append.1 hd with hd|hd
 .exact .inr ((List.pairwise_append.1 h).2.2 d hd e sI)
 .exact .inl (List.mem_singleton.1 hd)
theorem aih {r:Row} {t:Int} (h:gE n ts B0) (hn:n<=21) (hT:kG B0 nm t=0) (V:l4 B0 nm r=0):
  j0 (jT B0 nm kx) t=fw (kT (iX B0 nm t) kx (kh (jT B0 nm kx))):=by
 have i:(cC B0 nm t).1=0:=by
  unfold kG at hT
  split at hT
  .assumption
  .rename_i f;exact Classical.not_not.1 f
 have y:(cC B0 nm B0.time).1=0:=by
  unfold l4 at V
  split at V
  .cases V
  .rename_i f;exact Classical.not_not.1 f
 have N9:B0.aM<=B0.time:=by
  unfold cC at y
  split at y
  .rename_i f;exact absurd y f
  .rename_i f
   have f:=Classical.not_not.1 f
   unfold fz at f
   split at f
   .cases f
   .omega
 unfold cC at i
 split at i
 .rename_i f;exact absurd i f
 rename_i m
 have m:=Classical.not_not.1 m
 have W:B0.aM<=t/\t<=B0.time:=by
  unfold fz at m
  split at m
  .cases m
  split at m
  .cases m
  omega
 cases a:B0.aJ nm with
 |none=>rw[a]at i;cases i
 |some T=>
  rw[a]at i
  simp only at i
  cases c:AS T t with
  |none=>rw[c]at i;cases i
  |some A=>
   have G:=h.tb nm T a
   have Da:=h.tm
   have X:=h.hr
   have Y:(cC B0 nm t).2=A:=by
    unfold cC
    rw[ai (λz=>z m),a]
    simp only[c]
   generalize b:(T.keys kx).getD []=o
   have Z:gL o=true/\(∀v∈o,mq (dv T) v.2.2.2.2/\(∃d∈T.defs,d.1<=v.1/\mq d.2 v.2.2.2.2)):=by
    cases H:T.keys kx with
    |none=>rw[H]at b;subst b;exact⟨rfl,λv j=>by cases j⟩
    |some ws=>
     rw[H]at b
     subst b
     obtain⟨_,_,g⟩:=G.ky kx ws H
     exact⟨g.r,λv j=>⟨g.w v j,G.rw kx ws H v j⟩⟩
   obtain⟨v1,v2⟩:=Z
   have C:=(uj.1 v1).1
   have hd:cA (B0.aM,B0.time+1,())=true:=fO.2 ⟨X.1,by simp only;omega,by simp only;omega⟩
   have Ym:nb B0 nm (B0.aM,B0.time+1,())=0:=by
    unfold nb
    rw[hd,ai sI,ai (by simp only;omega),ai (by simp only;omega),a]
   have I:jM B0 nm kx (B0.aM,B0.time+1,())=oR (o.map (gn (gy (dv T)))) (B0.aM,B0.time+1,()):=by
    unfold jM uP
    rw[ak Ym,a]
    simp only[b]
   have l:j0 (jT B0 nm kx) t=fw ((cK o t).map (kR (gy (dv T)))):=by
    unfold jT
    rw[JV,I]
    refine SL (gy (dv T)) (λv j=>?_) v1 hd W.1 (by simp only;omega)
    rw[(Rg (v2 v j).1.wd).1,(C v j).2.2]
   have J:∀R,kT (iX B0 nm t) kx R=(cK o t).map λp=>DA R (kR (gy A) p):=λR=>by
    unfold iX
    rw[a]
    simp only
    have K:=xa G.cv
    rw[Q9 (λk=>ie B0 nm k t) kx R _ K.1.nodup]
    have W6:ie B0 nm kx t=(cK o t).map (kR (gy A)):=by
     unfold ie pY
     rw[a,Y]
     simp only[b]
    by_cases hm:kx∈ir T.keys
    .rw[ak hm,W6,rA];rfl
    .rw[ai hm]
     have lG:T.keys kx=none:=by
      cases H:T.keys kx with
      |none=>rfl
      |some ws=>exact absurd ((K.2 kx).2 (by rw[H];rfl)) hm
     rw[lG]at b
     subst b
     rfl
   rw[l,J]
   by_cases M:cK o t=[]
   .rw[M];rfl
   congr 1
   have D:kh (jT B0 nm kx)=(dv T).2.1.length:=by
    refine Re _ 0 (λx S=>?_) (jt _) (.inl λe=>?_)
    .unfold jT mI at S
     obtain⟨s,N,S⟩:=List.mem_flatMap.1 S
     obtain⟨p,U,rfl⟩:=List.mem_map.1 S
     simp only
     rw[I]at N
     unfold oR at N
     split at N
     .obtain⟨u,e⟩:=B7 _ _ _ (λq i=>by cases i) s N
      rw[e]at U
      obtain⟨p2,C5,e2⟩:=L8 U
      obtain⟨v,j,e3⟩:=B3 C5
      obtain⟨v0,Z5,rfl⟩:=List.mem_map.1 j
      rw[e2,<-e3]
      exact(Rg (v2 v0 Z5).1.wd).2
     .cases N
    .rw[e]at l
     have:fw ((cK o t).map (kR (gy (dv T))))=[]:=l.symm
     have:=Wc this
     exact M (List.map_eq_nil_iff.1 this)
   rw[D]
   refine Sj λp U=>?_
   obtain⟨v,j,Z8,rfl⟩:=(zv v1).1 U
   obtain⟨g1,d,u7,z7,g2⟩:=v2 v j
   obtain⟨_,O,_⟩:=xn.1 Z8
   simp only at O
   have hl:∃e,(T.defs.filter λd=>decide (d.1<=t)).getLast?=some e/\A=e.2:=by
    unfold AS at c
    cases hg:(T.defs.filter λd=>decide (d.1<=t)).getLast? with
    |none=>rw[hg]at c;cases c
    |some e=>rw[hg]at c;exact⟨e,rfl,(ja c).symm⟩
   obtain⟨e,he,rfl⟩:=hl
   have GO:e∈T.defs:=(List.mem_filter.1 (ux he)).1
   have P:mq e.2 v.2.2.2.2:=by
    rcases Mq (G.ds.up.filter _) (List.mem_filter.2 ⟨u7,by rw[bX];omega⟩) he with rfl|z
    .exact g2
    .exact g2.ext z.2
   have Q:e.2.2.1.length<=(dv T).2.1.length:=by
    have F:T.defs.getLast?=some (mG T):=by
     unfold mG
     rw[y6 G.ds.ne];rfl
    rcases Mq G.ds.up GO F with z|z
    .rw[z];exact cV _
    .exact(yf.1 z.2).2.2.1
   unfold kR DA
   simp only
   rw[abM Q P.wd g1.wd]
end Go.Proofs.YtelhccfmfnaegaaGreat
