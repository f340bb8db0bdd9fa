/- Lemmas for topAudits_holds. No conditions. -/
import Derived.Test.YtelhccfmfnaegaaGreatAj
set_option linter.unusedSectionVars false
set_option linter.unusedVariables false
set_option linter.unusedSimpArgs false
set_option linter.defProp false
set_option maxRecDepth 10000
namespace Go.Proofs.YtelhccfmfnaegaaGreat
open Go Go.Sh Tryz
attribute [local irreducible] aT jC gk dV kO dg hex iT jk ae aj bG aN bq fL
theorem MW {ls:List bD} {j:Nat} {vs:List Value} {y:bK ls} (c:j+vs.length<=ls.length):∀(a:List (bK ls)) (i:Nat) (h:i<a.length),(ay ls a[i]).take j++vs++(ay ls a[i]).drop (j+vs.length)=ay ls y->
  (a.flatMap (ay ls)).take (i*ls.length+j)++vs++(a.flatMap (ay ls)).drop (i*ls.length+j+vs.length)=(a.set i y).flatMap (ay ls)
 |[],i,h,_=>by simp at h
 |x::a,0,_,b=>by
  simp only[fc,Em,uq,qt,Bk]at b⊢
  rw[<-b,I2 (by rw[du];omega),RU (by rw[du];exact c)]
  simp only[cP]
 |x::a,i+1,h,b=>by
  have d:=MW c a i (by simpa using h) (by simpa using b)
  simp only[fc,En]
  have e:(i+1)*ls.length+j=(ay ls x).length+(i*ls.length+j):=by rw[du,km];omega
  rw[e,m7,I4,I3,cP,cP,<-d,cP]
def gy (S:di) (r:Row):Row:=(jq S r).1
def AS (T:dO) (t:Int):Option di:=((T.defs.filter λd=>decide (d.1<=t)).getLast?).map (·.2)
variable {E w:World} {L L':List aK} {F G:bh} {T:TypeId} {ls:List bD} {s:Sl} {xs:List (bK ls)} {i j:Nat} {a:Addr} {vs:List Value} {y:bK ls} {p:nG} {S:di} {b:Nat} {nm:ByteArray} {t:Int} {r:Row} {kx:ByteArray} {k:Sl×Int×Unit->Pr} {d:Sp} {α β:Type} {kQ:List St} {B0:b9} {ks:Sl} {d1 d2:Int} {q:uO} {sb rb:Bool} {fa fb:Nat}
theorem ahp {t:TypeId} {k:Pr} (h:ab E w L) (p:b6 L (OS T ls s xs) L') (ha:qE s (i*ls.length+j) a) (hi:i<xs.length)
  (g:(ay ls xs[i]).take j++vs++(ay ls xs[i]).drop (j+vs.length)=ay ls y) (l:∀c,ab E c (OS T ls s (xs.set i y)::L')->k c)
  (d:Nat.ble (j+vs.length) ls.length=true:=by rfl) (e:Nat.blt 0 ls.length=true:=by rfl) (hv:Ds vs=true:=by rfl) (hn:jW t=some vs.length:=by kernel_rfl):lv prog (uN (Instr.storeAt t (.pointer (some a)) (.agg ⟨vs⟩))) k w:=by
 obtain⟨o,m,r,rfl⟩:=ha
 have e:0<ls.length:=by simpa using e
 have d:j+vs.length<=ls.length:=by simpa using d
 have b:(xs.flatMap (ay ls)).length=xs.length*ls.length:=nS _ _ (du ls) xs
 have n:i*ls.length+ls.length<=xs.length*ls.length:=by
  have:(i+1)*ls.length<=xs.length*ls.length:=lR _ hi
  rw[km]at this;omega
 refine Mu (vs:=vs) h p m rfl (by rw[b];omega) (by rw[b];omega) hn (HK hv) λc f=>l c ?_
 rw[MW d xs i hi g]at f;exact f
theorem KC {r:bK av} {q:Pc} {k:bK av->Pr} (h:ab E w (ae F::L)) (n:ft F p S) (hr:iu F r q) (o:dk q.2.2)
  (u:∀G d e,F.le G->iu G d (kR (gy S) q)->ab E e (ae G::L)->k d e):CL 163 #[ag aD p,ag av r] (ya av) k w:=by
 obtain⟨f,g,v,⟨⟩⟩:=r
 obtain⟨i,j,l⟩:=hr
 simp only at i j l
 refine adg ?_
 refine bx h λy w h=>?_
 refine bx h λa w h=>?_
 refine al h λz w h=>?_
 refine bN (t:=63) (ls:=aD) (x:=p) (b:=y) h ?_
 refine ld (t:=28) (x:=v) (b:=a) (off:=2) h ?_
 refine KS (F:=F) (S:=S) (r:=q.2.2) (h.pick (A:=ae F) pK) n l o λG m w C c h=>?_
 refine st (t:=28) (b:=a) (off:=2) h λw h=>?_
 refine bN (t:=50) (ls:=av) (x:=(f,g,m,())) (b:=a) h ?_
 refine bU (t:=50) (b:=z) h (λw h=>?_)
 refine pf (ls:=av) (x:=(f,g,m,())) h ?_
 exact u G _ _ C ⟨i,j,c⟩ (h.sub sS)
def cC (B:b9) (nm:ByteArray) (t:Int):Int×di:=if fz B.time B.aM t≠0 then(fz B.time B.aM t,jA)else match B.aJ nm with
 |none=>(18,jA)
 |some T=>match AS T t with
  |none=>(18,jA)
  |some S=>(0,S)
def si (l:List (Int×di)) (t:Int):Option (Int×di):=(l.filter λd=>decide (d.1<=t)).getLast?
theorem aaM (l:List (Int×di)) (d:Int×di) (t:Int):si (l++[d]) t=if d.1<=t then some d else si l t:=by
 unfold si
 rw[nC]
 by_cases h:d.1<=t
 .simp[h]
 .simp[h]
def ML (o:Option (Int×di)):Int:=match o with|some _=>0|none=>18
def Qi (o:Option (Int×di)):di:=match o with|some d=>d.2|none=>jA
theorem Cs {B:b9} {k:nG×Int×Unit->Pr} (h:ab E w (ae F::az F b B::L)) (hZ:dN B.aJ) (hS:∀y T,B.aJ y=some T->∀d∈T.defs,d.2.2.1.length<=1000)
  (f:∀G p O,F.le G->ft G p (cC B nm t).2->ab E O (ae G::az G b B::L)->k (p,(cC B nm t).1,()) O):CL 87 #[.pointer (some ⟨b,0,none⟩),.string nm,iv t] (.aG [.agg aD,.leaf (.int .i64)]) k w:=by
 obtain⟨m,n,o,c,X,h⟩:=ko (h.pick (A:=az F b B) pK)
 have C:∀{G2:bh} {w:World} {M:List aK},F.le G2->ab E w (bY b B.seq B.time B.aM m::bS m o n::bO bq c::M)->ab E w (az G2 b B::M):=λY h=>jb (b:=b) (B:=B) (X.up Y) h
 refine agE ?_
 refine al h λu w h=>?_
 rw[Eb]at h
 refine Ko (h.pick (A:=bY b B.seq B.time B.aM m) pK) λw h=>?_
 refine ax (λZ=>?_) (λZ=>?_)
 .have mB:fz B.time B.aM t≠0:=by simpa using Z
  have e:cC B nm t=(fz B.time B.aM t,jA):=by unfold cC;rw[ak mB]
  rw[e]at f
  refine bU (t:=63) (b:=u) h (λw h=>?_)
  refine nr (ls:=aD) (x:=(⟨#[]⟩,au,0,())) (y:=fz B.time B.aM t) h ?_
  have h:=C (.refl _) (h.sub (M:=bY b B.seq B.time B.aM m::bS m o n::bO bq c::ae F::L) sS)
  exact f F _ _ (.refl _) ⟨rfl,.nil,rfl⟩ (h.sub sS)
 have h0:fz B.time B.aM t=0:=by simpa using Z
 have e:cC B nm t=match B.aJ nm with|none=>(18,jA)|some T=>match AS T t with|none=>(18,jA)|some S=>(0,S):=by unfold cC;rw[ai (by rw[h0];simp)]
 rw[e]at f
 refine al h λl w h=>?_
 rw[Eb]at h
 refine br (λP w=>∃p S,ft F p S/\S.2.1.length<=1000/\(∀G p O,F.le G->ft G p S->ab E O (ae G::az G b B::L)->k (p,P,()) O)/\ab E w (lc l 63 (ay aD p)::lc u 63 [.string ⟨#[]⟩,sv au,iv 0]::az F b B::ae F::L)) (λP w hs=>?_) λJ hJ=>?_
 .obtain⟨p,S,N,pV,vg,h⟩:=hs
  obtain⟨p1,p2,p3,⟨⟩⟩:=p
  obtain⟨q1,q2,q3⟩:=N
  refine ao λ_=>?_
  refine ld (t:=61) (x:=p2) (b:=l) (off:=1) h ?_
  refine ta (T:=61) (ls:=dj) h q2 om λs' w h=>?_
  refine st (t:=61) (b:=l) (off:=1) h λw h=>?_
  refine bN (t:=63) (ls:=aD) (x:=(p1,s',p3,())) (b:=l) h ?_
  refine bU (t:=63) (b:=u) h (λw h=>?_)
  refine nr (ls:=aD) (x:=(p1,s',p3,())) (y:=P) h ?_
  obtain⟨G,hG,h,v⟩:=dT (T:=61) (ls:=dj) (s:=s') (F:=F) h
  have h:=jG (h.pick (A:=az F b B) pK) hG
  exact vg G _ _ hG ⟨q1,v,q3⟩ (h.sub sS)
 refine aq ?_
 refine ld (t:=99) (x:=some m) (b:=b) (off:=3) h ?_
 refine kL (kl:=.str) (vl:=.leaf .ptr) (K:=9) (V:=116) (x:=nm) (z:=(none:Option Addr)) kK gi kK (h.pick (A:=bS m o n) pK) .head ?_
 cases v:B.aJ nm with
 |none=>
  rw[v]at f
  rw[X.no _ v]
  refine dw (x:=false) kK ?_
  refine ar rfl ?_
  have h:=C (.refl _) (h.sub (M:=bY b B.seq B.time B.aM m::bS m o n::bO bq c::ae F::lc l 63 [.string ⟨#[]⟩,sv au,iv 0]::lc u 63 [.string ⟨#[]⟩,sv au,iv 0]::L) sS)
  exact hJ _ _ ⟨(⟨#[]⟩,au,0,()),jA,⟨rfl,.nil,rfl⟩,by decide,f,h.sub sS⟩
 |some T=>
  rw[v]at f
  obtain⟨i,hi,hn,jQ,hR⟩:=X.so _ _ v
  have hz:=hZ _ _ v
  have Q:=hR.df.len
  rw[jQ]
  refine dw (x:=true) kK ?_
  refine aR rfl ?_
  have h:=(h.pick (A:=bO bq c) pK).ri hi
  have h:=ox h
  have z8:c[i].ds.len=T.defs.length:=by
   have:=fR (h.pick (A:=OS 112 bC c[i].ds c[i].bB) pK) dE
   rw[this,Q]
  have tw:=hz.dl
  refine aq ?_
  refine ld (t:=112) (x:=c[i].ds) (b:=c[i].b) (off:=0) h ?_
  simp only[z8]
  refine cy (S:=Int×Int) (cf:=λs=>s.2) T.defs.length rfl (λj s w=>s.1=ML (si (T.defs.take j) t)/\∃p,ft F p (Qi (si (T.defs.take j) t))/\ab E w (lc l 63 (ay aD p)::dG c[i].b c[i].ds c[i].m::OS 112 bC c[i].ds c[i].bB::bG .str bH c[i].m c[i].es c[i].ck::bO bq (c.eraseIdx i)::lc u 63 [.string ⟨#[]⟩,sv au,iv 0]::bY b B.seq B.time B.aM m::bS m o n::ae F::L)) rfl ⟨rfl,(⟨#[]⟩,au,0,()),⟨rfl,.nil,rfl⟩,h.sub sS⟩ ?_ ?_
  .rintro next ⟨P,_⟩ w j hj rfl ⟨rfl,p,N,h⟩ D
   have H:j<c[i].bB.length:=om
   obtain⟨sa,sc⟩:=hR.df.get j H hj
   have R:=aaM (T.defs.take j) T.defs[j] t
   rw[<-lT hj]at R
   refine br (λ(U:Int) w=>U=ML (si (T.defs.take (j+1)) t)/\∃p,ft F p (Qi (si (T.defs.take (j+1)) t))/\ab E w (lc l 63 (ay aD p)::dG c[i].b c[i].ds c[i].m::OS 112 bC c[i].ds c[i].bB::bG .str bH c[i].m c[i].es c[i].ck::bO bq (c.eraseIdx i)::lc u 63 [.string ⟨#[]⟩,sv au,iv 0]::bY b B.seq B.time B.aM m::bS m o n::ae F::L)) (λU w hs=>?_) λJ2 g=>?_
   .exact ao λ_=>D _ _ (bV hj om) hs
   refine eO (T:=112) (ls:=bC) (xs:=c[i].bB) (i:=j) h pK H (λa ha=>?_) rfl
   refine oV (T:=112) (ls:=bC) (xs:=c[i].bB) (i:=j) h pK ha H ?_
   generalize Zx:c[i].bB[j]=r at*
   obtain⟨r1,r2,r3,r4,⟨⟩⟩:=r
   simp only at sa
   refine al h λI w h=>?_
   refine bU (t:=191) (b:=I) h (λw h=>?_)
   refine ld (t:=3) (x:=r1) (b:=I) (off:=0) h ?_
   rw[R]at g
   refine ax (λhd=>?_) (λhd=>?_)
   .have hle:(r1:Int)<=t:=cT hd
    rw[ak om]at g
    refine fK (t:=63) (ls:=aD) (b:=I) (off:=1) (x:=(r2,r3,r4,())) h ?_
    refine bU (t:=63) (b:=l) h (λw h=>?_)
    exact g _ _ ⟨rfl,(r2,r3,r4,()),sc,h.sub sS⟩
   .have hle:¬(r1:Int)<=t:=cF hd
    rw[ai om]at g
    exact g _ _ ⟨rfl,p,N,h.sub sS⟩
  .rintro⟨P,_⟩ w ⟨rfl,p,N,h⟩
   rw[cB]at N⊢
   have h:=mm (t:=c[i]) (h.sub (M:=dG c[i].b c[i].ds c[i].m::OS 112 bC c[i].ds c[i].bB::bG .str bH c[i].m c[i].es c[i].ck::bO bq (c.eraseIdx i)::lc l 63 (ay aD p)::lc u 63 [.string ⟨#[]⟩,sv au,iv 0]::bY b B.seq B.time B.aM m::bS m o n::ae F::L) sS)
   have h:=sY hi h
   have h:=C (.refl _) (h.sub (M:=bY b B.seq B.time B.aM m::bS m o n::bO bq c::ae F::lc l 63 (ay aD p)::lc u 63 [.string ⟨#[]⟩,sv au,iv 0]::L) sS)
   refine hJ _ _ ⟨p,_,N,?_,?_,h.sub sS⟩
   .cases W:si T.defs t with
    |none=>decide
    |some d=>
     have:d∈T.defs:=(List.mem_filter.1 (ux W)).1
     exact hS _ _ v d this
   .have W8:AS T t=(si T.defs t).map (·.2):=rfl
    simp only[W8]at f
    cases W:si T.defs t with
    |none=>rw[W]at f;exact f
    |some d=>rw[W]at f;exact f
theorem cw.O3 {α β:Type} {R:α->β->Prop}:∀{l:List α} {m:List β},l.length=m.length->(∀q (c:q<l.length) (d:q<m.length),R l[q] m[q])->cw R l m
 |[],[],_,_=>.nil
 |[],b::m,h,_=>by simp at h
 |a::l,[],h,_=>by simp at h
 |a::l,b::m,h,e=>.cons (e 0 sI sI) (cw.O3 (by simpa using h) λq c d=>e (q+1) (by simpa using c) (by simpa using d))
theorem IH (hr:dk r):dk (gy S r):=by
 have a:dk ([]:Row):=⟨sI,λv c=>by cases c⟩
 unfold gy jq
 by_cases b:dK S=true
 .rw[ak b]
  split
  .split
   .exact Rb hr (mb b).2.2.2
   .exact a
  .exact a
 .rw[ai b];exact a
def pY (B:b9) (nm k:ByteArray):List Vn:=match B.aJ nm with
 |none=>[]
 |some T=>(T.keys k).getD []
def ie (B:b9) (nm k:ByteArray) (t:Int):List Pc:=(cK (pY B nm k) t).map (kR (gy (cC B nm t).2))
def nb (B:b9) (nm:ByteArray) (d:Sp):Int:=if cA d=false then 1 else if d.1<B.aM then 15 else if d.2.1>B.time+1 then 16 else match B.aJ nm with
 |none=>18
 |some _=>0
def uP (B:b9) (nm k:ByteArray) (d:Sp):List St:=match B.aJ nm with
 |none=>[]
 |some T=>oR (((T.keys k).getD []).map (gn (gy (dv T)))) d
theorem TD {B:b9} (h:ab E w (ae F::az F b B::L)) (hZ:dN B.aJ) (hS:∀y T,B.aJ y=some T->∀d∈T.defs,d.2.2.1.length<=1000)
  (wO:(cC B nm t).1≠0->∀G O,F.le G->ab E O (ae G::az G b B::L)->k (au,(cC B nm t).1,()) O)
  (Z:(cC B nm t).1=0->∀G s O,F.le G->eV G s (ie B nm kx t)->ab E O (ae G::az G b B::L)->k (s,0,()) O):CL 128 #[.pointer (some ⟨b,0,none⟩),.string nm,.string kx,iv t] (.aG [.leaf .slice,.leaf (.int .i64)]) k w:=by
 refine acH ?_
 refine Cs h hZ hS λG p w hG hp h=>?_
 refine al h λl w h=>?_
 refine bU (t:=63) (b:=l) h (λw h=>?_)
 refine ax (λhc=>?_) (λhc=>?_)
 .have mB:(cC B nm t).1≠0:=by simpa using hc
  exact wO mB G w hG (h.sub sS)
 have H:(cC B nm t).1=0:=by simpa using hc
 replace Z:=Z H
 obtain⟨m,I,J,c,hT,h⟩:=ko (h.pick (A:=az G b B) pK)
 have iH:∀{P:bh} {w:World} {M:List aK},G.le P->ab E w (bY b B.seq B.time B.aM m::bS m J I::bO bq c::M)->ab E w (az P b B::M):=λu h=>jb (b:=b) (B:=B) (hT.up u) h
 obtain⟨T,Q⟩:∃T,B.aJ nm=some T:=by
  cases Q:B.aJ nm with
  |some T=>exact⟨T,rfl⟩
  |none=>
   unfold cC at H
   rw[Q]at H
   by_cases hw:fz B.time B.aM t≠0
   .rw[ak hw]at H;exact absurd H hw
   .rw[ai hw]at H;cases H
 obtain⟨i,hi,hn,jQ,hR⟩:=hT.so _ _ Q
 have hz:=hZ _ _ Q
 have YS:pY B nm kx=(T.keys kx).getD []:=by unfold pY;rw[Q]
 have R:kY ((T.keys kx).getD []):=by
  cases hq:T.keys kx with
  |none=>exact⟨sI,λv hv=>by cases hv⟩
  |some vs=>exact(hz.ky _ _ hq).1
 refine aq ?_
 refine ld (t:=99) (x:=some m) (b:=b) (off:=3) h ?_
 refine kL (kl:=.str) (vl:=.leaf .ptr) (K:=9) (V:=116) (x:=nm) (z:=(none:Option Addr)) kK gi kK (h.pick (A:=bS m J I) pK) .head ?_
 rw[jQ]
 have h:=(h.pick (A:=bO bq c) pK).ri hi
 have h:=ox h
 refine aq ?_
 refine ld (t:=113) (x:=some c[i].m) (b:=c[i].b) (off:=1) h ?_
 refine kL (kl:=.str) (vl:=bH) (K:=9) (V:=109) (x:=kx) (z:=au) kK gi kK (h.pick (A:=bG .str bH c[i].m c[i].es c[i].ck) pK) .head ?_
 have h:=mm (t:=c[i]) (h.sub (M:=dG c[i].b c[i].ds c[i].m::OS 112 bC c[i].ds c[i].bB::bG .str bH c[i].m c[i].es c[i].ck::bO bq (c.eraseIdx i)::bY b B.seq B.time B.aM m::bS m J I::lc l 63 (ay aD p)::ae G::L) sS)
 have h:=sY hi h
 refine Cp (F:=G) (h.pick (A:=ae G) pK) (hR.ky.look kx) R λP s2 w u pX h=>?_
 have WX:ie B nm kx t=(cK ((T.keys kx).getD []) t).map (kR (gy (cC B nm t).2)):=by unfold ie;rw[YS]
 rw[WX]at Z
 have D:=wh R t
 generalize cK ((T.keys kx).getD []) t=ps at*
 generalize (cC B nm t).2=S at*
 obtain⟨rs,U,W⟩:=pX
 have jl:=W.len
 have pV:=D.len
 have yq:s2.len=ps.length:=by rw[U.2,jl]
 simp only[yq]
 refine cy (S:=Sl×Int) (cf:=λs=>s.2) ps.length rfl (λj s w=>∃C e,P.le C/\cw (iu C) e ((ps.take j).map (kR (gy S)))/\ab E w (OS 45 av s.1 e::bY b B.seq B.time B.aM m::bS m J I::bO bq c::lc l 63 (ay aD p)::ae C::L)) rfl ⟨P,[],.refl _,.nil,fm (h.sub sS)⟩ ?_ ?_
 .rintro next ⟨o,_⟩ w j hj rfl ⟨C,e,g,f,h⟩ N
  have h:ab E w (OS 45 av o e::bY b B.seq B.time B.aM m::bS m J I::bO bq c::lc l 63 (ay aD p)::ae C::L):=h
  have bl:=f.len
  rw[bW,cn]at bl
  have X:j<rs.length:=om
  have C7:=eK _ _ _ _ (g) (W.get j X hj)
  refine ix (T:=45) (ls:=av) (i:=j) (U.up g) X (λa ha=>?_)
  refine fJ h ?_
  refine al h λY w h=>?_
  refine bU (t:=50) (b:=Y) h (λw h=>?_)
  refine bN (t:=63) (ls:=aD) (x:=p) (b:=l) h ?_
  refine bN (t:=50) (ls:=av) (x:=rs[j]) (b:=Y) h ?_
  refine KC (F:=C) (S:=S) (q:=ps[j]) (h.pick (A:=ae C) pK) (hp.up (u.trans g)) C7 (D.row _ (cp hj)) λG4 r' w n Hf h=>?_
  refine bJ (T:=45) (ls:=av) (y:=r') h λdx w _ h=>?_
  refine eA (T:=45) (ls:=av) (xs:=e) h om λo' w h=>?_
  refine N _ _ (bV hj om) ⟨G4,e++[r'],g.trans n,?_,h.sub sS⟩
  rw[lT hj,fe]
  exact(f.imp λr d hh=>eK _ _ _ _ n hh).app (.one Hf)
 .rintro⟨o,_⟩ w ⟨C,e,g,f,h⟩
  have h:ab E w (OS 45 av o e::bY b B.seq B.time B.aM m::bS m J I::bO bq c::lc l 63 (ay aD p)::ae C::L):=h
  rw[cB]at f
  obtain⟨G4,n,h,r9⟩:=dT (T:=45) (ls:=av) (s:=o) (F:=C) h
  have h:=iH ((u.trans g).trans n) (h.sub (M:=bY b B.seq B.time B.aM m::bS m J I::bO bq c::ae G4::L) sS)
  exact Z G4 o w (((hG.trans u).trans g).trans n) ⟨e,r9,f.imp λr d hh=>eK _ _ _ _ n hh⟩ (h.sub sS)
theorem Kr {B:b9} (h:ab E w (ae F::az F b B::L)) (hZ:dN B.aJ) (Da:-1<=B.time/\B.time<=1000000000000000)
  (wO:nb B nm d≠0->∀w',ab E w' (ae F::az F b B::L)->k (au,nb B nm d,()) w')
  (hk:nb B nm d=0->∀G s w',F.le G->EX G s (uP B nm kx d)->ab E w' (ae G::az G b B::L)->k (s,0,()) w'):CL 130 #[.pointer (some ⟨b,0,none⟩),.string nm,.string kx,ag aC d] (.aG [.leaf .slice,.leaf (.int .i64)]) k w:=by
 obtain⟨p,C,⟨⟩⟩:=d
 obtain⟨m,P,Q,c,hT,h⟩:=ko (h.pick (A:=az F b B) pK)
 have iH:∀{G2:bh} {w:World} {M:List aK},F.le G2->ab E w (bY b B.seq B.time B.aM m::bS m Q P::bO bq c::M)->ab E w (az G2 b B::M):=λnX h=>jb (b:=b) (B:=B) (hT.up nX) h
 have g:∀(e:Int) w (M:List aK),nb B nm (p,C,())=e->e≠0->ab E w (bY b B.seq B.time B.aM m::bS m Q P::bO bq c::ae F::L)->k (au,e,()) w:=λe w M he mB h=>by
  have h:=iH (.refl _) h
  have:=wO (by rw[he];exact mB) w (h.sub sS)
  rwa[he]at this
 refine acK ?_
 refine bx h λR w h=>?_
 refine dw (x:=false) kK ?_
 refine ar rfl ?_
 refine bN (t:=39) (ls:=aC) (x:=(p,C,())) (b:=R) h ?_
 refine qM h λw h=>?_
 refine ax (λD=>?_) (λD=>?_)
 .refine g 1 w [] ?_ dE (h.sub sS)
  unfold nb;rw[ak (nT D)]
 have U:=nF D
 refine dr h λw h=>?_
 refine ld (t:=3) (x:=p) (b:=R) (off:=0) h ?_
 refine aq ?_
 refine ld (t:=3) (x:=B.aM) (b:=b) (off:=2) h ?_
 refine lk (t:=3) (b:=R) (off:=0) h ?_
 refine lk (t:=3) (b:=b) (off:=2) h ?_
 refine ax (λD=>?_) (λD=>?_)
 .have h1:(p:Int)<B.aM:=cT D
  refine g 15 w [] ?_ dE (h.sub sS)
  unfold nb;rw[ai (by rw[U];simp),ak h1]
 have h1:¬(p:Int)<B.aM:=cF D
 refine dr h λw h=>?_
 refine ld (t:=3) (x:=C) (b:=R) (off:=1) h ?_
 refine aq ?_
 refine ld (t:=3) (x:=B.time) (b:=b) (off:=1) h ?_
 refine lk (t:=3) (b:=R) (off:=1) h ?_
 refine lk (t:=3) (b:=b) (off:=1) h ?_
 have ew:w6 (B.time+1)=B.time+1:=bQ (by have:=Da.1;have:=Da.2;omega)
 rw[ew]
 refine ax (λD=>?_) (λD=>?_)
 .have W:(C:Int)>B.time+1:=cT D
  refine g 16 w [] ?_ dE (h.sub sS)
  unfold nb;rw[ai (by rw[U];simp),ai h1,ak W]
 have W:¬(C:Int)>B.time+1:=cF D
 have MB:nb B nm (p,C,())=match B.aJ nm with|none=>18|some _=>0:=by unfold nb;rw[ai (by rw[U];simp),ai h1,ai W]
 refine aq ?_
 refine ld (t:=99) (x:=some m) (b:=b) (off:=3) h ?_
 refine kL (kl:=.str) (vl:=.leaf .ptr) (K:=9) (V:=116) (x:=nm) (z:=(none:Option Addr)) kK gi kK (h.pick (A:=bS m Q P) pK) .head ?_
 cases hf:B.aJ nm with
 |none=>
  rw[hT.no _ hf]
  refine dw (x:=true) kK ?_
  refine aR rfl ?_
  refine g 18 w [] ?_ dE (h.sub sS)
  rw[MB,hf]
 |some T=>
  have WY:nb B nm (p,C,())=0:=by rw[MB,hf]
  replace hk:=hk WY
  have WZ:uP B nm kx (p,C,())=oR (((T.keys kx).getD []).map (gn (gy (dv T)))) (p,C,()):=by unfold uP;rw[hf]
  rw[WZ]at hk
  obtain⟨i,hi,hn,jQ,hR⟩:=hT.so _ _ hf
  have hz:=hZ _ _ hf
  have tw:=hR.df.len
  have Ap:=hz.dl
  obtain⟨AN,r0,yc,X,er,ed,ajL,qR⟩:=cw.AW hR.df hz.ne
  have Y:dv T=X.2:=by
   have:T=⟨yc++[X],T.keys⟩:=by rw[<-ed]
   rw[this];unfold dv;rw[wZ]
  rw[Y]at hk
  have jl:c[i].bB.length=AN.length+1:=by rw[er];simp
  have Z:c[i].bB[c[i].bB.length-1]'om=r0:=by
   have:c[i].bB.length-1=AN.length:=om
   simp only[this,er];simp
  have vj:kY ((T.keys kx).getD [])/\((T.keys kx).getD []).length<=50000000:=by
   cases hq:T.keys kx with
   |none=>exact⟨⟨sI,λv hv=>by cases hv⟩,sI⟩
   |some vs=>exact hz.ky _ _ hq
  rw[jQ]
  refine dw (x:=false) kK ?_
  refine ar rfl ?_
  refine aq ?_
  refine ld (t:=99) (x:=some m) (b:=b) (off:=3) h ?_
  refine kL (kl:=.str) (vl:=.leaf .ptr) (K:=9) (V:=116) (x:=nm) (z:=(none:Option Addr)) kK gi kK (h.pick (A:=bS m Q P) pK) .head ?_
  rw[jQ]
  have h:=(h.pick (A:=bO bq c) pK).ri hi
  have h:=ox h
  refine aq ?_
  refine ld (t:=113) (x:=some c[i].m) (b:=c[i].b) (off:=1) h ?_
  refine kL (kl:=.str) (vl:=bH) (K:=9) (V:=109) (x:=kx) (z:=au) kK gi kK (h.pick (A:=bG .str bH c[i].m c[i].es c[i].ck) pK) .head ?_
  have YX:=hR.ky.look kx
  generalize (T.keys kx).getD []=vs at*
  generalize (dz fB kx c[i].es).getD au=sk at*
  obtain⟨rs,sa,sc⟩:=YX
  have O:=sc.len
  refine ta (T:=109) (ls:=bg) h sa om λo w h=>?_
  have oY:=fR h dE
  rw[O]at oY
  simp only[oY]
  refine cy (S:=Int) (cf:=λs=>s) vs.length rfl (λj _ w=>∃J f,F.le J/\f.length=vs.length/\(∀q (hq:q<f.length) (N:q<vs.length),jB J f[q] (if q<j then gn (gy X.2) vs[q]else vs[q]))/\ab E w (OS 109 bg o f::dG c[i].b c[i].ds c[i].m::OS 112 bC c[i].ds c[i].bB::bG .str bH c[i].m c[i].es c[i].ck::bO bq (c.eraseIdx i)::lc R 39 (ay aC (p,C,()))::bY b B.seq B.time B.aM m::bS m Q P::ae J::L)) rfl ⟨F,rs,.refl _,O,λq hq N=>by rw[ai om];exact sc.get q hq N,h.sub sS⟩ ?_ ?_
  .rintro next _ w j hj rfl ⟨J,f,H,C0,l,h⟩ Ai
   have I:j<f.length:=om
   have C7:=l j I hj
   rw[ai om]at C7
   have tz:=vj.1.row _ (cp hj)
   refine eO (T:=109) (ls:=bg) (xs:=f) (i:=j) h pK I (λa ha=>?_) rfl
   refine oV (T:=109) (ls:=bg) (xs:=f) (i:=j) h pK ha I ?_
   generalize N3:f[j]=r at*
   obtain⟨r1,r2,r3,r4,r5,⟨⟩⟩:=r
   obtain⟨v1,v2,vp⟩:=C7
   refine al h λt13 w h=>?_
   refine bU (t:=172) (b:=t13) h (λw h=>?_)
   refine dr h λw h=>?_
   refine fK (t:=50) (ls:=av) (b:=t13) (off:=2) (x:=(r3,r4,r5,())) h ?_
   refine xV (h.bF (A1:=dG c[i].b c[i].ds c[i].m) (A2:=OS 112 bC c[i].ds c[i].bB) pK pK) om om λw h=>?_
   rw[Z]
   refine j8 (t:=50) (b:=t13) (off:=2) (vs:=ay av (r3,r4,r5,())) h ?_
   refine KC (F:=J) (S:=X.2) (q:=vs[j].2.2) (h.pick (A:=ae J) pK) (qR.2.up H) vp tz λG4 r' w n Hf h=>?_
   obtain⟨x1,x2,x3,⟨⟩⟩:=r'
   refine eO (T:=109) (ls:=bg) (xs:=f) (i:=j) h pK I (λa ha=>?_) rfl
   refine ahp (T:=109) (ls:=bg) (xs:=f) (i:=j) (j:=2) (vs:=ay av (x1,x2,x3,())) (y:=(r1,r2,x1,x2,x3,())) h pK (ha.add 2) I (by rw[N3];rfl) (λw h=>?_)
   refine Ai _ _ (bV hj om) ⟨G4,f.set j (r1,r2,x1,x2,x3,()),H.trans n,by rw[xy];exact C0,λq hq N=>?_,h.sub sS⟩
   rw[xy]at hq
   by_cases e:q=j
   .subst e
    rw[R0,ak om]
    exact⟨v1,v2,Hf⟩
   .rw[EO (yS e)]
    have:=gw _ _ _ _ n (l q hq N)
    by_cases dy:q<j
    .rw[ak dy]at this;rw[ak om];exact this
    .rw[ai dy]at this;rw[ai om];exact this
  .rintro _ w ⟨J,f,H,C0,l,h⟩
   have tv:cw (jB J) f (vs.map (gn (gy X.2))):=cw.O3 (by rw[bW];exact C0) λq h1 W=>by
    rw[bW]at W
    have:=l q h1 W
    rw[ak W]at this
    rw[qB];exact this
   obtain⟨G4,n,h,r9⟩:=dT (T:=109) (ls:=bg) (s:=o) (F:=J) h
   have Db:jv G4 o (vs.map (gn (gy X.2))):=⟨f,r9,tv.imp λr d hh=>gw _ _ _ _ n hh⟩
   have Hr:kY (vs.map (gn (gy X.2))):=⟨by rw[bW];exact vj.1.len,λv hv=>by
    obtain⟨u,hu,rfl⟩:=List.mem_map.1 hv
    exact IH (vj.1.row u hu)⟩
   refine bN (t:=39) (ls:=aC) (x:=(p,C,())) (b:=R) h ?_
   refine TU (F:=G4) (h.pick (A:=ae G4) pK) Db Hr (by rw[bW];omega) λG5 s5 w wJ C8 h=>?_
   have h:=mm (t:=c[i]) (h.sub (M:=dG c[i].b c[i].ds c[i].m::OS 112 bC c[i].ds c[i].bB::bG .str bH c[i].m c[i].es c[i].ck::bO bq (c.eraseIdx i)::bY b B.seq B.time B.aM m::bS m Q P::ae G5::L) sS)
   have h:=sY hi h
   have h:=iH ((H.trans n).trans wJ) (h.sub (M:=bY b B.seq B.time B.aM m::bS m Q P::bO bq c::ae G5::L) sS)
   exact hk G5 s5 w ((H.trans n).trans wJ) C8 (h.sub sS)
attribute [local irreducible] az
abbrev Rw:=ByteArray×Int×Int×Pc
def vz (F:bh) (r:bK gd) (x:Rw):Prop:=r.1=x.1/\r.2.1=x.2.1/\r.2.2.1=x.2.2.1/\iu F (r.2.2.2.1,r.2.2.2.2.1,r.2.2.2.2.2.1,()) x.2.2.2
theorem sD:uM vz:=λF G r a b ⟨c,d,e,f⟩=>⟨c,d,e,eK _ _ _ _ b f⟩
abbrev mU (F:bh) (s:Sl) (l:List Rw):Prop:=NL F gd vz s l
def gI (k:ByteArray) (a b:Int) (ps:List Pc):List Rw:=ps.map λp=>(k,a,b,p)
def mI (k:ByteArray) (l:List St):List Rw:=l.flatMap λs=>gI k s.1 s.2.1 s.2.2
theorem MU (f:α->List β) (xs:List α) (i:Nat) (hi:i<xs.length):((xs.take i).flatMap f).length+(f xs[i]).length<=(xs.flatMap f).length/\(xs.take (i+1)).flatMap f=(xs.take i).flatMap f++f xs[i]:=by
 have e:xs.take (i+1)=xs.take i++[xs[i]]:=lT hi
 refine⟨?_,by rw[e,gM];simp⟩
 have a:xs.flatMap f=(xs.take (i+1)).flatMap f++(xs.drop (i+1)).flatMap f:=by rw[<-gM,oq]
 rw[a,e,gM]
 simp
theorem Ks {k:Sl->Pr} (h:ab E w (ae F::L)) (hs:EX F s kQ) (hn:kQ.length<=100000000) (hp:∀q∈kQ,q.2.2.length<=100000000) (hr:(mI kx kQ).length<=100000000)
  (hk:∀G o Z,F.le G->mU G o (mI kx kQ)->ab E Z (ae G::L)->k o Z):CL 131 #[.string kx,sv s] aE k w:=by
 obtain⟨rs,h1,h2⟩:=hs
 have O:=h2.len
 have P:s.len=kQ.length:=by rw[h1.2,O]
 refine acL ?_
 simp only[P]
 refine cy (S:=Sl×Int) (cf:=λs=>s.2) kQ.length rfl (λj st w=>∃f,cw (vz F) f (mI kx (kQ.take j))/\ab E w (OS 30 gd st.1 f::ae F::L)) rfl ⟨[],.nil,fm h⟩ ?_ ?_
 .rintro next ⟨o,_⟩ w j M rfl ⟨f,e,h⟩ g
  have h:ab E w (OS 30 gd o f::ae F::L):=h
  have n:j<rs.length:=om
  obtain⟨q1,q2,q3⟩:=h2.get j n M
  obtain⟨u,m⟩:=MU (λs:St=>gI kx s.1 s.2.1 s.2.2) kQ j M
  have m:mI kx (kQ.take (j+1))=mI kx (kQ.take j)++gI kx kQ[j].1 kQ[j].2.1 kQ[j].2.2:=m
  have u:(mI kx (kQ.take j)).length+(gI kx kQ[j].1 kQ[j].2.1 kQ[j].2.2).length<=(mI kx kQ).length:=u
  rw[m]at g
  have pV:=hp _ (cp M)
  generalize kQ[j]=c at*
  generalize mI kx (kQ.take j)=A at*
  refine ix (T:=208) (ls:=av) (i:=j) h1 n (λa ha=>?_)
  refine fJ h ?_
  generalize rs[j]=r at*
  obtain⟨r1,r2,N,⟨⟩⟩:=r
  simp only at q1 q2 q3
  subst q1 q2
  refine al h λv w h=>?_
  refine bU (t:=240) (b:=v) h (λw h=>?_)
  refine ld (t:=45) (x:=N) (b:=v) (off:=2) h ?_
  obtain⟨ps,z,C⟩:=q3
  have D:=C.len
  have Q:N.len=c.2.2.length:=by rw[z.2,D]
  simp only[Q]
  have H:(gI kx c.1 c.2.1 c.2.2).length=c.2.2.length:=by unfold gI;rw[bW]
  refine cy (S:=Sl×Int) (cf:=λs=>s.2) c.2.2.length rfl (λq st w=>∃f,cw (vz F) f (A++(gI kx c.1 c.2.1 c.2.2).take q)/\ab E w (OS 30 gd st.1 f::lc v 240 (ay av (c.1,c.2.1,N,()))::ae F::L)) rfl ⟨f,by simpa using e,h.sub sS⟩ ?_ ?_
  .rintro R ⟨o,_⟩ w q hq rfl ⟨f,e,h⟩ l
   have h:ab E w (OS 30 gd o f::lc v 240 (ay av (c.1,c.2.1,N,()))::ae F::L):=h
   have I:q<ps.length:=om
   have J:=C.get q I hq
   have K:=e.len
   rw[aU,cn]at K
   refine ix (T:=45) (ls:=av) (i:=q) z I (λa ha=>?_)
   refine fJ h ?_
   have hx:(gI kx c.1 c.2.1 c.2.2).take (q+1)=(gI kx c.1 c.2.1 c.2.2).take q++[(kx,c.1,c.2.1,c.2.2[q])]:=by
    rw[lT om];unfold gI;simp
   generalize ps[q]=p at*
   generalize c.2.2[q]=pc at*
   obtain⟨U,V,W,⟨⟩⟩:=p
   refine al h λX w h=>?_
   refine bU (t:=50) (b:=X) h (λw h=>?_)
   refine fK (t:=39) (ls:=aC) (b:=v) (off:=0) (x:=(c.1,c.2.1,())) h ?_
   refine fK (t:=39) (ls:=aC) (b:=X) (off:=0) (x:=(U,V,())) h ?_
   refine ld (t:=28) (x:=W) (b:=X) (off:=2) h ?_
   refine bJ (T:=30) (ls:=gd) (y:=(kx,c.1,c.2.1,U,V,W,())) h λdx w _ h=>?_
   refine eA (T:=30) (ls:=gd) (xs:=f) h om λo' w h=>?_
   refine l _ _ (bV hq om) ⟨f++[(kx,c.1,c.2.1,U,V,W,())],?_,h.sub sS⟩
   rw[hx,<-cP]
   exact e.app (.one ⟨rfl,rfl,rfl,J⟩)
  .rintro⟨o,_⟩ w ⟨f,e,h⟩
   rw[<-H,cB]at e
   exact g _ _ (bV M om) ⟨f,e,h.sub sS⟩
 .rintro⟨o,_⟩ w ⟨f,e,h⟩
  rw[cB]at e
  obtain⟨G,hG,h,Y⟩:=dT (T:=30) (ls:=gd) (s:=o) (F:=F) h
  exact hk G o w hG ⟨f,Y,e.imp λr d hh=>sD _ _ _ _ hG hh⟩ (h.sub sS)
noncomputable def iX (B:b9) (nm:ByteArray) (t:Int):List Rw:=match B.aJ nm with
 |none=>[]
 |some T=>(ir T.keys).flatMap λa=>gI a 0 0 (ie B nm a t)
abbrev qT (nm:ByteArray) (t:Int):uO:=(1,nm,au,t,0,0,0,au,au,0,false,())
theorem VN {B:b9} (h:ab E w (ae F::az F b B::L)) (hZ:dN B.aJ) (hN:lu B.aJ) (hS:∀y T,B.aJ y=some T->∀d∈T.defs,d.2.2.1.length<=1000) (h0:(cC B nm t).1=0)
  (hp:∀c,(ie B nm c t).length<=100000000) (hr:(iX B nm t).length<=100000000)
  (Y:∀G o w',F.le G->mU G o (iX B nm t)->ab E w' (ae G::az G b B::L)->k (o,0,()) w'):CL 91 #[.pointer (some ⟨b,0,none⟩),ag bR (qT nm t)] (.aG [.leaf .slice,.leaf (.int .i64)]) k w:=by
 refine agH ?_
 refine bx h λI w h=>?_
 refine ld (t:=9) (x:=nm) (b:=I) (off:=1) h ?_
 refine TC (F:=F) (b:=b) (B:=B) (h.bF (A1:=ae F) (A2:=az F b B) pK pK) hN (λZ w h=>?_) (λT l G sl w Z hl hG M h=>?_)
 .refine uA 0 ?_
  refine ao λ_=>?_
  refine ar rfl ?_
  have e:iX B nm t=[]:=by unfold iX;rw[Z]
  rw[e]at Y
  exact Y F au w (.refl _) ⟨[],.nil,.nil⟩ (h.sub sS)
 have N:iX B nm t=l.flatMap λc=>gI c 0 0 (ie B nm c t):=by unfold iX;rw[Z];show(ir T.keys).flatMap _=_;rw[<-hl.eq]
 have O:sl.len=l.length:=by rw[M.2,bW]
 have wR:l.length<=1000000:=by
  obtain⟨ks,q1,q2⟩:=hN.k _ _ Z
  have:=lL hl.1.nodup (m:=ks) λy hy=>by
   obtain⟨v,hv⟩:=Option.isSome_iff_exists.1 ((hl.2 y).1 hy)
   exact q2 y v hv
  omega
 rw[N]at hr Y
 simp only[O]
 refine cy (S:=Sl×Int) (cf:=λs=>s.2) l.length rfl (λj st w=>∃n g,G.le n/\cw (vz n) g ((l.take j).flatMap λc=>gI c 0 0 (ie B nm c t))/\ab E w (OS 30 gd st.1 g::ae n::az n b B::lc I 43 (ay bR (qT nm t))::L)) rfl ⟨G,[],.refl _,.nil,fm (h.sub sS)⟩ ?_ ?_
 .rintro next ⟨o,_⟩ w j hj rfl ⟨n,g,D,f,h⟩ C
  have h:ab E w (OS 30 gd o g::ae n::az n b B::lc I 43 (ay bR (qT nm t))::L):=h
  obtain⟨u9,wN⟩:=MU (λc=>gI c 0 0 (ie B nm c t)) l j hj
  rw[wN]at C
  have pV:=hp l[j]
  generalize (l.take j).flatMap (λc=>gI c 0 0 (ie B nm c t))=A at*
  refine ix (T:=204) (ls:=eL) (i:=j) (M.up D) (by simpa using hj) (λa ha=>?_)
  refine nU (x:=l[j]) h ?_ (ha:=ha) (hc:=by simp;rfl)
  refine ld (t:=9) (x:=nm) (b:=I) (off:=1) h ?_
  refine ld (t:=3) (x:=t) (b:=I) (off:=3) h ?_
  refine TD (F:=n) (b:=b) (B:=B) (h.bF (A1:=ae n) (A2:=az n b B) pK pK) hZ hS (λmB=>absurd h0 mB) (λ_ J s3 w u tE h=>?_)
  have f:=f.imp λr d hh=>sD _ _ _ _ u hh
  generalize l[j]=c at*
  obtain⟨ps,P,Q⟩:=tE
  have R:=Q.len
  have Zt:s3.len=(ie B nm c t).length:=by rw[P.2,R]
  simp only[Zt]
  have U:(gI c 0 0 (ie B nm c t)).length=(ie B nm c t).length:=by unfold gI;rw[bW]
  generalize ie B nm c t=z at*
  refine cy (S:=Sl×Int) (cf:=λs=>s.2) z.length rfl (λq st w=>∃g,cw (vz J) g (A++(gI c 0 0 z).take q)/\ab E w (OS 30 gd st.1 g::ae J::az J b B::lc I 43 (ay bR (qT nm t))::L)) rfl ⟨g,by simpa using f,h.sub sS⟩ ?_ ?_
  .rintro w8 ⟨o,_⟩ w q hq rfl ⟨g,f,h⟩ H
   have h:ab E w (OS 30 gd o g::ae J::az J b B::lc I 43 (ay bR (qT nm t))::L):=h
   have V:q<ps.length:=om
   have W:=Q.get q V hq
   have X:=f.len
   rw[aU,cn]at X
   refine ix (T:=45) (ls:=av) (i:=q) P V (λa ha=>?_)
   refine fJ h ?_
   have hx:(gI c 0 0 z).take (q+1)=(gI c 0 0 z).take q++[(c,0,0,z[q])]:=by
    rw[lT om];unfold gI;simp
   generalize ps[q]=p at*
   generalize z[q]=pc at*
   obtain⟨p1,p2,p3,⟨⟩⟩:=p
   refine al h λK w h=>?_
   refine bU (t:=50) (b:=K) h (λw h=>?_)
   refine fK (t:=39) (ls:=aC) (b:=K) (off:=0) (x:=(p1,p2,())) h ?_
   refine ld (t:=28) (x:=p3) (b:=K) (off:=2) h ?_
   refine bJ (T:=30) (ls:=gd) (y:=(c,0,0,p1,p2,p3,())) h λdx w _ h=>?_
   refine eA (T:=30) (ls:=gd) (xs:=g) h om λo' w h=>?_
   refine H _ _ (bV hq om) ⟨g++[(c,0,0,p1,p2,p3,())],?_,h.sub sS⟩
   rw[hx,<-cP]
   exact f.app (.one ⟨rfl,rfl,rfl,W⟩)
  .rintro⟨o,_⟩ w ⟨g,f,h⟩
   rw[<-U,cB]at f
   exact C _ _ (bV hj om) ⟨J,g,D.trans u,f,h.sub sS⟩
 .rintro⟨o,_⟩ w ⟨n,g,D,f,h⟩
  have h:ab E w (OS 30 gd o g::ae n::az n b B::lc I 43 (ay bR (qT nm t))::L):=h
  rw[cB]at f
  obtain⟨J,u,h,r9⟩:=dT (T:=30) (ls:=gd) (s:=o) (F:=n) h
  have h:=jG (h.pick (A:=az n b B) pK) u
  exact Y J o w ((hG.trans D).trans u) ⟨g,r9,f.imp λr d hh=>sD _ _ _ _ u hh⟩ (h.sub sS)
def jM (B:b9) (nm a:ByteArray) (d:Sp):List St:=if nb B nm d=0 then uP B nm a d else[]
def jT (B:b9) (nm a:ByteArray):List Rw:=mI a (jM B nm a (B.aM,B.time+1,()))
abbrev qA (nm:ByteArray) (c:Sl) (a b:Int):uO:=(4,nm,c,0,0,a,b,au,au,0,false,())
abbrev iq (n:Nat):Value:=.func (.func n) #[] #[]
abbrev KV:=Value×Value×Unit
abbrev KN:=dd Int KV
def Hx:List KN:=[⟨1,(iq 90,iq 91,()),0⟩,⟨2,(iq 90,iq 92,()),1⟩,⟨3,(iq 93,iq 94,()),2⟩,⟨4,(iq 93,iq 95,()),3⟩]
abbrev Hy (m:Nat):aK:=bG (.int .i64) (.agg Y1) m Hx 4
theorem Kp {B:b9} {k:Int->Pr} (h:ab E w (az F b B::L)) (c:∀a,ab E a (az F b B::L)->k B.time a):CL 129 #[.pointer (some ⟨b,0,none⟩)] ah k w:=by
 obtain⟨m,f,g,d,e,h⟩:=ko h
 exact TF h λw h=>c w (jb e h)
theorem TG {B:b9} {k:Int->Pr} (h:ab E w (az F b B::L)) (c:∀a,ab E a (az F b B::L)->k B.aM a):CL 132 #[.pointer (some ⟨b,0,none⟩)] ah k w:=by
 obtain⟨m,f,g,d,e,h⟩:=ko h
 exact Kt h λw h=>c w (jb e h)
theorem VO (h:ab E w (ae F::az F b B0::L)) (t:dN B0.aJ) (g:-1<=B0.time/\B0.time<=1000000000000000) (hs:FL F aP ks r) (hr:dk r)
  (c:(jM B0 nm (B (keyOf r)) (d1,d2,())).length<=100000000) (d:∀q∈jM B0 nm (B (keyOf r)) (d1,d2,()),q.2.2.length<=100000000) (f:(mI (B (keyOf r)) (jM B0 nm (B (keyOf r)) (d1,d2,()))).length<=100000000)
  (j:∀G o u,F.le G->mU G o (mI (B (keyOf r)) (jM B0 nm (B (keyOf r)) (d1,d2,())))->ab E u (ae G::az G b B0::L)->k (o,nb B0 nm (d1,d2,()),()) u):CL 94 #[.pointer (some ⟨b,0,none⟩),ag bR (qA nm ks d1 d2)] (.aG [.leaf .slice,.leaf (.int .i64)]) k w:=by
 refine agJ ?_
 refine bx h λy w h=>?_
 refine ld h ?_
 refine c6 (h.pick (A:=ae F) pK) hs hr λw h=>?_
 refine ld h ?_
 refine fK h ?_
 by_cases i:nb B0 nm (d1,d2,())=0
 .have e:jM B0 nm (B (keyOf r)) (d1,d2,())=uP B0 nm (B (keyOf r)) (d1,d2,()):=by unfold jM;rw[ak i]
  rw[e]at c d f j
  refine Kr (h.bF (A1:=ae F) (A2:=az F b B0) pK pK) t g (λl=>absurd i l) (λ_ G s w v m h=>?_)
  refine Ks (h.pick (A:=ae G) pK) m c d f λn o w a p h=>?_
  have h:=jG (h.pick (A:=az G b B0) pK) a
  have:=j n o w (v.trans a) p (h.sub sS)
  rwa[i]at this
 .have e:jM B0 nm (B (keyOf r)) (d1,d2,())=[]:=by unfold jM;rw[ai i]
  rw[e]at c d f j
  refine Kr (h.bF (A1:=ae F) (A2:=az F b B0) pK pK) t g (λ_ w h=>?_) (λx=>absurd x i)
  refine Ks h ⟨[],.nil,.nil⟩ c d f λn o w a p h=>?_
  have h:=jG (h.pick (A:=az F b B0) pK) a
  exact j n o w a p (h.sub sS)
theorem VP (h:ab E w (ae F::az F b B0::L)) (i:dN B0.aJ) (a:-1<=B0.time/\B0.time<=1000000000000000) (hs:FL F aP ks r) (hr:dk r)
  (c:(jM B0 nm (B (keyOf r)) (B0.aM,B0.time+1,())).length<=100000000) (d:∀q∈jM B0 nm (B (keyOf r)) (B0.aM,B0.time+1,()),q.2.2.length<=100000000) (e:(jT B0 nm (B (keyOf r))).length<=100000000)
  (j:∀G o f,F.le G->mU G o (jT B0 nm (B (keyOf r)))->ab E f (ae G::az G b B0::L)->k (o,0,()) f):CL 95 #[.pointer (some ⟨b,0,none⟩),ag bR (qA nm ks 0 0)] (.aG [.leaf .slice,.leaf (.int .i64)]) k w:=by
 refine agK ?_
 refine bx h λg w h=>?_
 refine TG (h.pick (A:=az F b B0) pK) λw h=>?_
 refine Kp h λw h=>?_
 have l:w6 (B0.time+1)=B0.time+1:=bQ (by have:=a.1;have:=a.2;omega)
 rw[l]
 refine yJ (t:=39) (b:=g) (off:=5) h (λw h=>?_)
 refine bN (t:=43) (ls:=bR) (x:=qA nm ks B0.aM (B0.time+1)) (b:=g) h ?_
 refine VO (F:=F) (b:=b) (B0:=B0) (h.bF (A1:=ae F) (A2:=az F b B0) pK pK) i a hs hr c d e λG o w m n h=>?_
 exact j G o w m n (h.sub sS)
theorem wz {k:Option Nat->Pr} (h:ab E w L) (b:∀m a,ab E a (Hy m::L)->k (some m) a):CL 43 #[] cI k w:=by
 refine af1 ?_
 refine nP h λm w h=>?_
 rw[<-qf (kl:=.int .i64) (vl:=.agg Y1)]at h
 refine mw (kl:=.int .i64) (vl:=.agg Y1) (K:=3) (V:=123) (x:=(1:Int)) (v:=((iq 90,iq 91,()):KV)) kK j7 h .head λw h=>?_
 refine mw (kl:=.int .i64) (vl:=.agg Y1) (K:=3) (V:=123) (x:=(2:Int)) (v:=((iq 90,iq 92,()):KV)) kK j7 h .head λw h=>?_
 refine mw (kl:=.int .i64) (vl:=.agg Y1) (K:=3) (V:=123) (x:=(3:Int)) (v:=((iq 93,iq 94,()):KV)) kK j7 h .head λw h=>?_
 refine mw (kl:=.int .i64) (vl:=.agg Y1) (K:=3) (V:=123) (x:=(4:Int)) (v:=((iq 93,iq 95,()):KV)) kK j7 h .head λw h=>?_
 exact b m w h
def rm (B0:b9) (q:uO):Int:=if q.1=1 then q.2.2.2.1 else B0.time
def kg (q:uO) (e:Int):Int:=if e≠0/\q.1≠1 then 18 else e
theorem FW {k:nG×Int×Unit->Pr} (h:ab E w (ae F::az F b B0::L)) (hq:q.1=1\/q.1=4) (hZ:dN B0.aJ) (hS:∀y T,B0.aJ y=some T->∀d∈T.defs,d.2.2.1.length<=1000)
  (I:∀G p W,F.le G->ft G p (cC B0 q.2.1 (rm B0 q)).2->ab E W (ae G::az G b B0::L)->k (p,kg q (cC B0 q.2.1 (rm B0 q)).1,()) W):CL 41 #[.pointer (some ⟨b,0,none⟩),ag bR q] (.aG [.agg aD,.leaf (.int .i64)]) k w:=by
 obtain⟨a,j,N,f,O,P,Q,R,S,U,g,⟨⟩⟩:=q
 simp only at hq I
 refine afZ ?_
 refine bx h λZ w h=>?_
 refine al h λt4 w h=>?_
 rw[Eb]at h
 have X:∃r fb,dz my a Hx=some (iq r,iq fb,())/\(a=1/\r=90\/a=4/\r=93):=by
  rcases hq with rfl|rfl
  .exact⟨90,91,rfl,.inl ⟨rfl,rfl⟩⟩
  .exact⟨93,95,rfl,.inr ⟨rfl,rfl⟩⟩
 obtain⟨r,fb,jQ,GQ⟩:=X
 refine br (λ(s:Addr×Bool) w=>∃u:Nat,s=(⟨u,0,none⟩,true)/\ab E w (lc u 123 (ay Y1 (iq r,iq fb,()))::lc t4 63 [.string ⟨#[]⟩,sv au,iv 0]::lc Z 43 (ay bR (a,j,N,f,O,P,Q,R,S,U,g,()))::ae F::az F b B0::L)) (λs w Y=>?_) λJ hJ=>?_
 rotate_left
 .refine dr h λw h=>?_
  refine ld (t:=3) (x:=a) (b:=Z) (off:=0) h ?_
  have c:∀{M:List aK} {m:Nat} {w:World} {K:KV×Bool×Unit->Pr},ab E w (Hy m::M)->K ((iq r,iq fb,()),true,()) w->dQ prog (vN (Instr.lookup 124 (.map (some m)) (iv a) true)) (.aG [.agg Y1,.leaf .bool]) K w:=λh I=>by
   refine yj (kl:=.int .i64) (vl:=.agg Y1) (K:=3) (V:=123) (x:=a) (z:=((.nilFunc,.nilFunc,()):KV)) kK j7 kK h .head ?_
   rw[jQ];exact I
  refine⟨?_,?_⟩
  .refine wz h λm w h=>?_
   refine lk h ?_
   refine c h ?_
   refine al h λu w h=>?_
   refine lk h ?_
   refine lz (c (h.pick pK) rfl) ?_
   refine bU h (λw h=>?_)
   exact hJ _ _ ⟨u,rfl,h.sub sS⟩
  .refine al h λu w h=>?_
   refine lk h ?_
   refine wz h λm w h=>?_
   refine lk h ?_
   refine c h ?_
   refine bU h (λw h=>?_)
   exact hJ _ _ ⟨u,rfl,h.sub sS⟩
 obtain⟨u,rfl,h⟩:=Y
 refine ao λ_=>?_
 refine aL ?_
 refine ar rfl ?_
 refine ao λ_=>?_
 have ZZ:rm B0 (a,j,N,f,O,P,Q,R,S,U,g,())=if a=1 then f else B0.time:=rfl
 rw[ZZ]at I
 refine br (λ(s:Addr×Int) w=>∃(n:Nat) (G:bh) (p:nG),s=(⟨n,0,none⟩,(cC B0 j (if a=1 then f else B0.time)).1)/\F.le G/\ft G p (cC B0 j (if a=1 then f else B0.time)).2/\ab E w (lc n 63 (ay aD p)::lc t4 63 [.string ⟨#[]⟩,sv au,iv 0]::lc Z 43 (ay bR (a,j,N,f,O,P,Q,R,S,U,g,()))::ae G::az G b B0::L)) (λs w Y=>?_) λJ3 v=>?_
 .obtain⟨n,G,p,rfl,C,D,h⟩:=Y
  have YU:kg (a,j,N,f,O,P,Q,R,S,U,g,()) (cC B0 j (if a=1 then f else B0.time)).1=if(cC B0 j (if a=1 then f else B0.time)).1≠0/\a≠1 then 18 else(cC B0 j (if a=1 then f else B0.time)).1:=rfl
  rw[YU]at I
  generalize cC B0 j (if a=1 then f else B0.time)=sq at*
  refine ao λ_=>?_
  refine br (λ(e:Int) w=>e=(if sq.1≠0/\a≠1 then 18 else sq.1)/\ab E w (lc n 63 (ay aD p)::lc t4 63 [.string ⟨#[]⟩,sv au,iv 0]::lc Z 43 (ay bR (a,j,N,f,O,P,Q,R,S,U,g,()))::ae G::az G b B0::L)) (λe w Y=>?_) λJ4 H=>?_
  .obtain⟨rfl,h⟩:=Y
   refine ao λ_=>?_
   refine bN h ?_
   refine bU h (λw h=>?_)
   refine nr h ?_
   exact I G p _ C D (h.sub sS)
  .refine aL ?_
   refine ax ?_ ?_<;>intro hd
   .have mB:sq.1≠0:=by simpa using hd
    refine ld h ?_
    refine ao λ_=>?_
    refine aL ?_
    rcases hq with rfl|rfl
    .refine ar rfl ?_
     refine ao λ_=>?_
     refine ar rfl ?_
     exact H _ _ ⟨by rw[ai (λi=>i.2 rfl)],h⟩
    .refine aR rfl ?_
     refine ld h ?_
     refine ao λ_=>?_
     refine aR rfl ?_
     exact H _ _ ⟨by rw[ak ⟨mB,by decide⟩],h⟩
   .have h0:sq.1=0:=by simpa using hd
    refine ao λ_=>?_
    refine aL ?_
    refine ar rfl ?_
    refine ao λ_=>?_
    refine ar rfl ?_
    exact H _ _ ⟨by rw[ai (λi=>i.1 h0)],h⟩
 .have l:∀{M:List aK} {w:World} {K:Int->Pr},ab E w (az F b B0::M)->(∀W,ab E W (az F b B0::M)->K (if a=1 then f else B0.time) W)->oD prog (eW (iq r) #[.pointer (some ⟨b,0,none⟩),ag bR (a,j,N,f,O,P,Q,R,S,U,g,())]) ah K w:=λi o=>by
      rcases GQ with⟨e1,e2⟩|⟨e1,e2⟩
      .rw[e2]
       rw[ak e1]at o
       refine lH ?_
       refine agG ?_
       refine bx i λt w i=>?_
       refine ld i ?_
       exact o _ i.drop
      .rw[e2]
       rw[ai (by rw[e1];decide)]at o
       refine lH ?_
       refine agI ?_
       refine bx i λt w i=>?_
       refine Kp (i.pick (A:=az F b B0) pK) λw i=>?_
       exact o _ (i.sub sS)
  refine dr h λw h=>?_
  refine ld h ?_
  refine ld h ?_
  refine bN h ?_
  refine⟨?_,?_⟩
  .refine l (h.pick (A:=az F b B0) pK) λw h=>?_
   refine lk h ?_
   refine⟨?_,?_⟩
   .refine Cs (h.bF (A1:=ae F) (A2:=az F b B0) pK pK) hZ hS λG p w C D h=>?_
    refine al h λn w h=>?_
    refine bU h (λw h=>?_)
    exact v _ _ ⟨n,G,p,rfl,C,D,h.sub sS⟩
   .refine al h λn w h=>?_
    refine lk h ?_
    refine Cs (h.bF (A1:=ae F) (A2:=az F b B0) pK pK) hZ hS λG p w C D h=>?_
    refine bU h (λw h=>?_)
    exact v _ _ ⟨n,G,p,rfl,C,D,h.sub sS⟩
  .refine al h λn w h=>?_
   refine lk h ?_
   refine lk h ?_
   refine j8 h ?_
   refine l (h.pick (A:=az F b B0) pK) λw h=>?_
   refine lk h ?_
   refine Cs (h.bF (A1:=ae F) (A2:=az F b B0) pK pK) hZ hS λG p w C D h=>?_
   refine bU h (λw h=>?_)
   exact v _ _ ⟨n,G,p,rfl,C,D,h.sub sS⟩
structure Plain (q:uO):Prop where
 p7:q.2.2.2.2.2.2.2.1.len=0
 p8:q.2.2.2.2.2.2.2.2.1.len=0
 p9:q.2.2.2.2.2.2.2.2.2.1=0
 pa:q.2.2.2.2.2.2.2.2.2.2.1=false
theorem VM {k:Bool->Pr} (h:ab E w L) (e:∀d,ab E d L->k true d):CL 88 #[ag bR (qT nm t),ag aD p] aw k w:=by
 refine PV ?_
 refine bx h λc w h=>?_
 refine bx h λf w h=>?_
 refine dr h λw h=>?_
 refine ld (t:=3) (x:=t) (b:=c) (off:=3) h ?_
 refine ld (t:=3) (x:=(0:Int)) (b:=c) (off:=4) h ?_
 refine fK (t:=39) (ls:=aC) (b:=c) (off:=5) (x:=(0,0,())) h ?_
 refine yd (ls:=aC) (a:=((0,0,()):Sp)) (b:=((0,0,()):Sp)) ?_
 refine lk (t:=3) (b:=c) (off:=4) h ?_
 refine j8 (t:=39) (b:=c) (off:=5) (vs:=[iv 0,iv 0]) h ?_
 refine j8 (t:=39) (b:=c) (off:=5) (vs:=[iv 0,iv 0]) h ?_
 refine ld (t:=3) (x:=(1:Int)) (b:=c) (off:=0) h ?_
 refine aL ?_
 refine aL ?_
 refine ar rfl ?_
 refine aR rfl ?_
 refine ao λ_=>?_
 refine aL ?_
 refine aR rfl ?_
 refine ao λ_=>?_
 refine aL ?_
 refine aR rfl ?_
 refine ld (t:=28) (x:=au) (b:=c) (off:=2) h ?_
 refine ao λ_=>?_
 exact e _ (h.sub sS)
theorem VK {k:Bool->Pr} (h:ab E w (ae F::L)) (e:ft F p S) (hs:FL F aP ks r) (hr:dk r) (f:∀d,ab E d (ae F::L)->k (sf S r) d):CL 88 #[ag bR (qA nm ks 0 0),ag aD p] aw k w:=by
 refine PV ?_
 refine bx h λc w h=>?_
 refine bx h λg w h=>?_
 refine dr h λw h=>?_
 refine ld (t:=3) (x:=(0:Int)) (b:=c) (off:=3) h ?_
 refine ld (t:=3) (x:=(0:Int)) (b:=c) (off:=4) h ?_
 refine fK (t:=39) (ls:=aC) (b:=c) (off:=5) (x:=(0,0,())) h ?_
 refine yd (ls:=aC) (a:=((0,0,()):Sp)) (b:=((0,0,()):Sp)) ?_
 refine lk (t:=3) (b:=c) (off:=4) h ?_
 refine j8 (t:=39) (b:=c) (off:=5) (vs:=[iv 0,iv 0]) h ?_
 refine j8 (t:=39) (b:=c) (off:=5) (vs:=[iv 0,iv 0]) h ?_
 refine ld (t:=3) (x:=(4:Int)) (b:=c) (off:=0) h ?_
 refine aL ?_
 refine aL ?_
 refine ar rfl ?_
 refine ar rfl ?_
 refine ar rfl ?_
 refine aR rfl ?_
 refine ao λ_=>?_
 refine aL ?_
 refine aR rfl ?_
 refine ao λ_=>?_
 refine aL ?_
 refine aR rfl ?_
 refine ao λ_=>?_
 refine aL ?_
 refine aR rfl ?_
 refine bN (t:=63) (ls:=aD) (x:=p) (b:=g) h ?_
 refine ld (t:=28) (x:=ks) (b:=c) (off:=2) h ?_
 refine TB (F:=F) (h.pick (A:=ae F) pK) e hs hr λw h=>?_
 refine ao λ_=>?_
 exact f _ (h.sub sS)
theorem LB {k:Bool->Pr} (h:ab E w (ae F::L)) (hq:Plain q) (hp:ft F p S)
  (Q:∀(w:World) (M:List aK) (K:Bool->Pr),ab E w (ae F::M)->(∀r,ab E r (ae F::M)->K sb r)->CL 88 #[ag bR q,ag aD p] aw K w)
  (P:∀r,ab E r (ae F::L)->k (decide (q.2.1=S.1)&&sb) r):CL 42 #[ag bR q,ag aD p] aw k w:=by
 obtain⟨u,f,v,y,z,C,D,n,l,q9,q10,⟨⟩⟩:=q
 obtain⟨W,R,X,Y⟩:=hq
 obtain⟨p1,H,I,⟨⟩⟩:=p
 simp only at W R X Y P
 subst X Y
 have T:p1=S.1:=hp.1
 subst T
 refine af0 ?_
 refine bx h λg w h=>?_
 refine bx h λo w h=>?_
 refine ld (t:=9) (x:=f) (b:=g) (off:=1) h ?_
 refine ld (t:=9) (x:=S.1) (b:=o) (off:=0) h ?_
 refine br (λ(b:Bool) w=>b=!decide (f=S.1)/\ab E w (lc o 63 (ay aD (S.1,H,I,()))::lc g 43 (ay bR (u,f,v,y,z,C,D,n,l,0,false,()))::ae F::L)) (λb w m=>?_) λJ i=>?_
 rotate_left
 .refine ax (λa=>?_) (λa=>?_)
  .refine i _ _ ⟨?_,h⟩
   rw[<-a,iK]
  .refine ld (t:=41) (x:=l) (b:=g) (off:=8) h ?_
   refine i _ _ ⟨?_,h⟩
   rw[R]
   have U:(!decide (f=S.1))=false:=by rw[<-a,iK]
   rw[U];rfl
 obtain⟨j,h⟩:=m
 refine ao λ_=>?_
 refine br (λ(c:Bool) w=>c=b/\ab E w (lc o 63 (ay aD (S.1,H,I,()))::lc g 43 (ay bR (u,f,v,y,z,C,D,n,l,0,false,()))::ae F::L)) (λc w m=>?_) λJ i=>?_
 rotate_left
 .refine ax (λa=>?_) (λa=>?_)
  .exact i _ _ ⟨a.symm,h⟩
  .refine ld (t:=3) (x:=(0:Int)) (b:=g) (off:=9) h ?_
   exact i _ _ ⟨a.symm,h⟩
 obtain⟨Z,h⟩:=m
 refine ao λ_=>?_
 refine br (λ(d:Bool) w=>d=b/\ab E w (lc o 63 (ay aD (S.1,H,I,()))::lc g 43 (ay bR (u,f,v,y,z,C,D,n,l,0,false,()))::ae F::L)) (λd w m=>?_) λJ i=>?_
 rotate_left
 .refine ax (λa=>?_) (λa=>?_)
  .exact i _ _ ⟨by rw[<-Z,a],h⟩
  .refine ld (t:=3) (x:=(0:Int)) (b:=g) (off:=9) h ?_
   exact i _ _ ⟨by rw[<-Z,a];rfl,h⟩
 obtain⟨ed,h⟩:=m
 refine ao λ_=>?_
 refine br (λ(e:Bool) w=>e=!(decide (f=S.1)&&sb)/\ab E w (lc o 63 (ay aD (S.1,H,I,()))::lc g 43 (ay bR (u,f,v,y,z,C,D,n,l,0,false,()))::ae F::L)) (λe w m=>?_) λJ i=>?_
 rotate_left
 .refine ax (λa=>?_) (λa=>?_)
  .refine i _ _ ⟨?_,h⟩
   rw[<-ed]at j
   rw[a]at j
   have:decide (f=S.1)=false:=by cases V:decide (f=S.1)with|true=>rw[V]at j;cases j|false=>rfl
   rw[this];rfl
  .refine bN (t:=43) (ls:=bR) (x:=(u,f,v,y,z,C,D,n,l,0,false,())) (b:=g) h ?_
   refine bN (t:=63) (ls:=aD) (x:=(S.1,H,I,())) (b:=o) h ?_
   refine Q w _ _ (h.pick (A:=ae F) pK) λw h=>?_
   refine i _ _ ⟨?_,h.sub sS⟩
   rw[<-ed]at j
   rw[a]at j
   have:decide (f=S.1)=true:=by cases V:decide (f=S.1)with|true=>rfl|false=>rw[V]at j;cases j
   rw[this];rfl
 obtain⟨N,h⟩:=m
 refine ao λ_=>?_
 refine ax (λa=>?_) (λa=>?_)
 .refine fin (P _ (h.sub sS)) ?_
  rw[a]at N
  have:=N.symm
  cases O:(decide (f=S.1)&&sb)with
  |false=>rfl
  |true=>rw[O]at this;cases this
 .have O:(decide (f=S.1)&&sb)=true:=by
    rw[a]at N
    cases O:(decide (f=S.1)&&sb)with
    |true=>rfl
    |false=>rw[O]at N;cases N
  rw[O]at P
  refine ld (t:=41) (x:=l) (b:=g) (off:=8) h ?_
  refine uA 0 ?_
  refine ao λ_=>?_
  refine ar (Aw (by rw[R];omega)) ?_
  refine ld (t:=40) (x:=n) (b:=g) (off:=7) h ?_
  refine aL ?_
  refine aR (by rw[W];rfl) ?_
  refine ao λ_=>?_
  exact P _ (h.sub sS)
variable {rows:List Rw}
theorem KG (h:ab E w (ae F::az F b B0::L)) (hq:q.1=1\/q.1=4) (hP:Plain q) (Nw:dz my q.1 Hx=some (iq fa,iq fb,())) (YC:∀w,(eW (iq fb) #[.pointer (some ⟨b,0,none⟩),ag bR q]).run prog w=.ok (.enter fb #[.pointer (some ⟨b,0,none⟩),ag bR q]) w) (hZ:dN B0.aJ) (hS:∀y T,B0.aJ y=some T->∀d∈T.defs,d.2.2.1.length<=1000)
  (akc:rows.length<=100000000) (tz:∀x∈rows,dk x.2.2.2.2.2)
  (wO:kg q (cC B0 q.2.1 (rm B0 q)).1≠0->∀G u,F.le G->ab E u (ae G::az G b B0::L)->k (au,kg q (cC B0 q.2.1 (rm B0 q)).1,()) u)
  (XO:kg q (cC B0 q.2.1 (rm B0 q)).1=0->∀(G:bh) (p:nG) (w:World) (M:List aK) (K:Bool->Pr),F.le G->ft G p (cC B0 q.2.1 (rm B0 q)).2->ab E w (ae G::M)->(∀u,ab E u (ae G::M)->K rb u)->CL 42 #[ag bR q,ag aD p] aw K w)
  (vg:kg q (cC B0 q.2.1 (rm B0 q)).1=0->rb=false->∀G u,F.le G->ab E u (ae G::az G b B0::L)->k (au,14,()) u)
  (tv:kg q (cC B0 q.2.1 (rm B0 q)).1=0->rb=true->∀(G:bh) (w:World) (M:List aK) (K:Sl×Int×Unit->Pr),F.le G->ab E w (ae G::az G b B0::M)->(∀X o u,G.le X->mU X o rows->ab E u (ae X::az X b B0::M)->K (o,0,()) u)->CL fb #[.pointer (some ⟨b,0,none⟩),ag bR q] (.aG [.leaf .slice,.leaf (.int .i64)]) K w)
  (hk:kg q (cC B0 q.2.1 (rm B0 q)).1=0->rb=true->∀G o u,F.le G->mU G o rows->ab E u (ae G::az G b B0::L)->k (o,0,()) u):
  CL 17 #[.pointer (some ⟨b,0,none⟩),ag bR q] (.aG [.leaf .slice,.leaf (.int .i64)]) k w:=by
 generalize Hk:cC B0 q.2.1 (rm B0 q)=sq at*
 obtain⟨e,v,C,D,H,I,N,O,P,q9,q10,⟨⟩⟩:=q
 obtain⟨e7,e8,e9,ea⟩:=hP
 simp only at e7 e8 e9 ea Hk Nw hq
 subst e9 ea
 refine adm ?_
 refine bx h λg w h=>?_
 refine dw (x:=false) kK ?_
 refine ar rfl ?_
 refine bN (t:=43) (ls:=bR) (x:=(e,v,C,D,H,I,N,O,P,0,false,())) (b:=g) h ?_
 refine FW (F:=F) (b:=b) (B0:=B0) (h.bF (A1:=ae F) (A2:=az F b B0) pK pK) hq hZ hS λG p w hG hp h=>?_
 simp only[Hk]at hp⊢
 generalize hse:kg (e,v,C,D,H,I,N,O,P,0,false,()) sq.1=se at*
 refine al h λt6 w h=>?_
 refine bU (t:=63) (b:=t6) h (λw h=>?_)
 refine ax (λY=>?_) (λY=>?_)
 .have mB:se≠0:=by simpa using Y
  exact wO mB G w hG (h.sub sS)
 have h0:se=0:=by simpa using Y
 refine bN (t:=43) (ls:=bR) (x:=(e,v,C,D,H,I,N,O,P,0,false,())) (b:=g) h ?_
 refine bN (t:=63) (ls:=aD) (x:=p) (b:=t6) h ?_
 refine XO h0 G p w _ _ hG hp (h.pick (A:=ae G) pK) λw h=>?_
 refine ax (λY=>?_) (λY=>?_)
 .exact vg h0 (nT Y) G w hG (h.sub sS)
 have N0:=nF Y
 refine dr h λw h=>?_
 refine ld (t:=3) (x:=e) (b:=g) (off:=0) h ?_
 refine bN (t:=43) (ls:=bR) (x:=(e,v,C,D,H,I,N,O,P,0,false,())) (b:=g) h ?_
 refine wz h λm w h=>?_
 refine lk (t:=3) (b:=g) (off:=0) h ?_
 refine j8 (t:=43) (b:=g) (off:=0) (vs:=ay bR (e,v,C,D,H,I,N,O,P,0,false,())) h ?_
 have R:∀{M:List aK} {w:World} {K:KV->Pr},ab E w (Hy m::M)->K (iq fa,iq fb,()) w->dQ prog (vN (Instr.lookup 124 (.map (some m)) (iv e) false)) (ya Y1) K w:=λh hk=>by
  refine kL (kl:=.int .i64) (vl:=.agg Y1) (K:=3) (V:=123) (x:=e) (z:=((.nilFunc,.nilFunc,()):KV)) kK j7 kK h .head ?_
  rw[Nw];exact hk
 refine R h ?_
 refine lH (f:=fb) (pL:=#[.pointer (some ⟨b,0,none⟩),ag bR (e,v,C,D,H,I,N,O,P,0,false,())]) ?_ (hr:=YC)
 refine tv h0 N0 G w _ _ hG (h.bF (A1:=ae G) (A2:=az G b B0) pK pK) λX o w nX ho h=>?_
 refine lk (t:=3) (b:=g) (off:=0) h ?_
 refine lz (t:=ya Y1) (R (h.pick pK) rfl) ?_
 refine ar rfl ?_
 have XV:=hG.trans nX
 obtain⟨rs,sa,sc⟩:=ho
 have jl:=sc.len
 have oY:o.len=rows.length:=by rw[sa.2,jl]
 refine br (λ(s:Sl) w=>∃c,X.le c/\mU c s rows/\ab E w (ae c::az c b B0::L)) (λs w hs=>?_) λJ hJ=>?_
 .obtain⟨c,l,hs,h⟩:=hs
  refine ao λ_=>?_
  exact hk h0 N0 c s w (XV.trans l) hs h
 simp only[oY]
 refine cy (S:=Sl×Int) (cf:=λs=>s.2) rows.length rfl (λj st w=>∃c Q,X.le c/\cw (vz c) Q (rows.take j)/\ab E w (OS 30 gd st.1 Q::ae c::az c b B0::lc g 43 (ay bR (e,v,C,D,H,I,N,O,P,0,false,()))::L)) rfl ⟨X,[],.refl _,.nil,fm (h.sub sS)⟩ ?_ ?_
 .rintro next ⟨s,_⟩ w j hj rfl ⟨c,Q,l,U,h⟩ Z
  have h:ab E w (OS 30 gd s Q::ae c::az c b B0::lc g 43 (ay bR (e,v,C,D,H,I,N,O,P,0,false,()))::L):=h
  have vf:j<rs.length:=om
  have Zw:=sD _ _ _ _ l (sc.get j vf hj)
  have Zz:=tz _ (cp hj)
  have ZA:=U.len
  rw[cn]at ZA
  have ZR:rows.take (j+1)=rows.take j++[rows[j]]:=lT hj
  refine br (λ(s':Sl) w=>∃c Q,X.le c/\cw (vz c) Q (rows.take (j+1))/\ab E w (OS 30 gd s' Q::ae c::az c b B0::lc g 43 (ay bR (e,v,C,D,H,I,N,O,P,0,false,()))::L)) (λs' w hs=>?_) λJ2 lE=>?_
  .exact ao λ_=>Z _ _ (bV hj om) hs
  refine ix (T:=30) (ls:=gd) (i:=j) (sa.up l) vf (λa ha=>?_)
  refine fJ h ?_
  rw[ZR]at lE
  generalize rows[j]=x at*
  generalize rs[j]=r at*
  obtain⟨r1,r2,r3,r4,r5,r6,⟨⟩⟩:=r
  obtain⟨x1,x2,x3,x4,x5,x6⟩:=x
  obtain⟨e1,e2,e3,e4,e5,e6⟩:=Zw
  simp only at e1 e2 e3 e4 e5 e6
  subst e1 e2 e3 e4 e5
  refine al h λW w h=>?_
  refine bU (t:=47) (b:=W) h (λw h=>?_)
  refine aL ?_
  refine ld (t:=4) (x:=false) (b:=g) (off:=10) h ?_
  refine ar rfl ?_
  refine ao λ_=>?_
  refine ld (t:=3) (x:=(0:Int)) (b:=g) (off:=9) h ?_
  refine aL ?_
  refine ar rfl ?_
  refine ao λ_=>?_
  refine ar rfl ?_
  refine bN (t:=43) (ls:=bR) (x:=(e,v,C,D,H,I,N,O,P,0,false,())) (b:=g) h ?_
  refine ld (t:=28) (x:=r6) (b:=W) (off:=5) h ?_
  refine Vw h e7 λw h=>?_
  refine aR rfl ?_
  refine bN (t:=43) (ls:=bR) (x:=(e,v,C,D,H,I,N,O,P,0,false,())) (b:=g) h ?_
  refine ld (t:=28) (x:=r6) (b:=W) (off:=5) h ?_
  refine Vx (F:=c) (h.pick (A:=ae c) pK) e8 e6 Zz λG4 s7 w n ZI h=>?_
  refine st (t:=28) (b:=W) (off:=5) h λw h=>?_
  refine bN (t:=47) (ls:=gd) (x:=(r1,r2,r3,r4,r5,s7,())) (b:=W) h ?_
  refine bJ (T:=30) (ls:=gd) (y:=(r1,r2,r3,r4,r5,s7,())) h λdx w _ h=>?_
  refine eA (T:=30) (ls:=gd) (xs:=Q) h om λo' w h=>?_
  have h:=jG (h.pick (A:=az c b B0) pK) n
  refine lE _ _ ⟨G4,Q++[(r1,r2,r3,r4,r5,s7,())],l.trans n,?_,h.sub sS⟩
  exact(U.imp λr d hh=>sD _ _ _ _ n hh).app (.one ⟨rfl,rfl,rfl,rfl,rfl,ZI⟩)
 .rintro⟨s,_⟩ w ⟨c,Q,l,U,h⟩
  have h:ab E w (OS 30 gd s Q::ae c::az c b B0::lc g 43 (ay bR (e,v,C,D,H,I,N,O,P,0,false,()))::L):=h
  rw[cB]at U
  obtain⟨G4,n,h,r9⟩:=dT (T:=30) (ls:=gd) (s:=s) (F:=c) h
  have h:=jG (h.pick (A:=az c b B0) pK) n
  exact hJ s w ⟨G4,l.trans n,⟨Q,r9,U.imp λr d hh=>sD _ _ _ _ n hh⟩,h.sub sS⟩
theorem Pw (nm:ByteArray) (t:Int):Plain (qT nm t):=⟨rfl,rfl,rfl,rfl⟩
theorem Pv (nm:ByteArray) (a:Sl):Plain (qA nm a 0 0):=⟨rfl,rfl,rfl,rfl⟩
def kG (B0:b9) (nm:ByteArray) (t:Int):Int:=if(cC B0 nm t).1≠0 then(cC B0 nm t).1 else if nm=(cC B0 nm t).2.1 then 0 else 14
theorem Uc (h:ab E w (ae F::az F b B0::L)) (v:dN B0.aJ) (A:lu B0.aJ) (z:∀y T,B0.aJ y=some T->∀d∈T.defs,d.2.2.1.length<=1000)
  (C:∀D,(ie B0 nm D t).length<=100000000) (g:(iX B0 nm t).length<=100000000) (m:∀x∈iX B0 nm t,dk x.2.2.2.2.2)
  (n:kG B0 nm t≠0->∀G f,F.le G->ab E f (ae G::az G b B0::L)->k (au,kG B0 nm t,()) f)
  (H:kG B0 nm t=0->∀G o f,F.le G->mU G o (iX B0 nm t)->ab E f (ae G::az G b B0::L)->k (o,0,()) f):
  CL 17 #[.pointer (some ⟨b,0,none⟩),ag bR (qT nm t)] (.aG [.leaf .slice,.leaf (.int .i64)]) k w:=by
 have i:kg (qT nm t) (cC B0 nm t).1=(cC B0 nm t).1:=by unfold kg;rw[ai (λI=>I.2 rfl)]
 refine KG (q:=qT nm t) (rb:=decide (nm=(cC B0 nm t).2.1)&&true) (rows:=iX B0 nm t) (fa:=90) (fb:=91) h (.inl rfl) (Pw nm t) rfl (λw=>rfl) v z g m ?_ ?_ ?_ ?_ ?_
 .intro a G f l h
  have a:kg (qT nm t) (cC B0 nm t).1≠0:=a
  show k (au,kg (qT nm t) (cC B0 nm t).1,()) f
  rw[i]at a⊢
  have e:kG B0 nm t=(cC B0 nm t).1:=by unfold kG;rw[ak a]
  have:=n (by rw[e];exact a) G f l h
  rwa[e]at this
 .intro _ G p w M K l u h r
  exact LB (F:=G) h (Pw nm t) u (λw M K h r=>VM h r) r
 .intro c j G f l h
  have c:kg (qT nm t) (cC B0 nm t).1=0:=c
  rw[i]at c
  have a:¬nm=(cC B0 nm t).2.1:=by simpa using j
  have e:kG B0 nm t=14:=by unfold kG;rw[ai (by rw[c];simp),ai a]
  have:=n (by rw[e];decide) G f l h
  rwa[e]at this
 .intro c j G w M K l h r
  have c:kg (qT nm t) (cC B0 nm t).1=0:=c
  rw[i]at c
  exact VN (F:=G) h v A z c C g r
 .intro c j G o f l J h
  have c:kg (qT nm t) (cC B0 nm t).1=0:=c
  rw[i]at c
  have N:nm=(cC B0 nm t).2.1:=by simpa using j
  have e:kG B0 nm t=0:=by unfold kG;rw[ai (by rw[c];simp),ak N]
  exact H e G o f l J h
def l4 (B0:b9) (nm:ByteArray) (r:Row):Int:=if(cC B0 nm B0.time).1≠0 then 18 else if nm=(cC B0 nm B0.time).2.1/\sf (cC B0 nm B0.time).2 r=true then 0 else 14
theorem Ub (h:ab E w (ae F::az F b B0::L)) (H:dN B0.aJ) (I:∀y T,B0.aJ y=some T->∀d∈T.defs,d.2.2.1.length<=1000) (A:-1<=B0.time/\B0.time<=1000000000000000) (hs:FL F aP ks r) (hr:dk r)
  (C:(jM B0 nm (B (keyOf r)) (B0.aM,B0.time+1,())).length<=100000000) (D:∀q∈jM B0 nm (B (keyOf r)) (B0.aM,B0.time+1,()),q.2.2.length<=100000000) (n:(jT B0 nm (B (keyOf r))).length<=100000000) (t:∀x∈jT B0 nm (B (keyOf r)),dk x.2.2.2.2.2)
  (u:l4 B0 nm r≠0->∀G f,F.le G->ab E f (ae G::az G b B0::L)->k (au,l4 B0 nm r,()) f)
  (J:l4 B0 nm r=0->∀G o f,F.le G->mU G o (jT B0 nm (B (keyOf r)))->ab E f (ae G::az G b B0::L)->k (o,0,()) f):
  CL 17 #[.pointer (some ⟨b,0,none⟩),ag bR (qA nm ks 0 0)] (.aG [.leaf .slice,.leaf (.int .i64)]) k w:=by
 have m:kg (qA nm ks 0 0) (cC B0 nm B0.time).1=if(cC B0 nm B0.time).1≠0 then 18 else(cC B0 nm B0.time).1:=by
  unfold kg
  by_cases c:(cC B0 nm B0.time).1≠0
  .rw[ak c,ak ⟨c,by show(4:Int)≠1;decide⟩]
  .rw[ai c,ai (λj=>c j.1)]
 refine KG (q:=qA nm ks 0 0) (rb:=decide (nm=(cC B0 nm B0.time).2.1)&&sf (cC B0 nm B0.time).2 r) (rows:=jT B0 nm (B (keyOf r))) (fa:=93) (fb:=95) h (.inr rfl) (Pv nm ks) rfl (λw=>rfl) H I n t ?_ ?_ ?_ ?_ ?_
 .intro a G f l h
  have a:kg (qA nm ks 0 0) (cC B0 nm B0.time).1≠0:=a
  show k (au,kg (qA nm ks 0 0) (cC B0 nm B0.time).1,()) f
  rw[m]at a⊢
  by_cases c:(cC B0 nm B0.time).1≠0
  .rw[ak c]
   have e:l4 B0 nm r=18:=by unfold l4;rw[ak c]
   have:=u (by rw[e];decide) G f l h
   rwa[e]at this
  .rw[ai c]at a;exact absurd a c
 .intro _ G p w M K l v h z
  exact LB (F:=G) h (Pv nm ks) v (λw M K h z=>VK (F:=G) h v (hs.up l) hr z) z
 .intro g i G f l h
  have g:kg (qA nm ks 0 0) (cC B0 nm B0.time).1=0:=g
  rw[m]at g
  have c:¬(cC B0 nm B0.time).1≠0:=λj=>by rw[ak j]at g;cases g
  have a:¬(nm=(cC B0 nm B0.time).2.1/\sf (cC B0 nm B0.time).2 r=true):=λj=>by
   rw[eu j.1,j.2]at i;cases i
  have e:l4 B0 nm r=14:=by unfold l4;rw[ai c,ai a]
  have:=u (by rw[e];decide) G f l h
  rwa[e]at this
 .intro g i G w M K l h z
  exact VP (F:=G) h H A (hs.up l) hr C D n z
 .intro g i G o f l N h
  have g:kg (qA nm ks 0 0) (cC B0 nm B0.time).1=0:=g
  rw[m]at g
  have c:¬(cC B0 nm B0.time).1≠0:=λj=>by rw[ak j]at g;cases g
  have j:nm=(cC B0 nm B0.time).2.1/\sf (cC B0 nm B0.time).2 r=true:=by simpa using i
  have e:l4 B0 nm r=0:=by unfold l4;rw[ai c,ak j]
  exact J e G o f l N h
end Go.Proofs.YtelhccfmfnaegaaGreat
