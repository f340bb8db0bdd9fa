/- Lemmas for topAudits_holds. No conditions. -/
import Derived.Test.YtelhccfmfnaegaaGreatSf
set_option linter.unusedSectionVars false
set_option linter.unusedVariables false
set_option linter.unusedSimpArgs false
set_option linter.defProp false
set_option maxRecDepth 10000
namespace Go.Proofs.YtelhccfmfnaegaaGreat
open Go Go.Sh Tryz
attribute [local irreducible] aT jC gk dV kO dg hex iT jk ae aj bG aN bq fL az
variable {E w:World} {L L' M:List aK} {F G:bh} {s:ByteArray} {k:ByteArray->Pr} {S:di} {v:jf} {r:Row} {C:jc} {P:Pk} {c:v7} {p:pH}
theorem Ca (h:ab E w L) (c:(cY s).length<=1000000) (b:∀a,ab E a L->k (B (cz (cY s))) a):CL 175 #[.string s] an k w:=by
 have e:s=B (cY s):=(rI s).symm
 conv=>arg 2;rw[e]
 exact KI h om b
theorem T8 {p:nG} (h:ab E w (ae F::L)) (W:ft F p S) (hW:BV S) (Q:∀X,ab E X (ae F::L)->k (B (gm S)) X):CL 176 #[ag aD p] an k w:=by
 have R:=W
 obtain⟨nm,v,key,⟨⟩⟩:=p
 obtain⟨Y,T,Z⟩:=W
 simp only at Y T Z
 subst Y Z
 have D:=T.2
 refine adt ?_
 refine bx h λd w h=>?_
 refine bN (t:=63) (ls:=aD) (x:=(S.1,v,S.2.2,())) (b:=d) h ?_
 refine K4 (h.pick (A:=ae F) pK) R hW λw h=>?_
 refine ax (λg=>?_) (λg=>?_)
 .have e:gm S=[]:=by unfold gm;rw[nT g];rfl
  rw[e]at Q
  exact Q w (h.sub sS)
 have H:dK S=true:=nF g
 have hK:=mb H
 have G0:=sr (DM H)
 have e:gm S=cz (cY S.1)++aH S.2.2.toNat++aH S.2.1.length++S.2.1.flatMap ij:=by unfold gm;rw[ak H]
 rw[e]at Q
 have b1:=oe (l:=cY S.1) om
 have b2:=cD (n:=S.2.2.toNat) om
 have b3:=cD (n:=S.2.1.length) om
 refine dr h λw h=>?_
 refine ld (t:=9) (x:=S.1) (b:=d) (off:=0) h ?_
 refine ld (t:=3) (x:=S.2.2) (b:=d) (off:=2) h ?_
 refine ld (t:=61) (x:=v) (b:=d) (off:=1) h ?_
 refine Ca h om λw h=>?_
 refine lk (t:=3) (b:=d) (off:=2) h ?_
 refine lk (t:=61) (b:=d) (off:=1) h ?_
 refine qL h om om λw h=>?_
 refine lk (t:=3) (b:=d) (off:=2) h ?_
 refine lk (t:=61) (b:=d) (off:=1) h ?_
 refine cc om ?_
 simp only[D]
 refine qL h om om λw h=>?_
 rw[kW]
 refine lk (t:=3) (b:=d) (off:=2) h ?_
 refine lk (t:=61) (b:=d) (off:=1) h ?_
 refine cc (by rw[aU];omega) ?_
 have Ac:(cz (cY S.1)++aH S.2.2.toNat++aH S.2.1.length).length<=100:=by simp only[aU];omega
 generalize cz (cY S.1)++aH S.2.2.toNat++aH S.2.1.length=U at*
 have o:∀i (I:i<S.2.1.length),(ij S.2.1[i]).length<=62:=λi I=>by
  have:=xh H (cp I)
  exact zN this.1 this.2.1 this.2.2
 have V:∀i,i<=S.2.1.length->((S.2.1.take i).flatMap ij).length<=62*16:=λi I=>by
  have:=lB (f:=ij) (m:=62) (l:=S.2.1.take i) λc g=>by
   obtain⟨j,hj,rfl⟩:=sQ (mj g)
   exact o j hj
  rw[cn]at this
  have:min i S.2.1.length<=16:=om
  omega
 refine gD (S:=ByteArray×Int) S.2.1.length (λi s w=>s=(B (U++(S.2.1.take i).flatMap ij),(i:Int))/\ab E w (lc d 63 (ay aD (S.1,v,S.2.2,()))::ae F::L)) ⟨sI,h.sub sS⟩ ?_
 rintro next ⟨a,q⟩ w i I ⟨hs,h⟩ y
 simp only[nD]at hs
 obtain⟨ha,hq⟩:=hs
 subst ha hq
 refine ao λ_=>?_
 refine ld (t:=61) (x:=v) (b:=d) (off:=1) h ?_
 refine ax (λg=>?_) (λg=>?_)
 .have dU:i<S.2.1.length:=by have:=cT g;simp only at this;omega
  refine ld (t:=61) (x:=v) (b:=d) (off:=1) h ?_
  refine ix T dU λa ha=>?_
  refine fJ (ls:=dj) h ?_ (ha:=ha)
  have hr:=xh H (cp dU)
  have K:=o i dU
  have ajT:=V i I
  have r:∀w,ab E w (lc d 63 (ay aD (S.1,v,S.2.2,()))::ae F::L)->next (B (U++(S.2.1.take i).flatMap ij++ij S.2.1[i]),w6 ((i:Int)+1)) w:=λw h=>
   y dU _ _ ⟨qx (by rw[cR dU,gM];simp) (bV dU om),h⟩
  generalize S.2.1[i]=C at*
  obtain⟨N,O,z,⟨⟩⟩:=C
  have ec:ij (N,O,z,())=cz (cY N)++aH O.toNat++aH (if z then 1 else 0):=rfl
  rw[ec]at r K
  simp only at hr
  have r8:=sr hr.1
  simp only[aU]at K
  refine al h λu w h=>?_
  refine bU (t:=60) (b:=u) (vs:=ay dj (N,O,z,())) h (λw h=>?_)
  generalize P:U++(S.2.1.take i).flatMap ij=pre at*
  have pV:pre.length<=2000:=by rw[<-P,aU];omega
  refine br (λ(s:Int) w=>s=((if z then 1 else 0:Nat):Int)/\ab E w (lc u 60 (ay dj (N,O,z,()))::lc d 63 (ay aD (S.1,v,S.2.2,()))::ae F::L)) (λs w hh=>?_) λJ hJ=>?_
  .obtain⟨rfl,h⟩:=hh
   refine ao λ_=>?_
   refine dr h λw h=>?_
   refine ld (t:=9) (x:=N) (b:=u) (off:=0) h ?_
   refine ld (t:=3) (x:=O) (b:=u) (off:=1) h ?_
   refine Ca h om λw h=>?_
   refine lk (t:=3) (b:=u) (off:=1) h ?_
   refine cc om ?_
   refine qL h om om λw h=>?_
   refine lk (t:=3) (b:=u) (off:=1) h ?_
   refine cc (by rw[aU];omega) ?_
   refine Fy h (by split<;>omega) λw h=>?_
   refine lk (t:=3) (b:=u) (off:=1) h ?_
   refine cc (by rw[aU,aU];omega) ?_
   have:=r w (h.sub sS)
   simp only[cP]at this⊢
   exact this
  .refine ld (t:=4) (x:=z) (b:=u) (off:=2) h ?_
   refine ax (λg=>?_) (λg=>?_)
   .exact hJ _ _ ⟨by rw[g];rfl,h⟩
   .exact hJ _ _ ⟨by rw[g];rfl,h⟩
 .have dU:i=S.2.1.length:=by have:=cF g;simp only at this;omega
  subst dU
  rw[cB]
  exact Q w (h.sub sS)
theorem Uy (h:ab E w L) (hv:WV v) (hr:dM v=true) (a:∀m,ab E m L->k (B (fP v)) m):CL 225 #[ag aP v] an k w:=by
  have C:=hv.b1
  have p:=hv.n1
  have i:=AK hr
  unfold fP at a
  rw[ak hr]at a
  have r:=hr
  obtain⟨f,n,b,s,⟨⟩⟩:=v
  simp only at a C p i
  replace i:(cY s).length<=4096:=i
  refine aec ?_
  refine bx h λg w h=>?_
  refine bN (t:=27) (ls:=aP) (x:=(f,n,b,s,())) (b:=g) h ?_
  refine Lm h hv λw h=>?_
  rw[r]
  refine ar rfl ?_
  refine ld (t:=3) (x:=f) (b:=g) (off:=0) h ?_
  have d:∀{x:Int} {w:World} {L:List aK} {K:ByteArray->Pr},ab E w L->(∀m,ab E m L->K (B [u8 x]) m)->eT prog (vN (Instr.buildSlice 143 1 #[(0,i8 (IntKind.u8.wrap x))])) aE (λt=>dQ prog (vN (Go.convert 143 9 (sv t))) an K) w:=by
   intro x w L K h H
   refine bJ (ls:=dW) (y:=(((u8 x).toNat:Int),())) h (λt w _ h=>?_) (by rw[ny];rfl)
   refine oU (l:=[u8 x]) h pK ?_
   exact H w h.drop
  refine d h λw h=>?_
  refine ld (t:=3) (x:=f) (b:=g) (off:=0) h ?_
  refine ax (λc=>?_) (λc=>?_)
  .have e:=ek c
   rw[ak e]at a
   refine ld (t:=3) (x:=n) (b:=g) (off:=1) h ?_
   refine d h λw h=>?_
   refine cc sI ?_
   exact a w (h.sub sS)
  have I:=ei c
  rw[ai I]at a
  refine ax (λc=>?_) (λc=>?_)
  .have e:=ek c
   rw[ak e]at a
   refine ld (t:=3) (x:=n) (b:=g) (off:=1) h ?_
   refine U4 h p λw h=>?_
   have:=cD (vY p)
   refine cc (by simp;omega) ?_
   exact a w (h.sub sS)
  have J:=ei c
  rw[ai J]at a
  refine ax (λc=>?_) (λc=>?_)
  .have e:=ek c
   rw[ak e]at a
   refine ld (t:=25) (x:=b) (b:=g) (off:=2) h ?_
   obtain⟨q,rfl⟩:=Bn C.1
   rw[kW]at a
   refine KJ h om λw h=>?_
   have:=jL 8 q
   refine cc (by simp;omega) ?_
   exact a w (h.sub sS)
  have N:=ei c
  rw[ai N]at a
  have D:f=4\/f=5->(af true (
 LD 9 (Addr.add (⟨g,0,none⟩:Addr) 3) an λu=>
 CL 175 #[.string u] an λz=>
 VL (cL .add 9 (.tmp 40) (.tmp 43) (.string (B [u8 f])) (.string z)) an λA=>k A) (k (B [u8 f]))) w:=λj=>by
    rw[ak j]at a
    refine aR rfl ?_
    refine ld (t:=9) (x:=s) (b:=g) (off:=3) h ?_
    refine Ca h om λw h=>?_
    have:=oe (l:=cY s) om
    refine cc (by simp;omega) ?_
    exact a w (h.sub sS)
  refine aL ?_
  refine ax (λc=>?_) (λc=>?_)
  .have e:=ek c
   refine ao λ_=>?_
   rw[c]
   exact D (.inl e)
  have O:=ei c
  refine ao λ_=>?_
  by_cases o:f=5
  .rw[show(f==5)=true by rw[o];rfl]
   exact D (.inr o)
  .rw[show(f==5)=false by simpa using o]
   refine ar rfl ?_
   rw[ai (λj=>by rcases j with h|h;exact O h;exact o h)]at a
   exact a w (h.sub sS)
theorem T9 {s:Sl} (h:ab E w (ae F::L)) (hs:FL F aP s r) (hr:dk r) (u:r.all dM=true) (z:r.length<=16) (p:∀x,ab E x (ae F::L)->k (B (jD r)) x):CL 177 #[sv s] an k w:=by
 unfold jD at p
 rw[ak u]at p
 have c:=hs.2
 refine adu ?_
 simp only[c]
 refine qL h om om λw h=>?_
 rw[kW]
 have A:=cD (n:=r.length) om
 have t:∀i,((r.take i).flatMap fP).length<=80000:=λi=>by
  have:=lB (f:=fP) (m:=5000) (l:=r.take i) λv o=>Bc (hr.wv v (mj o))
  rw[cn]at this
  have:min i r.length<=16:=om
  omega
 refine cy (S:=ByteArray×Int) (cf:=λs=>s.2) r.length rfl (λi s w=>s.1=B (aH r.length++(r.take i).flatMap fP)/\ab E w (ae F::L)) rfl ⟨sI,h⟩ ?_ ?_
 .rintro next ⟨a,_⟩ w i d rfl ⟨g,h⟩ b
  simp only at g
  subst g
  have o:=hr.wv _ (cp d)
  have j:dM r[i]=true:=List.all_eq_true.1 u _ (cp d)
  refine ix hs d λa _=>?_
  repeat (first|refine gA ?_|(refine gB ?_;clear h;intro w h)|(refine gC ?_;clear h;intro b0 w h))
  refine Uy h o j λw h=>?_
  rw[qY]
  refine ar (eM λe=>?_) ?_
  .have y:=gU ByteArray.size e
   rw[cJ]at y
   have C:0<(fP r[i]).length:=List.length_pos_iff.2 (aiJ j)
   have D:eB.size=0:=rfl
   omega
  have H:=Bc o
  have I:=t i
  refine cc (by rw[aU];omega) ?_
  refine b _ _ (bV d om) ⟨?_,h⟩
  rw[cR d,gM]
  simp
 .rintro⟨a,_⟩ w ⟨g,h⟩
  simp only at g
  subst g
  rw[cB]
  exact p w h
structure zj (C:jc):Prop where
 nm:C.2.1.size<=9223372036854775807
 wv:∀v∈C.2.2.1,WV v
 ln:C.2.2.1.length<=9223372036854775807
 sw:BV C.2.2.2.2.2
structure pI (P:Pk):Prop where
 ln:P.2.2.length<=9223372036854775807
 ok:∀C∈P.2.2,zj C
theorem zj.ok (h:zj C) (a:gg C=true):oy C:=by
 by_cases d:C.1=3
 .rw[x7 d]at a
  simp only[bp,bX]at a
  exact⟨⟨om,h.wv⟩,by have:=(mb a.1).2.2.2;omega⟩
 .unfold gg at a
  rw[ai d]at a
  split at a
  .simp only[bp]at a
   obtain⟨_,b,_,c⟩:=a
   unfold lC at b
   simp only[bp,bX]at b
   refine⟨⟨?_,h.wv⟩,?_⟩
   .have:=b.2.2
    split at this<;>omega
   .unfold lO jA at c
    simp only[bp,bX]at c
    rw[c.2.2];simp
  .cases a
theorem pI.Dx (h:pI P) (a:gT P=true):kt P:=by
 unfold gT at a
 simp only[bp,bX,pD]at a
 exact⟨om,λC b=>(h.ok C b).ok (a.1 C b)⟩
theorem Ux {k:Bool->Pr} (h:ab E w (ae F::L)) (hc:nE F c C) (R:zj C) (u:∀H,ab E H (ae F::L)->k (gg C) H):CL 223 #[ag bP c] aw k w:=by
 obtain⟨g,p,j,i,l,o,m,r,⟨⟩⟩:=c
 obtain⟨Ck,Cn,I,Cl,Ch,Sn,K,Sk⟩:=C
 obtain⟨D,N,T,h4,h5,S⟩:=hc
 simp only at D N T h4 h5 S
 obtain⟨h7,h8,h9⟩:=id S
 simp only at h7 h8 h9
 subst D N h4 h5 h7 h9
 have U:=T.2
 have hR:=R.wv
 have O:=R.ln
 have P:=R.sw
 have Q:=R.nm
 simp only at hR O P Q
 refine aea ?_
 refine bx h λn w h=>?_
 refine ld h ?_
 refine ax (λz=>?_) (λz=>?_)
 .have e:=x7 (C:=(g,p,I,i,l,o,K,r)) (by simpa using z)
  simp only at e
  rw[e]at u
  refine fK h ?_
  refine K4 (h.pick (A:=ae F) pK) S P λw h=>?_
  refine br (λb w=>b=(dK (o,K,r)&&decide (p=o))/\ab E w (ae F::lc n 65 (ay bP (g,p,j,i,l,o,m,r,()))::L)) (λV w h=>?_) λJ d=>?_
  rotate_left
  .refine ax (λhc=>?_) (λhc=>?_)
   .refine ld h ?_
    refine ld h ?_
    exact d _ _ ⟨by rw[hc,hI];exact iK,h⟩
   .exact d _ _ ⟨by rw[hc];rfl,h⟩
  obtain⟨W,h⟩:=h
  refine ao λ_=>?_
  refine br (λb w=>b=(V&&decide (I.length=0))/\ab E w (ae F::lc n 65 (ay bP (g,p,j,i,l,o,m,r,()))::L)) (λX w h=>?_) λJ d=>?_
  rotate_left
  .refine ax (λhc=>?_) (λhc=>?_)
   .refine ld h ?_
    exact d _ _ ⟨by rw[hc,hI];show((j.len:Int)==0)=_;rw[U,gb];simp,h⟩
   .exact d _ _ ⟨by rw[hc];rfl,h⟩
  obtain⟨Y,h⟩:=h
  refine ao λ_=>?_
  refine br (λb w=>b=(X&&(decide (i=0)&&decide (l=0)))/\ab E w (ae F::lc n 65 (ay bP (g,p,j,i,l,o,m,r,()))::L)) (λSP w h=>?_) λJ d=>?_
  rotate_left
  .refine ax (λhc=>?_) (λhc=>?_)
   .refine fK (ls:=aC) (x:=(i,l,())) h ?_
    refine yd (ls:=aC) (a:=(i,l,())) (b:=(0,0,())) ?_
    refine d _ _ ⟨?_,h⟩
    rw[hc,hI,gb];simp[ik,o6]
   .exact d _ _ ⟨by rw[hc];rfl,h⟩
  obtain⟨Z,h⟩:=h
  refine ao λ_=>?_
  refine fin (u _ (h.sub sS)) ?_
  rw[Z,Y,W]
  simp only[y5]
 .have XL:g≠3:=by simpa using z
  refine br (λf w=>f=(if g=2 then(8:Int)else 16)/\ab E w (ae F::lc n 65 (ay bP (g,p,j,i,l,o,m,r,()))::L)) (λf w v=>?_) λJ d=>?_
  rotate_left
  .refine ld (t:=3) (x:=g) (b:=n) (off:=0) h ?_
   refine ax (λhc=>?_) (λhc=>?_)
   .exact d _ _ ⟨by rw[ak (ek hc)],h.sub sS⟩
   .exact d _ _ ⟨by rw[ai (ei hc)],h.sub sS⟩
  obtain⟨rfl,h⟩:=v
  refine ao λ_=>?_
  refine ld (t:=3) (x:=g) (b:=n) (off:=0) h ?_
  refine br (λb w=>b=!decide (g=1\/g=2)/\ab E w (ae F::lc n 65 (ay bP (g,p,j,i,l,o,m,r,()))::L)) (λb1 w v=>?_) λJ d=>?_
  rotate_left
  .refine ax (λhc=>?_) (λhc=>?_)
   .refine ld (t:=3) (x:=g) (b:=n) (off:=0) h ?_
    refine d _ _ ⟨?_,h⟩
    have D:g≠1:=by simpa using hc
    by_cases N:g=2
    .simp[N]
    .simp[D,N]
   .have D:g=1:=by simpa using hc
    exact d _ _ ⟨by simp[D],h⟩
  obtain⟨e1,h⟩:=v
  refine ao λ_=>?_
  refine br (λb w=>b=(b1||!fD p)/\ab E w (ae F::lc n 65 (ay bP (g,p,j,i,l,o,m,r,()))::L)) (λb2 w v=>?_) λJ d=>?_
  rotate_left
  .refine ax (λhc=>?_) (λhc=>?_)
   .exact d _ _ ⟨by rw[hc];rfl,h⟩
   .refine ld (t:=9) (x:=p) (b:=n) (off:=1) h ?_
    refine FP h Q λw h=>?_
    exact d _ _ ⟨by rw[hc];rfl,h⟩
  obtain⟨e2,h⟩:=v
  refine ao λ_=>?_
  refine br (λb w=>b=(b2||!lC I (if g=2 then 8 else 16))/\ab E w (ae F::lc n 65 (ay bP (g,p,j,i,l,o,m,r,()))::L)) (λb3 w v=>?_) λJ d=>?_
  rotate_left
  .refine ax (λhc=>?_) (λhc=>?_)
   .exact d _ _ ⟨by rw[hc];rfl,h⟩
   .refine ld (t:=28) (x:=j) (b:=n) (off:=2) h ?_
    refine U2 h T hR O λw h=>?_
    exact d _ _ ⟨by rw[hc];rfl,h⟩
  obtain⟨e3,h⟩:=v
  refine ao λ_=>?_
  refine br (λb w=>b=(b3||!lO (o,K,r) jA)/\ab E w (ae F::lc n 65 (ay bP (g,p,j,i,l,o,m,r,()))::L)) (λb4 w v=>?_) λJ d=>?_
  rotate_left
  .refine ax (λhc=>?_) (λhc=>?_)
   .exact d _ _ ⟨by rw[hc];rfl,h⟩
   .refine fK (t:=63) (ls:=aD) (x:=(o,m,r,())) (b:=n) (off:=5) h ?_
    refine U3 h S λw h=>?_
    exact d _ _ ⟨by rw[hc];rfl,h⟩
  obtain⟨e4,h⟩:=v
  have hE:gg (g,p,I,i,l,o,K,r)=(!b4&&cA (i,l,())):=by
   rw[e4,e3,e2,e1]
   unfold gg
   rw[ai XL]
   by_cases y:g=1\/g=2
   .rw[ak y,eu y]
    simp only
    generalize lC I (if g=2 then 8 else 16)=x
    cases fD p<;>cases x<;>cases lO (o,K,r) jA<;>cases cA (i,l,())<;>rfl
   .rw[ai y,eM y];rfl
  rw[hE]at u
  clear e1 e2 e3 e4 hE
  refine ao λ_=>?_
  refine ax (λhc=>?_) (λhc=>?_)
  .rw[hc]at u
   exact u w (h.sub sS)
  rw[hc]at u
  have u:∀H,ab E H (ae F::L)->k (cA (i,l,())) H:=u
  have Hj:cA (i,l,())=(decide (i>=0)&&decide (l>i)&&decide (l<=1099511627776)):=rfl
  rw[Hj]at u
  refine ld (t:=3) (x:=i) (b:=n) (off:=3) h ?_
  refine br (λb w=>b=(decide (i>=0)&&decide (l>i))/\ab E w (ae F::lc n 65 (ay bP (g,p,j,i,l,o,m,r,()))::L)) (λb5 w v=>?_) λJ d=>?_
  rotate_left
  .refine ax (λhc=>?_) (λhc=>?_)
   .refine ld (t:=3) (x:=l) (b:=n) (off:=4) h ?_
    refine ld (t:=3) (x:=i) (b:=n) (off:=3) h ?_
    exact d _ _ ⟨by rw[hc];rfl,h⟩
   .exact d _ _ ⟨by rw[hc];rfl,h⟩
  obtain⟨rfl,h⟩:=v
  refine ao λ_=>?_
  refine aL ?_
  refine ax (λhc=>?_) (λhc=>?_)
  .refine ld (t:=3) (x:=l) (b:=n) (off:=4) h ?_
   refine ao λ_=>?_
   refine fin (u w (h.sub sS)) ?_
   rw[hc];rfl
  .refine ao λ_=>?_
   refine fin (u w (h.sub sS)) ?_
   rw[hc];rfl
theorem T7 {k:Bool->Pr} (h:ab E w (ae F::L)) (z:je F p P) (m:pI P) (f:∀o,ab E o (ae F::L)->k (gT P) o):CL 173 #[ag av p] aw k w:=by
 obtain⟨n,t,g,⟨⟩⟩:=p
 obtain⟨D,H,Pc⟩:=P
 obtain⟨u,v,j⟩:=z
 simp only at u v j
 subst u v
 have I:=j.len
 have y:=m.ln
 simp only at y
 refine adq ?_
 refine bx h λl w h=>?_
 refine gD (S:=Int) Pc.length (λi s w=>s=(i:Int)/\(Pc.take i).all gg=true/\ab E w (ae F::lc l 68 (ay av (n,t,g,()))::L)) ⟨rfl,rfl,h.pick (A:=ae F) pK⟩ ?_
 rintro next _ w i J ⟨rfl,c,h⟩ d
 refine ao λ_=>?_
 refine ld (t:=66) (x:=g) (b:=l) (off:=2) h ?_
 refine ax (λhc=>?_) (λhc=>?_)
 .have dU:i<Pc.length:=by have:=cT hc;omega
  refine ld (t:=66) (x:=g) (b:=l) (off:=2) h ?_
  refine fx j dU λa r K C=>?_
  refine fJ h ?_
  refine Ux h C (m.ok _ (cp dU)) λw h=>?_
  refine ax (λhc=>?_) (λhc=>?_)
  .refine fin (f _ (h.sub sS)) ?_
   have:Pc.all gg=false:=List.all_eq_false.2 ⟨_,cp dU,by simpa using hc⟩
   unfold gT;simp only[this,rD]
  .refine d dU _ _ ⟨IG dU y,?_,h⟩
   rw[cR dU,ou,c];simpa using hc
 .have dU:i=Pc.length:=by have:=cF hc;omega
  subst dU
  rw[cB]at c
  have e:gT (n,t,Pc)=((decide (n>=1)&&decide (n<=1099511627776))&&(decide (t>=0)&&(decide (t<1099511627776)&&decide ((Pc.length:Int)<=100)))):=by unfold gT;rw[c];rfl
  rw[e]at f
  clear c j d hc
  have h:=h.sub (M:=lc l 68 (ay av (n,t,g,()))::ae F::L) sS
  repeat' (first|refine gA ?_|(refine gB ?_;clear h;intro w h)|(refine gC ?_;clear h;intro b0 w h)|refine aL ?_|refine ax (λhc=>?_) (λhc=>?_))
  all_goals refine fin (f _ dD) ?_
  all_goals clear f
  all_goals grind
theorem TK (h:ab E w (ae F::L)) (hp:je F p P) (hP:pI P) (hk:∀w',ab E w' (ae F::L)->k (B (fv P)) w'):CL 138 #[ag av p] an k w:=by
 obtain⟨n,t,u,⟨⟩⟩:=p
 obtain⟨Pn,Pt,Pc⟩:=P
 obtain⟨h1,h2,h3⟩:=id hp
 simp only at h1 h2 h3
 subst h1 h2
 have hl:=h3.len
 refine acQ ?_
 refine bx h λc w h=>?_
 refine bN (t:=68) (ls:=av) (x:=(n,t,u,())) (b:=c) h ?_
 refine T7 (h.pick (A:=ae F) pK) hp hP λw h=>?_
 refine ax (λv=>?_) (λv=>?_)
 .refine fin (hk _ (h.sub sS)) ?_
  unfold fv;rw[ai (by rw[nT v];simp)];rfl
 have Q:=nF v
 have hO:=hP.Dx Q
 have hE:fv (n,t,Pc)=if(cZ (n,t,Pc)).length>100000 then[]else cZ (n,t,Pc):=by unfold fv;rw[ak Q]
 have hW:cZ (n,t,Pc)=aH n.toNat++aH t.toNat++aH Pc.length++Pc.flatMap ig:=rfl
 rw[hE]at hk
 clear hE
 unfold gT at Q
 simp only[bp,bX]at Q
 obtain⟨d,⟨n1,n2⟩,n3,n4,n5⟩:=Q
 have d:=List.all_eq_true.1 d
 have a1:=cD (n:=n.toNat) om
 have a2:=cD (n:=t.toNat) om
 have a3:=cD (n:=Pc.length) om
 have a4:∀i,((Pc.take i).flatMap ig).length<=90000*100:=λi=>by
  have:=lB (f:=ig) (m:=90000) (l:=Pc.take i) λC hC=>zM (hO.ok C (mj hC)) (d C (mj hC))
  rw[cn]at this
  omega
 refine dr h λw h=>?_
 refine ld (t:=3) (x:=n) (b:=c) (off:=0) h ?_
 refine ld (t:=3) (x:=t) (b:=c) (off:=1) h ?_
 refine ld (t:=66) (x:=u) (b:=c) (off:=2) h ?_
 have e:∀{K:Pr} {w:World} {L:List aK},ab E w (lc c 68 (ay av (n,t,u,()))::L)->K w->(LK 3 (Addr.add (⟨c,0,none⟩:Addr) 0) (iv n)<|LK 3 (Addr.add (⟨c,0,none⟩:Addr) 1) (iv t)<|LK 66 (Addr.add (⟨c,0,none⟩:Addr) 2) (sv u)<|K) w:=λh hK=>by
  refine lk (t:=3) (b:=c) (off:=0) h ?_
  refine lk (t:=3) (b:=c) (off:=1) h ?_
  refine lk (t:=66) (b:=c) (off:=2) h ?_
  exact hK
 have h:=h.pick (A:=lc c 68 (ay av (n,t,u,()))) pK
 refine qL h om om λw h=>?_
 refine e h ?_
 refine qL h om om λw h=>?_
 refine e h ?_
 refine cc om ?_
 simp only[hl]
 refine qL h om om λw h=>?_
 rw[kW]
 have e:∀{K:Pr} {w:World} {L:List aK},ab E w (lc c 68 (ay av (n,t,u,()))::L)->K w->(LK 3 (Addr.add (⟨c,0,none⟩:Addr) 0) (iv n)<|LK 3 (Addr.add (⟨c,0,none⟩:Addr) 1) (iv t)<|LK 66 (Addr.add (⟨c,0,none⟩:Addr) 2) (sv u)<|K) w:=e
 refine e h ?_
 refine cc (by rw[aU];omega) ?_
 have Ac:(aH n.toNat++aH t.toNat++aH Pc.length).length<=30:=by simp only[aU];omega
 rw[hW]at hk
 clear hW
 generalize aH n.toNat++aH t.toNat++aH Pc.length=Y at*
 refine gD (S:=ByteArray×Int) Pc.length (λi s w=>s=(B (Y++(Pc.take i).flatMap ig),(i:Int))/\ab E w (ae F::lc c 68 (ay av (n,t,u,()))::L)) ⟨sI,h.sub sS⟩ ?_
 rintro next ⟨a,q⟩ w i hi ⟨hs,h⟩ y
 simp only[nD]at hs
 obtain⟨ha,hq⟩:=hs
 subst ha hq
 have b1:=a4 i
 refine ao λ_=>?_
 refine ld (t:=66) (x:=u) (b:=c) (off:=2) h ?_
 simp only[hl]
 refine ax (λv=>?_) (λv=>?_)
 .have dU:i<Pc.length:=by have:=cT v;omega
  have H:=cp dU
  have I:=zM (hO.ok _ H) (d _ H)
  have hw:=Cu (d _ H)
  have z:∀w,ab E w (ae F::lc c 68 (ay av (n,t,u,()))::L)->next (B (Y++(Pc.take i).flatMap ig++ig Pc[i]),w6 ((i:Int)+1)) w:=λw h=>
   y dU _ _ ⟨qx (by rw[cR dU,gM];simp) (bV dU om),h⟩
  have R:=(hP.ok _ H).sw
  have T:=(hO.ok _ H).row
  have j:=d _ H
  refine br (λ(s:ByteArray) w=>s=B (Y++(Pc.take i).flatMap ig++ig Pc[i])/\ab E w (ae F::lc c 68 (ay av (n,t,u,()))::L)) (λs w hh=>?_) λJ N=>?_
  .obtain⟨rfl,h⟩:=hh
   exact ao λ_=>z w h
  clear z y hk
  generalize U:Y++(Pc.take i).flatMap ig=pre at*
  have pV:pre.length<=10000000:=by rw[<-U,aU];omega
  refine ld (t:=66) (x:=u) (b:=c) (off:=2) h ?_
  refine fx h3 dU λa r ha hr=>?_
  refine fJ h ?_
  generalize Pc[i]=C at*
  obtain⟨O,nm,V,lo,W,sn,X,sk,⟨⟩⟩:=r
  obtain⟨Ck,Cn,Cr,Cl,Ch,Sn,Sc,Sk⟩:=C
  obtain⟨g1,g2,g3,g4,g5,g6⟩:=hr
  simp only at g1 g2 g3 g4 g5 g6
  subst g1 g2 g4 g5
  obtain⟨w1,w2,Z,w4,w5⟩:=hw
  simp only at w1 w2 Z w4 w5 T R
  unfold ig at I N
  simp only at I N
  have a1:=cD (n:=O.toNat) om
  refine al h λg w h=>?_
  refine bU (t:=65) (b:=g) (vs:=ay bP (O,nm,V,lo,W,sn,X,sk,())) h (λw h=>?_)
  refine ld (t:=3) (x:=O) (b:=g) (off:=0) h ?_
  refine qL h om om λw h=>?_
  refine cc om ?_
  refine ld (t:=3) (x:=O) (b:=g) (off:=0) h ?_
  refine ax (λD=>?_) (λD=>?_)
  .have o:O=3:=ek D
   rw[ak o]at I N
   rw[aU]at I
   refine fK (t:=63) (ls:=aD) (x:=(sn,X,sk,())) (b:=g) (off:=5) h ?_
   refine T8 (h.pick (A:=ae F) pK) g6 R λw h=>?_
   have a2:=tX (Sn,Sc,Sk)
   refine KI h om λw h=>?_
   refine cc (by rw[aU];omega) ?_
   exact N _ _ ⟨by simp only[cP],h.sub sS⟩
  .have o:O≠3:=ei D
   rw[ai o]at I N
   simp only[aU]at I
   have w2:=w2 o
   have Z:=Z o
   have Zu:Cr.all dM=true:=by
    unfold gg at j
    rw[ai o]at j
    split at j
    .simp only[bp]at j
     have hf:=j.2.1
     unfold lC at hf
     rw[bp]at hf
     exact hf.1
    .cases j
   refine dr h λw h=>?_
   refine ld (t:=9) (x:=nm) (b:=g) (off:=1) h ?_
   refine ld (t:=28) (x:=V) (b:=g) (off:=2) h ?_
   refine ld (t:=3) (x:=lo) (b:=g) (off:=3) h ?_
   refine ld (t:=3) (x:=W) (b:=g) (off:=4) h ?_
   refine Ca h om λw h=>?_
   refine lk (t:=28) (b:=g) (off:=2) h ?_
   refine lk (t:=3) (b:=g) (off:=3) h ?_
   refine lk (t:=3) (b:=g) (off:=4) h ?_
   refine cc (by rw[aU];omega) ?_
   refine T9 (h.pick (A:=ae F) pK) g3 T Zu Z λw h=>?_
   refine lk (t:=3) (b:=g) (off:=3) h ?_
   refine lk (t:=3) (b:=g) (off:=4) h ?_
   refine cc (by simp only[aU];omega) ?_
   refine qL h om om λw h=>?_
   refine lk (t:=3) (b:=g) (off:=3) h ?_
   refine lk (t:=3) (b:=g) (off:=4) h ?_
   refine cc (by simp only[aU];omega) ?_
   refine qL h om om λw h=>?_
   refine lk (t:=3) (b:=g) (off:=3) h ?_
   refine lk (t:=3) (b:=g) (off:=4) h ?_
   refine cc (by simp only[aU];omega) ?_
   exact N _ _ ⟨by simp only[cP],h.sub sS⟩
 .have dU:i=Pc.length:=by have:=cF v;omega
  subst dU
  rw[cB]at b1⊢
  refine ax (λv=>?_) (λv=>?_)
  .have:=cT v
   rw[cJ]at this
   rw[ak om]at hk
   exact hk w (h.sub sS)
  .have:=cF v
   rw[cJ]at this
   rw[ai om]at hk
   exact hk w (h.sub sS)
def wG (P:Pk):List UInt8:=if fv P=[]then[]else l5 (fv P)
theorem Ta (P:Pk):(fv P).length<=100000:=by
 unfold fv
 split
 .split
  .simp
  .omega
 .simp
theorem Th (h:ab E w (ae F::L)) (f:je F p P) (g:pI P) (a:∀d,ab E d (ae F::L)->k (B (wG P)) d):CL 102 #[ag av p] an k w:=by
 have i:=Ta P
 refine acj ?_
 refine bx h λj w h=>?_
 refine bN (t:=68) (ls:=av) (x:=p) (b:=j) h ?_
 refine TK (h.pick (A:=ae F) pK) f g λw h=>?_
 unfold wG at a
 generalize fv P=b at*
 rw[qY]
 refine ax (λc=>?_) (λc=>?_)
 .have e:b=[]:=pG.1 (cT c)
  rw[ak e]at a
  exact a w (h.sub sS)
 .have e:b≠[]:=λe=>cF c (by rw[e];rfl)
  rw[ai e]at a
  rw[cJ]
  refine TL h om λw h=>?_
  refine TM h om λw h=>?_
  have l:=jL 4 b.length
  have m:=pe b
  refine cc om ?_
  exact a w (h.sub sS)
def DO (a:Int) (l:Row):Int:=l.foldl (λa v=>w6 (a+(v.2.2.2.1.size:Int))) a
def Ga (a:Int) (l:List qF):Int:=l.foldl (λa c=>w6 (a+(c.1.size:Int))) a
def uU (a:Int) (C:jc):Int:=Ga (DO (w6 (w6 (w6 (w6 (a+(C.2.1.size:Int))+(C.2.2.2.2.2.1.size:Int))+(C.2.2.1.length:Int))+w6 (10*(C.2.2.2.2.2.2.1.length:Int)))) (C.2.2.1.take 300)) (C.2.2.2.2.2.2.1.take 300)
def vw:Int->List jc->Int
 |a,[]=>a
 |a,C::l=>if uU a C>20000 then 1000000 else vw (uU a C) l
def D9 (P:Pk):Int:=if(P.2.2.length:Int)>110 then 1000000 else vw 0 P.2.2
theorem Tg {k:Int->Pr} (h:ab E w (ae F::L)) (hp:je F p P) (hk:∀R,ab E R (ae F::L)->k (D9 P) R):CL 101 #[ag av p] ah k w:=by
 obtain⟨n,t,H,⟨⟩⟩:=p
 obtain⟨Pn,Pt,Pc⟩:=P
 obtain⟨h1,h2,h3⟩:=id hp
 simp only at h1 h2 h3
 subst h1 h2
 have hl:=h3.len
 refine aci ?_
 refine bx h λI w h=>?_
 refine ld (t:=66) (x:=H) (b:=I) (off:=2) h ?_
 simp only[hl]
 unfold D9 at hk
 refine ax (λhc=>?_) (λhc=>?_)
 .have h5:(Pc.length:Int)>110:=cT hc
  rw[ak h5]at hk
  exact hk w (h.sub sS)
 have h5:¬(Pc.length:Int)>110:=cF hc
 rw[ai h5]at hk
 have hk:∀R,ab E R (ae F::L)->k (vw 0 Pc) R:=hk
 refine gD (S:=Int×Int) Pc.length (λi s w=>s.2=(i:Int)/\vw s.1 (Pc.drop i)=vw 0 Pc/\ab E w (ae F::lc I 68 (ay av (n,t,H,()))::L)) ⟨rfl,rfl,h.sub sS⟩ ?_
 rintro next ⟨a,q⟩ w i hi ⟨hq,ha,h⟩ u
 simp only at hq ha
 subst hq
 refine ao λ_=>?_
 refine ld (t:=66) (x:=H) (b:=I) (off:=2) h ?_
 simp only[hl]
 refine ax (λhc=>?_) (λhc=>?_)
 .have dU:i<Pc.length:=by have:=cT hc;omega
  rw[iB dU]at ha
  have v:∀w,ab E w (ae F::lc I 68 (ay av (n,t,H,()))::L)->¬uU a Pc[i]>20000->next (uU a Pc[i],w6 ((i:Int)+1)) w:=λw h hc=>by
   refine u dU _ _ ⟨bV dU om,?_,h⟩
   rw[<-ha]
   show _=if _ then _ else _
   rw[ai hc]
  have y:∀w,ab E w (ae F::L)->uU a Pc[i]>20000->k 1000000 w:=λw h hc=>by
   have e:vw a (Pc[i]::Pc.drop (i+1))=if uU a Pc[i]>20000 then 1000000 else vw (uU a Pc[i]) (Pc.drop (i+1)):=rfl
   rw[e,ak hc]at ha
   rw[<-ha]at hk
   exact hk w h
  clear u hk ha
  refine ld (t:=66) (x:=H) (b:=I) (off:=2) h ?_
  refine fx h3 dU λad r had hr=>?_
  refine fJ h ?_
  generalize Pc[i]=C at*
  obtain⟨T,O,d,U,z,Q,f,V,⟨⟩⟩:=r
  obtain⟨Ck,Cn,g,Cl,Ch,Sn,m,Sk⟩:=C
  obtain⟨g1,g2,g3,g4,g5,g6⟩:=hr
  simp only at g1 g2 g3 g4 g5 g6
  obtain⟨g7,g8,g9⟩:=g6
  simp only at g7 g8 g9
  subst g1 g2 g4 g5 g7 g9
  have W:=g3.2
  have X:=g8.2
  unfold uU at v y
  simp only at v y
  refine al h λo w h=>?_
  refine bU (t:=65) (b:=o) (vs:=ay bP (T,O,d,U,z,Q,f,V,())) h (λw h=>?_)
  refine ld (t:=9) (x:=O) (b:=o) (off:=1) h ?_
  refine ld (t:=9) (x:=Q) (b:=o) (off:=5) h ?_
  refine ld (t:=28) (x:=d) (b:=o) (off:=2) h ?_
  refine ld (t:=61) (x:=f) (b:=o) (off:=6) h ?_
  simp only[W,X]
  generalize w6 (w6 (w6 (w6 (a+(O.size:Int))+(Q.size:Int))+(g.length:Int))+w6 (10*(m.length:Int)))=a1 at*
  refine gD (S:=Int×Int) (min g.length 300) (λj s w=>s=(DO a1 (g.take j),(j:Int))/\ab E w (lc o 65 (ay bP (T,O,d,U,z,Q,f,V,()))::ae F::lc I 68 (ay av (n,t,H,()))::L)) ⟨rfl,h⟩ ?_
  rintro w8 ⟨b1,q⟩ w j hj ⟨Y,h⟩ l
  simp only[nD]at Y
  obtain⟨e1,e2⟩:=Y
  subst e1 e2
  refine ao λ_=>?_
  refine ld (t:=28) (x:=d) (b:=o) (off:=2) h ?_
  simp only[W]
  refine br (λb w=>b=decide (j<min g.length 300)/\ab E w (lc o 65 (ay bP (T,O,d,U,z,Q,f,V,()))::ae F::lc I 68 (ay av (n,t,H,()))::L)) (λb w hh=>?_) λJ Z=>?_
  rotate_left
  .refine ax (λhc=>?_) (λhc=>?_)
   .have K:(j:Int)<(g.length:Int):=cT hc
    refine Z _ _ ⟨?_,h⟩
    rw[gb,bX,bX]
    omega
   .have K:¬(j:Int)<(g.length:Int):=cF hc
    refine Z _ _ ⟨?_,h⟩
    symm
    rw[ml]
    omega
  obtain⟨rfl,h⟩:=hh
  refine ao λ_=>?_
  refine ax (λhc=>?_) (λhc=>?_)
  .have c:j<min g.length 300:=cT hc
   have A:j<g.length:=om
   refine ld (t:=28) (x:=d) (b:=o) (off:=2) h ?_
   refine ix g3 A λSx D=>?_
   refine nV (t:=9) (j:=3) (x:=(g[j]).2.2.2.1) h ?_ (ha:=D) (hc:=by rfl)
   refine l c _ _ ⟨qx ?_ (bV c om),h⟩
   rw[cR A]
   unfold DO
   rw[qy]
   rfl
  have c:j=min g.length 300:=by have:=cF hc;omega
  have e3:g.take j=g.take 300:=by
   rw[c]
   by_cases K:g.length<=300
   .rw[rC K,cB,iP K]
   .rw[R8 om]
  rw[e3]
  clear l
  generalize DO a1 (g.take 300)=a2 at*
  refine gD (S:=Int×Int) (min m.length 300) (λj s w=>s=(Ga a2 (m.take j),(j:Int))/\ab E w (lc o 65 (ay bP (T,O,d,U,z,Q,f,V,()))::ae F::lc I 68 (ay av (n,t,H,()))::L)) ⟨rfl,h⟩ ?_
  rintro aku ⟨b1,q⟩ w j hj ⟨Y,h⟩ N
  simp only[nD]at Y
  obtain⟨e1,e2⟩:=Y
  subst e1 e2
  refine ao λ_=>?_
  refine ld (t:=61) (x:=f) (b:=o) (off:=6) h ?_
  simp only[X]
  refine br (λb w=>b=decide (j<min m.length 300)/\ab E w (lc o 65 (ay bP (T,O,d,U,z,Q,f,V,()))::ae F::lc I 68 (ay av (n,t,H,()))::L)) (λb w hh=>?_) λJ Z=>?_
  rotate_left
  .refine ax (λhc=>?_) (λhc=>?_)
   .have K:(j:Int)<(m.length:Int):=cT hc
    refine Z _ _ ⟨?_,h⟩
    rw[gb,bX,bX]
    omega
   .have K:¬(j:Int)<(m.length:Int):=cF hc
    refine Z _ _ ⟨?_,h⟩
    symm
    rw[ml]
    omega
  obtain⟨rfl,h⟩:=hh
  refine ao λ_=>?_
  refine ax (λhc=>?_) (λhc=>?_)
  .have c:j<min m.length 300:=cT hc
   have A:j<m.length:=om
   refine ld (t:=61) (x:=f) (b:=o) (off:=6) h ?_
   refine ix g8 A λSx D=>?_
   refine nU (t:=9) (x:=(m[j]).1) h ?_ (ha:=D) (hc:=by rfl)
   refine N c _ _ ⟨qx ?_ (bV c om),h⟩
   rw[cR A]
   unfold Ga
   rw[qy]
   rfl
  have c:j=min m.length 300:=by have:=cF hc;omega
  have e3:m.take j=m.take 300:=by
   rw[c]
   by_cases K:m.length<=300
   .rw[rC K,cB,iP K]
   .rw[R8 om]
  rw[e3]
  refine ax (λhc=>?_) (λhc=>?_)
  .exact y w (h.sub sS) (cT hc)
  .exact v w (h.sub sS) (cF hc)
 .have dU:i=Pc.length:=by have:=cF hc;omega
  subst dU
  rw[qv]at ha
  have ha:a=vw 0 Pc:=ha
  rw[<-ha]at hk
  exact hk w (h.sub sS)
end Go.Proofs.YtelhccfmfnaegaaGreat
