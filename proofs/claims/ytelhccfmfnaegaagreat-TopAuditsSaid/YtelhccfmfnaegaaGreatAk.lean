/- Lemmas for topAudits_holds. No conditions. -/
import Derived.Test.YtelhccfmfnaegaaGreatAx
set_option linter.unusedSectionVars false
set_option linter.unusedVariables false
set_option linter.unusedSimpArgs false
set_option linter.defProp false
set_option maxRecDepth 10000
namespace Go.Proofs.YtelhccfmfnaegaaGreat
open Go Go.Sh Tryz
attribute [local irreducible] aT jC gk dV kO dg hex iT jk ae aj bG aN bq fL az
def iw (id:Nat) (ids:List Nat):bc:=aH id++(aH ids.length++ids.flatMap aH)
abbrev BU:=Int×Sl×Unit
abbrev jm (F:bh) (s:Sl) (ids:List Nat):Prop:=FL F I1 s (ids.map dL)
theorem CG {ids:List Nat} (h:∀n∈ids,n<65536):(ids.flatMap aH).length<=10*ids.length:=by
 induction ids with
 |nil=>simp
 |cons n l a=>
  rw[fc,aU,db]
  have c:=a λm b=>h m (dH _ b)
  have d:=cD (n:=n) (by have:=h n eo;omega)
  omega
theorem yR:gq 150=⟨[iv 0,sv au]⟩:=kK
theorem ai7:gq 288=⟨[.pointer none]⟩:=kK
variable {E w:World} {L L':List aK} {F G:bh} {s:Sl} {rb t4 pos:Nat} {l rest:List UInt8} {P Q:iF} {ca:List Rc} {r:Nat} {S:dt} {T b:Nat} {X:DX} {p q:Nat} {bl:Bool} {b0 b1 bT:Nat} {o:Option Rc} {Qr:Nat->List Nat->List Rc->Prop} {Lf:Prop} {N:Nat} {lay:Value} {t2 t8:Nat} {u:bc} {bb:Option Rc} {bd:List Rc} {pk:pH} {B0:b9} {b' t3:Nat} {B1:b9} {hz:Int} {B2:b9} {Ps:List Pk} {sk:Nat} {kB:ByteArray} {a na nc ne:Int} {ps:List Nat}
theorem K3 {id:Nat} {ids:List Nat} {k:ByteArray->Pr} (h:ab E w (ae F::L)) (hs:jm F s ids) (o:id<65536) (c:∀n∈ids,n<65536) (hn:ids.length<=10000)
  (p:∀m,ab E m (ae F::L)->k (B (iw id ids)) m):CL 221 #[.agg #[iv (id:Int),sv s]] an k w:=by
 have f:s.len=ids.length:=by have:=hs.2;rw[bW]at this;exact this
 have r:=CG c
 have u:=cD (n:=id) om
 have v:=cD (n:=ids.length) om
 refine ad8 (p0:=((id:Int),s,())) ?_
 refine bx h λd w h=>?_
 refine dr h λw h=>?_
 refine ld (t:=3) (x:=(id:Int)) (b:=d) (off:=0) h ?_
 refine ld (t:=41) (x:=s) (b:=d) (off:=1) h ?_
 have y:IntKind.u64.wrap (id:Int)=((id:Nat):Int):=by
  have g:∀z:Int,IntKind.u64.wrap z=z%18446744073709551616:=λz=>rfl
  rw[g];omega
 have A:IntKind.u64.wrap ((s.len:Nat):Int)=((ids.length:Nat):Int):=by
  have g:∀z:Int,IntKind.u64.wrap z=z%18446744073709551616:=λz=>rfl
  rw[g,f];omega
 rw[y,A]
 refine nf h om λw h=>?_
 refine lk (t:=3) (b:=d) (off:=0) h ?_
 refine lk (t:=41) (b:=d) (off:=1) h ?_
 refine nf h om λw h=>?_
 refine lk (t:=3) (b:=d) (off:=0) h ?_
 refine lk (t:=41) (b:=d) (off:=1) h ?_
 refine cc om ?_
 refine ld (t:=41) (x:=s) (b:=d) (off:=1) h ?_
 simp only[f]
 refine cy (S:=ByteArray×Int) (cf:=λs=>s.2) ids.length rfl (λi st w=>st.1=B (aH id++aH ids.length++(ids.take i).flatMap aH)/\ab E w (lc d 150 [iv (id:Int),sv s]::ae F::L)) rfl ⟨sI,h⟩ ?_ ?_
 .rintro next ⟨x,_⟩ w i j rfl ⟨rfl,h⟩ e
  obtain⟨C,l⟩:=yg aH ids i j
  have D:=c _ (cp j)
  have H:IntKind.u64.wrap ((ids[i]:Nat):Int)=((ids[i]:Nat):Int):=by
   have g:∀z:Int,IntKind.u64.wrap z=z%18446744073709551616:=λz=>rfl
   rw[g];omega
  refine ix (T:=41) (ls:=I1) (i:=i) hs (by simpa using j) (λa ha=>?_)
  refine nU (x:=((ids[i]:Nat):Int)) h ?_ (ha:=ha) (hc:=by simp;rfl)
  rw[H]
  refine nf h om λw h=>?_
  refine cc (by simp only[aU];omega) ?_
  refine e _ _ (bV j om) ⟨by rw[l];simp only[cP],h⟩
 .rintro⟨x,_⟩ w ⟨rfl,h⟩
  rw[cB,cP]
  exact p _ h.drop
theorem Lp {id n:Nat} {ids:List Nat} {k:BU->Pr} (h:ab E w (ae F::L)) (hs:jm F s ids) (hn:ids.length<=1000000)
  (g:∀G e f,F.le G->jm G e (ids++[n])->ab E f (ae G::L)->k ((id:Int),e,()) f):CL 289 #[.agg #[iv (id:Int),sv s],iv (n:Int)] (ya dq) k w:=by
 refine afg (p0:=((id:Int),s,())) ?_
 refine bx h λc w h=>?_
 refine al h λi w h=>?_
 rw[yR]at h
 refine ld (t:=41) (x:=s) (b:=c) (off:=1) h ?_
 refine ta (T:=41) (ls:=I1) h hs (by simp;omega) λl w h=>?_
 refine bJ (T:=41) (ls:=I1) (y:=dL n) h λt w _ h=>?_
 refine eA (T:=41) (ls:=I1) (xs:=ids.map dL) h (by simp;omega) λa w h=>?_
 refine st (t:=41) (b:=c) (off:=1) h λw h=>?_
 refine bN (t:=150) (ls:=dq) (x:=((id:Int),a,())) (b:=c) h ?_
 refine bU (t:=150) (b:=i) h (λw h=>?_)
 refine pf (ls:=dq) (x:=((id:Int),a,())) h ?_
 obtain⟨G,j,h,d⟩:=dT (T:=41) (ls:=I1) (s:=a) (F:=F) h
 refine g G a _ j ?_ (h.sub sS)
 show FL G I1 a ((ids++[n]).map dL)
 rw[fe];exact d
theorem Uu {n:Nat} {k:Int->Pr} (h:ab E w (be rb l pos 0::lc t4 288 [.pointer (some ⟨rb,0,none⟩)]::L)) (c:l.length<=1000000000) (hd:l.drop pos=aH n++rest) (hn:n<65536)
  (d:∀a,ab E a (be rb l (pos+(aH n).length:Nat) 0::lc t4 288 [.pointer (some ⟨rb,0,none⟩)]::L)->k (n:Int) a):CL 218 #[pa ⟨t4,0,none⟩] ah k w:=by
 refine ad6 ?_
 refine ld (t:=288) (x:=some ⟨rb,0,none⟩) (b:=t4) (off:=0) h ?_
 refine nL (n:=n) h c hd om λw h=>?_
 refine fin (d _ h) ?_
 have e:Int.tmod (n:Int) 65536=((n%65536:Nat):Int):=rfl
 rw[e,hU hn,bQ om]
theorem T4 {id:Nat} {ids:List Nat} {k:BU×Bool×Unit->Pr} (h:ab E w (ae F::L)) (m:id<65536) (c:∀n∈ids,n<65536) (hn:ids.length<=10000)
  (v:∀G s p,F.le G->jm G s ids->ab E p (ae G::L)->k (((id:Int),s,()),true,()) p):CL 170 #[.string (B (iw id ids))] (.aG [.agg dq,.leaf .bool]) k w:=by
 have N:=CG c
 have O:=cD (n:=id) om
 have P:=cD (n:=ids.length) om
 have g:(iw id ids).length<=1000000000:=by unfold iw;simp only[aU];omega
 have e1:(iw id ids).drop 0=aH id++(aH ids.length++ids.flatMap aH):=rfl
 have e2:=fj e1
 have I:=fj e2
 generalize C:iw id ids=l at*
 refine adn ?_
 refine al h λJ w h=>?_
 rw[yR]at h
 refine tg h λa w h=>?_
 refine al h λe w h=>?_
 rw[ai7]at h
 refine st (t:=288) (b:=e) (off:=0) h λw h=>?_
 have d:∀{pos n:Nat} {r:bc} {w:World} {M:List aK} {K:Int->Pr},ab E w (be a l pos 0::lc e 288 [.pointer (some ⟨a,0,none⟩)]::M)->l.drop pos=aH n++r->n<65536->(∀p,ab E p (be a l (pos+(aH n).length:Nat) 0::lc e 288 [.pointer (some ⟨a,0,none⟩)]::M)->K (n:Int) p)->oD prog (eW (.func (.func 218) #[] #[pa ⟨e,0,none⟩]) #[]) ah K w:=λh hd hn v=>by
  refine lH ?_
  exact Uu h g hd hn v
 refine d (pos:=0) (h.bF (A1:=be a l (0:Nat) 0) (A2:=lc e 288 [.pointer (some ⟨a,0,none⟩)]) pK pK) e1 m λw h=>?_
 refine al h λf w h=>?_
 rw[yR]at h
 refine bU (t:=150) (b:=f) h (λw h=>?_)
 refine ld (t:=288) (x:=some ⟨a,0,none⟩) (b:=e) (off:=0) h ?_
 refine nL (n:=ids.length) (h.pick (A:=be a l (0+(aH id).length:Nat) 0) pK) g e2 om λw h=>?_
 generalize Q:0+(aH id).length+(aH ids.length).length=R at*
 have U:ids.flatMap aH=ids.flatMap aH++[]:=sI
 rw[U]at I
 have h:=fm (T:=41) (ls:=I1) h
 refine gD (S:=Int) ids.length (λi s w=>s=((ids.length-i:Nat):Int)/\∃pos o,l.drop pos=(ids.drop i).flatMap aH++[]/\ab E w (OS 41 I1 o ((ids.take i).map dL)::be a l pos 0::lc e 288 [.pointer (some ⟨a,0,none⟩)]::lc f 150 [iv (id:Int),sv o]::lc J 150 [iv 0,sv au]::ae F::L)) ⟨rfl,R,au,I,h.sub sS⟩ ?_
 rintro next s w i hi ⟨rfl,pos,o,hd,h⟩ j
 refine ao λ_=>?_
 refine aL ?_
 refine ax (λD=>?_) (λD=>?_)
 .have cH:i<ids.length:=by have V:((ids.length-i:Nat):Int)>0:=cT D;omega
  have H:=c _ (cp cH)
  rw[iB cH,fc,cP]at hd
  refine ld (t:=288) (x:=some ⟨a,0,none⟩) (b:=e) (off:=0) h ?_
  refine pO (h.pick (A:=be a l pos 0) pK) λw h=>?_
  refine ao λ_=>?_
  refine aR rfl ?_
  refine dr h λw h=>?_
  refine ld (t:=41) (x:=o) (b:=f) (off:=1) h ?_
  refine d (pos:=pos) (h.bF (A1:=be a l pos 0) (A2:=lc e 288 [.pointer (some ⟨a,0,none⟩)]) pK pK) hd H λw h=>?_
  refine lk (t:=41) (b:=f) (off:=1) h ?_
  refine bJ (T:=41) (ls:=I1) (y:=dL ids[i]) h λt w _ h=>?_
  refine lk (t:=41) (b:=f) (off:=1) h ?_
  refine eA (T:=41) (ls:=I1) (xs:=(ids.take i).map dL) h (by rw[bW,cn];omega) λW w h=>?_
  refine st (t:=41) (b:=f) (off:=1) h λw h=>?_
  have X:IntKind.u64.wrap (((ids.length-i:Nat):Int)-1)=((ids.length-(i+1):Nat):Int):=by
   have Y:∀z:Int,IntKind.u64.wrap z=z%18446744073709551616:=λz=>rfl
   rw[Y];omega
  rw[X]
  refine j cH _ _ ⟨rfl,pos+(aH ids[i]).length,W,fj hd,?_⟩
  have Z:(ids.take (i+1)).map dL=(ids.take i).map dL++[dL ids[i]]:=by rw[lT cH,fe];rfl
  rw[Z]
  exact h.sub sS
 .have cH:i=ids.length:=by have V:¬((ids.length-i:Nat):Int)>0:=cF D;omega
  subst cH
  rw[cB]at h
  refine ao λ_=>?_
  refine ar rfl ?_
  refine dr h λw h=>?_
  refine bN (t:=150) (ls:=dq) (x:=((id:Int),o,())) (b:=f) h ?_
  refine ld (t:=288) (x:=some ⟨a,0,none⟩) (b:=e) (off:=0) h ?_
  refine pO (h.pick (A:=be a l pos 0) pK) λw h=>?_
  refine j8 (t:=150) (b:=f) (off:=0) (vs:=ay dq ((id:Int),o,())) h ?_
  refine aR rfl ?_
  refine bN (t:=150) (ls:=dq) (x:=((id:Int),o,())) (b:=f) h ?_
  obtain⟨G,hG,h,u⟩:=dT (T:=41) (ls:=I1) (s:=o) (F:=F) h
  refine K3 (F:=G) (id:=id) (ids:=ids) (h.pick (A:=ae G) pK) u m c hn λw h=>?_
  rw[C]
  refine j8 (t:=150) (b:=f) (off:=0) (vs:=ay dq ((id:Int),o,())) h ?_
  refine bU (t:=150) (b:=J) h (λw h=>?_)
  rw[iK,eu rfl]
  refine nr (ls:=dq) (x:=((id:Int),o,())) (y:=true) h ?_
  exact v G o _ hG u (h.sub sS)
abbrev bf (v p q b:Nat) (id:Nat) (s:Sl) (bl:Bool):aK:=lc v 152 [.pointer (some ⟨p,0,none⟩),.pointer (some ⟨q,0,none⟩),.pointer (some ⟨b,0,none⟩),iv (id:Int),sv s,.bool bl]
theorem dn.congr (h:dn P ca r) (a:∀n,n<180->Q n=P n):dn Q ca r:=by
 refine⟨by rw[a 0 om];exact h.len,by rw[a 1 om];exact h.root,h.rl,by rw[a 0 om];exact h.one,h.nd,λn d e=>by rw[a 0 om];exact h.bit n d e,λx f=>?_⟩
 have b:=h.ch x f
 refine⟨b.len,b.lg,λj c=>?_,b.rg⟩
 rw[a _ (b.rg _ (cp c)).2]
 exact b.at_ j c
theorem Clean.congr (h:Clean S T b P) (c:∀n,n<180->Q n=P n):Clean S T b Q:=by
 obtain⟨d,g,e,f,i,j⟩:=h.out
 exact⟨h.sl,d,g,e,f,i,λn a=>by rw[c n a];exact j n a⟩
theorem Clean.hv (h:Clean X.S T b P) (a:X.c=[]):∀n,n<180->cU X n=P n:=λn d=>by
 obtain⟨i,g,j,k,l,f⟩:=h.out
 have e:cU X n=X.S (120+n):=by unfold cU DX.view;rw[a];rfl
 rw[e];exact f n d
def E2 (X:DX) (o:Option Rc) (r N:Nat) (Qr:Nat->List Nat->List Rc->Prop):Prop:=∃d c a b,dn (bI X d) (o.toList++b) r/\Qr c a b/\a.length<=5000/\dm d<=N/\
 (kJ (bI X d)<eI (iw c a).length\/∃c2,dm c2<=dm d+3*eI (iw c a).length+2/\(∀n x,c2 n=some x->n<180/\x.length=128)/\118<kP (cO c2))
theorem xM {v id:Nat} {k:Int->Pr} (h:ab E w (bf v p q b id s bl::L)) (a:∀c,ab E c (bf v p q b id s bl::L)->k (if bl then 17 else 0) c):CL 144 #[.pointer (some ⟨v,0,none⟩)] ah k w:=by
 refine acW ?_
 refine dw (x:=false) kK ?_
 refine aL ?_
 refine ar rfl ?_
 refine aq ?_
 refine ld (t:=57) (x:=some ⟨b,0,none⟩) (b:=v) (off:=2) h ?_
 refine dw (x:=false) kK ?_
 refine ao λ_=>?_
 refine ar rfl ?_
 refine aq ?_
 refine ld (t:=4) (x:=bl) (b:=v) (off:=5) h ?_
 cases bl with
 |true=>exact aR rfl (a _ h)
 |false=>exact ar rfl (a _ h)
theorem T6 {v id:Nat} {k:Bool->Pr} (h:ab E w (bf v p q b id s bl::L)) (c:∀a,ab E a (bf v p q b id s bl::L)->k bl a):CL 172 #[.pointer (some ⟨v,0,none⟩)] aw k w:=by
 refine adp ?_
 refine dw (x:=true) kK ?_
 refine aL ?_
 refine aR rfl ?_
 refine aq ?_
 refine ld (t:=4) (x:=bl) (b:=v) (off:=5) h ?_
 refine ao λ_=>?_
 exact c _ h
theorem KO {v d id:Nat} {L:bh->List aK} {k:Int->Pr}
  (h:ab E w (ae F::bf v p q b0 id s false::bm q p::aj d X::aN p d T bT (λ_=>none)::L F)) (hX:X.c=[]) (W:Clean X.S T bT (cU X)) (hT:T<=900000) (ho:BT o r)
  (Z:∀(w:World) (K:BU×Int×Unit->Pr),ab E w (ae F::bf v p q b0 id s false::bm q p::aj d X::aN p d T bT (λ_=>none)::L F)->
    (∀G (x:BU) e g j,e≠0->Lf->F.le G->ab E j (ae G::bf v p q b0 id s false::bm q p::aj d X::aN p d T bT g::L G)->K (x,e,()) j)->
    (∀G (f:Nat) m a rest g j,F.le G->jm G m a->f<65536->(∀n∈a,n<65536)->a.length<=5000->dn (bI X g) (o.toList++rest) r->Qr f a rest->dm g<=N->ab E j (ae G::bf v p q b0 id s false::bm q p::aj d X::aN p d T bT g::L G)->K (((f:Int),m,()),0,()) j)->
    oD prog (eW lay #[]) (.aG [.agg dq,.leaf (.int .i64)]) K w)
  (U:∀G j,(Lf\/E2 X o r N Qr)->F.le G->ab E j (ae G::bf v p q b0 id s false::bm q p::aj d X::aN p d T bT (λ_=>none)::L G)->k 3 j)
  (pU:∀G Y C i (f:Nat) m a rest l j,F.le G->Y.fu=X.fu->Y.c=[]->C<=T+1->Clean Y.S C i (cU Y)->jm G m a->a.length<=5000->Qr f a rest->dn (cU Y) ((l,iw f a)::rest) (l.getD 0 0)->ab E j (ae G::bf v p q b1 f m false::bm q p::aj d Y::aN p d C i (λ_=>none)::L G)->k 0 j)
  (Af:∀G Y P' (f:Nat) a rest l j,F.le G->X.fu=true->Y.fu=X.fu->Halt Y.S Y.c (T+1) (cU X) P'->a.length<=5000->Qr f a rest->dn P' ((l,iw f a)::rest) (l.getD 0 0)->ab E j (ae G::bf v p q b0 id s true::aj d Y::L G)->k 6 j):
  CL 187 #[.pointer (some ⟨v,0,none⟩),.pointer (some ⟨b1,0,none⟩),lay] ah k w:=by
 refine adD ?_
 refine Z w _ h (λG x e g w he C1 V h=>?_) (λG f m a rest g w V yo CV O D hp hq r8 h=>?_)
 .have h:ab E w (ae G::bf v p q b0 id s false::bm q p::aj d X::aN p d T bT g::L G):=h
  refine al h λH w h=>?_
  refine bU (t:=150) (b:=H) h (λw h=>?_)
  refine aL ?_
  refine ar (by simpa using he) ?_
  refine ao λ_=>?_
  refine aR (by simpa using he) ?_
  refine aq ?_
  refine ld (t:=147) (x:=some ⟨p,0,none⟩) (b:=v) (off:=0) h ?_
  refine FF (h.bF (A1:=aj d X) (A2:=aN p d T bT g) pK pK) λw h=>?_
  exact U G w (.inl C1) V (h.sub sS)
 .have h:ab E w (ae G::bf v p q b0 id s false::bm q p::aj d X::aN p d T bT g::L G):=h
  have jl:(iw f a).length<=100000:=by
   have h1:=CG O
   have h2:=cD (n:=f) om
   have h3:=cD (n:=a.length) om
   unfold iw;simp only[aU];omega
  refine al h λH w h=>?_
  refine bU (t:=150) (b:=H) h (λw h=>?_)
  refine br (λe w=>(e=3/\E2 X o r N Qr/\∃c2,ab E w (lc H 150 (ay dq ((f:Int),m,()))::ae G::bf v p q b0 id s false::bm q p::aj d X::aN p d T bT c2::L G))\/(e=0/\∃c2 l,dm c2<=dm g+3*eI (iw f a).length+2/\dn (bI X c2) ((l,iw f a)::rest) (l.getD 0 0)/\ab E w (lc H 150 (ay dq ((f:Int),m,()))::ae G::bf v p q b0 id s false::bm q p::aj d X::aN p d T bT c2::L G))) (λe w hs=>?_) λJ hJ=>?_
  .rcases hs with⟨rfl,aab,c2,h⟩|⟨rfl,c2,l,u,I,h⟩
   .refine ao λ_=>?_
    refine aR rfl ?_
    refine aq ?_
    refine ld (t:=147) (x:=some ⟨p,0,none⟩) (b:=v) (off:=0) h ?_
    refine FF (h.bF (A1:=aj d X) (A2:=aN p d T bT c2) pK pK) λw h=>?_
    exact U G w (.inr aab) V (h.sub sS)
   .refine ao λ_=>?_
    refine ar rfl ?_
    refine aq ?_
    refine ld (t:=147) (x:=some ⟨p,0,none⟩) (b:=v) (off:=0) h ?_
    have Q:∀Y C i w,Y.fu=X.fu->Y.c=[]->C<=T+1->Clean Y.S C i (bI X c2)->ab E w (aj d Y::aN p d C i (λ_=>none)::lc H 150 (ay dq ((f:Int),m,()))::ae G::bf v p q b0 id s false::bm q p::L G)->
      (LD 150 ⟨H,0,none⟩ (ya dq) λt45=>NC (some ⟨v,0,none⟩) λt47=>ST 150 (Addr.add t47 3) (ag dq t45)<|NC (some ⟨v,0,none⟩) λt49=>ST 57 (Addr.add t49 2) (.pointer (some ⟨b1,0,none⟩))<|k 0) w:=by
     intro Y C i w y M oX R h
     refine bN (t:=150) (ls:=dq) (x:=((f:Int),m,())) (b:=H) h ?_
     refine aq ?_
     refine yJ (t:=150) (b:=v) (off:=3) h (λw h=>?_)
     refine aq ?_
     refine st (t:=57) (b:=v) (off:=2) h λw h=>?_
     have NF:=R.hv M
     exact pU G Y C i f m a rest l w V y M oX (R.congr λn hn=>NF n hn) yo D hq (I.congr λn hn=>NF n hn) (h.sub sS)
    have z:=(rF (h.bF (A1:=aj d X) (A2:=aN p d T bT c2) pK pK)).2
    obtain⟨_,_,_,_,GL,_⟩:=z
    have z:=GL.wf
    refine KF (P:=cU X) (h.bF (A1:=aj d X) (A2:=aN p d T bT c2) pK pK) hT hX W (λw lG h=>?_) (λw Yn h=>?_) (λw Y y M z5 h=>?_) (λ_ w Y hf y hH h=>?_)
    .refine aR rfl ?_
     have he:c2=λ_=>none:=funext lG
     subst he
     exact Q X T bT w rfl hX om W h
    .refine ar rfl ?_
     refine aR rfl ?_
     refine aq ?_
     refine ld (t:=147) (x:=some ⟨p,0,none⟩) (b:=v) (off:=0) h ?_
     refine FF (h.bF (A1:=aj d X) (A2:=aN p d T bT c2) pK pK) λw h=>?_
     exact U G w (.inr ⟨g,f,a,rest,hp,hq,D,r8,.inr ⟨c2,u,z,Yn⟩⟩) V (h.sub sS)
    .refine aR rfl ?_
     exact Q Y (T+1) (T+1) w y M om z5 h
    .refine ar rfl ?_
     refine ar rfl ?_
     refine aq ?_
     refine st (t:=4) (b:=v) (off:=5) h λw h=>?_
     exact Af G Y (bI X c2) f a rest l w V hf y hH D hq I (h.sub sS)
  .refine aR rfl ?_
   refine dr h λw h=>?_
   refine aq ?_
   refine ld (t:=148) (x:=some ⟨q,0,none⟩) (b:=v) (off:=1) h ?_
   refine bN (t:=150) (ls:=dq) (x:=((f:Int),m,())) (b:=H) h ?_
   refine K3 (F:=G) (id:=f) (ids:=a) (h.pick (A:=ae G) pK) yo CV O om λw h=>?_
   refine lk (t:=148) (b:=v) (off:=1) h ?_
   refine UG (o:=o) (rest:=rest) (h.lj (A1:=bm q p) (A2:=aj d X) (A3:=aN p d T bT g) pK pK pK) hp ho jl (λw Ab h=>?_) (λl c2 w _ I u h=>?_)
   .exact hJ 3 w (.inl ⟨rfl,⟨g,f,a,rest,hp,hq,D,r8,.inl Ab⟩,g,h.sub sS⟩)
   .exact hJ 0 w (.inr ⟨rfl,c2,l,u,I,h.sub sS⟩)
theorem Uk {d:Nat} {c:fh} {v:bc} {k:Int×Int×Unit->Pr} (h:ab E w (bm q p::aj d X::aN p d T b c::L)) (hv:100000<v.length)
  (e:∀a,ab E a (bm q p::aj d X::aN p d T b c::L)->k (0,19,()) a):
  CL 190 #[.pointer (some ⟨q,0,none⟩),.string (B v)] (.aG [.leaf (.int .i64),.leaf (.int .i64)]) k w:=by
 refine PK ?_
 refine zE h λw h=>?_
 refine ar rfl ?_
 rw[cJ]
 refine aR (GB om) ?_
 exact e _ h
theorem U7 {v d id:Nat} {c:fh} {ids:List Nat} {k:(Int×Sl×Unit)×Int×Unit->Pr}
  (h:ab E w (ae F::bf v p q b0 id s false::bm q p::aj d X::aN p d T bT c::lc t2 90 [.pointer (some ⟨v,0,none⟩)]::lc t8 9 [.string (B u)]::L))
  (H:dn (bI X c) ca r) (I:u.length<=100000) (hs:jm F s ids) (hn:ids.length<=1000000)
  (m:∀G x a,kJ (bI X c)<eI u.length->F.le G->ab E a (ae G::bf v p q b0 id s false::bm q p::aj d X::aN p d T bT c::lc t2 90 [.pointer (some ⟨v,0,none⟩)]::lc t8 9 [.string (B u)]::L)->k (x,3,()) a)
  (J:∀G e f g a,F.le G->jm G e (ids++[f.getD 0 0])->dn (bI X g) ((f,u)::ca) r->dm g<=dm c+3*eI u.length->ab E a (ae G::bf v p q b0 id s false::bm q p::aj d X::aN p d T bT g::lc t2 90 [.pointer (some ⟨v,0,none⟩)]::lc t8 9 [.string (B u)]::L)->k (((id:Int),e,()),0,()) a):
  CL 288 #[pa ⟨t2,0,none⟩,pa ⟨t8,0,none⟩] (.aG [.agg dq,.leaf (.int .i64)]) k w:=by
 refine aff ?_
 refine al h λj w h=>?_
 rw[yR]at h
 refine dr h λw h=>?_
 refine ld (t:=90) (x:=some ⟨v,0,none⟩) (b:=t2) h ?_
 refine aq ?_
 refine ld (t:=148) (x:=some ⟨q,0,none⟩) (b:=v) (off:=1) h ?_
 refine ld (t:=9) (x:=B u) (b:=t8) h ?_
 refine FA (h.lj (A1:=bm q p) (A2:=aj d X) (A3:=aN p d T bT c) pK pK pK) H I (λw o h=>?_) (λf g w _ z C h=>?_)
 .refine lk (t:=90) (b:=t2) h ?_
  refine ld (t:=90) (x:=some ⟨v,0,none⟩) (b:=t2) h ?_
  refine aq ?_
  refine fK (t:=150) (ls:=dq) (off:=3) (b:=v) (x:=((id:Int),s,())) h ?_
  refine Lp (n:=0) (h.pick (A:=ae F) pK) hs hn λG e w D i h=>?_
  refine bU (t:=150) (b:=j) h (λw h=>?_)
  refine nr (t:=150) (b:=j) (y:=(3:Int)) (l:=.int .i64) h ?_
  exact m G _ w o D (h.sub sS)
 .refine lk (t:=90) (b:=t2) h ?_
  refine ld (t:=90) (x:=some ⟨v,0,none⟩) (b:=t2) h ?_
  refine aq ?_
  refine fK (t:=150) (ls:=dq) (off:=3) (b:=v) (x:=((id:Int),s,())) h ?_
  refine Lp (n:=f.getD 0 0) (h.pick (A:=ae F) pK) hs hn λG e w D i h=>?_
  refine bU (t:=150) (b:=j) h (λw h=>?_)
  refine nr (t:=150) (b:=j) (y:=(0:Int)) (l:=.int .i64) h ?_
  exact J G e f g w D i z C (h.sub sS)
structure jJ (P:iF) (o bb:Option Rc) (bd:List Rc) (r id:Nat) (ids:List Nat):Prop where
 hp:dn P (o.toList++(bb.toList++bd)) r
 ro:BT o r
 ov:∀x,o=some x->x.2=iw id ids
 on:o=none->id=0/\ids=[]/\bb=none/\bd=[]
 ib:(bb=none/\id=0)\/∃x,bb=some x/\id=x.1.getD 0 0
 ids:ids=bd.map λx=>x.1.getD 0 0
theorem jJ.Aq {id:Nat} {ids:List Nat} (h:jJ P o bb bd r id ids):id<180:=by
 rcases h.ib with⟨_,a⟩|⟨x,a,b⟩
 .omega
 .rw[b];exact(h.hp.head (x:=x) (by rw[a];simp)).2
theorem jJ.De {id:Nat} {ids:List Nat} (h:jJ P o bb bd r id ids):∀n∈ids,n<180:=by
 intro n a
 rw[h.ids]at a
 obtain⟨x,b,rfl⟩:=List.mem_map.1 a
 exact(h.hp.head (x:=x) (by simp[b])).2
theorem jJ.congr {id:Nat} {ids:List Nat} (h:jJ P o bb bd r id ids) (a:∀n,n<180->Q n=P n):jJ Q o bb bd r id ids:=
 ⟨h.hp.congr a,h.ro,h.ov,h.on,h.ib,h.ids⟩
theorem UF {v id:Nat} {k:Int->Pr} (h:ab E w (bf v p q b0 id s true::L))
  (c:∀a,ab E a (bf v p q b0 id s true::L)->k 17 a):CL 231 #[.pointer (some ⟨v,0,none⟩),ag av pk] ah k w:=by
 refine PN ?_
 refine bx h λd w h=>?_
 refine bx h λe w h=>?_
 refine ld (t:=90) (x:=some ⟨v,0,none⟩) (b:=d) h ?_
 refine xM (h.pick (A:=bf v p q b0 id s true) pK) λw h=>?_
 refine aR rfl ?_
 exact c w (h.sub sS)
theorem K6 {v d id:Nat} {ids:List Nat} {P:Pk} {k:Int->Pr}
  (h:ab E w (ae F::bf v p q b0 id s false::bm q p::aj d X::aN p d T bT (λ_=>none)::az F b0 B0::L)) (hX:X.c=[]) (iH:Clean X.S T bT (cU X)) (hT:T<=900000)
  (hv:jJ (cU X) o bb bd r id ids) (hs:jm F s ids) (Ae:ids.length<5000) (hp:je F pk P) (X9:kt P) (hZ:dN B0.aJ) (hC:rH B0 P)
  (V:∀G e l,(e=0->False)->((cb B0 P).1≠0/\e=(cb B0 P).1\/(cb B0 P).1=0/\fv P=[]/\e=19)->F.le G->ab E l (ae G::bf v p q b0 id s false::bm q p::aj d X::aN p d T bT (λ_=>none)::az G b0 B0::L)->k e l)
  (wP:∀G l,(cb B0 P).1=0->fv P≠[]->(kJ (cU X)<eI (cZ P).length\/E2 X o r (3*eI (cZ P).length) (λm i j=>m=id/\∃f,i=ids++[f.getD 0 0]/\j=bb.toList++(bd++[(f,cZ P)])))->F.le G->ab E l (ae G::bf v p q b0 id s false::bm q p::aj d X::aN p d T bT (λ_=>none)::az G b0 B0::L)->k 3 l)
  (pU:∀G Y W z R f g I l,(cb B0 P).1=0->fv P≠[]->F.le G->Y.fu=X.fu->Y.c=[]->W<=T+1->Clean Y.S W z (cU Y)->jm G R (ids++[f.getD 0 0])->
    jJ (cU Y) (some (g,iw id (ids++[f.getD 0 0]))) bb (bd++[(f,cZ P)]) (g.getD 0 0) id (ids++[f.getD 0 0])->
    ab E l (ae G::bf v p q I id R false::bm q p::aj d Y::aN p d W z (λ_=>none)::az G I (cb B0 P).2::L)->k 0 l)
  (Af:∀G Y P' f g l,(cb B0 P).1=0->fv P≠[]->F.le G->X.fu=true->Y.fu=X.fu->Halt Y.S Y.c (T+1) (cU X) P'->
    jJ P' (some (g,iw id (ids++[f.getD 0 0]))) bb (bd++[(f,cZ P)]) (g.getD 0 0) id (ids++[f.getD 0 0])->
    ab E l (ae G::bf v p q b0 id s true::aj d Y::az G b0 B0::L)->k 6 l):
  CL 231 #[.pointer (some ⟨v,0,none⟩),ag av pk] ah k w:=by
 refine PN ?_
 refine bx h λZ w h=>?_
 refine bx h λt3 w h=>?_
 refine ld (t:=90) (x:=some ⟨v,0,none⟩) (b:=Z) h ?_
 refine xM (h.pick (A:=bf v p q b0 id s false) pK) λw h=>?_
 refine ar rfl ?_
 refine ld (t:=90) (x:=some ⟨v,0,none⟩) (b:=Z) h ?_
 refine aq ?_
 refine ld (t:=57) (x:=some ⟨b0,0,none⟩) (b:=v) (off:=2) h ?_
 refine xT (h.bF (A1:=ae F) (A2:=az F b0 B0) pK pK) hZ λI w h=>?_
 refine bN (t:=68) (ls:=av) (x:=pk) (b:=t3) h ?_
 refine KB (h.bF (A1:=ae F) (A2:=az F I B0) pK pK) hp hC λG w J h=>?_
 have h:=jG (h.pick (A:=az F b0 B0) pK) J
 refine ax (λM=>?_) (λM=>?_)
 .have mB:(cb B0 P).1≠0:=by simpa using M
  exact V G _ w (λe=>mB e) (.inl ⟨mB,rfl⟩) J (h.sub sS)
 have C:(cb B0 P).1=0:=by simpa using M
 refine bN (t:=68) (ls:=av) (x:=pk) (b:=t3) h ?_
 have Zm:je G pk P:=by
  obtain⟨pn,pt,cs,⟨⟩⟩:=pk
  obtain⟨Pn,Pt,Pc⟩:=P
  obtain⟨h1,h2,h3⟩:=hp
  exact⟨h1,h2,h3.up OK J⟩
 refine K5 (h.pick (A:=ae G) pK) Zm X9 λw h=>?_
 refine al h λt8 w h=>?_
 have z9:gq 9=⟨[.string ⟨#[]⟩]⟩:=kK
 rw[z9]at h
 refine st (t:=9) (b:=t8) h λw h=>?_
 refine ld (t:=9) (x:=B (fv P)) (b:=t8) h ?_
 refine ax (λM=>?_) (λM=>?_)
 .have y:fv P=[]:=by simpa[B]using M
  exact V G 19 w dE (.inr ⟨C,y,rfl⟩) J (h.sub sS)
 have y:fv P≠[]:=by intro e;rw[e]at M;simp[B]at M
 have Ns:fv P=cZ P/\(cZ P).length<=100000:=by
  unfold fv at y⊢
  split at y
  .split at y
   .exact absurd rfl y
   .rename_i h1 h2;simp only[h1,h2,gr,fF];exact⟨trivial,om⟩
  .exact absurd rfl y
 rw[Ns.1]at h
 refine ld (t:=90) (x:=some ⟨v,0,none⟩) (b:=Z) h ?_
 have h:ab E w (ae G::bf v p q b0 id s false::bm q p::aj d X::aN p d T bT (λ_=>none)::lc Z 90 [.pointer (some ⟨v,0,none⟩)]::lc t8 9 [.string (B (cZ P))]::az G I (cb B0 P).2::az G b0 B0::L):=h.sub sS
 have GM:bI X (λ_=>none)=cU X:=rfl
 refine KO (L:=λ_=>lc Z 90 [.pointer (some ⟨v,0,none⟩)]::lc t8 9 [.string (B (cZ P))]::az G I (cb B0 P).2::az G b0 B0::L) (Lf:=kJ (cU X)<eI (cZ P).length) (N:=3*eI (cZ P).length) (o:=o) (r:=r) (Qr:=λm i j=>m=id/\∃f,i=ids++[f.getD 0 0]/\j=bb.toList++(bd++[(f,cZ P)])) h hX iH hT hv.ro (λw K h ka kb=>?_) (λD w C1 a h=>?_) (λD Y W z m R i j g w a O ym oX z5 H YM hQ u h=>?_) (λD Y P' m i j g w a hf O hH YM hQ u h=>?_)
 .refine yu (U7 (F:=G) h hv.hp Ns.2 (hs.up J) om (λD x w Ab a h=>ka D x 3 _ w dE Ab a h) (λD R f c' w a H NQ r8 h=>?_)) (λw=>rfl)
  refine kb D id R (ids++[f.getD 0 0]) (bb.toList++(bd++[(f,cZ P)])) c' w a H ?_ ?_ ?_ ?_ ⟨rfl,f,rfl,rfl⟩ ?_ h
  .have:=hv.Aq;omega
  .intro n U
   rcases List.mem_append.1 U with U|U
   .have:=hv.De n U;omega
   .have:=(NQ.head (x:=(f,cZ P)) eo).2
    simp at U;subst U;simp at this;omega
  .simp;omega
  .refine NQ.perm ?_
   refine(R5 (f,cZ P) (o.toList++(bb.toList++bd))).symm.trans ?_
   simp only[cP];exact List.Perm.refl _
  .have hz:dm (λ_=>none)=0:=by simp[dm]
   omega
 .have h:=jG (h.pick (A:=az G b0 B0) pK) a
  exact wP D w C y C1 (J.trans a) (h.sub sS)
 .have h:=jG (h.pick (A:=az G I (cb B0 P).2) pK) a
  obtain⟨e1,f,e2,e3⟩:=hQ
  rw[e1,e2,e3]at u
  rw[e2]at H
  rw[e1]at h
  refine pU D Y W z R f g I w C y (J.trans a) O ym oX z5 H ⟨u,rfl,(λx Q=>by cases Q;rfl),(λQ=>by cases Q),hv.ib,(by rw[fe,hv.ids];rfl)⟩ (h.sub sS)
 .have h:=jG (h.pick (A:=az G b0 B0) pK) a
  obtain⟨e1,f,e2,e3⟩:=hQ
  rw[e1,e2,e3]at u
  refine Af D Y P' f g w C y (J.trans a) hf O hH ⟨u,rfl,(λx Q=>by cases Q;rfl),(λQ=>by cases Q),hv.ib,(by rw[fe,hv.ids];rfl)⟩ (h.sub sS)
theorem Uj {d id:Nat} {c:fh} {k:Int->Pr} (h:ab E w (bm q p::aj d X::aN p d T b c::L)) (hi:(bb=none/\id=0)\/∃x,bb=some x/\id=x.1.getD 0 0)
  (a:dn (bI X c) (o.toList++(bb.toList++bd)) r) (m:∀e f n,dn (bI X f) (o.toList++bd) r->dm f<=dm c+1->ab E n (bm q p::aj d X::aN p d T b f::L)->k e n):
  CL 189 #[.pointer (some ⟨q,0,none⟩),iv (id:Int)] ah k w:=by
 rcases hi with⟨g,i⟩|⟨x,g,i⟩
 .rw[g]at a
  rw[i]
  exact KP h λw h=>m 4 c w a om h
 .rw[g]at a
  have a:dn (bI X c) (x::(o.toList++bd)) r:=a.perm JA
  rw[i]
  exact Fz h a λc1 w j l h=>m 0 c1 w j l h
theorem Ui {v d id:Nat} {c:fh} {ids:List Nat} {k:(Int×Sl×Unit)×Int×Unit->Pr}
  (h:ab E w (ae F::bf v p q b0 id s false::bm q p::aj d X::aN p d T bT c::lc t2 90 [.pointer (some ⟨v,0,none⟩)]::lc t3 57 [.pointer (some ⟨b',0,none⟩)]::az F b' B1::L))
  (hv:jJ (bI X c) o bb bd r id ids) (hs:jm F s ids) (hn:ids.length<=1000000) (P:dN B1.aJ) (Q:lu B1.aJ) (R:sZ B1)
  (u:∀G x e m z,e=19/\100000<(gh B1).length\/e=3/\(gh B1).length<=100000->F.le G->ab E z (ae G::bf v p q b0 id s false::bm q p::aj d X::aN p d T bT m::lc t2 90 [.pointer (some ⟨v,0,none⟩)]::lc t3 57 [.pointer (some ⟨b',0,none⟩)]::az G b' B1::L)->k (x,e,()) z)
  (U:∀G A m z,(gh B1).length<=100000->F.le G->dn (bI X m) ((A,gh B1)::o.toList) r->dm m<=dm c+1+ids.length+3*eI (gh B1).length->ab E z (ae G::bf v p q b0 id s false::bm q p::aj d X::aN p d T bT m::lc t2 90 [.pointer (some ⟨v,0,none⟩)]::lc t3 57 [.pointer (some ⟨b',0,none⟩)]::az G b' B1::L)->k ((((A.getD 0 0:Nat):Int),au,()),0,()) z):
  CL 188 #[pa ⟨t2,0,none⟩,pa ⟨t3,0,none⟩] (.aG [.agg dq,.leaf (.int .i64)]) k w:=by
 refine adE ?_
 refine al h λg w h=>?_
 rw[yR]at h
 refine dr h λw h=>?_
 refine ld (t:=90) (x:=some ⟨v,0,none⟩) (b:=t2) h ?_
 refine aq ?_
 refine ld (t:=148) (x:=some ⟨q,0,none⟩) (b:=v) (off:=1) h ?_
 refine ld (t:=90) (x:=some ⟨v,0,none⟩) (b:=t2) h ?_
 refine aq ?_
 refine ld (t:=3) (x:=(id:Int)) (b:=v) (off:=3) h ?_
 have V:ab E w (bm q p::aj d X::aN p d T bT c::lc g 150 [iv 0,sv au]::ae F::bf v p q b0 id s false::lc t2 90 [.pointer (some ⟨v,0,none⟩)]::lc t3 57 [.pointer (some ⟨b',0,none⟩)]::az F b' B1::L):=h.sub sS
 refine Uj V hv.ib hv.hp λe c1 w C W h=>?_
 refine lk (t:=90) (b:=t2) h ?_
 refine lk (t:=90) (b:=t2) h ?_
 refine ld (t:=90) (x:=some ⟨v,0,none⟩) (b:=t2) h ?_
 refine aq ?_
 refine ld (t:=41) (x:=s) (b:=v) (off:=4) h ?_
 have D:s.len=ids.length:=by have:=hs.2;rw[bW]at this;exact this
 have H:ids.length=bd.length:=by rw[hv.ids,bW]
 simp only[D]
 refine cy (S:=Int) (cf:=λs=>s) ids.length rfl (λi st w=>∃c2,dn (bI X c2) (o.toList++bd.drop i) r/\dm c2<=dm c+1+i/\ab E w (bm q p::aj d X::aN p d T bT c2::lc g 150 [iv 0,sv au]::ae F::bf v p q b0 id s false::lc t2 90 [.pointer (some ⟨v,0,none⟩)]::lc t3 57 [.pointer (some ⟨b',0,none⟩)]::az F b' B1::L)) rfl ⟨c1,C,om,h⟩ ?_ ?_
 .rintro next _ w i O rfl ⟨c2,f,I,h⟩ n
  refine ix (T:=41) (ls:=I1) (i:=i) hs (by simpa using O) (λa ha=>?_)
  refine nU (x:=((ids[i]:Nat):Int)) h ?_ (ha:=ha) (hc:=by simp;rfl)
  refine ld (t:=90) (x:=some ⟨v,0,none⟩) (b:=t2) h ?_
  refine aq ?_
  refine ld (t:=148) (x:=some ⟨q,0,none⟩) (b:=v) (off:=1) h ?_
  have J:i<bd.length:=om
  have Y:ids[i]=(bd[i]).1.getD 0 0:=by simp only[hv.ids,qB]
  have Z:dn (bI X c2) (bd[i]::(o.toList++bd.drop (i+1))) r:=by
   refine f.perm ?_
   rw[iB J]
   exact JA
  rw[Y]
  refine Fz h Z λc3 w K hc3 h=>?_
  exact n _ _ (bV O om) ⟨c3,K,om,h⟩
 rintro _ w ⟨c2,f,I,h⟩
 rw[H,qv,iO]at f
 refine dr h λw h=>?_
 refine ld (t:=90) (x:=some ⟨v,0,none⟩) (b:=t2) h ?_
 refine aq ?_
 refine ld (t:=148) (x:=some ⟨q,0,none⟩) (b:=v) (off:=1) h ?_
 refine ld (t:=57) (x:=some ⟨b',0,none⟩) (b:=t3) h ?_
 refine KQ (h.bF (A1:=ae F) (A2:=az F b' B1) pK pK) P Q R λG w M h=>?_
 refine lk (t:=90) (b:=t2) h ?_
 refine lk (t:=148) (b:=v) (off:=1) h ?_
 by_cases j:100000<(gh B1).length
 .refine Uk (h.lj (A1:=bm q p) (A2:=aj d X) (A3:=aN p d T bT c2) pK pK pK) j λw h=>?_
  refine lk (t:=90) (b:=t2) h ?_
  refine bU (t:=150) (b:=g) h (λw h=>?_)
  refine nr (t:=150) (b:=g) (y:=(19:Int)) (l:=.int .i64) (x:=((0:Int),au,())) h ?_
  exact u G _ 19 c2 w (.inl ⟨rfl,j⟩) M (h.sub sS)
 .refine FA (h.lj (A1:=bm q p) (A2:=aj d X) (A3:=aN p d T bT c2) pK pK pK) f om (λw Ab h=>?_) (λA m w _ N r8 h=>?_)
  .refine lk (t:=90) (b:=t2) h ?_
   refine bU (t:=150) (b:=g) h (λw h=>?_)
   refine nr (t:=150) (b:=g) (y:=(3:Int)) (l:=.int .i64) (x:=((0:Int),au,())) h ?_
   exact u G _ 3 c2 w (.inr ⟨rfl,om⟩) M (h.sub sS)
  .refine lk (t:=90) (b:=t2) h ?_
   refine bU (t:=150) (b:=g) h (λw h=>?_)
   refine nr (t:=150) (b:=g) (y:=(0:Int)) (l:=.int .i64) (x:=(((A.getD 0 0:Nat):Int),au,())) h ?_
   exact U G A m w om M N om (h.sub sS)
theorem Ku {v d id:Nat} {ids:List Nat} {k:Int->Pr}
  (h:ab E w (ae F::bf v p q b0 id s false::bm q p::aj d X::aN p d T bT (λ_=>none)::az F b' B1::L)) (hX:X.c=[]) (Q:Clean X.S T bT (cU X)) (hT:T<=900000)
  (hv:jJ (cU X) o bb bd r id ids) (hs:jm F s ids) (Ae:ids.length<=5000) (hZ:dN B1.aJ) (hN:lu B1.aJ) (hE:sZ B1)
  (R:∀G u,F.le G->ab E u (ae G::bf v p q b0 id s false::bm q p::aj d X::aN p d T bT (λ_=>none)::az G b' B1::L)->k 3 u)
  (U:∀G Y C n J a f u,F.le G->Y.fu=X.fu->Y.c=[]->C<=T+1->Clean Y.S C n (cU Y)->jm G J []->
    jJ (cU Y) (some (f,iw (a.getD 0 0) [])) (some (a,gh B1)) [] (f.getD 0 0) (a.getD 0 0) []->
    ab E u (ae G::bf v p q b' (a.getD 0 0) J false::bm q p::aj d Y::aN p d C n (λ_=>none)::az G b' B1::L)->k 0 u)
  (V:∀G Y M a f u,F.le G->X.fu=true->Y.fu=X.fu->Halt Y.S Y.c (T+1) (cU X) M->
    jJ M (some (f,iw (a.getD 0 0) [])) (some (a,gh B1)) [] (f.getD 0 0) (a.getD 0 0) []->
    ab E u (ae G::bf v p q b0 id s true::aj d Y::az G b' B1::L)->k 6 u):
  CL 146 #[.pointer (some ⟨v,0,none⟩),.pointer (some ⟨b',0,none⟩)] ah k w:=by
 refine acY ?_
 refine bx h λW w h=>?_
 refine bx h λZ w h=>?_
 refine ld (t:=90) (x:=some ⟨v,0,none⟩) (b:=W) h ?_
 refine ld (t:=57) (x:=some ⟨b',0,none⟩) (b:=Z) h ?_
 have h:ab E w (ae F::bf v p q b0 id s false::bm q p::aj d X::aN p d T bT (λ_=>none)::lc W 90 [.pointer (some ⟨v,0,none⟩)]::lc Z 57 [.pointer (some ⟨b',0,none⟩)]::az F b' B1::L):=h.sub sS
 refine KO (L:=λF=>lc W 90 [.pointer (some ⟨v,0,none⟩)]::lc Z 57 [.pointer (some ⟨b',0,none⟩)]::az F b' B1::L) (Lf:=True) (N:=1+ids.length+3*eI (gh B1).length) (o:=o) (r:=r) (Qr:=λy i j=>∃a,y=a.getD 0 0/\i=[]/\j=[(a,gh B1)]) h hX Q hT hv.ro (λw K h ka kb=>?_) (λm w C1 g h=>?_) (λm Y C n y J i j f w g z ym oX z5 D H hQ l h=>?_) (λm Y M y i j f w g hf z hH H hQ l h=>?_)
 .have GM:bI X (λ_=>none)=cU X:=rfl
  refine yu (Ui (F:=F) h hv hs om hZ hN hE (λm x e c' w he g h=>ka m x e _ w om trivial g h) (λm a c' w Nr g I r8 h=>?_)) (λw=>rfl)
  refine kb m (a.getD 0 0) au [] [(a,gh B1)] c' w g (FL.nil (F:=m) (ls:=I1)) ?_ sI sI ?_ ⟨a,rfl,rfl,rfl⟩ ?_ h
  .have:=(I.head (x:=(a,gh B1)) eo).2
   have e:(a,gh B1).1.getD 0 0=a.getD 0 0:=rfl
   rw[e]at this;omega
  .exact I.perm (R5 _ _).symm
  .have hz:dm (λ_=>none)=0:=by simp[dm]
   omega
 .exact R m w g (h.sub sS)
 .obtain⟨a,O,P,e3⟩:=hQ
  rw[O,P,e3]at l
  rw[P]at D
  rw[O]at h
  exact U m Y C n J a f w g z ym oX z5 D ⟨l,rfl,(λx A=>by cases A;rfl),(λA=>by cases A),.inr ⟨_,rfl,rfl⟩,rfl⟩ (h.sub sS)
 .obtain⟨a,O,P,e3⟩:=hQ
  rw[O,P,e3]at l
  exact V m Y M a f w g hf z hH ⟨l,rfl,(λx A=>by cases A;rfl),(λA=>by cases A),.inr ⟨_,rfl,rfl⟩,rfl⟩ (h.sub sS)
theorem Tn {v id:Nat} {k:Int->Pr} (h:ab E w (bf v p q b0 id s true::L))
  (b:∀a,ab E a (bf v p q b0 id s true::L)->k 17 a):CL 105 #[.pointer (some ⟨v,0,none⟩)] ah k w:=by
 refine PG ?_
 refine xM h λw h=>?_
 exact aR rfl (b w h)
theorem Tk {v id:Nat} {k:Int×Int×Unit->Pr} (h:ab E w (bf v p q b0 id s true::L))
  (b:∀a,ab E a (bf v p q b0 id s true::L)->k (0,17,()) a):CL 104 #[.pointer (some ⟨v,0,none⟩),iv hz] (.aG [.leaf (.int .i64),.leaf (.int .i64)]) k w:=by
 refine PF ?_
 refine xM h λw h=>?_
 exact aR rfl (b w h)
theorem Cg {v id:Nat} {k:Option Addr->Pr} (h:ab E w (ae F::bf v p q b0 id s bl::az F b0 B0::L)) (d:dN B0.aJ)
  (e:∀a c,ab E c (ae F::bf v p q b0 id s bl::az F a B0::az F b0 B0::L)->k (some ⟨a,0,none⟩) c):CL 26 #[.pointer (some ⟨v,0,none⟩)] aI k w:=by
 refine aeL ?_
 refine dw (x:=false) kK ?_
 refine ar rfl ?_
 refine aq ?_
 refine ld (t:=57) (x:=some ⟨b0,0,none⟩) (b:=v) (off:=2) h ?_
 refine xT (h.bF (A1:=ae F) (A2:=az F b0 B0) pK pK) d λa w h=>?_
 exact e a w (h.sub sS)
theorem Tl {v d id:Nat} {ids:List Nat} {k:Int->Pr}
  (h:ab E w (ae F::bf v p q b0 id s false::bm q p::aj d X::aN p d T bT (λ_=>none)::az F b0 B1::L)) (M:X.c=[]) (u:Clean X.S T bT (cU X)) (N:T<=900000)
  (hv:jJ (cU X) o bb bd r id ids) (hs:jm F s ids) (y:ids.length<=5000) (K:dN B1.aJ) (O:lu B1.aJ) (P:sZ B1)
  (z:∀G g,F.le G->ab E g (ae G::bf v p q b0 id s false::bm q p::aj d X::aN p d T bT (λ_=>none)::az G b0 B1::L)->k 3 g)
  (C:∀G Y j f l e a m g,F.le G->Y.fu=X.fu->Y.c=[]->j<=T+1->Clean Y.S j f (cU Y)->jm G l []->
    jJ (cU Y) (some (a,iw (e.getD 0 0) [])) (some (e,gh B1)) [] (a.getD 0 0) (e.getD 0 0) []->
    ab E g (ae G::bf v p q m (e.getD 0 0) l false::bm q p::aj d Y::aN p d j f (λ_=>none)::az G m B1::L)->k 0 g)
  (D:∀G Y n e a g,F.le G->X.fu=true->Y.fu=X.fu->Halt Y.S Y.c (T+1) (cU X) n->
    jJ n (some (a,iw (e.getD 0 0) [])) (some (e,gh B1)) [] (a.getD 0 0) (e.getD 0 0) []->
    ab E g (ae G::bf v p q b0 id s true::aj d Y::az G b0 B1::L)->k 6 g):
  CL 105 #[.pointer (some ⟨v,0,none⟩)] ah k w:=by
 refine PG ?_
 refine xM (h.pick (A:=bf v p q b0 id s false) pK) λw h=>?_
 refine ar rfl ?_
 refine aq ?_
 refine ld (t:=57) (x:=some ⟨b0,0,none⟩) (b:=v) (off:=2) h ?_
 refine xT (h.bF (A1:=ae F) (A2:=az F b0 B1) pK pK) K λm w h=>?_
 refine Ku (L:=az F b0 B1::L) (h.sub sS) M u N hv hs y K O P (λG w i h=>?_) (λG Y j f l e a w i H I J Q R U h=>?_) (λG Y n e a w i V H I J h=>?_)
 .have h:=jG (h.pick (A:=az F b0 B1) pK) i
  exact z G w i (h.sub sS)
 .exact C G Y j f l e a m w i H I J Q R U (h.sub sS)
 .have h:=jG (h.pick (A:=az F b0 B1) pK) i
  exact D G Y n e a w i V H I J (h.sub sS)
abbrev lQ (a:Int) (B:b9):b9:=⟨B.seq,B.time,a,rq a B.aJ⟩
theorem Ti {v d id:Nat} {ids:List Nat} {k:Int×Int×Unit->Pr}
  (h:ab E w (ae F::bf v p q b0 id s false::bm q p::aj d X::aN p d T bT (λ_=>none)::az F b0 B0::L)) (V:X.c=[]) (K:Clean X.S T bT (cU X)) (W:T<=900000)
  (hv:jJ (cU X) o bb bd r id ids) (hs:jm F s ids) (M:ids.length<=5000) (U:dN B0.aJ) (Z:lu B0.aJ)
  (N:fz B0.time B0.aM hz=0->dN (lQ hz B0).aJ/\lu (lQ hz B0).aJ/\sZ (lQ hz B0))
  (O:fz B0.time B0.aM hz≠0->∀g,ab E g (ae F::bf v p q b0 id s false::bm q p::aj d X::aN p d T bT (λ_=>none)::az F b0 B0::L)->k (0,fz B0.time B0.aM hz,()) g)
  (P:∀G g,fz B0.time B0.aM hz=0->F.le G->ab E g (ae G::bf v p q b0 id s false::bm q p::aj d X::aN p d T bT (λ_=>none)::az G b0 B0::L)->k (0,3,()) g)
  (Q:∀G Y j i H f a l n g,fz B0.time B0.aM hz=0->F.le G->Y.fu=X.fu->Y.c=[]->j<=T+1->Clean Y.S j i (cU Y)->jm G H []->
    jJ (cU Y) (some (a,iw (f.getD 0 0) [])) (some (f,gh (lQ hz B0))) [] (a.getD 0 0) (f.getD 0 0) []->
    ab E g (ae G::bf v p q l (f.getD 0 0) H false::bm q p::aj d Y::aN p d j i (λ_=>none)::az G l (lQ hz B0)::L)->k (n,0,()) g)
  (R:∀G Y I f a g,fz B0.time B0.aM hz=0->F.le G->X.fu=true->Y.fu=X.fu->Halt Y.S Y.c (T+1) (cU X) I->
    jJ I (some (a,iw (f.getD 0 0) [])) (some (f,gh (lQ hz B0))) [] (a.getD 0 0) (f.getD 0 0) []->
    ab E g (ae G::bf v p q b0 id s true::aj d Y::az G b0 B0::L)->k (0,6,()) g):
  CL 104 #[.pointer (some ⟨v,0,none⟩),iv hz] (.aG [.leaf (.int .i64),.leaf (.int .i64)]) k w:=by
 refine PF ?_
 refine xM (h.pick (A:=bf v p q b0 id s false) pK) λw h=>?_
 refine ar rfl ?_
 refine aq ?_
 refine ld (t:=57) (x:=some ⟨b0,0,none⟩) (b:=v) (off:=2) h ?_
 refine xT (h.bF (A1:=ae F) (A2:=az F b0 B0) pK pK) U λl w h=>?_
 refine TN (h.bF (A1:=ae F) (A2:=az F l B0) pK pK) U Z (λm w h=>?_) (λJ n G w u h=>?_)
 .refine aR (by simpa using m) ?_
  exact O m w (h.sub sS)
 refine ar sI ?_
 have h:=jG (h.pick (A:=az F b0 B0) pK) u
 obtain⟨y,z,C⟩:=N J
 refine Ku (L:=az G b0 B0::L) (h.sub sS) V K W hv (hs.up u) M y z C (λD w e h=>?_) (λD Y j i H f a w e y z C h4 h5 h6 h=>?_) (λD Y I f a w e h0 y z C h=>?_)
 .refine aR dE ?_
  have h:=jG (h.pick (A:=az G b0 B0) pK) e
  exact P D w J (u.trans e) (h.sub sS)
 .refine ar dE ?_
  exact Q D Y j i H f a l n w J (u.trans e) y z C h4 h5 h6 (h.sub sS)
 .refine aR dE ?_
  have h:=jG (h.pick (A:=az G b0 B0) pK) e
  exact R D Y I f a w J (u.trans e) h0 y z C (h.sub sS)
def eQ:b9:=⟨0,-1,0,λ_=>none⟩
structure BN (B:b9) (P:Pk):Prop where
 ap:rH B P
 ok:kt P
 rt:gT P=true
 ln:(cZ P).length<=100000
 z:(cb B P).1=0
def s6:b9->List Pk->b9->Prop
 |B,[],a=>a=B
 |B,P::l,a=>BN B P/\s6 (cb B P).2 l a
structure BI (B:b9):Prop where
 z:dN B.aJ
 n:lu B.aJ
 e:sZ B
 d:JM B
def JK (a:Option Rc) (B1:b9):Prop:=(a=none/\B1=eQ)\/∃x,a=some x/\x.2=gh B1/\BI B1
theorem T5 {v d id:Nat} {ids:List Nat} {k:Bool->Pr}
  (h:ab E w (ae F::bf v p q b0 id s false::bm q p::aj d X::aN p d T bT (λ_=>none)::az F b0 eQ::L))
  (hv:jJ (cU X) o bb bd r id ids) (hs:jm F s ids) (Ae:ids.length<=5000) (Z:JK bb B1) (D:bd.map (·.2)=Ps.map cZ) (N:s6 B1 Ps B2)
  (hk:∀G b' w',F.le G->ab E w' (ae G::bf v p q b' id s false::bm q p::aj d X::aN p d T bT (λ_=>none)::az G b' B2::L)->k true w'):
  CL 171 #[.pointer (some ⟨v,0,none⟩)] aw k w:=by
 have O:gq 68=⟨[iv 0,iv 0,sv au]⟩:=kK
 have P:s.len=ids.length:=by have:=hs.2;rw[bW]at this;exact this
 have Q:ids.length=bd.length:=by rw[hv.ids,bW]
 have R:bd.length=Ps.length:=by have:=gU List.length D;simpa using this
 refine ado ?_
 refine br (λ_ w=>∃G g,F.le G/\ab E w (ae G::bf v p q g id s false::bm q p::aj d X::aN p d T bT (λ_=>none)::az G g B1::L)) (λ_ w ⟨G,g,m,h⟩=>?_) λJ U=>?_
 .refine ao λ_=>?_
  refine aq ?_
  refine ld (t:=41) (x:=s) (b:=v) (off:=4) h ?_
  simp only[P]
  refine cy (S:=Int) (cf:=λs=>s) ids.length rfl (λi st w=>∃G C,F.le G/\s6 C (Ps.drop i) B2/\ab E w (ae G::bf v p q g id s false::bm q p::aj d X::aN p d T bT (λ_=>none)::az G g C::L)) rfl ⟨G,B1,m,N,h⟩ ?_ ?_
  .rintro next _ w i hi rfl ⟨G,C,m,f,h⟩ y
   have V:i<bd.length:=om
   have H:i<Ps.length:=om
   have u:ids[i]=(bd[i]).1.getD 0 0:=by simp only[hv.ids,qB]
   have M:(bd[i]).2=cZ Ps[i]:=by
    have h1:(bd.map (·.2))[i]'(by simpa using V)=(Ps.map cZ)[i]'(by simpa using H):=by simp only[D]
    simpa using h1
   rw[iB H]at f
   obtain⟨j,f⟩:=f
   refine ix (T:=41) (ls:=I1) (i:=i) (hs.up m) (by simpa using hi) (λa ha=>?_)
   refine nU (x:=((ids[i]:Nat):Int)) h ?_ (ha:=ha) (hc:=by simp;rfl)
   refine aq ?_
   refine ld (t:=148) (x:=some ⟨q,0,none⟩) (b:=v) (off:=1) h ?_
   rw[u]
   refine FH (c:=λ_=>none) (r:=r) (ca:=o.toList++(bb.toList++bd)) (x:=bd[i]) (h.lj (A1:=bm q p) (A2:=aj d X) (A3:=aN p d T bT (λ_=>none)) pK pK pK) hv.hp sI λw h=>?_
   refine ar rfl ?_
   rw[M]
   refine KL (h.pick (A:=ae G) pK) j.ok j.rt j.ln λG2 pk w I W h=>?_
   refine al h λt9 w h=>?_
   rw[O]at h
   have K:=W
   obtain⟨pn,pt,pc,⟨⟩⟩:=pk
   refine bU (t:=68) (b:=t9) h (λw h=>?_)
   refine dr h λw h=>?_
   refine ar rfl ?_
   refine aq ?_
   refine ld (t:=57) (x:=some ⟨g,0,none⟩) (b:=v) (off:=2) h ?_
   refine bN (t:=68) (ls:=av) (x:=(pn,pt,pc,())) (b:=t9) h ?_
   have h:=jG (h.pick (A:=az G g C) pK) I
   refine KB (h.bF (A1:=ae G2) (A2:=az G2 g C) pK pK) K j.ap λG3 w Y h=>?_
   refine ar (by simp[j.z]) ?_
   exact y _ _ (bV hi om) ⟨G3,_,(m.trans I).trans Y,f,h.sub sS⟩
  .rintro _ w ⟨G,C,m,f,h⟩
   rw[Q,R,qv]at f
   cases f
   exact hk G g w m h
 refine aq ?_
 refine ld (t:=3) (x:=(id:Int)) (b:=v) (off:=3) h ?_
 rcases hv.ib with⟨u,M⟩|⟨x,u,M⟩
 .refine ar (nW om) ?_
  rcases Z with⟨_,l⟩|⟨x,l,_⟩
  .rw[l]at U
   exact U () w ⟨F,b0,dC _,h⟩
  .rw[u]at l;cases l
 .have hhd:=hv.hp.head (x:=x) (by rw[u];simp)
  refine aR (GB om) ?_
  rcases Z with⟨l,_⟩|⟨x',l,e4,j⟩
  .rw[u]at l;cases l
  rw[u]at l
  cases l
  refine dr h λw h=>?_
  refine aq ?_
  refine ld (t:=148) (x:=some ⟨q,0,none⟩) (b:=v) (off:=1) h ?_
  refine aq ?_
  refine ld (t:=3) (x:=(id:Int)) (b:=v) (off:=3) h ?_
  rw[M]
  refine FH (c:=λ_=>none) (r:=r) (ca:=o.toList++(bb.toList++bd)) (x:=x) (h.lj (A1:=bm q p) (A2:=aj d X) (A3:=aN p d T bT (λ_=>none)) pK pK pK) hv.hp (by rw[u];simp) λw h=>?_
  refine ar rfl ?_
  rw[e4]
  refine Uw (h.pick (A:=ae F) pK) j.z j.n j.e j.d λg G w m h=>?_
  refine aq ?_
  refine st (t:=57) (b:=v) (off:=2) h λw h=>?_
  refine ar rfl ?_
  exact U () w ⟨G,g,m,h.sub sS⟩
structure lV (P:iF) (o bb:Option Rc) (bd:List Rc) (r id:Nat) (ids:List Nat) (B1:b9) (Ps:List Pk) (B2:b9):Prop where
 v:jJ P o bb bd r id ids
 il:ids.length<=5000
 bo:JK bb B1
 bs:bd.map (·.2)=Ps.map cZ
 pl:s6 B1 Ps B2
theorem lV.congr {id:Nat} {ids:List Nat} (h:lV P o bb bd r id ids B1 Ps B2) (a:∀n,n<180->Q n=P n):lV Q o bb bd r id ids B1 Ps B2:=
 ⟨h.v.congr a,h.il,h.bo,h.bs,h.pl⟩
def s8 (P:iF) (B2:b9):Prop:=(P 0=dI/\B2=eQ)\/∃o b c r id a d e,lV P o b c r id a d e B2
def oI (P:iF) (B2:b9):Prop:=P 0≠dI/\s8 P B2
theorem lV.f {id:Nat} {ids:List Nat} (h:lV P o bb bd r id ids B1 Ps B2):oI P B2:=by
 refine⟨λe=>?_,.inr ⟨o,bb,bd,r,id,ids,B1,Ps,h⟩⟩
 have a:=h.v.hp.one
 rw[e,zA]at a
 cases a
theorem TX {d:Nat} {k:Option Addr×Int×Unit->Pr} (h:ab E w (aj d X::aN p d T b (λ_=>none)::L)) (C:s8 (cU X) B2)
  (i:∀q a o j l r id c m n z,lV (bI X a) o j l r id c m n B2->dm a<=3->(cU X 0≠dI->dm a=0)->ab E z (bm q p::aj d X::aN p d T b a::L)->k (some ⟨q,0,none⟩,0,()) z):
  CL 167 #[.pointer (some ⟨p,0,none⟩)] (.aG [.leaf .ptr,.leaf (.int .i64)]) k w:=by
 have D:dm (λ_=>none)=0:=by simp[dm]
 rcases C with⟨g,A⟩|⟨o,j,l,r,id,c,m,n,t⟩
 .refine KD (ca:=[]) (r:=0) h (.inl g) (λq w f h=>?_) (λq a w _ f H h=>?_)
  .exact i q _ none none [] 0 0 [] eQ [] w ⟨⟨f,rfl,(λx u=>by cases u),(λ_=>⟨rfl,rfl,rfl,rfl⟩),.inl ⟨rfl,rfl⟩,rfl⟩,sI,.inl ⟨rfl,rfl⟩,rfl,A⟩ om (λy=>absurd g y) h
  .exact i q a none none [] 0 0 [] eQ [] w ⟨⟨f,rfl,(λx u=>by cases u),(λ_=>⟨rfl,rfl,rfl,rfl⟩),.inl ⟨rfl,rfl⟩,rfl⟩,sI,.inl ⟨rfl,rfl⟩,rfl,A⟩ om (λy=>absurd g y) h
 .by_cases e:cU X 0=dI
  .exact absurd t.v.hp (λf=>by
    have g:=f.one
    rw[e,zA]at g
    cases g)
  .refine KD h (.inr t.v.hp) (λq w f h=>i q (λ_=>none) o j l r id c m n w t om (λ_=>D) h) (λq a w I f H h=>absurd I e)
theorem TZ {d:Nat} {c:fh} {k:Int->Pr} (h:ab E w (aj d X::aN p d T b c::L)) (z:T<=900000) (x:X.c=[]) (e:Clean X.S T b (cU X)) (hc:¬118<kP (cO c))
  (f:∀g Y o y,o<=T+1->Y.fu=X.fu->Y.c=[]->Clean Y.S o y (cU Y)->(∀n,n<180->cU Y n=bI X c n)->ab E g (aj d Y::aN p d o y (λ_=>none)::L)->k 0 g)
  (t:dm c≠0->∀g Y,X.fu=true->Y.fu=X.fu->Y.Wf->Halt Y.S Y.c (T+1) (cU X) (bI X c)->ab E g (aj d Y::L)->k 6 g):
  CL 168 #[.pointer (some ⟨p,0,none⟩)] ah k w:=by
 refine KF (P:=cU X) h z x e (λw lG h=>?_) (λw i h=>absurd i hc) (λw Y a j l h=>?_) (λu w Y A a C h=>?_)
 .have D:c=λ_=>none:=funext lG
  subst D
  exact f w X T b om rfl x e (λn _=>rfl) h
 .have m:=l.hv j
  exact f w Y (T+1) (T+1) om a j (l.congr λn H=>m n H) m h
 .obtain⟨r,_,v,_,_⟩:=ow h
  exact t u w Y A a v C h
theorem TH {d:Nat} {k:Option Addr×Int×Unit->Pr} (h:ab E w (ae F::aj d X::L)) (hw:X.Wf) (hD:eU X.S X.c T b P) (hT:T<=800000) (hn:X.c.length+1000<1000000) (U:s8 P B2)
  (k7:∀c:fh,(∀n x,c n=some x->n<180/\x.length=128)->dm c<=3->¬118<kP (cO c))
  (V:∀G v p q H id s g Y i e o N O r I J W,F.le G->i<=T+3->Y.fu=X.fu->Y.c=[]->Clean Y.S i e (cU Y)->lV (cU Y) o N O r id g I J B2->jm G s g->
    ab E W (ae G::bf v p q H id s false::bm q p::aj d Y::aN p d i e (λ_=>none)::az G H B2::L)->k (some ⟨v,0,none⟩,0,()) W)
  (vg:∀W Y,Y.fu=X.fu->X.fu=true->Y.Wf->(∀S',fY Y.S Y.c S'->∃i H P',i<=T+3/\eU S' [] i H P'/\s8 P' B2)->(P 0≠dI->∃i H,i<=T+3/\Y.c.length<=X.c.length+1000/\eU Y.S Y.c i H P)->ab E W (ae F::aj d Y::L)->k (none,6,()) W):
  CL 136 #[.pointer (some ⟨d,0,none⟩),iv 120] (.aG [.leaf .ptr,.leaf (.int .i64)]) k w:=by
 refine acO ?_
 refine TV (h.pick (A:=aj d X) pK) hw hD om hn (λp w Y i e oX hbT j ym Ob y h=>?_) (λw Y i e oX j hf Ob wR Nh h=>?_)
 .refine ar rfl ?_
  have z:=y.hv ym
  have y:Clean Y.S i e (cU Y):=y.congr λn hn=>z n hn
  have XI:cU Y 0=P 0:=z 0 om
  have U:s8 (cU Y) B2:=by
   rcases U with⟨l,C⟩|⟨o,N,O,r,id,g,I,J,hV⟩
   .exact .inl ⟨by rw[z 0 om];exact l,C⟩
   .exact .inr ⟨o,N,O,r,id,g,I,J,hV.congr z⟩
  refine TX h U λq c' o N O r id g I J w hV hc GM h=>?_
  refine ar rfl ?_
  have u:=(rF (h.bF (A1:=aj d Y) (A2:=aN p d i e c') pK pK)).2
  obtain⟨_,_,_,_,GL,_⟩:=u
  have u:=GL.wf
  refine TZ (h.bF (A1:=aj d Y) (A2:=aN p d i e c') pK pK) om ym y (k7 c' u hc) (λw Z Q R No D Nq K YI h=>?_) (λZg w Z hf D aaa hH h=>?_)
  .refine ar rfl ?_
   have a:=hV.congr YI
   refine Kq h λb0 m w h=>?_
   refine bx h λv w h=>?_
   have h:ab E w (bf v p q b0 0 au false::bY b0 0 (-1) 0 m::aT m (.map #[] 0)::aj d Z::aN p d Q R (λ_=>none)::bm q p::ae F::L):=h.sub sS
   have h:ab E w (ae F::bf v p q b0 0 au false::bm q p::aj d Z::aN p d Q R (λ_=>none)::az F b0 eQ::L):=by
    have h:=h.pick (A:=aT m (.map #[] 0)) pK
    rw[<-qf (kl:=.str) (vl:=.leaf .ptr)]at h
    have h:=ab.Ik (f:=bq) h
    exact(jb (F:=F) (b:=b0) (B:=eQ) fT.nil (h.sub (M:=bY b0 0 (-1) 0 m::bS m [] 0::bO bq []::bf v p q b0 0 au false::aj d Z::aN p d Q R (λ_=>none)::bm q p::ae F::L) sS)).sub sS
   refine T0 (c:=λ_=>none) (h.lj (A1:=bm q p) (A2:=aj d Z) (A3:=aN p d Q R (λ_=>none)) pK pK pK) a.v.hp a.v.ro (λx hx=>by rw[hx];simp) (λw ho h=>?_) (λx w ho h=>?_)
   .refine aR rfl ?_
    obtain⟨e1,e2,e3,e4⟩:=a.v.on ho
    have pW:J=[]:=by have:=gU List.length a.bs;rw[e4]at this;exact R6 (by simpa using this.symm)
    have XS:I=eQ:=by
     rcases a.bo with⟨_,l⟩|⟨x,l,_⟩
     .exact l
     .rw[e3]at l;cases l
    have XT:B2=eQ:=by have l:=a.pl;rw[pW,XS]at l;exact l
    rw[e1,e2]at a
    refine V F v p q b0 0 au [] Z Q R o N O r I J w (dC _) om (D.trans j) Nq K a FL.nil ?_
    rw[XT]
    exact h.sub sS
   .refine ar rfl ?_
    refine aR rfl ?_
    have ex:=a.v.ov x ho
    rw[ex]
    have CV:=a.v.Aq
    have YK:=a.v.De
    have Ae:=a.il
    refine T4 (h.pick (A:=ae F) pK) om (λn hn=>by have:=YK n hn;omega) om λG s w hG hs h=>?_
    refine al h λt12 w h=>?_
    rw[yR]at h
    refine bU (t:=150) (b:=t12) h (λw h=>?_)
    refine bN (t:=150) (ls:=dq) (x:=((id:Int),s,())) (b:=t12) h ?_
    refine aq ?_
    refine yJ (t:=150) (b:=v) (off:=3) h (λw h=>?_)
    refine aL ?_
    refine ar rfl ?_
    have h:=jG (h.pick (A:=az F b0 eQ) pK) hG
    refine T5 (F:=G) (id:=id) (s:=s) (L:=L) (h.sub sS) a.v hs Ae a.bo a.bs a.pl λG2 H w nX h=>?_
    refine ao λ_=>?_
    refine ar rfl ?_
    exact V G2 v p q H id s g Z Q R o N O r I J w (hG.trans nX) om (D.trans j) Nq K a (hs.up nX) h
  .refine aR dE ?_
   refine vg w Z (D.trans j) (j▸hf) aaa (λS' hS=>?_) (λh0=>absurd (GM (by rw[XI];exact h0)) Zg) (h.sub sS)
   obtain⟨T3,b3,l,C⟩:=hH S' hS
   rcases C with C|C
   .exact⟨T3,b3,_,om,C,U⟩
   .exact⟨T3,b3,_,om,C,.inr ⟨o,N,O,r,id,g,I,J,hV⟩⟩
 .refine aR dE ?_
  refine vg w Y j hf Ob (λS' hS=>?_) (λ_=>⟨i,e,om,wR,Nh⟩) (h.sub sS)
  obtain⟨T3,b3,l,C⟩:=Nh.Cv hS
  exact⟨T3,b3,P,om,C,U⟩
abbrev cX (sk v:Nat) (b:ByteArray) (st:Bool) (a c e:Int):aK:=lc sk 223 [.pointer (some ⟨v,0,none⟩),.string b,.bool st,iv a,iv c,iv e]
theorem Ft {v:Nat} {st:Bool} {c e:Int} {k:Bool->Pr} (h:ab E w (cX sk v kB st a c e::L)) (f:∀d,ab E d (cX sk v kB st a c e::L)->k true d):
  CL 141 #[.pointer (some ⟨sk,0,none⟩)] aw k w:=by
 refine acT ?_
 refine dw (x:=true) kK ?_
 refine aL ?_
 refine aR rfl ?_
 refine aq ?_
 refine ld (t:=90) (x:=some ⟨v,0,none⟩) (b:=sk) (off:=0) h ?_
 refine dw (x:=true) kK ?_
 exact ao λ_=>f _ h
theorem Ud {v id:Nat} {st:Bool} {c e:Int} {k:Int->Pr} (h:ab E w (ae F::cX sk v kB st a c e::bf v p q b0 id s bl::az F b0 B0::L)) (f:dN B0.aJ)
  (g:∀d,ab E d (ae F::cX sk v kB st a c e::bf v p q b0 id s bl::az F b0 B0::L)->k B0.seq d):CL 182 #[.pointer (some ⟨sk,0,none⟩)] ah k w:=by
 refine adz ?_
 refine Ft (h.pick (A:=cX sk v kB st a c e) pK) λw h=>?_
 refine ar rfl ?_
 refine aq ?_
 refine ld (t:=90) (x:=some ⟨v,0,none⟩) (b:=sk) (off:=0) h ?_
 refine Cg (h.lj (A1:=ae F) (A2:=bf v p q b0 id s bl) (A3:=az F b0 B0) pK pK pK) f λi w h=>?_
 obtain⟨m,l,n,j,o,h⟩:=ko (h.pick (A:=az F i B0) pK)
 refine Kx h λw h=>?_
 exact g w (h.sub sS)
theorem TJ {v id:Nat} {k:Option Addr×Int×Unit->Pr} (h:ab E w (ae F::bf v p q b0 id s bl::az F b0 B0::L)) (c:dN B0.aJ)
  (d:∀a b,ab E b (ae F::cX a v ⟨#[]⟩ bl 0 0 0::bf v p q b0 id s bl::az F b0 B0::L)->k (some ⟨a,0,none⟩,0,()) b):CL 137 #[.pointer (some ⟨v,0,none⟩)] (.aG [.leaf .ptr,.leaf (.int .i64)]) k w:=by
 refine acP ?_
 refine Cg h c λe w h=>?_
 refine dw (x:=false) kK ?_
 refine ar rfl ?_
 refine T6 (h.pick (A:=bf v p q b0 id s bl) pK) λw h=>?_
 refine bx h λa w h=>?_
 exact d a w (h.sub sS)
theorem HS {P:iF}:(a:List Rc)->(∀x∈a,JL P x)->a.length<=(fp a).length
 |[],_=>jt _
 |x::l,h=>by
  have c:=HS l λy b=>h y (dH _ b)
  have d:=(h x eo).len
  have e:=Dt x.2.length
  rw[show fp (x::l)=x.1++fp l from rfl,aU,db]
  omega
theorem dn.V8 (h:dn P ca r):ca.length<=180:=by
 have d:=HS ca h.ch
 have b:=lL h.nd (m:=List.range 180) λn a=>by
  obtain⟨x,c,a⟩:=List.mem_flatMap.1 a
  exact List.mem_range.2 ((h.ch x c).rg n a).2
 rw[px]at b
 omega
structure ly (F:bh) (X:DX) (T bT id:Nat) (s:Sl) (B2:b9):Prop where
 c:X.c=[]
 cl:Clean X.S T bT (cU X)
 ex:∃ids o bb bd r B1 Ps,lV (cU X) o bb bd r id ids B1 Ps B2/\jm F s ids
theorem s6.snoc {B2:b9} {P:Pk} (a:BN B2 P):{b:b9}->{c:List Pk}->s6 b c B2->s6 b (c++[P]) (cb B2 P).2
 |_,[],h=>by cases h;exact⟨a,rfl⟩
 |_,_::_,h=>⟨h.1,s6.snoc a h.2⟩
theorem UE {v d id:Nat} {P:Pk} {k:Int->Pr}
  (h:ab E w (ae F::bf v p q b0 id s false::bm q p::aj d X::aN p d T bT (λ_=>none)::az F b0 B0::L)) (J:ly F X T bT id s B0) (U:T<=900000)
  (V:je F pk P) (n:kt P) (W:dN B0.aJ) (R:rH B0 P)
  (t:∀G e i,e≠0->((cb B0 P).1≠0/\e=(cb B0 P).1\/(cb B0 P).1=0/\(fv P=[]/\e=19\/e=3))->F.le G->ab E i (ae G::bf v p q b0 id s false::bm q p::aj d X::aN p d T bT (λ_=>none)::az G b0 B0::L)->k e i)
  (K:∀G Y u b A C i,(cb B0 P).1=0->F.le G->Y.fu=X.fu->u<=T+1->ly G Y u b id A (cb B0 P).2->
    ab E i (ae G::bf v p q C id A false::bm q p::aj d Y::aN p d u b (λ_=>none)::az G C (cb B0 P).2::L)->k 0 i)
  (M:∀G Y D i,(cb B0 P).1=0->F.le G->X.fu=true->Y.fu=X.fu->Halt Y.S Y.c (T+1) (cU X) D->oI D (cb B0 P).2->
    ab E i (ae G::bf v p q b0 id s true::aj d Y::az G b0 B0::L)->k 6 i):
  CL 231 #[.pointer (some ⟨v,0,none⟩),ag av pk] ah k w:=by
 obtain⟨N,o,bb,Z,r,B1,Ps,g,hs⟩:=J.ex
 have x:=g.v.hp.V8
 have Nr:N.length=Z.length:=by rw[g.v.ids,bW]
 simp only[aU]at x
 have y:(cb B0 P).1=0->fv P≠[]->BN B0 P:=λj a=>by
  unfold fv at a
  split at a
  .rename_i hR
   split at a
   .exact absurd rfl a
   .exact⟨R,n,hR,om,j⟩
  .exact absurd rfl a
 refine K6 h J.c J.cl U g.v hs om V n W R (λG e w he H l h=>?_) (λG w m I H l h=>?_) (λG Y u b A ps O C w m I l j a z Q h5 h6 h=>?_) (λG Y D ps O w m I l j a z Q h=>?_)
 .refine t G e w he ?_ l h
  rcases H with H|⟨j,a,z⟩
  .exact .inl H
  .exact .inr ⟨j,.inl ⟨a,z⟩⟩
 .exact t G 3 w dE (.inr ⟨m,.inr rfl⟩) l h
 .exact K G Y u b A C w m l j z ⟨a,Q,_,_,_,_,_,B1,Ps++[P],⟨h6,by simp;omega,g.bo,by rw[fe,fe,g.bs];rfl,g.pl.snoc (y m I)⟩,h5⟩ h
 .exact M G Y D w m l j a z (lV.f ⟨Q,by simp;omega,g.bo,by rw[fe,fe,g.bs];rfl,g.pl.snoc (y m I)⟩) h
def la (e:Int):Bool:=e==7||(e==12||(e==1||(e==11||(e==18||(e==10||e==19)))))
theorem Ue {v d id:Nat} {P:Pk} {k:Int->Pr}
  (h:ab E w (ae F::cX sk v kB false na nc ne::bf v p q b0 id s false::bm q p::aj d X::aN p d T bT (λ_=>none)::az F b0 B0::L)) (U:ly F X T bT id s B0) (V:T<=900000)
  (W:je F pk P) (z:kt P) (Z:dN B0.aJ) (hC:rH B0 P)
  (a:∀G e g,e≠0->((cb B0 P).1≠0/\e=(cb B0 P).1\/(cb B0 P).1=0/\(fv P=[]/\e=19\/e=3))->F.le G->ab E g (ae G::cX sk v kB (!la e) na nc ne::bf v p q b0 id s false::bm q p::aj d X::aN p d T bT (λ_=>none)::az G b0 B0::L)->k (if la e then e else 17) g)
  (C:∀G Y m f o r g,(cb B0 P).1=0->F.le G->Y.fu=X.fu->m<=T+1->ly G Y m f id o (cb B0 P).2->
    ab E g (ae G::cX sk v kB false (w6 (na+1)) nc ne::bf v p q r id o false::bm q p::aj d Y::aN p d m f (λ_=>none)::az G r (cb B0 P).2::L)->k 0 g)
  (D:∀G Y u g,(cb B0 P).1=0->F.le G->X.fu=true->Y.fu=X.fu->Halt Y.S Y.c (T+1) (cU X) u->oI u (cb B0 P).2->
    ab E g (ae G::cX sk v kB true na nc ne::bf v p q b0 id s true::aj d Y::az G b0 B0::L)->k 17 g):
  CL 183 #[.pointer (some ⟨sk,0,none⟩),ag av pk] ah k w:=by
 refine DH ?_
 refine bx h λN w h=>?_
 refine aq ?_
 refine ld (t:=4) (x:=false) (b:=sk) (off:=2) h ?_
 refine ar rfl ?_
 refine dr h λw h=>?_
 refine aq ?_
 refine ld (t:=90) (x:=some ⟨v,0,none⟩) (b:=sk) (off:=0) h ?_
 refine bN (t:=68) (ls:=av) (x:=pk) (b:=N) h ?_
 have h:ab E w (ae F::bf v p q b0 id s false::bm q p::aj d X::aN p d T bT (λ_=>none)::az F b0 B0::cX sk v kB false na nc ne::lc N 68 (ay av pk)::L):=h.sub sS
 have n:∀(e:Int) (K:Bool->Pr) w,e≠0->K (la e) w->(af (e==7) (K (e==7)) (af (e==12) (K (e==12)) (af (e==1) (K (e==1)) (af (e==11) (K (e==11)) (af (e==18) (K (e==18)) (af (e==10) (K (e==10)) (K (e==19)))))))) w:=by
  intro e K w _ i
  have step:∀(b c:Bool) (A:Pr),(b=true->c=true)->K c w->(b=false->A w)->af b (K b) A w:=λb c A hb O hA=>by
   cases b with
   |true=>exact aR rfl (by rw[hb rfl]at O;exact O)
   |false=>exact ar rfl (hA rfl)
  refine step _ (la e) _ (λh=>by simp[la,h]) i λe1=>?_
  refine step _ (la e) _ (λh=>by simp[la,h]) i λe2=>?_
  refine step _ (la e) _ (λh=>by simp[la,h]) i λe3=>?_
  refine step _ (la e) _ (λh=>by simp[la,h]) i λe4=>?_
  refine step _ (la e) _ (λh=>by simp[la,h]) i λe5=>?_
  refine step _ (la e) _ (λh=>by simp[la,h]) i λe6=>?_
  have:la e=(e==19):=by simp only[la,e1,e2,e3,e4,e5,e6,Jg]
  rw[this]at i
  exact i
 refine UE h U V W z Z hC (λG e w y Q l h=>?_) (λG Y m f o r w H l I J M h=>?_) (λG Y u w H l I J M h4 h=>?_)
 .refine ar (by simpa using y) ?_
  refine aL ?_
  refine n e (λb=>ba λ_=>af b (k e) (NC (some ⟨sk,0,none⟩) λj=>ST 4 (Addr.add j 2) (.bool true) (k 17))) w y ?_
  refine ao λ_=>?_
  have a:=a G e
  cases R:la e with
  |true=>
   rw[R]at a
   exact aR rfl (a w y Q l (h.sub sS))
  |false=>
   rw[R]at a
   refine ar rfl ?_
   refine aq ?_
   refine st (t:=4) (b:=sk) (off:=2) h λw h=>?_
   exact a w y Q l (h.sub sS)
 .refine aR rfl ?_
  refine aq ?_
  refine ld (t:=3) (x:=na) (b:=sk) (off:=3) h ?_
  refine aq ?_
  refine st (t:=3) (b:=sk) (off:=3) h λw h=>?_
  exact C G Y m f o r w H l I J M (h.sub sS)
 .refine ar rfl ?_
  refine aL ?_
  refine n 6 (λb=>ba λ_=>af b (k 6) (NC (some ⟨sk,0,none⟩) λj=>ST 4 (Addr.add j 2) (.bool true) (k 17))) w dE ?_
  refine ao λ_=>?_
  refine ar rfl ?_
  refine aq ?_
  refine st (t:=4) (b:=sk) (off:=2) h λw h=>?_
  exact D G Y u w H l I J M h4 (h.sub sS)
structure vZ (B0:b9):Prop where
 z:dN B0.aJ
 n:lu B0.aJ
 e:sZ B0
 k:(gh B0).length<=1000000000->BI B0
theorem vZ.ok (h:vZ B0) {id:Nat} {ids:List Nat} (hv:jJ P o (some (ps,gh B0)) bd r id ids):BI B0:=
 h.k (by have:(gh B0).length<=100000:=(hv.hp.ch (ps,gh B0) sI).lg
         omega)
theorem Tm {v d id:Nat} {k:Int->Pr}
  (h:ab E w (ae F::bf v p q b0 id s false::bm q p::aj d X::aN p d T bT (λ_=>none)::az F b0 B1::L)) (x:ly F X T bT id s B1) (O:T<=900000) (g:vZ B1)
  (y:∀G b,F.le G->ab E b (ae G::bf v p q b0 id s false::bm q p::aj d X::aN p d T bT (λ_=>none)::az G b0 B1::L)->k 3 b)
  (A:∀G Y i a j l m b,F.le G->Y.fu=X.fu->i<=T+1->ly G Y i a j l B1->ab E b (ae G::bf v p q m j l false::bm q p::aj d Y::aN p d i a (λ_=>none)::az G m B1::L)->k 0 b)
  (C:∀G Y t b,F.le G->X.fu=true->Y.fu=X.fu->Halt Y.S Y.c (T+1) (cU X) t->oI t B1->ab E b (ae G::bf v p q b0 id s true::aj d Y::az G b0 B1::L)->k 6 b):
  CL 105 #[.pointer (some ⟨v,0,none⟩)] ah k w:=by
 obtain⟨P,o,V,bd,r,W,Ps,M,Q⟩:=x.ex
 refine Tl h x.c x.cl O M.v Q M.il g.z g.n g.e y (λG Y i a l R D m w H I J K u U N h=>?_) (λG Y t R D w H I J K u h=>?_)
 .exact A G Y i a _ l m w H I K ⟨J,u,[],_,_,_,_,B1,[],⟨N,sI,.inr ⟨_,rfl,rfl,g.ok N⟩,rfl,rfl⟩,U⟩ h
 .exact C G Y t w H I J K (lV.f (bd:=[]) (Ps:=[]) (B1:=B1) ⟨u,sI,.inr ⟨_,rfl,rfl,g.ok u⟩,rfl,rfl⟩) h
theorem Tj {v d id:Nat} {k:Int×Int×Unit->Pr}
  (h:ab E w (ae F::bf v p q b0 id s false::bm q p::aj d X::aN p d T bT (λ_=>none)::az F b0 B0::L)) (y:ly F X T bT id s B0) (Q:T<=900000) (R:dN B0.aJ) (U:lu B0.aJ)
  (a:fz B0.time B0.aM hz=0->vZ (lQ hz B0))
  (A:fz B0.time B0.aM hz≠0->∀b,ab E b (ae F::bf v p q b0 id s false::bm q p::aj d X::aN p d T bT (λ_=>none)::az F b0 B0::L)->k (0,fz B0.time B0.aM hz,()) b)
  (C:∀G b,fz B0.time B0.aM hz=0->F.le G->ab E b (ae G::bf v p q b0 id s false::bm q p::aj d X::aN p d T bT (λ_=>none)::az G b0 B0::L)->k (0,3,()) b)
  (D:∀G Y i g j m t n b,fz B0.time B0.aM hz=0->F.le G->Y.fu=X.fu->i<=T+1->ly G Y i g j m (lQ hz B0)->ab E b (ae G::bf v p q t j m false::bm q p::aj d Y::aN p d i g (λ_=>none)::az G t (lQ hz B0)::L)->k (n,0,()) b)
  (H:∀G Y u b,fz B0.time B0.aM hz=0->F.le G->X.fu=true->Y.fu=X.fu->Halt Y.S Y.c (T+1) (cU X) u->oI u (lQ hz B0)->ab E b (ae G::bf v p q b0 id s true::aj d Y::az G b0 B0::L)->k (0,6,()) b):
  CL 104 #[.pointer (some ⟨v,0,none⟩),iv hz] (.aG [.leaf (.int .i64),.leaf (.int .i64)]) k w:=by
 obtain⟨V,o,bb,bd,r,B1,Ps,O,W⟩:=y.ex
 refine Ti h y.c y.cl Q O.v W O.il R U (λe=>⟨(a e).z,(a e).n,(a e).e⟩) A C (λG Y i g m Z I t n w l J K M N x h5 P h=>?_) (λG Y u Z I w l J K M N x h=>?_)
 .exact D G Y i g _ m t n w l J K N ⟨M,x,[],_,_,_,_,lQ hz B0,[],⟨P,sI,.inr ⟨_,rfl,rfl,(a l).ok P⟩,rfl,rfl⟩,h5⟩ h
 .exact H G Y u w l J K M N (lV.f (bd:=[]) (Ps:=[]) (B1:=lQ hz B0) ⟨x,sI,.inr ⟨_,rfl,rfl,(a l).ok x⟩,rfl,rfl⟩) h
theorem TI {d:Nat} {k:Option Addr×Int×Unit->Pr} (h:ab E w (ae F::aj d X::L)) (y:X.Wf) (z:eU X.S X.c T b P) (A:T<=800000) (hn:X.c.length+1000<1000000) (C:s8 P B2)
  (k7:∀c:fh,(∀n x,c n=some x->n<180/\x.length=128)->dm c<=3->¬118<kP (cO c))
  (i:∀G v p q f id s Y a e g,F.le G->a<=T+3->Y.fu=X.fu->ly G Y a e id s B2->
    ab E g (ae G::bf v p q f id s false::bm q p::aj d Y::aN p d a e (λ_=>none)::az G f B2::L)->k (some ⟨v,0,none⟩,0,()) g)
  (j:∀g Y,Y.fu=X.fu->X.fu=true->Y.Wf->(∀t,fY Y.S Y.c t->∃a f u,a<=T+3/\eU t [] a f u/\s8 u B2)->(P 0≠dI->∃a f,a<=T+3/\Y.c.length<=X.c.length+1000/\eU Y.S Y.c a f P)->ab E g (ae F::aj d Y::L)->k (none,6,()) g):
  CL 136 #[.pointer (some ⟨d,0,none⟩),iv 120] (.aG [.leaf .ptr,.leaf (.int .i64)]) k w:=
 TH h y z A hn C k7 (λG v p q f id s l Y a e o D H r I J w K m M N O Q R h=>i G v p q f id s Y a e w K m M ⟨N,O,l,o,D,H,r,I,J,Q,R⟩ h) j
end Go.Proofs.YtelhccfmfnaegaaGreat
namespace Go.Proofs.YtelhccfmfnaegaaGreat
open Go Go.Sh
theorem Gv {c:fh} (a:∀n x,c n=some x->n<180/\x.length=128):(l:List Nat)->(l.flatMap (jS c)).length<=150*(l.filter λn=>(c n).isSome).length
 |[]=>by simp
 |n::l=>by
  have b:=Gv a l
  rw[fc,aU,jr]
  cases e:c n with
  |none=>
   have:jS c n=[]:=by unfold jS;rw[e]
   rw[this];simp only[Option.isSome_none,kk,fF,mO];omega
  |some x=>
   have d:=a n x e
   have f:=cD (n:=n) om
   have g:=(zw x).1
   have i:=cD (n:=(lX x).length) om
   have:(jS c n).length<=150:=by
    unfold jS;rw[e]
    unfold cz
    simp only[aU];omega
   simp only[Option.isSome_some,gr,db];omega
theorem k7:∀c:fh,(∀n x,c n=some x->n<180/\x.length=128)->dm c<=3->¬118<kP (cO c):=λc a d=>by
 have e:=Gv a (List.range 180)
 have b:=cD (n:=dm c) om
 have f:(cO c).length<=10+150*dm c:=by unfold cO;rw[aU];unfold dm at b⊢;omega
 unfold kP;omega
attribute [local irreducible] aT jC gk dV kO dg hex iT jk ae aj bG aN bq fL az
abbrev bE (rp:Nat) (u:Option Addr) (d:Nat) (z:Int):aK:=lc rp 88 [.pointer u,.pointer (some ⟨d,0,none⟩),iv z]
variable {E w:World} {L L':List aK} {F G:bh} {rp d u:Nat} {z:Int} {k:Int->Pr} {sk v p q b0:Nat} {s:Sl} {bl:Bool} {B0:b9} {hz:Int} {b:ByteArray} {n:Int} {X:DX} {dh:List Bool} {T:Nat} {P:iF} {B2:b9}
theorem uR (h:ab E w (bE rp (some ⟨u,0,none⟩) d z::L)) (c:∀a,ab E a (bE rp (some ⟨u,0,none⟩) d z::L)->k 0 a):CL 25 #[.pointer (some ⟨rp,0,none⟩)] ah k w:=by
 refine PQ ?_
 refine dw (x:=false) kK ?_
 refine aL ?_
 refine ar rfl ?_
 refine aq ?_
 refine ld (t:=86) (x:=some ⟨d,0,none⟩) (b:=rp) (off:=1) h ?_
 refine dw (x:=false) kK ?_
 refine ao λ_=>?_
 refine ar rfl ?_
 refine aq ?_
 refine ld (t:=85) (x:=some ⟨u,0,none⟩) (b:=rp) (off:=0) h ?_
 refine dw (x:=false) kK ?_
 exact ar rfl (c _ h)
theorem xP (h:ab E w (bE rp none d z::L)) (c:∀a,ab E a (bE rp none d z::L)->k 6 a):CL 25 #[.pointer (some ⟨rp,0,none⟩)] ah k w:=by
 refine PQ ?_
 refine dw (x:=false) kK ?_
 refine aL ?_
 refine ar rfl ?_
 refine aq ?_
 refine ld (t:=86) (x:=some ⟨d,0,none⟩) (b:=rp) (off:=1) h ?_
 refine dw (x:=false) kK ?_
 refine ao λ_=>?_
 refine ar rfl ?_
 refine aq ?_
 refine ld (t:=85) (x:=none) (b:=rp) (off:=0) h ?_
 refine dw (x:=true) kK ?_
 exact aR rfl (c _ h)
abbrev cS (u sk v:Nat):aK:=lc u 92 [.pointer (some ⟨sk,0,none⟩),.pointer (some ⟨v,0,none⟩)]
theorem zF {k:Bool->Pr} (h:ab E w (bE rp (some ⟨u,0,none⟩) d z::L)) (b:∀a,ab E a (bE rp (some ⟨u,0,none⟩) d z::L)->k true a):CL 22 #[.pointer (some ⟨rp,0,none⟩)] aw k w:=
 PM (uR h λw h=>b w h)
theorem UB {k:Bool->Pr} (h:ab E w (bE rp none d z::L)) (b:∀a,ab E a (bE rp none d z::L)->k false a):CL 22 #[.pointer (some ⟨rp,0,none⟩)] aw k w:=
 PM (xP h λw h=>b w h)
theorem Kw {id:Nat} {k:Option Addr->Pr} (h:ab E w (ae F::bE rp (some ⟨u,0,none⟩) d z::cS u sk v::bf v p q b0 id s bl::az F b0 B0::L)) (e:dN B0.aJ)
  (f:∀a c,ab E c (ae F::az F a B0::bE rp (some ⟨u,0,none⟩) d z::cS u sk v::bf v p q b0 id s bl::az F b0 B0::L)->k (some ⟨a,0,none⟩) c):CL 149 #[.pointer (some ⟨rp,0,none⟩)] aI k w:=by
 refine ac1 ?_
 refine zF (h.pick (A:=bE rp (some ⟨u,0,none⟩) d z) pK) λw h=>?_
 refine ar rfl ?_
 refine aq ?_
 refine ld (t:=85) (x:=some ⟨u,0,none⟩) (b:=rp) (off:=0) h ?_
 refine aq ?_
 refine ld (t:=90) (x:=some ⟨v,0,none⟩) (b:=u) (off:=1) h ?_
 refine Cg (h.lj (A1:=ae F) (A2:=bf v p q b0 id s bl) (A3:=az F b0 B0) pK pK pK) e λa w h=>?_
 exact f a w (h.sub sS)
theorem Tt {id:Nat} (h:ab E w (ae F::bE rp (some ⟨u,0,none⟩) d z::cS u sk v::bf v p q b0 id s bl::az F b0 B0::L)) (b:dN B0.aJ)
  (c:∀a,ab E a (ae F::bE rp (some ⟨u,0,none⟩) d z::cS u sk v::bf v p q b0 id s bl::az F b0 B0::L)->k B0.seq a):CL 108 #[.pointer (some ⟨rp,0,none⟩)] ah k w:=by
 refine acm ?_
 refine Kw h b λe w h=>?_
 obtain⟨m,g,i,f,j,h⟩:=ko (h.pick (A:=az F e B0) pK)
 refine Kx h λw h=>?_
 exact c w (h.sub sS)
theorem Tu {id:Nat} (h:ab E w (ae F::bE rp (some ⟨u,0,none⟩) d z::cS u sk v::bf v p q b0 id s bl::az F b0 B0::L)) (b:dN B0.aJ)
  (c:∀a,ab E a (ae F::bE rp (some ⟨u,0,none⟩) d z::cS u sk v::bf v p q b0 id s bl::az F b0 B0::L)->k B0.aM a):CL 109 #[.pointer (some ⟨rp,0,none⟩)] ah k w:=by
 refine acn ?_
 refine Kw h b λe w h=>?_
 obtain⟨m,g,i,f,j,h⟩:=ko (h.pick (A:=az F e B0) pK)
 refine Kt h λw h=>?_
 exact c w (h.sub sS)
theorem LF (h:ab E w (bE rp (some ⟨u,0,none⟩) d z::cS u sk v::L))
  (c:∀a,ab E a (bE rp (some ⟨u,0,none⟩) d z::cS u sk v::L)->CL 105 #[.pointer (some ⟨v,0,none⟩)] ah k a):CL 55 #[.pointer (some ⟨rp,0,none⟩)] ah k w:=by
 refine PT ?_
 refine uR h λw h=>?_
 refine ar rfl ?_
 refine aq ?_
 refine ld (t:=85) (x:=some ⟨u,0,none⟩) (b:=rp) (off:=0) h ?_
 refine aq ?_
 refine ld (t:=90) (x:=some ⟨v,0,none⟩) (b:=u) (off:=1) h ?_
 exact c w h
theorem VB (h:ab E w (bE rp none d z::L)) (b:∀a,ab E a (bE rp none d z::L)->k 6 a):CL 55 #[.pointer (some ⟨rp,0,none⟩)] ah k w:=
 PT (xP h λw h=>aR rfl (b w h))
theorem LC {k:Int×Int×Unit->Pr} (h:ab E w (bE rp (some ⟨u,0,none⟩) d z::cS u sk v::L))
  (c:∀a,ab E a (bE rp (some ⟨u,0,none⟩) d z::cS u sk v::L)->CL 104 #[.pointer (some ⟨v,0,none⟩),iv hz] (.aG [.leaf (.int .i64),.leaf (.int .i64)]) (λr=>k (r.1,r.2.1,())) a):CL 54 #[.pointer (some ⟨rp,0,none⟩),iv hz] (.aG [.leaf (.int .i64),.leaf (.int .i64)]) k w:=by
 refine PS ?_
 refine uR h λw h=>?_
 refine ar rfl ?_
 refine aq ?_
 refine ld (t:=85) (x:=some ⟨u,0,none⟩) (b:=rp) (off:=0) h ?_
 refine aq ?_
 refine ld (t:=90) (x:=some ⟨v,0,none⟩) (b:=u) (off:=1) h ?_
 exact c w h
theorem VA {k:Int×Int×Unit->Pr} (h:ab E w (bE rp none d z::L)) (b:∀a,ab E a (bE rp none d z::L)->k (0,6,()) a):CL 54 #[.pointer (some ⟨rp,0,none⟩),iv hz] (.aG [.leaf (.int .i64),.leaf (.int .i64)]) k w:=
 PS (xP h λw h=>aR rfl (b w h))
theorem xU {k:Sl->Pr} (h:ab E w (bE rp (some ⟨u,0,none⟩) d z::cS u sk v::L))
  (c:∀a,ab E a (bE rp (some ⟨u,0,none⟩) d z::cS u sk v::L)->CL 103 #[.pointer (some ⟨sk,0,none⟩),.string b] aE k a):CL 53 #[.pointer (some ⟨rp,0,none⟩),.string b] aE k w:=by
 refine af8 ?_
 refine zF h λw h=>?_
 refine ar rfl ?_
 refine aq ?_
 refine ld (t:=85) (x:=some ⟨u,0,none⟩) (b:=rp) (off:=0) h ?_
 refine aq ?_
 refine ld (t:=89) (x:=some ⟨sk,0,none⟩) (b:=u) (off:=0) h ?_
 exact c w h
theorem LG {k:Unit->Pr} (h:ab E w (bE rp (some ⟨u,0,none⟩) d z::aj d X::L))
  (c:∀a,ab E a (bE rp (some ⟨u,0,none⟩) d z::aj d {X with fu:=true,lf:=if 0>n then 0 else n}::L)->k () a):CL 57 #[.pointer (some ⟨rp,0,none⟩),iv n] (.aG []) k w:=by
 refine PU ?_
 refine uR h λw h=>?_
 refine aR rfl ?_
 refine aq ?_
 refine ld (t:=86) (x:=some ⟨d,0,none⟩) (b:=rp) (off:=1) h ?_
 refine Kh (h.pick (A:=aj d X) pK) λw h=>?_
 exact c w (h.sub sS)
theorem VC {k:Unit->Pr} (h:ab E w (bE rp none d z::aj d X::L))
  (c:∀a,ab E a (bE rp none d z::aj d {X with fu:=true,lf:=if 0>n then 0 else n}::L)->k () a):CL 57 #[.pointer (some ⟨rp,0,none⟩),iv n] (.aG []) k w:=by
 refine PU ?_
 refine xP h λw h=>?_
 refine aR rfl ?_
 refine aq ?_
 refine ld (t:=86) (x:=some ⟨d,0,none⟩) (b:=rp) (off:=1) h ?_
 refine Kh (h.pick (A:=aj d X) pK) λw h=>?_
 exact c w (h.sub sS)
theorem Tr {u:Option Addr} (h:ab E w (bE rp u d z::aj d X::L))
  (e:∀a,ab E a (bE rp u d z::aj d X::L)->k (X.c.length:Int) a):CL 107 #[.pointer (some ⟨rp,0,none⟩)] ah k w:=by
 refine ack ?_
 refine dw (x:=false) kK ?_
 refine ar rfl ?_
 refine aq ?_
 refine ld (t:=86) (x:=some ⟨d,0,none⟩) (b:=rp) (off:=1) h ?_
 refine TO (h.pick (A:=aj d X) pK) λs w f h=>?_
 rw[f]
 exact e w (h.sub sS)
theorem To (h:ab E w (ae F::bE rp (some ⟨u,0,none⟩) d z::aj d X::L)) (hs:FL F [.bool] s (dh.map λb=>((b,()):bK [.bool]))) (f:dh.length<=X.c.length)
  (g:∀a e,fY X.S X.c a->ab E e (ae F::bE rp none d z::aj d {S:=a,c:=[],fu:=false,lf:=X.lf}::L)->k 0 e):CL 106 #[.pointer (some ⟨rp,0,none⟩),sv s] ah k w:=by
 refine PH ?_
 refine uR (h.pick (A:=bE rp (some ⟨u,0,none⟩) d z) pK) λw h=>?_
 refine ar rfl ?_
 refine aq ?_
 refine ld (t:=86) (x:=some ⟨d,0,none⟩) (b:=rp) (off:=1) h ?_
 refine Kv (F:=F) (h.bF (A1:=aj d X) (A2:=ae F) pK pK) hs f λa w i h=>?_
 refine aL ?_
 refine aR rfl ?_
 refine aq ?_
 refine st (t:=85) (b:=rp) (off:=0) h λw h=>?_
 refine ao λ_=>?_
 exact g a w i (h.sub sS)
theorem Tp (h:ab E w (ae F::bE rp none d z::aj d X::L)) (hs:FL F [.bool] s (dh.map λb=>((b,()):bK [.bool]))) (f:dh.length<=X.c.length)
  (g:∀a e,fY X.S X.c a->ab E e (ae F::bE rp none d z::aj d {S:=a,c:=[],fu:=false,lf:=X.lf}::L)->k 0 e):CL 106 #[.pointer (some ⟨rp,0,none⟩),sv s] ah k w:=by
 refine PH ?_
 refine xP (h.pick (A:=bE rp none d z) pK) λw h=>?_
 refine ar rfl ?_
 refine aq ?_
 refine ld (t:=86) (x:=some ⟨d,0,none⟩) (b:=rp) (off:=1) h ?_
 refine Kv (F:=F) (h.bF (A1:=aj d X) (A2:=ae F) pK pK) hs f λa w i h=>?_
 refine aL ?_
 refine aR rfl ?_
 refine aq ?_
 refine st (t:=85) (b:=rp) (off:=0) h λw h=>?_
 refine ao λ_=>?_
 exact g a w i (h.sub sS)
theorem Kf {b:Nat} (h:ab E w (ae F::bE rp none d 120::aj d X::L)) (y:X.Wf) (z:eU X.S X.c T b P) (C:T<=800000) (hn:X.c.length+1000<1000000) (D:s8 P B2) (H:dN B2.aJ)
  (j:∀G u i v p q e id s Y a f g,F.le G->a<=T+3->Y.fu=X.fu->ly G Y a f id s B2->
    ab E g (ae G::bE rp (some ⟨u,0,none⟩) d 120::cS u i v::cX i v ⟨#[]⟩ false 0 0 0::bf v p q e id s false::bm q p::aj d Y::aN p d a f (λ_=>none)::az G e B2::L)->k 0 g)
  (l:∀g Y,Y.fu=X.fu->X.fu=true->Y.Wf->(∀o,fY Y.S Y.c o->∃a e r,a<=T+3/\eU o [] a e r/\s8 r B2)->(P 0≠dI->∃a e,a<=T+3/\Y.c.length<=X.c.length+1000/\eU Y.S Y.c a e P)->ab E g (ae F::bE rp none d 120::aj d Y::L)->k 6 g):
  CL 100 #[.pointer (some ⟨rp,0,none⟩)] ah k w:=by
 refine ach ?_
 refine xP (h.pick (A:=bE rp none d 120) pK) λw h=>?_
 refine ar rfl ?_
 refine ar rfl ?_
 refine dr h λw h=>?_
 refine aq ?_
 refine ld (t:=86) (x:=some ⟨d,0,none⟩) (b:=rp) (off:=1) h ?_
 refine aq ?_
 refine ld (t:=3) (x:=(120:Int)) (b:=rp) (off:=2) h ?_
 refine TI (F:=F) (h.bF (A1:=ae F) (A2:=aj d X) pK pK) y z C hn D k7 (λG v p q e id s Y a f w I m n J h=>?_) (λw Y n K M N O h=>?_)
 .refine ar rfl ?_
  refine TJ (F:=G) (h.lj (A1:=ae G) (A2:=bf v p q e id s false) (A3:=az G e B2) pK pK pK) H λi w h=>?_
  refine ar rfl ?_
  refine bx h λu w h=>?_
  refine aq ?_
  refine st (t:=85) (b:=rp) (off:=0) h λw h=>?_
  exact j G u i v p q e id s Y a f w I m n J (h.sub sS)
 .refine aR rfl ?_
  exact l w Y n K M N O (h.sub sS)
abbrev CA:DX:={S:=λ_=>dI,c:=[],fu:=false,lf:=0}
theorem Qp:lx (λ_=>dI) 0 0:=⟨(0,0),(0,0),rfl,rfl,rfl,.inr rfl,cV _,cV _,rfl⟩
theorem WN:eU CA.S CA.c 0 0 (λ_=>dI):=by
 have a:mT (λ_=>dI) 0 0 (λ_=>dI):=.inl ⟨λ_=>none,λ_=>[],⟨(λi _ _=>rfl),(λi t h=>by cases h)⟩,(λi t h=>by cases h),(λt _ (h:comp (λ_=>none) (λ_=>[]) t)=>by have:=h 0 (sd _);cases this),(λn _=>rfl)⟩
 exact⟨Qp,λd b=>by cases b.nil;exact⟨0,0,Qp,cV _,a,a⟩⟩
theorem wf0:CA.Wf:=⟨λa _=>by simp[dI],λu b=>by cases b⟩
theorem Tc:dN eQ.aJ:=λy T h=>by cases h
theorem Vy {k:Option Addr×Int×Unit->Pr} (h:ab E w (ae F::L))
  (j:∀G rp d u e v p q f id s Y c a g,F.le G->c<=3->Y.fu=false->ly G Y c a id s eQ->
    ab E g (ae G::bE rp (some ⟨u,0,none⟩) d 120::cS u e v::cX e v ⟨#[]⟩ false 0 0 0::bf v p q f id s false::bm q p::aj d Y::aN p d c a (λ_=>none)::az G f eQ::L)->k (some ⟨rp,0,none⟩,0,()) g):
  CL 51 #[iv 300,iv 120] (.aG [.leaf .ptr,.leaf (.int .i64)]) k w:=by
 refine af6 ?_
 refine VQ h λd w h=>?_
 refine ar rfl ?_
 refine bx h λrp w h=>?_
 refine Kf (F:=F) (rp:=rp) (d:=d) (X:=CA) (T:=0) (b:=0) (P:=λ_=>dI) (B2:=eQ) (h.sub sS) wf0 WN om sI (.inl ⟨rfl,rfl⟩) Tc (λG u e v p q f id s Y c a w l m i n h=>?_) (λw Y i o r t _ h=>?_)
 .refine ar rfl ?_
  exact j G rp d u e v p q f id s Y c a w l om i n h
 .cases o
end Go.Proofs.YtelhccfmfnaegaaGreat
