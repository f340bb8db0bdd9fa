/- Lemmas for topAudits_holds. No conditions. -/
import Derived.Test.YtelhccfmfnaegaaGreatPe
import Derived.Test.YtelhccfmfnaegaaGreatSo
set_option linter.unusedSectionVars false
set_option linter.unusedVariables false
set_option linter.unusedSimpArgs false
set_option linter.defProp false
set_option maxRecDepth 10000
namespace Go.Proofs.YtelhccfmfnaegaaGreat
open Go Go.Sh
attribute [local irreducible] aT jC gk dV kO dg hex iT jk ae aj bG aN bq fL az
def fX (i:Nat) (B0:b9):Prop:=∃k a,k<=i/\gE k a B0
variable {i j:Nat} {B0:b9} {P:Pk} {hz:Int} {rp d T T':Nat} {fu:Bool} {B1:b9} {N N':Nat} {fo:Bool} {n:Nat} {h mh sq e:Int} {S:World->bh->List aK->Prop} {a x:aK} {p:bK Y0} {dh:List Bool} {b:Nat} {k:Bool->Pr} {tm oN q0 q2 q3 q4 q5 q8:Int} {cs oK fN q6 q7:Sl} {oS q1:ByteArray} {q9:Bool} {s:Sl} {q:bK bR} {R:bh->(Sl×Int×Unit)->Prop} {nm:ByteArray} {t:Int} {ks:Sl} {r:Row} {ps:List Pc} {s0:Sl} {wd:Nat} {ex:Sl->Pr} {kx:ByteArray} {o1 o2:Sl} {xs ys:List Rw}
theorem fX.mono (h:fX i B0) (c:i<=j):fX j B0:=by
 obtain⟨k,a,d,b⟩:=h
 exact⟨k,a,om,b⟩
theorem Fj:fX 0 eQ:=⟨0,[],cV _,S6⟩
theorem fX.z (h:fX i B0) (hi:i<=21):dN B0.aJ:=by
 obtain⟨k,b,c,a⟩:=h
 exact a.z om
theorem fX.bn (h:fX i B0) (hi:i<=21):lu B0.aJ:=by
 obtain⟨k,b,c,a⟩:=h
 exact a.bn om
theorem fX.l (h:fX i B0) (hi:i<=21):vZ B0:=by
 obtain⟨k,b,c,a⟩:=h
 exact⟨a.z om,a.bn om,a.e om,a.ok om⟩
theorem fX.ap (h:fX i B0) (hi:i<=21) (a:kt P):rH B0 P:=by
 obtain⟨k,c,d,b⟩:=h
 exact b.ap om a
theorem fX.apply (h:fX i B0) (a:kt P) (b:(cb B0 P).1=0):fX (i+1) (cb B0 P).2/\P.1=B0.seq+1/\(cb B0 P).2.seq=P.1/\(cb B0 P).2.aM=B0.aM:=by
 obtain⟨k,g,j,c⟩:=h
 obtain⟨d,l,e,f,_⟩:=SG c a b
 exact⟨⟨k+1,_,om,d⟩,om,e,f⟩
theorem fX.IA (h:fX i B0) (a:fz B0.time B0.aM hz=0):fX i (lQ hz B0):=by
 obtain⟨k,b,c,d⟩:=h
 exact⟨k,b,c,aiI d a⟩
variable {E w:World} {L L' M:List aK} {F G:bh}
theorem de.mono {z:Bool} (h:de E w F rp d fu T z B0 L) (l:T<=T'):de E w F rp d fu T' z B0 L:=by
 obtain⟨u,f,v,p,q,b,id,s,a,c,e,X,g,i,j,m,k,h⟩:=h
 exact⟨u,f,v,p,q,b,id,s,a,c,e,X,g,i,j,om,k,h⟩
theorem gP.mono (h:gP E w F rp d T B0 B1 L) (x:T<=T'):gP E w F rp d T' B0 B1 L:=by
 obtain⟨u,i,v,p,q,b,id,s,z,a,c,e,X,j,k,l,f,g,h⟩:=h
 refine⟨u,i,v,p,q,b,id,s,z,a,c,e,X,j,k,?_,f,g,h⟩
 intro m n
 obtain⟨o,r,y,t⟩:=l m n
 exact⟨o,r,om,t⟩
theorem iD.mono (h:iD E w F rp d fo T N B0 L) (g:T<=T') (i:N<=N'):iD E w F rp d fo T' N' B0 L:=by
 obtain⟨X,a,b,P,c,j,k,e,f,h⟩:=h
 exact⟨X,a,b,P,c,om,om,e,f,h⟩
def Mode (E w:World) (F:bh) (b i rp d n m:Nat) (f g:Sl) (c e:Int) (L:List aK):Prop:=
 (∃k z a,fX i a/\a.seq=n/\a.aM=c/\e=0/\m<=1/\(z=false->m=0)/\de E w F rp d k (10*(i+1)) z a (bk b rp f g c e::L))\/
 (∃a j,fX i a/\fX i j/\a.seq=n/\a.aM=c/\TW n m c e j/\gP E w F rp d (10*(i+1)) a j (bk b rp f g c e::L))\/
 (∃l a,fX i a/\TW n m c e a/\iD E w F rp d l (10*(i+1)) (1000*i) a (bk b rp f g c e::L))
def we (E w:World) (F:bh) (b i:Nat) (L:List aK):Prop:=
 ∃e d n m a c f g,gO F a n/\gO F c m/\n<=i/\Mode E w F b i e d n m a c f g L
theorem TW.self {m:Nat} (a:B0.seq=n) (b:B0.aM=h):TW n m h mh B0:=⟨.inr a,.inr b⟩
def uC:=@TW.self
theorem TW.m {m:Nat} (b:TW n m h mh B0):TW n (lJ n m sq e) h mh B0:=by
 refine⟨?_,b.2⟩
 rcases b.1 with a|a
 .left
  refine⟨a.1,?_⟩
  unfold lJ
  split
  .rfl
  .exact a.2
 .exact .inr a
theorem Open.drop (c:Open E S) (h:S w F (a::x::L)):S w F (a::L):=by
 obtain⟨A,h,b⟩:=c _ _ _ h
 have h:ab E w (ae F::a::x::(L++A)):=h
 exact b F w (a::L) (dC _) (h.sub (.take .head (.take .head (.skip .done))))
def zg:=@Open.drop
theorem Open.add (d:Open E S) (h:S w F (a::L)):∃M,ab E w M/\∀b x,ab E b (x::M)->S b F (a::x::L):=by
 obtain⟨A,h,c⟩:=d _ _ _ h
 refine⟨_,h,λb x h=>?_⟩
 have h:ab E b (x::ae F::a::(L++A)):=h
 exact c F b (a::x::L) (dC _) (h.sub (.take (.tail .head) (.take (.tail .head) .done)))
def xH:=@Open.add
structure zr (F:bh) (p:bK Y0) (P:Pk) (dh:List Bool):Prop where
 pk:je F (p.2.1,p.2.2.1,p.2.2.2.1,()) P
 pw:pI P
 kp:FL F [.bool] p.2.2.2.2.2.2.1 (o4 dh)
 kl:dh.length<=9223372036854775807
theorem abW {p:pH} (h:je F p P) (a:F.le G):je G p P:=⟨h.n,h.t,h.cs.up OK a⟩
theorem zr.up (h:zr F p P dh) (a:F.le G):zr G p P dh:=
 ⟨abW h.pk a,h.pw,h.kp.up a,h.kl⟩
theorem aie (wS:we E w F b i L) (hO:zr F p P dh) (hi:i<=20)
  (j:∀G w',F.le G->we E w' G b (i+1) L->k true w'):CL 21 #[.pointer (some ⟨b,0,none⟩),ag Y0 p] aw k w:=by
 obtain⟨hp,hP,CY,CX⟩:=hO
 obtain⟨W,sq,tm,cs,oS,oN,oK,q0,q1,fN,q2,q3,q4,q5,q6,q7,q8,q9,⟨⟩⟩:=p
 simp only at hp CY
 obtain⟨rp,d,n,m,Ls,Ms,X,mh,hL,hM,hn,H⟩:=wS
 have t:∀w,Mode E w F b i rp d n m Ls Ms X mh L->k true w:=λw hm=>by
  refine j F w (dC _) ⟨rp,d,n,m,Ls,Ms,X,mh,hL,hM,om,?_⟩
  rcases hm with⟨K,z,f,g,o,y,A,C,Y,h⟩|⟨f,x,g,o,y,A,C,h⟩|⟨fo,f,g,o,h⟩
  .exact .inl ⟨K,z,f,g.mono om,o,y,A,C,Y,h.mono om⟩
  .exact .inr (.inl ⟨f,x,g.mono om,o.mono om,y,A,C,h.mono om⟩)
  .exact .inr (.inr ⟨fo,f,g.mono om,o,h.mono om om⟩)
 by_cases hX:W≠0/\W≠1/\W≠2/\W≠3/\W≠4/\W≠5/\W≠6
 .rcases H with⟨K,z,f,g,o,y,A,C,Y,h⟩|⟨f,x,g,o,y,A,C,h⟩|⟨fo,f,g,o,h⟩
  .exact Ix (eF) h hX λw h=>t w (.inl ⟨K,z,f,g,o,y,A,C,Y,h⟩)
  .exact Ix lN h hX λw h=>t w (.inr (.inl ⟨f,x,g,o,y,A,C,h⟩))
  .exact Ix lh h hX λw h=>t w (.inr (.inr ⟨fo,f,g,o,h⟩))
 by_cases h0:W=0
 .subst h0
  by_cases hS:oS=eB
  .subst hS
   rcases H with⟨K,z,f,g,o,y,A,C,Y,h⟩|⟨f,x,g,o,y,A,C,h⟩|⟨fo,f,g,o,h⟩
   ·
    have hZ:=g.z om
    refine It
     (Q:=λe I=>(∃z',zq f.seq P.1 e z z'/\I=λw F L=>de E w F rp d K (10*(i+1)) z' f L)\/
       (e=0/\z=false/\(cb f P).1=0/\kt P/\I=λw F L=>de E w F rp d K (10*(i+1)+1) false (cb f P).2 L)\/
       (e=17/\z=false/\(cb f P).1=0/\kt P/\I=λw F L=>gP E w F rp d (10*(i+1)+1) f (cb f P).2 L))
     eF h hp hP hL hM om (λw L k h j=>xr h j) (λw L k h j=>W1 h j) (λhb w L k h j=>?_) (λ_ w h=>t w (.inl ⟨K,z,f,g,o,y,A,C,Y,h⟩)) (λhb G e I w D zo r _ R pT rZ h=>?_)
    .obtain⟨b1,b2,b3,b4,b5⟩:=Fm hb
     have V:=hP.Dx b1
     rw[b3]
     refine Wx h om V b1 om hZ (g.ap om V) (λG s e z' w r lG U h=>(j G s e w _ r eF (.inl ⟨z',lG,rfl⟩) U h)) (λG s w r _ hz h0 U h=>(j G s 0 w _ r eF (.inr (.inl ⟨rfl,hz,h0,V,rfl⟩)) U h)) (λG s w r _ hz h0 U h=>(j G s 17 w _ r lN (.inr (.inr ⟨rfl,hz,h0,V,rfl⟩)) U h))
    .rcases R with⟨z',lG,rfl⟩|⟨rfl,hz,h0,V,rfl⟩|⟨rfl,hz,h0,V,rfl⟩
     .have J:m0 n P.1 e=true/\mZ n P.1 e=n:=by
           unfold m0 mZ
           rcases lG with⟨e1,e2,_⟩|⟨e1,e2,_⟩
           .rw[ai om,ai om]
            exact⟨eu om,rfl⟩
           .rw[ai (λh=>e2 h.1),ai (λh=>e2 h.1)]
            exact⟨eu (.inl e2),rfl⟩
      rw[J.1]
      rw[J.2]at pT
      refine j G w r ⟨rp,d,n,_,D,zo,X,mh,pT,rZ,om,.inl ⟨K,z',f,g.mono om,o,y,A,?_,?_,h.mono om⟩⟩
      .unfold lJ;split<;>omega
      .intro vo
       unfold lJ
       rcases lG with⟨e1,e2,e3⟩|⟨e1,e2,e3,e4⟩
       .rw[ai om]
        exact Y (e3▸vo)
       .by_cases zZ:e=17
        .rw[e3 zZ]at vo;cases vo
        .rw[ai (λh=>zZ h.1)]
         exact Y (e4 zZ▸vo)
     .obtain⟨a1,a2,a3,a4⟩:=g.apply V h0
      have GW:=Y hz
      have J:m0 n P.1 0=true/\mZ n P.1 0=n+1/\lJ n m P.1 0=m:=by
       unfold m0 mZ lJ
       rw[ak ⟨rfl,om⟩,ak ⟨rfl,om⟩,ai (λh=>by have:=h.1;omega)]
       exact⟨eu om,rfl,rfl⟩
      rw[J.1]
      rw[J.2.1]at pT
      rw[J.2.2]at rZ
      exact j G w r ⟨rp,d,n+1,m,D,zo,X,mh,pT,rZ,om,.inl ⟨K,false,_,a1,om,by rw[a4];exact y,A,C,λ_=>GW,h.mono om⟩⟩
     .obtain⟨a1,a2,a3,a4⟩:=g.apply V h0
      have GW:=Y hz
      have J:m0 n P.1 17=true/\mZ n P.1 17=n/\lJ n m P.1 17=1:=by
       unfold m0 mZ lJ
       rw[ai (λh=>by have:=h.1;omega),ai (λh=>by have:=h.1;omega),ak ⟨rfl,om,GW⟩]
       exact⟨eu (.inl dE),rfl,rfl⟩
      rw[J.1]
      rw[J.2.1]at pT
      rw[J.2.2]at rZ
      exact j G w r ⟨rp,d,n,1,D,zo,X,mh,pT,rZ,om,.inr (.inl ⟨f,_,g.mono om,a1,o,y,⟨.inl ⟨om,rfl⟩,.inr (by rw[a4];exact y)⟩,h.mono om⟩)⟩
   ·
    have hZ:=g.z om
    refine It
     (Q:=λe I=>((P.1<=f.seq/\e=0)\/(f.seq<P.1/\e=17))/\I=λw F L=>gP E w F rp d (10*(i+1)) f x L)
     lN h hp hP hL hM om (λw L k h j=>Ba h j) (λw L k h j=>W2 h j) (λhb w L k h j=>?_) (λ_ w h=>t w (.inr (.inl ⟨f,x,g,o,y,A,C,h⟩))) (λhb G e I w D zo r _ R pT rZ h=>?_)
    .obtain⟨b1,b2,b3,b4,b5⟩:=Fm hb
     have V:=hP.Dx b1
     rw[b3]
     exact Wy h V b1 om hZ λG s e w r he U h=>j G s e w _ r lN ⟨he,rfl⟩ U h
    .obtain⟨he,rfl⟩:=R
     have J:m0 n P.1 e=true/\mZ n P.1 e=n:=by
      unfold m0 mZ
      rcases he with⟨e1,e2⟩|⟨e1,e2⟩
      .rw[ai om,ai om]
       exact⟨eu om,rfl⟩
      .rw[ai om,ai om]
       exact⟨eu om,rfl⟩
     rw[J.1]
     rw[J.2]at pT
     exact j G w r ⟨rp,d,n,_,D,zo,X,mh,pT,rZ,om,.inr (.inl ⟨f,x,g.mono om,o.mono om,y,A,C.m,h.mono om⟩)⟩
   .exact D4 lh h (λ_ w L k h j=>D6 h j) λw h=>t w (.inr (.inr ⟨fo,f,g,o,h⟩))
  .rcases H with⟨K,z,f,g,o,y,A,C,Y,h⟩|⟨f,x,g,o,y,A,C,h⟩|⟨fo,f,g,o,h⟩
   .exact D4 (eF) h (λe=>absurd e hS) λw h=>t w (.inl ⟨K,z,f,g,o,y,A,C,Y,h⟩)
   .exact D4 lN h (λe=>absurd e hS) λw h=>t w (.inr (.inl ⟨f,x,g,o,y,A,C,h⟩))
   .exact D4 lh h (λe=>absurd e hS) λw h=>t w (.inr (.inr ⟨fo,f,g,o,h⟩))
 by_cases h1:W=1
 .subst h1
  rcases H with⟨K,z,f,g,o,y,A,C,Y,h⟩|⟨f,x,g,o,y,A,C,h⟩|⟨fo,f,g,o,h⟩
  .refine Iu
        (Q:=λe u I=>(e≠0/\e≠6/\I=λw F L=>de E w F rp d K (10*(i+1)) z f L)\/(e=0/\fz f.time f.aM oN=0/\I=λw F L=>de E w F rp d K (10*(i+1)+1) z (lQ oN f) L)\/
          (e=6/\u=true/\fz f.time f.aM oN=0/\I=λw F L=>gP E w F rp d (10*(i+1)+1) f (lQ oN f) L))
        eF h (λw L k h j=>?_) (λG e u I w r R h=>?_)
   .refine aiy h om (g.z om) (g.bn om) (λhw=>(g.IA hw).l om) (λG e w r e0 e6 h=>(j G 0 e true w _ r eF (.inl ⟨e0,e6,rfl⟩) (λw L k h j=>xr h j) h)) (λG n w r hw h=>(j G n 0 true w _ r eF (.inr (.inl ⟨rfl,hw,rfl⟩)) (λw L k h j=>xr h j) h)) (λG w r hw h=>(j G 0 6 true w _ r lN (.inr (.inr ⟨rfl,rfl,hw,rfl⟩)) (λw L k h j=>Ba h j) h))
   .rcases R with⟨e0,e6,rfl⟩|⟨rfl,hw,rfl⟩|⟨rfl,rfl,hw,rfl⟩
    .rw[ai e0,ai (λh=>e6 h.1)]at h
     exact j G w r ⟨rp,d,n,m,Ls,Ms,X,mh,hL.up r,hM.up r,om,.inl ⟨K,z,f,g.mono om,o,y,A,C,Y,h.mono om⟩⟩
    .rw[ak rfl,ai (λh=>by have:=h.1;omega)]at h
     exact j G w r ⟨rp,d,n,m,Ls,Ms,oN,mh,hL.up r,hM.up r,om,.inl ⟨K,z,_,(g.IA hw).mono om,o,rfl,A,C,Y,h.mono om⟩⟩
    .rw[ai dE,ak ⟨rfl,rfl⟩]at h
     refine j G w r ⟨rp,d,n,m,Ls,Ms,X,oN,hL.up r,hM.up r,om,.inr (.inl ⟨f,_,g.mono om,(g.IA hw).mono om,o,y,⟨.inr o,?_⟩,h.mono om⟩)⟩
     unfold fz at hw
     split at hw
     .cases hw
     .rename_i GR
      by_cases e:oN=X
      .exact .inr e
      .exact .inl ⟨rfl,Int.lt_iff_le_and_ne.2 ⟨y▸Int.not_lt.1 GR,λh=>e h.symm⟩⟩
  .refine Iu (Q:=λe u I=>e=17/\I=λw F L=>gP E w F rp d (10*(i+1)) f x L)
     lN h (λw L k h j=>aiA h λw h=>j F 0 17 true w _ (dC _) lN ⟨rfl,rfl⟩ (λw L k h j=>Ba h j) h) (λG e u I w r R h=>?_)
   obtain⟨rfl,rfl⟩:=R
   rw[ai dE,ai (λh=>by have:=h.1;omega)]at h
   exact j G w r ⟨rp,d,n,m,Ls,Ms,X,mh,hL.up r,hM.up r,om,.inr (.inl ⟨f,x,g.mono om,o.mono om,y,A,C,h.mono om⟩)⟩
  .refine Iu (Q:=λe u I=>e=6/\u=false/\I=λw F L=>iD E w F rp d fo (10*(i+1)) (1000*i) f L)
     lh h (λw L k h j=>aiz h λw h=>j F 0 6 false w _ (dC _) lh ⟨rfl,rfl,rfl⟩ (λw L k h j=>D6 h j) h) (λG e u I w r R h=>?_)
   obtain⟨rfl,rfl,rfl⟩:=R
   rw[ai dE,ai (λh=>by cases h.2)]at h
   exact j G w r ⟨rp,d,n,m,Ls,Ms,X,mh,hL.up r,hM.up r,om,.inr (.inr ⟨fo,f,g.mono om,o,h.mono om om⟩)⟩
 by_cases h2:W=2
 .subst h2
  rcases H with⟨K,z,f,g,o,y,A,C,Y,h⟩|⟨f,x,g,o,y,A,C,h⟩|⟨fo,f,g,o,h⟩
  .refine Iv
     (Q:=λI=>(I=λw F L=>de E w F rp d K (10*(i+1)+1) z f L)\/I=λw F L=>gP E w F rp d (10*(i+1)+1) f f L)
     eF h (λw L k h j=>abF h om (g.l om) (λG e w r h=>j G e w _ r eF (.inl rfl) h) (λG e w r h=>j G e w _ r lN (.inr rfl) h)) (λG I w r R h=>?_)
   rcases R with rfl|rfl
   .exact j G w r ⟨rp,d,n,m,Ls,Ms,X,mh,hL.up r,hM.up r,om,.inl ⟨K,z,f,g.mono om,o,y,A,C,Y,h.mono om⟩⟩
   .exact j G w r ⟨rp,d,n,m,Ls,Ms,X,mh,hL.up r,hM.up r,om,.inr (.inl ⟨f,f,g.mono om,g.mono om,o,y,uC o y,h.mono om⟩)⟩
  .refine Iv (Q:=λI=>I=λw F L=>gP E w F rp d (10*(i+1)) f x L)
     lN h (λw L k h j=>abH h λw h=>j F 17 w _ (dC _) lN rfl h) (λG I w r R h=>?_)
   subst R
   exact j G w r ⟨rp,d,n,m,Ls,Ms,X,mh,hL.up r,hM.up r,om,.inr (.inl ⟨f,x,g.mono om,o.mono om,y,A,C,h.mono om⟩)⟩
  .refine Iv (Q:=λI=>I=λw F L=>iD E w F rp d fo (10*(i+1)) (1000*i) f L)
     lh h (λw L k h j=>abG h λw h=>j F 6 w _ (dC _) lh rfl h) (λG I w r R h=>?_)
   subst R
   exact j G w r ⟨rp,d,n,m,Ls,Ms,X,mh,hL.up r,hM.up r,om,.inr (.inr ⟨fo,f,g.mono om,o,h.mono om om⟩)⟩
 by_cases h4:W=4
 .subst h4
  rcases H with⟨K,z,f,g,o,y,A,C,Y,h⟩|⟨f,x,g,o,y,A,C,h⟩|⟨fo,f,g,o,h⟩
  .exact Iw eF eF h (λw L k h j=>Xw h j) λw h=>t w (.inl ⟨true,z,f,g,o,y,A,C,Y,h⟩)
  .exact Iw lN lN h (λw L k h j=>Xy h j) λw h=>t w (.inr (.inl ⟨f,x,g,o,y,A,C,h⟩))
  .exact Iw lh lh h (λw L k h j=>Xx h j) λw h=>t w (.inr (.inr ⟨false,f,g,o,h⟩))
 have wQ:W=3\/W=5\/W=6:=by
  by_cases a:W=3
  .exact .inl a
  by_cases c:W=5
  .exact .inr (.inl c)
  by_cases e:W=6
  .exact .inr (.inr e)
  exact absurd ⟨h0,h1,h2,a,h4,c,e⟩ hX
 have Ag:∀(t3:Nat) (x:b9) (G:bh) (K:Bool) (D:Sl) (n':Nat) (w':World) (v:List Value),F.le G->fX i x->n'<=i+1->gO G D n'->(n':Int)=x.seq->de E w' G rp d K (10*(i+1)+3) false x (bk b rp D au x.aM 0::lc t3 81 v::L)->k true w':=λt3 x G K D n' w' v r g tx h1 h2 h=>by
  refine j G w' r ⟨rp,d,n',0,D,au,x.aM,0,h1,BE,tx,.inl ⟨K,false,x,g.mono om,h2.symm,rfl,rfl,om,λ_=>rfl,?_⟩⟩
  have h:=zg (eF) h
  exact de.mono h om
 have Z:∀(t3:Nat) (x:b9) (fo:Bool) (N:Nat) (w':World) (v:List Value),fX i x->TW n m X mh x->N<=1000*(i+1)->iD E w' F rp d fo (10*(i+1)+3) N x (bk b rp Ls Ms X mh::lc t3 81 v::L)->k true w':=λt3 x fo N w' v g o hN h=>by
  refine j F w' (dC _) ⟨rp,d,n,m,Ls,Ms,X,mh,hL,hM,om,.inr (.inr ⟨fo,x,g.mono om,o,?_⟩)⟩
  have h:=zg lh h
  exact iD.mono h om om
 have GH:∀x:b9,TW n m X mh x->∀n':Nat,(n':Int)=x.seq->n'<=i+1:=λx ht n' GY=>by
  rcases ht.1 with h1|h1<;>omega
 rcases H with⟨K,z,f,g,o,y,A,C,Y,h⟩|⟨f,x,g,o,y,A,C,h⟩|⟨fo,f,g,o,h⟩
 .obtain⟨M,h,iH⟩:=xH (eF) h
  refine xp h wQ λt3 w h=>?_
  have h:=iH w _ h
  refine again (Q:=λx=>x=f) (fo:=false) (T:=10*(i+1)) (N:=1000*i) (rp:=rp) (d:=d) wQ CY CX hL hM om
   (λx e=>by subst e;exact⟨uC o y,g.z om⟩) om om eF (λw L k h j=>xr h j)
   (by by_cases h5:W=5
       .exact .inr (.inr ⟨h5,h⟩)
       .exact .inl ⟨h5,h.s9 rfl⟩)
   (λx w h6 e h=>by rw[e]at h;exact Z t3 _ true 0 w _ g (uC o y) om (h.mono om om))
   (λh5 w h=>t w (.inl ⟨K,z,f,g,o,y,A,C,Y,zg (eF) h⟩))
   (λx w h5 e h=>by rw[e]at h;exact Z t3 _ false _ w _ g (uC o y) om h)
   (λx G zW D n' w r e _ h1 h2 h=>by rw[e]at h h2;exact Ag t3 _ G zW D n' w _ r g (GH _ (uC o y) n' h2) h1 h2 h)
 .obtain⟨M,h,iH⟩:=xH lN h
  refine xp h wQ λt3 w h=>?_
  have h:=iH w _ h
  have R:∀O,(O=f\/O=x)->fX i O/\TW n m X mh O:=λO e=>by
   rcases e with rfl|rfl
   .exact⟨g,uC y A⟩
   .exact⟨o,C⟩
  refine again (S:=λw F L=>gP E w F rp d (10*(i+1)) f x L) (Q:=λO=>O=f\/O=x) (fo:=false) (T:=10*(i+1)) (N:=1000*i) (rp:=rp) (d:=d) wQ CY CX hL hM om
   (λO e=>⟨(R O e).2,(R O e).1.z om⟩) om om lN (λw L k h j=>Ba h j)
   (by by_cases h5:W=5
       .exact .inr (.inr ⟨h5,h⟩)
       .exact .inl ⟨h5,h.s9 (.inl rfl) (.inr rfl)⟩)
   (λO w h6 e h=>Z t3 _ true 0 w _ (R O e).1 (R O e).2 om (h.mono om om))
   (λh5 w h=>t w (.inr (.inl ⟨f,x,g,o,y,A,C,zg lN h⟩)))
   (λO w h5 e h=>Z t3 _ false _ w _ (R O e).1 (R O e).2 om h)
   (λO G zW D n' w r e _ h1 h2 h=>Ag t3 _ G zW D n' w _ r (R O e).1 (GH _ (R O e).2 n' h2) h1 h2 h)
 .obtain⟨M,h,iH⟩:=xH lh h
  refine xp h wQ λt3 w h=>?_
  have h:=iH w _ h
  have hF:Open E λ_ _ _=>False:=λw F L h=>absurd h id
  refine again (S:=λ_ _ _=>False) (Q:=λO=>O=f) (fo:=fo) (T:=10*(i+1)) (N:=1000*i) (rp:=rp) (d:=d) wQ CY CX hL hM om
   (λO e=>by subst e;exact⟨o,g.z om⟩) om om hF (λw L k h j=>absurd h id)
   (by by_cases h5:W=5
       .exact .inr (.inl ⟨h5,f,rfl,h⟩)
       .exact .inl ⟨h5,h.s9 rfl⟩)
   (λO w h6 e h=>by rw[e]at h;exact Z t3 _ true 0 w _ g o om (h.mono om om))
   (λh5 w h=>absurd h id)
   (λO w h5 e h=>by rw[e]at h;exact Z t3 _ false _ w _ g o om h)
   (λO G zW D n' w r e _ h1 h2 h=>by rw[e]at h h2;exact Ag t3 _ G zW D n' w _ r g (GH _ o n' h2) h1 h2 h)
theorem aif (V:we E w F b i L) (y:FL F [.bool] oK (o4 dh)) (A:dh.length<=9223372036854775807) (hi:i<=21)
  (O:∀G rp d n j W X C,F.le G->fX i j->gO G W n->(n:Int)=j.seq->de E C G rp d false (10*(i+1)+3) false j (bk b rp W au X 0::L)->k true C):
  CL 21 #[.pointer (some ⟨b,0,none⟩),ag Y0 (iV 3 sq tm cs oS oN oK q0 q1 fN q2 q3 q4 q5 q6 q7 q8 q9)] aw k w:=by
 obtain⟨rp,d,n,m,W,Ms,X,mh,Y,Z,hn,D⟩:=V
 have g:(3:Int)=3\/(3:Int)=5\/(3:Int)=6:=.inl rfl
 have H:∀(x:Nat) (c:b9) (G:bh) (P:Bool) (a:Sl) (r:Nat) (C:World) (v:List Value),F.le G->fX i c->P=false->gO G a r->(r:Int)=c.seq->de E C G rp d P (10*(i+1)+3) false c (bk b rp a au c.aM 0::lc x 81 v::L)->k true C:=λx c G P a r C v I t J K u h=>by
  subst J
  exact O G rp d r c a _ C I t K u (zg (eF (z:=false)) h)
 rcases D with⟨P,z,j,t,R,g3,g4,g5,g6,h⟩|⟨j,c,t,R,g3,g4,g5,h⟩|⟨fo,j,t,R,h⟩
 .obtain⟨M,h,l⟩:=xH (eF (z:=z)) h
  refine xp h g λx w h=>?_
  have h:=l w _ h
  exact again (S:=λw F L=>de E w F rp d P (10*(i+1)) z j L) (Q:=λc=>c=j) (fo:=false) (T:=10*(i+1)) (N:=1000*i) (rp:=rp) (d:=d) g y A Y Z om
   (λc e=>by subst e;exact⟨uC R g3,t.z om⟩) om om eF (λw L k h O=>xr h O)
   (.inl ⟨by decide,h.s9 rfl⟩) (λc w U e h=>by cases U) (λo w h=>by cases o) (λc w o e h=>by cases o)
   (λc G p a r w I e J K u h=>by rw[e]at h u;exact H x _ G p a r w _ I t (J rfl) K u h)
 .obtain⟨M,h,l⟩:=xH lN h
  refine xp h g λx w h=>?_
  have h:=l w _ h
  have hQ:∀f,(f=j\/f=c)->fX i f/\TW n m X mh f:=λf e=>by
   rcases e with rfl|rfl
   .exact⟨t,uC g3 g4⟩
   .exact⟨R,g5⟩
  exact again (S:=λw F L=>gP E w F rp d (10*(i+1)) j c L) (Q:=λf=>f=j\/f=c) (fo:=false) (T:=10*(i+1)) (N:=1000*i) (rp:=rp) (d:=d) g y A Y Z om
   (λf e=>⟨(hQ f e).2,(hQ f e).1.z om⟩) om om lN (λw L k h O=>Ba h O)
   (.inl ⟨by decide,h.s9 (.inl rfl) (.inr rfl)⟩) (λc w U e h=>by cases U) (λo w h=>by cases o) (λc w o e h=>by cases o)
   (λf G p a r w I e J K u h=>H x _ G p a r w _ I (hQ f e).1 (J rfl) K u h)
 .obtain⟨M,h,l⟩:=xH lh h
  refine xp h g λx w h=>?_
  have h:=l w _ h
  have hF:Open E λ_ _ _=>False:=λw F L h=>absurd h id
  exact again (S:=λ_ _ _=>False) (Q:=λf=>f=j) (fo:=fo) (T:=10*(i+1)) (N:=1000*i) (rp:=rp) (d:=d) g y A Y Z om
   (λf e=>by subst e;exact⟨R,t.z om⟩) om om hF (λw L k h O=>absurd h id)
   (.inl ⟨by decide,h.s9 rfl⟩) (λc w U e h=>by cases U) (λo w h=>by cases o) (λc w o e h=>by cases o)
   (λf G p a r w I e J K u h=>by rw[e]at h u;exact H x _ G p a r w _ I t (J rfl) K u h)
theorem KT {k:Option Addr->Pr} (h:ab E w (ae F::L)) (i:∀G b a d g,F.le G->de E g G a d false 3 false eQ (bk b a au au 0 0::L)->k (some ⟨b,0,none⟩) g):CL 20 #[iv 300,iv 120] aI k w:=by
 refine adM ?_
 refine Vy h λG a d u j v p q l id s Y m c w n e f o h=>?_
 refine aL ?_
 refine ar rfl ?_
 refine dw (x:=false) kK ?_
 refine ao λ_=>?_
 refine ar rfl ?_
 refine bx h λb w h=>?_
 exact i G b a d w n ⟨u,j,v,p,q,l,id,s,0,0,0,Y,m,c,f,e,o,h.sub sS⟩
abbrev BM:=Pk×List Bool
def AH (F:bh) (p:bK Y0) (o:BM):Prop:=zr F p o.1 o.2
theorem agS:uM AH:=λF G p o a h=>h.up a
variable {ops:List BM}
theorem c5 {k:Option Addr->Pr} (h:ab E w (ae F::L)) (hs:NL F Y0 AH s ops)
  (V:∀G i b f d n j l p R,F.le G->i<=20->fX i j->gO G l n->(n:Int)=j.seq->de E R G f d false 300 false j (bk b f l au p 0::L)->k (some ⟨b,0,none⟩) R):
  CL 5 #[iv 300,sv s] aI k w:=by
 have C:=hs.len
 refine rd5 ?_
 refine KT h λG b f d w D h=>?_
 refine dw (x:=false) kK ?_
 refine ar rfl ?_
 simp only[C]
 refine gD (S:=Int) (min ops.length 20) (λi q w=>q=(i:Int)/\∃G,F.le G/\we E w G b i L) ⟨rfl,G,D,f,d,0,0,au,au,0,0,BE,BE,cV _,.inl ⟨false,false,eQ,Fj,rfl,rfl,rfl,om,λ_=>rfl,h.mono om⟩⟩ ?_
 rintro next q w i hi ⟨rfl,G,D,e⟩ u
 refine ao λ_=>?_
 refine br (λ(c:Bool) w=>c=decide (i<min ops.length 20)/\we E w G b i L) (λc w o=>?_) λJ T=>?_
 rotate_left
 .refine ax (λo=>?_) (λo=>?_)
  .have W:(i:Int)<(ops.length:Int):=cT o
   refine T _ _ ⟨?_,e⟩
   rw[gb,bX,bX]
   omega
  .have W:¬(i:Int)<(ops.length:Int):=cF o
   refine T _ _ ⟨?_,e⟩
   symm
   rw[ml]
   omega
 obtain⟨rfl,e⟩:=o
 refine ao λ_=>?_
 refine ax (λo=>?_) (λo=>?_)
 .have dy:i<min ops.length 20:=cT o
  have K:i<ops.length:=om
  obtain⟨f,d,n,m,l,X,p,Y,N,Z,O,g⟩:=e
  have v:∃A,ab E w (ae G::A)/\we E w G b i L:=by
   have e:we E w G b i L:=⟨f,d,n,m,l,X,p,Y,N,Z,O,g⟩
   rcases g with⟨fu,z,j,I,U,g3,g4,g5,g6,h⟩|⟨j,B1,I,U,g3,g4,g5,h⟩|⟨fo,j,I,U,h⟩
   .obtain⟨A,h,_⟩:=(eF (z:=z)) _ _ _ h
    exact⟨_,h,e⟩
   .obtain⟨A,h,_⟩:=lN _ _ _ h
    exact⟨_,h,e⟩
   .obtain⟨A,h,_⟩:=lh _ _ _ h
    exact⟨_,h,e⟩
  obtain⟨A,h,e⟩:=v
  refine fx (hs.up agS D) K λa r ha hr=>?_
  refine fJ h ?_
  refine aie e hr om λH w y e=>?_
  refine ar rfl ?_
  exact u dy _ _ ⟨bV (n:=20) om om,H,D.trans y,e⟩
 .have P:i<=20:=om
  refine aif (dh:=[]) e .nil sI om λH f d n j l p w y I N O h=>?_
  refine aL ?_
  refine ar rfl ?_
  obtain⟨A,h,Q⟩:=eF _ _ _ h
  have h:ab E w (ae H::bk b f l au p 0::(L++A)):=h
  refine aq ?_
  refine ld (t:=33) (x:=some ⟨f,0,none⟩) (b:=b) (off:=0) h ?_
  refine xr (Q H w (bk b f l au p 0::L) (dC _) h) λw h=>?_
  refine ao λ_=>?_
  refine ar rfl ?_
  exact V H i b f d n j l p w (D.trans y) P I N O (h.mono om)
theorem c7 {z:Bool} {k:Sl×Int×Unit->Pr} (h:de E w F rp d fu T z B0 L) (y:dN B0.aJ)
  (i:∀(f:Nat) (N:List aK) (w:World) (K:Sl×Int×Unit->Pr),ab E w (ae F::az F f B0::N)->(∀G r g,F.le G->R G r->ab E g (ae G::az G f B0::N)->K r g)->CL 17 #[.pointer (some ⟨f,0,none⟩),ag bR q] (.aG [.leaf .slice,.leaf (.int .i64)]) K w)
  (C:∀G r g,F.le G->R G r->de E g G rp d fu T z B0 L->k r g):
  CL 7 #[.pointer (some ⟨rp,0,none⟩),ag bR q] (.aG [.leaf .slice,.leaf (.int .i64)]) k w:=by
 obtain⟨u,D,v,p,n,b,id,s,a,c,e,X,H,I,j,l,J,h⟩:=h
 refine rd7 ?_
 refine bx h λo w h=>?_
 refine uR (h.pick (A:=bE rp (some ⟨u,0,none⟩) d 120) pK) λw h=>?_
 refine ar rfl ?_
 refine dr h λw h=>?_
 refine aq ?_
 refine ld (t:=85) (x:=some ⟨u,0,none⟩) (b:=rp) (off:=0) h ?_
 refine aq ?_
 refine ld (t:=90) (x:=some ⟨v,0,none⟩) (b:=u) (off:=1) h ?_
 refine bN (t:=43) (ls:=bR) (x:=q) (b:=o) h ?_
 refine Cg (h.lj (A1:=ae F) (A2:=bf v p n b id s false) (A3:=az F b B0) pK pK pK) y λf w h=>?_
 refine lk (t:=85) (b:=rp) (off:=0) h ?_
 refine j8 (t:=43) (b:=o) (off:=0) (vs:=ay bR q) h ?_ (hc:=by rw[mi,cB]) (hn:=by rw[du];kernel_rfl)
 refine i f _ w _ (h.bF (A1:=ae F) (A2:=az F f B0) pK pK) λG r w m O h=>?_
 refine lk (t:=85) (b:=rp) (off:=0) h ?_
 have h:=jG (h.pick (A:=az F b B0) pK) m
 exact C G (r.1,r.2.1,()) w m O ⟨u,D,v,p,n,b,id,s,a,c,e,X,H,I,j,l,J.up m,h.sub sS⟩
theorem E7 {z:Bool} {k:Sl×Int×Unit->Pr} (h:de E w F rp d fu T z B0 L) (p:fX i B0) (hi:i<=21)
  (g:kG B0 nm t≠0->∀G f,F.le G->de E f G rp d fu T z B0 L->k (au,kG B0 nm t,()) f)
  (l:kG B0 nm t=0->∀G o f,F.le G->mU G o (iX B0 nm t)->de E f G rp d fu T z B0 L->k (o,0,()) f):
  CL 7 #[.pointer (some ⟨rp,0,none⟩),ag bR (qT nm t)] (.aG [.leaf .slice,.leaf (.int .i64)]) k w:=by
 obtain⟨j,A,b,c⟩:=p
 have b:j<=21:=om
 refine c7 (R:=λG r=>(kG B0 nm t≠0/\r=(au,kG B0 nm t,()))\/(kG B0 nm t=0/\∃o,mU G o (iX B0 nm t)/\r=(o,0,()))) h (c.z b) (λC N w K h n=>?_) (λG r w e u h=>?_)
 .obtain⟨v,x⟩:=c.iX b nm t
  exact Uc h (c.z b) (c.bn b) c.Mc (λy=>by have:=(c.ie b nm y t).1;omega) v x (λa G w e h=>n G _ w e (.inl ⟨a,rfl⟩) h) (λa G o w e m h=>n G _ w e (.inr ⟨a,o,m,rfl⟩) h)
 .rcases u with⟨a,rfl⟩|⟨a,o,m,rfl⟩
  .exact g a G w e h
  .exact l a G o w e m h
theorem SH {z:Bool} {k:Sl×Int×Unit->Pr} (h:de E w F rp d fu T z B0 L) (p:fX i B0) (hi:i<=21) (hs:FL F aP ks r) (hr:dk r)
  (g:l4 B0 nm r≠0->∀G e,F.le G->de E e G rp d fu T z B0 L->k (au,l4 B0 nm r,()) e)
  (l:l4 B0 nm r=0->∀G o e,F.le G->mU G o (jT B0 nm (B (keyOf r)))->de E e G rp d fu T z B0 L->k (o,0,()) e):
  CL 7 #[.pointer (some ⟨rp,0,none⟩),ag bR (qA nm ks 0 0)] (.aG [.leaf .slice,.leaf (.int .i64)]) k w:=by
 obtain⟨j,D,f,b⟩:=p
 have f:j<=21:=om
 have t:=b.tm
 refine c7 (R:=λG x=>(l4 B0 nm r≠0/\x=(au,l4 B0 nm r,()))\/(l4 B0 nm r=0/\∃o,mU G o (jT B0 nm (B (keyOf r)))/\x=(o,0,()))) h (b.z f) (λH N w K h n=>?_) (λG x w c u h=>?_)
 .obtain⟨v,y⟩:=b.jT f nm (B (keyOf r))
  obtain⟨I,A⟩:=b.jM f nm (B (keyOf r))
  exact Ub h (b.z f) b.Mc om hs hr om (λq C=>by have:=(A q C).1;omega) v y (λa G w c h=>n G _ w c (.inl ⟨a,rfl⟩) h) (λa G o w c m h=>n G _ w c (.inr ⟨a,o,m,rfl⟩) h)
 .rcases u with⟨a,rfl⟩|⟨a,o,m,rfl⟩
  .exact g a G w c h
  .exact l a G o w c m h
theorem U8 {s:Sp} (h:ab E w L) (c:∀d,ab E d L->k (cA s) d):CL 29 #[ag aC s] aw k w:=by
 obtain⟨a,b,⟨⟩⟩:=s
 refine afh ?_
 refine bx h λe w h=>?_
 refine ld (t:=3) (x:=a) (b:=e) (off:=0) h ?_
 unfold cA at c
 simp only at c
 repeat' (first|refine gA ?_|(refine gB ?_;clear h;intro w h)|(refine gC ?_;clear h;intro b0 w h)|refine aL ?_|refine ax (λf=>?_) (λf=>?_))
 all_goals refine fin (c _ h.drop) ?_
 all_goals clear c
 all_goals grind
theorem c9 {s:Sp} (h:ab E w L) (c:∀d,ab E d L->k (ey s t) d):CL 9 #[ag aC s,iv t] aw k w:=by
 obtain⟨a,b,⟨⟩⟩:=s
 refine rd9 ?_
 refine bx h λe w h=>?_
 refine bN (t:=39) (ls:=aC) (x:=(a,b,())) (b:=e) h ?_
 refine U8 (s:=(a,b,())) h λw h=>?_
 unfold ey at c
 generalize cA (a,b,())=x at*
 simp only at c
 repeat' (first|refine gA ?_|(refine gB ?_;clear h;intro w h)|(refine gC ?_;clear h;intro b0 w h)|refine aL ?_|refine ax (λf=>?_) (λf=>?_))
 all_goals refine fin (c _ h.drop) ?_
 all_goals clear c
 all_goals grind
theorem Vb {t:Sl} (h:ab E w (ae F::L)) (hs:FL F aP s r) (e:FL F aP t r) (m:r.length<=1000000) (j:∀f,ab E f (ae F::L)->k true f):CL 30 #[sv s,sv t] aw k w:=by
 refine afs ?_
 have g:=hs.2
 have l:=e.2
 refine ar (by rw[g,l];simp) ?_
 refine cy (S:=Int) (cf:=λs=>s) r.length (by rw[g]) (λi _ w=>ab E w (ae F::L)) rfl h ?_ ?_
 .rintro next _ w i c rfl h b
  refine dr h λw h=>?_
  refine ix hs c λa ha=>?_
  refine fJ (ls:=aP) h ?_ (ha:=ha)
  refine ix e c λn d=>?_
  refine fJ (ls:=aP) h ?_ (ha:=d)
  refine eP (ls:=aP) ?_
  refine ar (by rw[MI];rfl) ?_
  exact b _ _ (bV c om) h
 .exact λ_ w h=>j w h
theorem Tf {t:Sl} (h:ab E w (ae F::L)) (hs:eV F s ps) (l:eV F t ps) (W:ps.length<=100000000) (hr:∀p∈ps,p.2.2.length<=1000000) (K:∀u,ab E u (ae F::L)->k true u):CL 10 #[sv s,sv t] aw k w:=by
 refine acg ?_
 have v:=hs.len
 have N:=l.len
 refine ar (by rw[v,N];simp) ?_
 refine cy (S:=Int) (cf:=λs=>s) ps.length (by rw[v]) (λi _ w=>ab E w (ae F::L)) rfl h ?_ ?_
 .rintro next _ w i c rfl h b
  refine dr h λw h=>?_
  refine fx (T:=52) hs c λa r ha m=>?_
  obtain⟨y,z,X,⟨⟩⟩:=r
  refine tn (t:=39) (ls:=aC) (j:=0) (x:=(y,z,())) h ?_ (ha:=ha)
  refine fx (T:=52) l c λY O d e=>?_
  obtain⟨A,C,Z,⟨⟩⟩:=O
  refine tn (t:=39) (ls:=aC) (j:=0) (x:=(A,C,())) h ?_ (ha:=d)
  obtain⟨D,H,P⟩:=m
  obtain⟨I,J,Q⟩:=e
  simp only at D H P I J Q
  refine eP (ls:=aC) ?_
  refine ar (by rw[D,H,I,J];simp[ik,o6]) ?_
  refine fx (T:=52) hs c λa3 R n f=>?_
  obtain⟨ua,ub,U,⟨⟩⟩:=R
  refine nV (t:=28) (j:=2) (x:=U) h ?_ (ha:=n)
  refine fx (T:=52) l c λa4 V o g=>?_
  obtain⟨va,vb,vs,⟨⟩⟩:=V
  refine nV (t:=28) (j:=2) (x:=vs) h ?_ (ha:=o)
  refine Vb h f.2.2 g.2.2 (hr _ (cp c)) λw h=>?_
  refine tj (t:=39) (j:=0) (vs:=ay aC (y,z,())) h ?_ (ha:=ha)
  refine tj (t:=39) (j:=0) (vs:=ay aC (A,C,())) h ?_ (ha:=d)
  refine ar rfl ?_
  exact b _ _ (bV c om) h
 .exact λ_ w h=>K w h
theorem Kg {k:Sl->Pr} (h:ab E w (ae F::L)) (hs:eV F s ps) (R:ps.length<=100000000) (I:∀G z A,F.le G->eV G z ps->ab E A (ae G::L)->k z A):CL 11 #[sv s] aE k w:=by
 refine aco ?_
 have J:=hs.len
 obtain⟨c,n,d⟩:=hs
 have K:=d.len
 refine gD (S:=Sl×Int) ps.length (λi q w=>q.2=(i:Int)/\ab E w (OS 52 av q.1 (c.take i)::ae F::L)) ⟨rfl,fm h⟩ ?_
 rintro next ⟨o,q⟩ w i U ⟨C,h⟩ e
 simp only at C h
 subst C
 refine ao λ_=>?_
 simp only[J]
 refine ax (λu=>?_) (λu=>?_)
 .have dU:i<ps.length:=by have:=cT u;omega
  have f:i<c.length:=om
  refine dr h λw h=>?_
  refine ix (T:=45) (ls:=av) n f λa ha=>?_
  have N:∀w,ab E w (OS 52 av o (c.take i++[c[i]])::ae F::L)->next (o,w6 ((i:Int)+1)) w->next (o,w6 ((i:Int)+1)) w:=λ_ _ h=>h
  generalize D:c[i]=r at*
  obtain⟨g,l,m,⟨⟩⟩:=r
  refine tn (t:=39) (ls:=aC) (j:=0) (x:=(g,l,())) h ?_ (ha:=ha)
  refine ix (T:=45) (ls:=av) n f λV b=>?_
  rw[D]at b
  refine nV (t:=28) (j:=2) (x:=m) h ?_ (ha:=b)
  refine bJ (T:=52) (ls:=av) (y:=(g,l,m,())) h λO w _ h=>?_
  refine tj (t:=39) (j:=0) (vs:=ay aC (g,l,())) h ?_ (ha:=ha)
  refine CE (t:=28) (j:=2) (v:=sv m) h ?_ (ha:=b)
  refine eA (T:=52) (ls:=av) (xs:=c.take i) (y:=(g,l,m,())) (h.bF (A1:=OS 52 av O [(g,l,m,())]) (A2:=OS 52 av o (c.take i)) pK pK) (by rw[cn];omega) (λW w h=>?_)
  refine tj (t:=39) (j:=0) (vs:=ay aC (g,l,())) h ?_ (ha:=ha)
  refine CE (t:=28) (j:=2) (v:=sv m) h ?_ (ha:=b)
  refine e dU _ _ ⟨bV dU om,?_⟩
  rw[cR f,D]
  exact h.sub sS
 .have dU:i=ps.length:=by have:=cF u;omega
  rw[dU,<-K,cB]at h
  obtain⟨G,H,h,P⟩:=dT (T:=52) (ls:=av) (s:=o) (F:=F) h
  exact I G o w H ⟨c,P,d.imp λr p Q=>eK _ _ _ _ H Q⟩ h
abbrev wV (n:Int):Row:=[(2,n,0,eB,())]
theorem aak {n:Int} (h:0<=n/\n<=1000):dk (wV n):=⟨sI,λv a=>by
 rw[fE]at a;subst a
 exact⟨⟨by simp only;omega,by simp only;omega⟩,⟨by simp only;omega,by simp only;omega⟩,⟨by simp only;omega,by simp only;omega⟩⟩⟩
theorem abI (h:ab E w (OS 28 aP s0 r::L)) (o:r.length<=1000) (p:wd<=1000)
   (m:∀s l,ab E l (OS 28 aP s (xc wd r)::L)->ex s l):
   aV (S:=Sl) (λa b=>ba λ_=>
 af (decide ((b.len:Int)<(wd:Int))) (
 BS 28 1 #[(0,.agg #[iv 0,iv 0,.int .u64 0,.string (⟨#[]⟩)])] λd=>
 AP 28 28 28 b d λf=>a f) (ex b)) s0 w:=by
  refine gD (S:=Sl) (wd-r.length) (λi s w=>ab E w (OS 28 aP s (r++List.replicate i zV)::L)) (by simpa using h) ?_
  intro next s w i t h c
  have g:=fR h dE
  rw[aU,rE]at g
  refine ao λ_=>?_
  refine ax (λj=>?_) (λj=>?_)
  .have dy:i<wd-r.length:=by have:=cT j;omega
   refine bJ (T:=28) (ls:=aP) (y:=zV) h λn w _ h=>?_
   refine eA (T:=28) (ls:=aP) (xs:=r++List.replicate i zV) (y:=zV) (h.bF (A1:=OS 28 aP n [zV]) (A2:=OS 28 aP s (r++List.replicate i zV)) pK pK) (by rw[aU,rE];omega) (λu w h=>?_)
   refine c dy _ _ ?_
   have e:r++List.replicate (i+1) zV=(r++List.replicate i zV)++[zV]:=by rw[RZ,cP]
   rw[e]
   exact h.sub sS
  .have k:i=wd-r.length:=by have:=cF j;omega
   subst k
   exact m s w h
theorem Rf {m:Nat}:∀(b:List Rw) (a:Nat),(∀x∈b,x.2.2.2.2.2.length<=m)->a<=m->b.foldl (λm x=>max m x.2.2.2.2.2.length) a<=m
 |[],a,_,c=>c
 |x::b,a,h,c=>by
  rw[kV]
  have:=h x eo
  exact Rf b _ (λy d=>h y (dH _ d)) om
theorem Qw:(A:List aK)->Sub A []
 |[]=>.done
 |_::A=>.skip (Qw A)
theorem A0 (A:List aK):(L:List aK)->Sub (L++A) L
 |[]=>Qw A
 |C::L=>.take .head (A0 A L)
theorem Ra (S:di) (r:Row):(gy S r).length<=16:=by
 unfold gy jq
 split
 .rename_i a
  split
  .rename_i b
   split
   .simp only
    unfold iN
    rw[aU,rE]
    have:=(mb a).2.2.2
    omega
   .simp
  .simp
 .simp
theorem agX:∀x∈iX B0 nm t,x.2.2.2.2.2.length<=16:=by
 intro x a
 unfold iX at a
 cases b:B0.aJ nm with
 |none=>rw[b]at a;cases a
 |some T=>
  rw[b]at a
  obtain⟨k,_,a⟩:=List.mem_flatMap.1 a
  obtain⟨p,c,rfl⟩:=List.mem_map.1 a
  unfold ie at c
  obtain⟨q,_,rfl⟩:=List.mem_map.1 c
  exact Ra _ _
theorem agY:∀x∈jT B0 nm kx,x.2.2.2.2.2.length<=16:=by
 intro x b
 unfold jT mI at b
 obtain⟨s,a,b⟩:=List.mem_flatMap.1 b
 obtain⟨p,d,rfl⟩:=List.mem_map.1 b
 simp only
 unfold jM at a
 split at a
 .unfold uP at a
  cases f:B0.aJ nm with
  |none=>rw[f]at a;cases a
  |some T=>
   rw[f]at a
   simp only at a
   unfold oR at a
   split at a
   .obtain⟨u,e⟩:=B7 _ _ _ (λq g=>by cases g) s a
    rw[e]at d
    obtain⟨m,c,i⟩:=L8 d
    obtain⟨v,j,k⟩:=B3 c
    obtain⟨n,l,rfl⟩:=List.mem_map.1 j
    rw[i,<-k]
    exact Ra _ _
   .cases a
 .cases a
theorem abJ (h:dk r) (a:wd<=1000):dk (xc wd r):=by
 unfold xc
 refine⟨?_,λv hv=>?_⟩
 .have:=h.len
  rw[aU,rE]
  by_cases b:wd<=r.length
  .omega
  .omega
 .rcases List.mem_append.1 hv with hv|hv
  .exact h.wv v hv
  .rw[(List.mem_replicate.1 hv).2];exact Rk
theorem ah4 (h:ab E w (ae F::L)) (h1:mU F o1 xs) (h2:mU F o2 ys) (l1:xs.length<=100000000) (l2:ys.length<=100000000)
   (w1:∀x∈xs,x.2.2.2.2.2.length<=16) (w2:∀x∈ys,x.2.2.2.2.2.length<=16) (r2:∀x∈ys,dk x.2.2.2.2.2) (he:j0 xs t=fw (kT ys kx (kh xs)))
   (h8:∀(w:World) (L:List aK) (k:Bool->Pr),ab E w L->(∀w',ab E w' L->k true w')->CL 8 #[] aw k w)
   (hk:∀G w',F.le G->ab E w' (ae G::L)->k true w'):
   (aV (S:=Int×Sl×Int) (λnext s=>ba λ_=>
 af (decide ((s.2.2:Int)<o1.len)) (
 bZ (S:=Int×Sl) (λmc=>ba λ_=>next (mc.1,mc.2,w6 (s.2.2+1))) λuH=>
 IX 30 o1 s.2.2 λt87=>
 LD 28 (Addr.add t87 5) aE λW=>
 IX 30 o1 s.2.2 λt94=>
 LD 39 (Addr.add t94 1) (ya aC) λt96=>
 CL 9 #[ag aC t96,iv t] aw λt100=>
 af t100 (
 aY<|
 IX 30 o1 s.2.2 λI=>
 LD 39 (Addr.add I 3) (ya aC) λH=>
 IX 30 o1 s.2.2 λK=>
 LD 28 (Addr.add K 5) aE λN=>
 BS 45 1 #[(0,.agg #[iv H.1,iv H.2.1,sv N])] λt113=>
 LK 39 (Addr.add I 3) (ag aC H)<|
 LK 28 (Addr.add K 5) (sv N)<|
 AP 45 45 45 s.2.1 t113 λt114=>
 LK 39 (Addr.add I 3) (ag aC H)<|
 LK 28 (Addr.add K 5) (sv N)<|uH (if(W.len:Int)>s.1 then(W.len:Int)else(s.1:Int),t114)) (uH (if(W.len:Int)>s.1 then(W.len:Int)else(s.1:Int),s.2.1))) (
 aV (S:=Sl×Int) (λX f=>ba λ_=>
 af (decide ((f.2:Int)<o2.len)) (
 bZ (S:=Sl) (λsG=>ba λ_=>X (sG,w6 (f.2+1))) λuI=>
 IX 30 o2 f.2 λt123=>
 LD 9 (Addr.add t123 0) an λt125=>
 af (!(t125.toList==kx.toList)) (uI f.1) (
 BS 28 0 #[] λt128=>
 IX 30 o2 f.2 λt131=>
 LD 28 (Addr.add t131 5) aE λt133=>
 AP 28 28 28 t128 t133 λt134=>
 aV (S:=Sl) (λY yD=>ba λ_=>
 af (decide ((yD.len:Int)<s.1)) (
 BS 28 1 #[(0,.agg #[iv 0,iv 0,.int .u64 0,.string (⟨#[]⟩)])] λt141=>
 AP 28 28 28 yD t141 λt142=>Y t142) (
 IX 30 o2 f.2 λt146=>
 LD 39 (Addr.add t146 3) (ya aC) λt148=>
 BS 45 1 #[(0,.agg #[iv t148.1,iv t148.2.1,sv yD])] λt151=>
 AP 45 45 45 f.1 t151 λt152=>uI t152)) t134)) (
 CL 11 #[sv s.2.1] aE λt154=>
 CL 12 #[sv f.1] aE λt156=>
 CL 11 #[sv t156] aE λt157=>
 CL 10 #[sv t154,sv t157] aw λt158=>
 JB (λFa=>k Fa) λqI=>
 af t158 (
 CL 8 #[] aw λt160=>qI t160) (qI false))) (au,0))) (0,au,0)) w:=by
  have e1:=h1.len
  have e2:=h2.len
  refine gD (S:=Int×Sl×Int) xs.length (λi s w=>s.1=((kh (xs.take i):Nat):Int)/\s.2.2=(i:Int)/\∃b,cw (iu F) b (j0 (xs.take i) t)/\ab E w (OS 45 av s.2.1 b::ae F::L)) ⟨rfl,rfl,[],.nil,fm h⟩ ?_
  rintro next ⟨wd,o,q⟩ w i hi ⟨Oa,hq,b,c,h⟩ O
  simp only at Oa hq h
  subst hq Oa
  refine ao λ_=>?_
  simp only[e1]
  refine ax (λhc=>?_) (λhc=>?_)
  .have dU:i<xs.length:=by have:=cT hc;omega
   have jl:b.length<=i:=by
    rw[c.len]
    unfold j0
    rw[bW]
    have:=gV (λx:Rw=>ey (x.2.1,x.2.2.1,()) t) (xs.take i)
    rw[cn]at this
    omega
   have hW:kh (xs.take (i+1))=max (kh (xs.take i)) (xs[i]).2.2.2.2.2.length:=by
    rw[cR dU]
    unfold kh
    rw[qy];rfl
   have hA:j0 (xs.take (i+1)) t=j0 (xs.take i) t++(if ey ((xs[i]).2.1,(xs[i]).2.2.1,()) t then[(xs[i]).2.2.2]else[]):=by
    rw[cR dU,JU]
    congr 1
    unfold j0
    rw[jr]
    split<;>simp
   generalize hx:xs[i]=x at*
   have YZ:(if(x.2.2.2.2.2.length:Int)>((kh (xs.take i):Nat):Int)then(x.2.2.2.2.2.length:Int)else((kh (xs.take i):Nat):Int))=((kh (xs.take (i+1)):Nat):Int):=by
    rw[hW];split<;>omega
   refine br (λ(l:Int×Sl) w=>l.1=((kh (xs.take (i+1)):Nat):Int)/\∃b,cw (iu F) b (j0 (xs.take (i+1)) t)/\ab E w (OS 45 av l.2 b::ae F::L)) (λl w hs=>?_) λJ hJ=>?_
   .obtain⟨f1,m,f2,f3⟩:=hs
    refine ao λ_=>?_
    exact O dU _ _ ⟨f1,bV (n:=100000000) om om,m,f2,f3⟩
   have h:=h.swap
   refine fx (T:=30) h1 dU λa r ha hr=>?_
   rw[hx]at hr
   obtain⟨rk,ra,rb,rc,rd,rs,⟨⟩⟩:=r
   refine nV (t:=28) (j:=5) (x:=rs) h ?_ (ha:=ha)
   have Hh:FL F aP rs x.2.2.2.2.2:=hr.2.2.2.2.2
   refine fx (T:=30) h1 dU λa2 r2 r7 P=>?_
   rw[hx]at P
   obtain⟨qk,qa,qb,qc,qd,qs,⟨⟩⟩:=r2
   refine tn (t:=39) (ls:=aC) (j:=1) (x:=(qa,qb,())) h ?_ (ha:=r7)
   obtain⟨_,g1,g2,_⟩:=P
   simp only at g1 g2
   subst g1 g2
   have Zy:=Hh.2
   refine c9 h λw h=>?_
   rw[Zy,YZ]
   refine ax (λQ=>?_) (λQ=>?_)
   .rw[ak Q]at hA
    refine dr h λw h=>?_
    refine fx (T:=30) h1 dU λa3 r3 R u=>?_
    rw[hx]at u
    obtain⟨uk,ua,ub,z,C,us,⟨⟩⟩:=r3
    refine tn (t:=39) (ls:=aC) (j:=3) (x:=(z,C,())) h ?_ (ha:=R)
    refine fx (T:=30) h1 dU λa4 r4 GI NZ=>?_
    rw[hx]at NZ
    obtain⟨vk,va,vb,vc,vd,vs,⟨⟩⟩:=r4
    refine nV (t:=28) (j:=5) (x:=vs) h ?_ (ha:=GI)
    refine bJ (T:=45) (ls:=av) (y:=(z,C,vs,())) h λl w _ h=>?_
    refine tj (t:=39) (j:=3) (vs:=ay aC (z,C,())) h ?_ (ha:=R)
    refine CE (t:=28) (j:=5) (v:=sv vs) h ?_ (ha:=GI)
    refine eA (T:=45) (ls:=av) (xs:=b) (y:=(z,C,vs,())) (h.bF (A1:=OS 45 av l [(z,C,vs,())]) (A2:=OS 45 av o b) pK pK) om (λs3 w h=>?_)
    refine tj (t:=39) (j:=3) (vs:=ay aC (z,C,())) h ?_ (ha:=R)
    refine CE (t:=28) (j:=5) (v:=sv vs) h ?_ (ha:=GI)
    have U:iu F (z,C,vs,()) x.2.2.2:=⟨u.2.2.2.1,u.2.2.2.2.1,NZ.2.2.2.2.2⟩
    refine hJ _ _ ⟨rfl,b++[(z,C,vs,())],?_,h.sub sS⟩
    rw[hA]
    exact c.app (.cons U .nil)
   .rw[ai (by rw[Q];simp)]at hA
    rw[iO]at hA
    refine hJ _ _ ⟨rfl,b,?_,h.sub sS⟩
    rw[hA];exact c
  have dU:i=xs.length:=by have:=cF hc;omega
  subst dU
  rw[cB]at c⊢
  have jl:b.length<=100000000:=by
   rw[c.len]
   unfold j0
   rw[bW]
   have:=gV (λx:Rw=>ey (x.2.1,x.2.2.1,()) t) xs
   omega
  obtain⟨F1,GG,h,hf⟩:=dT (T:=45) (ls:=av) (s:=o) (F:=F) h
  have qQ:eV F1 o (j0 xs t):=⟨b,hf,c.imp λr p hh=>eK _ _ _ _ GG hh⟩
  have ako:kh xs<=16:=Rf xs 0 w1 (jt _)
  clear c hf O
  refine gD (S:=Sl×Int) ys.length (λj s w=>s.2=(j:Int)/\∃G b,F1.le G/\cw (iu G) b (kT (ys.take j) kx (kh xs))/\ab E w (OS 45 av s.1 b::ae G::L)) ⟨rfl,F1,[],dC _,.nil,fm h⟩ ?_
  rintro w8 ⟨o3,q⟩ w j hj ⟨hq,G,d,hG,c,h⟩ Z
  simp only at hq h
  subst hq
  refine ao λ_=>?_
  simp only[e2]
  have akb:d.length<=j:=by
   rw[c.len]
   unfold kT
   rw[bW]
   have:=gV (λx:Rw=>decide (x.1=kx)) (ys.take j)
   rw[cn]at this
   omega
  have GC:=h2.up sD (GG.trans hG)
  refine ax (λhc=>?_) (λhc=>?_)
  .have g:j<ys.length:=by have:=cT hc;omega
   have CR:kT (ys.take (j+1)) kx (kh xs)=kT (ys.take j) kx (kh xs)++(if(ys[j]).1=kx then[HO (kh xs) ys[j]]else[]):=by
    rw[cR g,Q8]
    congr 1
    unfold kT
    rw[jr]
    by_cases e:(ys[j]).1=kx
    .rw[ak (by simpa using e),ak e];rfl
    .rw[ai (by simpa using e),ai e];rfl
   have akq:=w2 _ (cp g)
   generalize hy:ys[j]=y at*
   refine br (λ(l:Sl) w=>∃V b,G.le V/\cw (iu V) b (kT (ys.take (j+1)) kx (kh xs))/\ab E w (OS 45 av l b::ae V::L)) (λl w hs=>?_) λJ hJ=>?_
   .obtain⟨V,m,f1,f2,f3⟩:=hs
    refine ao λ_=>?_
    exact Z g _ _ ⟨bV (n:=100000000) om om,V,m,hG.trans f1,f2,f3⟩
   have h:=h.swap
   refine fx (T:=30) GC g λa r ha hr=>?_
   rw[hy]at hr
   obtain⟨rk,ra,rb,rc,rd,rs,⟨⟩⟩:=r
   refine nV (t:=9) (j:=0) (x:=rk) h ?_ (ha:=ha)
   have Hg:rk=y.1:=hr.1
   subst Hg
   rw[iK]
   refine ax (λQ=>?_) (λQ=>?_)
   .have Q:¬y.1=kx:=cF (nT Q)
    rw[ai Q,iO]at CR
    refine hJ _ _ ⟨G,d,dC _,?_,h.sub sS⟩
    rw[CR];exact c
   have Q:y.1=kx:=cT (nF Q)
   rw[ak Q]at CR
   refine bz (T:=28) (ls:=aP) h λs0 w h=>?_
   refine fx (T:=30) GC g λa2 r2 r7 P=>?_
   rw[hy]at P
   obtain⟨qk,qa,qb,qc,qd,qs,⟨⟩⟩:=r2
   refine nV (t:=28) (j:=5) (x:=qs) h ?_ (ha:=r7)
   have Zs:FL G aP qs y.2.2.2.2.2:=P.2.2.2.2.2
   refine ap (T:=28) (ls:=aP) (s:=s0) (xs:=[]) (ys:=y.2.2.2.2.2) h (λw h=>Zs.reads (h.pick (A:=ae G) pK)) (by simp only[mO];omega) (λs1 w h=>?_) .head
   rw[mQ]at h
   refine abI (wd:=kh xs) h om om λl w h=>?_
   obtain⟨V,D,h,ve⟩:=dT (T:=28) (ls:=aP) (s:=l) (F:=G) h
   refine fx (T:=30) (GC.up sD D) g λa3 r3 R u=>?_
   rw[hy]at u
   obtain⟨uk,ua,ub,z,C,us,⟨⟩⟩:=r3
   refine tn (t:=39) (ls:=aC) (j:=3) (x:=(z,C,())) h ?_ (ha:=R)
   refine bJ (T:=45) (ls:=av) (y:=(z,C,l,())) h λs4 w _ h=>?_
   refine eA (T:=45) (ls:=av) (xs:=d) (y:=(z,C,l,())) (h.bF (A1:=OS 45 av s4 [(z,C,l,())]) (A2:=OS 45 av o3 d) pK pK) om (λs3 w h=>?_)
   have U:iu V (z,C,l,()) (HO (kh xs) y):=⟨u.2.2.2.1,u.2.2.2.2.1,ve⟩
   refine hJ _ _ ⟨V,d++[(z,C,l,())],D,?_,h.sub sS⟩
   rw[CR]
   exact(c.imp λr p hh=>eK _ _ _ _ D hh).app (.cons U .nil)
  have g:j=ys.length:=by have:=cF hc;omega
  subst g
  rw[cB]at c
  obtain⟨V,D,h,hf⟩:=dT (T:=45) (ls:=av) (s:=o3) (F:=G) h
  have Hs:eV V o3 (kT ys kx (kh xs)):=⟨d,hf,c.imp λr p hh=>eK _ _ _ _ D hh⟩
  have hwl:(kT ys kx (kh xs)).length<=100000000:=by
   unfold kT
   rw[bW]
   have:=gV (λx:Rw=>decide (x.1=kx)) ys
   omega
  have ct:∀p∈kT ys kx (kh xs),dk p.2.2:=λp hp=>by
   unfold kT at hp
   obtain⟨x,hx,rfl⟩:=List.mem_map.1 hp
   exact abJ (r2 x (List.mem_filter.1 hx).1) om
  have bl:(j0 xs t).length<=100000000:=by
   unfold j0
   rw[bW]
   have:=gV (λx:Rw=>ey (x.2.1,x.2.2.1,()) t) xs
   omega
  have Yk:∀p∈j0 xs t,p.2.2.length<=1000000:=λp hp=>by
   unfold j0 at hp
   obtain⟨x,hx,rfl⟩:=List.mem_map.1 hp
   have:=w1 x (List.mem_filter.1 hx).1
   omega
  refine Kg h (qQ.up eK (hG.trans D)) bl λG3 s1 w tu Al h=>?_
  refine Kk h (Hs.up eK tu) ⟨om,ct⟩ λG4 l w CP pX h=>?_
  rw[<-he]at pX
  refine Kg h pX bl λG5 s3 w wJ tE h=>?_
  refine Tf h (Al.up eK (CP.trans wJ)) tE bl Yk λw h=>?_
  refine aL ?_
  refine aR rfl ?_
  refine h8 w _ _ h λw h=>?_
  exact ao λ_=>hk G5 w (((((GG.trans hG).trans D).trans tu).trans CP).trans wJ) h
abbrev dF:ByteArray:=⟨#[116]⟩
theorem c3 {n:Int} (h:ab E w (ae F::L)) (hs:NL F Y0 AH s ops) (hn:0<=n/\n<=255) (ht:0<=t/\t<=255)
   (h8:∀(w:World) (L:List aK) (k:Bool->Pr),ab E w L->(∀w',ab E w' L->k true w')->CL 8 #[] aw k w)
   (hk:∀G w',F.le G->ab E w' (ae G::L)->k true w'):CL 3 #[sv s,i8 n,i8 t] aw k w:=by
  refine rd3 ?_
  refine c5 h hs λG i b f d m W K N w hG hi hB hL hm h=>?_
  refine dw (x:=false) kK ?_
  refine ar rfl ?_
  have hwn:w6 n=n:=bQ om
  have hwt:w6 t=t:=bQ om
  rw[hwn,hwt]
  generalize CV:Int.tmod n 3=a
  generalize vi:Int.tmod t 64=tt
  have YJ:0<=a/\a<=1000:=by
   rw[<-CV,Int.tmod_eq_emod_of_nonneg om]
   omega
  obtain⟨A,h,u⟩:=eF _ _ _ h
  have h:ab E w (ae G::bk b f K au N 0::(L++A)):=h
  refine bJ (T:=28) (ls:=aP) (y:=(2,a,0,eB,())) h λs2 w _ h=>?_
  obtain⟨G1,z3,h,hf⟩:=dT (T:=28) (ls:=aP) (s:=s2) (F:=G) h
  have R:=aak YJ
  refine c6 (r:=wV a) h hf R λw h=>?_
  refine aq ?_
  refine ld (t:=33) (x:=some ⟨f,0,none⟩) (b:=b) (off:=0) h ?_
  have key:∀(v:bh) (z:Sl) (x1:Int) (w:World),G1.le v->((x1≠0/\z=au)\/(x1=0/\l4 W dF (wV a)=0/\mU v z (jT W dF (B (keyOf (wV a))))))->de E w v f d false 300 false W (bk b f K au N 0::L)->
   (NC (some ⟨b,0,none⟩) λt43=>
 LD 33 (Addr.add t43 0) aI λt45=>
 CL 7 #[.pointer t45,ag bR (qT dF tt)] (.aG [.leaf .slice,.leaf (.int .i64)]) λo=>
 JB (λFc=>
 af Fc (
 JB (λFe=>
 JB (λFg=>
 JB (λFh=>k Fh) λzl=>
 af Fg (
 CL 8 #[] aw λX=>zl X) (zl false)) λuG=>
 af Fe (
 JB (λFf=>uG Ff) λzm=>
 af ((o.2.1:Int)==0) (zm true) (zm ((o.1.len:Int)==0))) (uG false)) λqH=>
 af ((x1:Int)==0) (qH true) (qH ((z.len:Int)==0))) (
  (aV (S:=Int×Sl×Int) (λnext s=>ba λ_=>
 af (decide ((s.2.2:Int)<z.len)) (
 bZ (S:=Int×Sl) (λmc=>ba λ_=>next (mc.1,mc.2,w6 (s.2.2+1))) λuH=>
 IX 30 z s.2.2 λt87=>
 LD 28 (Addr.add t87 5) aE λO=>
 IX 30 z s.2.2 λt94=>
 LD 39 (Addr.add t94 1) (ya aC) λt96=>
 CL 9 #[ag aC t96,iv tt] aw λt100=>
 af t100 (
 aY<|
 IX 30 z s.2.2 λC=>
 LD 39 (Addr.add C 3) (ya aC) λp=>
 IX 30 z s.2.2 λD=>
 LD 28 (Addr.add D 5) aE λH=>
 BS 45 1 #[(0,.agg #[iv p.1,iv p.2.1,sv H])] λt113=>
 LK 39 (Addr.add C 3) (ag aC p)<|
 LK 28 (Addr.add D 5) (sv H)<|
 AP 45 45 45 s.2.1 t113 λt114=>
 LK 39 (Addr.add C 3) (ag aC p)<|
 LK 28 (Addr.add D 5) (sv H)<|uH (if(O.len:Int)>s.1 then(O.len:Int)else(s.1:Int),t114)) (uH (if(O.len:Int)>s.1 then(O.len:Int)else(s.1:Int),s.2.1))) (
 aV (S:=Sl×Int) (λP g=>ba λ_=>
 af (decide ((g.2:Int)<o.1.len)) (
 bZ (S:=Sl) (λsG=>ba λ_=>P (sG,w6 (g.2+1))) λuI=>
 IX 30 o.1 g.2 λt123=>
 LD 9 (Addr.add t123 0) an λt125=>
 af (!(t125.toList==(B (keyOf (wV a))).toList)) (uI g.1) (
 BS 28 0 #[] λt128=>
 IX 30 o.1 g.2 λt131=>
 LD 28 (Addr.add t131 5) aE λt133=>
 AP 28 28 28 t128 t133 λt134=>
 aV (S:=Sl) (λQ Y=>ba λ_=>
 af (decide ((Y.len:Int)<s.1)) (
 BS 28 1 #[(0,.agg #[iv 0,iv 0,.int .u64 0,.string (⟨#[]⟩)])] λt141=>
 AP 28 28 28 Y t141 λt142=>Q t142) (
 IX 30 o.1 g.2 λt146=>
 LD 39 (Addr.add t146 3) (ya aC) λU=>
 BS 45 1 #[(0,.agg #[iv U.1,iv U.2.1,sv Y])] λt151=>
 AP 45 45 45 g.1 t151 λt152=>uI t152)) t134)) (
 CL 11 #[sv s.2.1] aE λt154=>
 CL 12 #[sv g.1] aE λt156=>
 CL 11 #[sv t156] aE λt157=>
 CL 10 #[sv t154,sv t157] aw λt158=>
 JB (λFa=>k Fa) λqI=>
 af t158 (
 CL 8 #[] aw λt160=>qI t160) (qI false))) (au,0))) (0,au,0)))) λJ=>
 af ((x1:Int) !=0) (J true) (J ((o.2.1:Int) !=0))) w:=by
   intro v z x1 w I Dd h
   obtain⟨A,h,u⟩:=eF _ _ _ h
   have h:ab E w (ae v::bk b f K au N 0::(L++A)):=h
   refine aq ?_
   refine ld (t:=33) (x:=some ⟨f,0,none⟩) (b:=b) (off:=0) h ?_
   have Z:=(hG.trans z3).trans I
   have Nx:∀(l:bh) (w:World),v.le l->de E w l f d false 300 false W (bk b f K au N 0::L)->k true w:=λl w e h=>by
    obtain⟨A,h,u⟩:=eF _ _ _ h
    exact hk l w (Z.trans e) (h.sub (.take .head (.skip (A0 A L))))
   have Ng:∀(l:bh) (w:World),v.le l->de E w l f d false 300 false W (bk b f K au N 0::L)->CL 8 #[] aw (λX=>ba λ_=>k X) w:=λl w e h=>by
    obtain⟨A,h,u⟩:=eF _ _ _ h
    refine h8 w _ _ h λw h=>?_
    exact ao λ_=>hk l w (Z.trans e) (h.sub (.take .head (.skip (A0 A L))))
   refine E7 (i:=i) (u v w (bk b f K au N 0::L) (dC _) h) hB om (λV l w e h=>?_) (λV l o2 w e ho h=>?_)
   ·
    refine br (λ(c:Bool) w=>c=true/\de E w l f d false 300 false W (bk b f K au N 0::L)) (λc w hc=>?_) λJ hJ=>?_
    .obtain⟨rfl,h⟩:=hc
     refine ao λ_=>?_
     refine aR rfl ?_
     refine br (λ(c:Bool) w=>c=true/\de E w l f d false 300 false W (bk b f K au N 0::L)) (λc w hc=>?_) λJ2 lE=>?_
     .obtain⟨rfl,h⟩:=hc
      refine ao λ_=>?_
      refine aL ?_
      refine aR rfl ?_
      refine aL ?_
      refine ar (by simpa using V) ?_
      refine ao λ_=>?_
      refine ao λ_=>?_
      refine aL ?_
      refine aR rfl ?_
      exact Ng l w e h
     .rcases Dd with⟨hx,rfl⟩|⟨rfl,_,_⟩
      .refine ar (by simpa using hx) ?_
       exact lE _ _ ⟨rfl,h⟩
      .refine aR rfl ?_
       exact lE _ _ ⟨rfl,h⟩
    .refine ax (λ_=>?_) (λ_=>?_)
     .exact hJ _ _ ⟨rfl,h⟩
     .exact hJ _ _ ⟨by simpa using V,h⟩
   .rcases Dd with⟨hx,rfl⟩|⟨rfl,XQ,Zh⟩
    .refine aL ?_
     refine aR (by simpa using hx) ?_
     refine ao λ_=>?_
     refine aR rfl ?_
     refine aL ?_
     refine ar (by simpa using hx) ?_
     refine ao λ_=>?_
     refine aL ?_
     refine aR rfl ?_
     refine aL ?_
     refine aR rfl ?_
     refine ao λ_=>?_
     refine ao λ_=>?_
     refine aL ?_
     refine aR rfl ?_
     exact Ng l w e h
    .refine aL ?_
     refine ar rfl ?_
     refine ao λ_=>?_
     refine ar rfl ?_
     obtain⟨A,h,u⟩:=eF _ _ _ h
     have h:ab E w (ae l::bk b f K au N 0::(L++A)):=h
     obtain⟨j,ts,hj,hg⟩:=hB
     have hj:j<=21:=om
     refine ah4 h (Zh.up sD e) ho (hg.jT hj _ _).1 (hg.iX hj _ _).1 agY agX (hg.iX hj _ _).2 (aih (r:=wV a) hg hj V XQ) h8 λG4 w CP h=>?_
     exact hk G4 w ((Z.trans e).trans CP) (h.sub (.take .head (.skip (A0 A L))))
  refine SH (i:=i) (r:=wV a) (u G1 w (bk b f K au N 0::L) z3 h) hB om hf R (λV v w I h=>?_) (λV v z w I ho h=>?_)
  .exact key v au _ w I (.inl ⟨V,rfl⟩) h
  .exact key v z 0 w I (.inr ⟨rfl,V,ho⟩) h
end Go.Proofs.YtelhccfmfnaegaaGreat
