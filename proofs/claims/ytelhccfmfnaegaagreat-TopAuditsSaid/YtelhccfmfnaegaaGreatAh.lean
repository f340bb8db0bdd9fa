/- Lemmas for topAudits_holds. No conditions. -/
import Derived.Test.YtelhccfmfnaegaaGreatAt
set_option linter.unusedSectionVars false
set_option linter.unusedVariables false
set_option linter.unusedSimpArgs false
set_option linter.defProp false
set_option maxRecDepth 10000
namespace Go.Proofs.YtelhccfmfnaegaaGreat
open Go Go.Sh Tryz
attribute [local irreducible] aT jC gk dV kO dg hex iT jk ae aj bG aN
abbrev Rc:=List Nat×bc
def eI (n:Nat):Nat:=max 1 ((n+124)/125)
def mg (n:Nat):bc:=[u8 ((n/256:Nat):Int),u8 (n:Int)]
def dP (s:bc) (j:Nat):bc:=(s.drop (125*j)).take 125
def k8 (ps:List Nat) (s:bc) (j:Nat):bc:=gu (mg (ps.getD (j+1) 0)++(u8 ((dP s j).length:Int)::dP s j))
def vB (r:Nat):bc:=gu (82::mg r)
structure JL (P:iF) (x:Rc):Prop where
 len:x.1.length=eI x.2.length
 lg:x.2.length<=100000
 at_:∀j (h:j<x.1.length),P x.1[j]=k8 x.1 x.2 j
 rg:∀n∈x.1,2<=n/\n<180
abbrev fp (ca:List Rc):List Nat:=ca.flatMap (·.1)
structure dn (P:iF) (ca:List Rc) (r:Nat):Prop where
 len:(P 0).length=128
 root:P 1=vB r
 rl:r<180
 one:iG (P 0) 1=true
 nd:(fp ca).Nodup
 bit:∀n,2<=n->n<180->(iG (P 0) n=true↔n∈fp ca)
 ch:∀x∈ca,JL P x
theorem Dt (n:Nat):0<eI n:=by unfold eI;omega
theorem Aj (s:bc) (j:Nat):(dP s j).length=min 125 (s.length-125*j):=by unfold dP;simp
theorem NR (ps:List Nat) (s:bc) (j:Nat):(k8 ps s j).length=128:=by
 unfold k8
 refine DB ?_
 have:=Aj s j
 simp[mg];omega
variable {P:iF} {ca HY:List Rc} {r n:Nat} {P':iF} {ps:List Nat} {s:bc} {q p:Nat} {a:Int} {k:Int->Pr} {d T b:Nat} {X:DX} {c:fh} {l:bc} {i:Nat} {x:Rc} {Lb:aK} {u:Sl} {v:bc} {m j:Nat} {w:World} {t:Ty} {o:Option Rc} {rest:List Rc}
theorem dn.perm (h:dn P ca r) (a:ca.Perm HY):dn P HY r:=by
 have b:(fp ca).Perm (fp HY):=a.flatMap_right _
 exact⟨h.len,h.root,h.rl,h.one,b.nodup_iff.1 h.nd,λn c d=>(h.bit n c d).trans b.mem_iff,λx e=>h.ch x (a.mem_iff.2 e)⟩
theorem dn.rg (h:dn P ca r) (hn:n∈fp ca):2<=n/\n<180:=by
 obtain⟨x,a,hn⟩:=List.mem_flatMap.1 hn
 exact(h.ch x a).rg n hn
theorem dn.free (h:dn P ca r) (b:eC P n=true) (hn:n<180):2<=n/\n∉fp ca:=by
 unfold eC at b
 simp only[bp,bX,mR]at b
 obtain⟨d,a⟩:=b
 have f:n≠1:=λe=>by rw[e,h.one]at a;cases a
 refine⟨om,λc=>?_⟩
 rw[(h.bit n om hn).2 c]at a
 cases a
theorem dn.used (h:dn P ca r) (hn:n∈fp ca):eC P n=false/\iG (P 0) n=true:=by
 obtain⟨a,b⟩:=h.rg hn
 have:=(h.bit n a b).2 hn
 exact⟨by unfold eC;rw[this];simp,this⟩
theorem M6 (h:dn P ca r):178<=kJ P+(fp ca).length:=by
 have j:((List.range 180).filter λn=>!eC P n).length+kJ P=180:=by
  have d:∀l:List Nat,(l.filter λn=>!eC P n).length+(l.filter (eC P)).length=l.length:=by
   intro l
   induction l with
   |nil=>rfl
   |cons a l k=>
    cases e:eC P a with
    |true=>simp only[jr,e,Bl,kk,fF,gr,db];omega
    |false=>simp only[jr,e,Jb,kk,fF,gr,db];omega
  have:=d (List.range 180)
  rw[px]at this
  exact this
 have g:=lL (l:=(List.range 180).filter λn=>!eC P n) (m:=0::1::fp ca) (List.nodup_range.filter _) λn c=>by
  rw[Bf,yT]at c
  obtain⟨c,b⟩:=c
  unfold eC at b
  simp only[nz]
  by_cases f:n=0
  .exact .inl f
  by_cases i:n=1
  .exact .inr (.inl i)
  refine .inr (.inr ((h.bit n om c).1 ?_))
  simp only[Bool.not_and,rz,Bool.not_not]at b
  rcases b with b|b
  .simp[f]at b
  .exact b
 simp only[db]at g
 omega
theorem dn.put (h:dn P ca r) (hs:s.length<=100000) (l:ps.Nodup) (v:ps.length=eI s.length) (d:∀n∈ps,n<180/\eC P n=true)
  (y:(P' 0).length=128) (p:∀m,iG (P' 0) m=(iG (P 0) m||decide (m∈ps))) (t:∀m,m≠0->m∉ps->P' m=P m) (z:∀j (h:j<ps.length),P' ps[j]=k8 ps s j):dn P' ((ps,s)::ca) r:=by
 have c:∀n∈ps,2<=n/\n∉fp ca:=λn f=>h.free (d n f).2 (d n f).1
 refine⟨y,?_,h.rl,?_,?_,λn A C=>?_,λx g=>?_⟩
 .rw[t 1 dE (λi=>by have:=(c 1 i).1;omega)];exact h.root
 .rw[p,h.one];rfl
 .show(ps++fp ca).Nodup
  rw[vK]
  refine⟨l,h.nd,λa D b o e=>?_⟩
  subst e
  exact(c a D).2 o
 .rw[p]
  show _↔n∈ps++fp ca
  rw[rz,bX,h.bit n A C,mN]
  exact Or.comm
 .rcases List.mem_cons.1 g with rfl|g
  .exact⟨v,hs,z,λn f=>⟨(c n f).1,(d n f).1⟩⟩
  .have k:=h.ch x g
   refine⟨k.len,k.lg,λj u=>?_,k.rg⟩
   have i:x.1[j]∈fp ca:=List.mem_flatMap.2 ⟨x,g,cp u⟩
   rw[t _ (by have:=(h.rg i).1;omega) (λG=>(c _ G).2 i)]
   exact k.at_ j u
theorem dn.drop (h:dn P ((ps,s)::ca) r)
  (k:(P' 0).length=128) (f:∀m,iG (P' 0) m=(iG (P 0) m&&!decide (m∈ps))) (g:∀m,m≠0->P' m=P m):dn P' ca r:=by
 have c:(ps++fp ca).Nodup:=h.nd
 rw[vK]at c
 obtain⟨n1,n2,n3⟩:=c
 have e:=h.ch _ eo
 refine⟨k,?_,h.rl,?_,n2,λn l o=>?_,λx p=>?_⟩
 .rw[g 1 dE];exact h.root
 .rw[f,h.one]
  have:¬1∈ps:=λt=>by have:=(e.rg 1 t).1;omega
  simp[this]
 .rw[f,bp,h.bit n l o]
  show n∈ps++fp ca/\_↔_
  rw[mN]
  simp only[mR,ml]
  constructor
  .rintro⟨a|a,b⟩
   .exact absurd a b
   .exact a
  .intro a
   exact⟨.inr a,λb=>n3 n b n a rfl⟩
 .have d:=h.ch x (dH _ p)
  refine⟨d.len,d.lg,λj i=>?_,d.rg⟩
  have:=(d.rg _ (cp i)).1
  rw[g _ om]
  exact d.at_ j i
theorem dn.ag4 (h:dn P ca r) (d:q<180):dn (oa P 1 (vB q)) ca q:=by
 have b:oa P 1 (vB q) 0=P 0:=sH _ _ _ dE
 refine⟨by rw[b];exact h.len,xl _ _ _,d,by rw[b];exact h.one,h.nd,λn e f=>by rw[b];exact h.bit n e f,λx g=>?_⟩
 have a:=h.ch x g
 refine⟨a.len,a.lg,λj c=>?_,a.rg⟩
 have:=(a.rg _ (cp c)).1
 rw[sH _ _ _ om]
 exact a.at_ j c
abbrev bm (q p:Nat):aK:=lc q 283 [.pointer (some ⟨p,0,none⟩)]
variable {E:World} {L:List aK} {F:bh}
theorem zE {k:Bool->Pr} (h:ab E w (bm q p::L)) (b:∀a,ab E a (bm q p::L)->k true a):CL 214 #[.pointer (some ⟨q,0,none⟩)] aw k w:=by
 refine ad1 ?_
 refine dw (x:=true) kK ?_
 refine aL ?_
 refine aR rfl ?_
 refine aq ?_
 refine ld h ?_
 refine dw (x:=true) kK ?_
 refine ao λ_=>?_
 exact b _ h
theorem Cd {k:ByteArray->Pr} (h:ab E w L) (hn:n<65536) (b:∀a,ab E a L->k (B (mg n)) a):CL 241 #[iv (n:Int)] an k w:=by
 refine aes ?_
 have c:w6 (Int.tdiv (n:Int) 256)=((n/256:Nat):Int):=by
  have:Int.tdiv (n:Int) 256=((n/256:Nat):Int):=rfl
  rw[this,bQ om]
 have d:IntKind.u8.wrap (Int.tmod (n:Int) 256)=IntKind.u8.wrap (n:Int):=by
  have f:Int.tmod (n:Int) 256=((n%256:Nat):Int):=rfl
  rw[f,ny,ny]
  unfold u8
  congr 2
  congr 1
  omega
 rw[c,d,ny,ny]
 refine B9 (T:=143) (ls:=dW) (y:=(((u8 ((n/256:Nat):Int)).toNat:Int),())) (z:=(((u8 (n:Int)).toNat:Int),())) h λs w g h=>?_
 refine tr (e:=5) (bs:=mg n) kK kK kK ?_ (b _ h.drop)
 exact h.iJ
theorem Ll {b:Int} (ha:0<=a/\a<256) (d:0<=b/\b<256) (c:k (256*a+b) w):CL 270 #[i8 a,i8 b] ah k w:=by
 refine aeX ?_
 refine fin c ?_
 rw[bQ (n:=a) om,bQ (n:=b) om,bQ (n:=256*a) om,bQ om]
theorem QW (h:n<65536):256*(((u8 ((n/256:Nat):Int)).toNat:Nat):Int)+(((u8 (n:Int)).toNat:Nat):Int)=(n:Int):=by
 rw[vF om]
 have:(u8 (n:Int)).toNat=n%256:=by
  unfold u8
  rw[EG (by show _<256;omega)]
  omega
 rw[this];omega
theorem FQ {k:Bool->Pr} (h:ab E w (bm q p::aj d X::aN p d T b c::L)) (hn:n<180) (f:∀g,ab E g (bm q p::aj d X::aN p d T b c::L)->k (decide (2<=n)&&!eC (bI X c) n) g):
  CL 290 #[.pointer (some ⟨q,0,none⟩),iv (n:Int)] aw k w:=by
 refine afi ?_
 refine aL ?_
 refine ax (λe=>?_) (λe=>?_)
 .have i:(n:Int)>=2:=cT e
  refine aq ?_
  refine ld h ?_
  refine FB (h.bF (A1:=aj d X) (A2:=aN p d T b c) pK pK) λw h=>?_
  refine ao λ_=>?_
  rw[Dn (a:=(n:Int)) (b:=180) om]
  refine aL ?_
  refine aR rfl ?_
  refine aq ?_
  refine ld h ?_
  refine KU (h.bF (A1:=aj d X) (A2:=aN p d T b c) pK pK) hn λw h=>?_
  refine ao λ_=>?_
  refine fin (f _ (h.sub sS)) ?_
  rw[eu (show 2<=n by omega),hI]
 .have i:¬(n:Int)>=2:=cF e
  refine ao λ_=>?_
  refine aL ?_
  refine ar rfl ?_
  refine ao λ_=>?_
  refine fin (f _ h) ?_
  rw[eM (show¬2<=n by omega),rD]
theorem Pf (h:i<l.length) (a:i<(gu l).length):(gu l)[i]=l[i]:=by
 exact ur h
theorem P3 (h:dn P ca r):∃(a:1<(P 1).length) (b:2<(P 1).length) (c:0<(P 1).length),(P 1)[0]=82/\(P 1)[1]=u8 ((r/256:Nat):Int)/\(P 1)[2]=u8 (r:Int):=by
 have d:(P 1).length=128:=by rw[h.root];exact DB (by simp[mg])
 refine⟨om,om,om,?_,?_,?_⟩
 all_goals simp only[h.root,vB];rw[Pf (by simp[mg])];rfl
theorem FG (h:ab E w (bm q p::aj d X::aN p d T b c::L)) (a:dn (bI X c) ca r) (f:∀e,ab E e (bm q p::aj d X::aN p d T b c::L)->k (r:Int) e):
  CL 215 #[.pointer (some ⟨q,0,none⟩)] ah k w:=by
 obtain⟨g,j,_,_,l,m⟩:=P3 a
 have o:=a.rl
 refine ad3 ?_
 refine aq ?_
 refine ld h ?_
 refine FD (n:=1) (h.bF (A1:=aj d X) (A2:=aN p d T b c) pK pK) om λw h=>?_
 refine dr h λw h=>?_
 refine mJ (i:=1) g ?_
 refine mJ (i:=2) j ?_
 rw[l,m]
 have t:=EN (u8 ((r/256:Nat):Int))
 have u:=EN (u8 (r:Int))
 refine Ll ⟨om,om⟩ ⟨om,om⟩ ?_
 refine fin (f _ (h.sub sS)) (QW om)
theorem K9 (hn:n<=100000) (c:k ((eI n:Nat):Int) w):CL 239 #[.pointer (some ⟨q,0,none⟩),iv (n:Int)] ah k w:=by
 refine aep ?_
 refine aL ?_
 refine ar (Aw (a:=(n:Int)) (b:=0) om) ?_
 refine ao λ_=>?_
 refine ar (nW (a:=(n:Int)) (b:=100000) om) ?_
 refine fin c ?_
 have d:w6 ((n:Int)+125)=((n+125:Nat):Int):=by rw[bQ om];omega
 have e:w6 (((n+125:Nat):Int)-1)=((n+124:Nat):Int):=by rw[bQ om];omega
 have f:Int.tdiv ((n+124:Nat):Int) 125=(((n+124)/125:Nat):Int):=rfl
 rw[d,e,f,bQ (n:=(((n+124)/125:Nat):Int)) om]
 unfold eI
 show(_:Int)=_
 split<;>omega
theorem dn.OA (h:dn P ca r) (d:x∈ca):x.1.length<=180:=by
 have c:x.1.Nodup:=by
  have:=h.nd
  obtain⟨a,b,rfl⟩:=List.append_of_mem d
  unfold fp at this
  rw[gM,fc,vK,vK]at this
  exact this.2.1.1
 have:=lL c (m:=List.range 180) λn e=>List.mem_range.2 ((h.ch x d).rg n e).2
 rwa[px]at this
theorem Zp (ps:List Nat) (s:bc) (j:Nat):∃(a:0<(k8 ps s j).length) (b:1<(k8 ps s j).length) (c:2<(k8 ps s j).length),(k8 ps s j)[0]=u8 ((ps.getD (j+1) 0/256:Nat):Int)/\(k8 ps s j)[1]=u8 ((ps.getD (j+1) 0:Nat):Int)/\(k8 ps s j)[2]=u8 ((dP s j).length:Int):=by
 have d:=NR ps s j
 refine⟨om,om,om,?_,?_,?_⟩
 all_goals (unfold k8;rw[Pf (by simp[mg])];rfl)
theorem Zo (ps:List Nat) (s:bc) (j:Nat):((k8 ps s j).drop 3).take (dP s j).length=dP s j:=by
 unfold k8 gu mg
 simp only[nA,mQ,Ru,mi]
 exact vW
theorem ah9 (s:bc) (i:Nat):s.take (125*i)++dP s i=s.take (125*(i+1)):=by
 unfold dP
 rw[show 125*(i+1)=125*i+125 by omega,List.take_add]
theorem aa0 (n:Nat):n<=125*eI n:=by unfold eI;omega
theorem Zn (h:i+1<eI s.length):(dP s i).length=125:=by
 rw[Aj]
 unfold eI at h
 omega
abbrev I1:List bD:=[.int .i64]
theorem K8 {k:Sl×ByteArray×Int×Unit->Pr} (h:ab E w (bm q p::aj d X::aN p d T b c::L)) (D:dn (bI X c) ca r) (G:x∈ca)
  (V:∀s N,ab E N (OS 41 I1 s (x.1.map dL)::bm q p::aj d X::aN p d T b c::L)->k (s,B x.2,0,()) N):
  CL 236 #[.pointer (some ⟨q,0,none⟩),iv ((x.1.getD 0 0:Nat):Int)] (.aG [.leaf .slice,.leaf .str,.leaf (.int .i64)]) k w:=by
 have g:=D.ch x G
 have W:=D.OA G
 have u:0<x.1.length:=by rw[g.len];exact Dt _
 have a:∀i,i<x.1.length->2<=x.1.getD i 0/\x.1.getD i 0<180/\eC (bI X c) (x.1.getD i 0)=false/\bI X c (x.1.getD i 0)=k8 x.1 x.2 i:=λi o=>by
  have e:x.1.getD i 0=x.1[i]:=by rw[qC,fA o];rfl
  rw[e]
  have H:=cp o
  exact⟨(g.rg _ H).1,(g.rg _ H).2,(D.used (List.mem_flatMap.2 ⟨x,G,H⟩)).1,g.at_ i o⟩
 have f:∀i,x.1.length<=i->x.1.getD i 0=0:=λi o=>by rw[qC,pA o];rfl
 have I:=a 0 u
 refine PO ?_
 refine zE h λw h=>?_
 refine ar rfl ?_
 refine FQ h I.2.1 λw h=>?_
 refine ar (by rw[I.2.2.1,eu I.1];rfl) ?_
 refine gD (x.1.length+1) (λi s w=>i<=x.1.length/\s.2.2=((x.1.getD i 0:Nat):Int)/\s.2.1=B (x.2.take (125*i))/\ab E w (OS 41 I1 s.1 ((x.1.take i).map dL)::bm q p::aj d X::aN p d T b c::L)) ⟨om,rfl,by simp;rfl,by simpa using fm h⟩ ?_
 rintro next ⟨C,s2,s3⟩ w i o ⟨Y,O,P,h⟩ l
 simp only at O P
 subst O P
 have h:ab E w (OS 41 I1 C ((x.1.take i).map dL)::bm q p::aj d X::aN p d T b c::L):=h
 refine ao λ_=>?_
 by_cases m:i<x.1.length
 .obtain⟨Z,Q,g3,g4⟩:=a i m
  have K:¬((x.1.getD i 0:Nat):Int)=0:=om
  refine aR (by simpa using K) ?_
  refine FQ (n:=x.1.getD i 0) (h.lj (A1:=bm q p) (A2:=aj d X) (A3:=aN p d T b c) pK pK pK) Q λw h=>?_
  refine aL ?_
  refine ar (by rw[g3,eu Z];rfl) ?_
  refine aq ?_
  refine ld (t:=147) h ?_
  refine FB (h.bF (A1:=aj d X) (A2:=aN p d T b c) pK pK) λw h=>?_
  have M:C.len=i:=by
   have:=fR (h.pick (A:=OS 41 I1 C ((x.1.take i).map dL)) pK) dE
   rw[this,bW,cn];omega
  refine ao λ_=>?_
  refine ar (nW (by rw[M];omega)) ?_
  refine aq ?_
  refine ld (t:=147) h ?_
  refine FD (n:=x.1.getD i 0) (h.bF (A1:=aj d X) (A2:=aN p d T b c) pK pK) Q λw h=>?_
  rw[g4]
  refine dr h λw h=>?_
  obtain⟨l0,l1,l2,b0,b1,b2⟩:=Zp x.1 x.2 i
  have Ha:x.1.getD (i+1) 0<180:=by
   by_cases v:i+1<x.1.length
   .exact(a _ v).2.1
   .rw[f _ om];omega
  have pV:=Aj x.2 i
  refine mJ (i:=0) l0 ?_
  refine mJ (i:=1) l1 ?_
  refine mJ (i:=2) l2 ?_
  rw[b0,b1,b2]
  have q1:=EN (u8 ((x.1.getD (i+1) 0/256:Nat):Int))
  have q2:=EN (u8 ((x.1.getD (i+1) 0:Nat):Int))
  refine Ll ⟨om,om⟩ ⟨om,om⟩ ?_
  rw[QW om,vF om,bQ (n:=((dP x.2 i).length:Int)) om]
  refine aL ?_
  refine ar (nW om) ?_
  refine br (λ(R:Bool) w=>R=false/\ab E w (aj d X::aN p d T b c::OS 41 I1 C ((x.1.take i).map dL)::bm q p::L)) (λR w hs=>?_) λJ S=>?_
  rotate_left
  .refine ax (λU=>S _ _ ⟨?_,h.sub sS⟩) (λU=>S _ _ ⟨rfl,h.sub sS⟩)
   have h1:((x.1.getD (i+1) 0:Nat):Int)>0:=cT U
   have z:i+1<x.1.length:=by
    rcases kj (i+1) x.1.length with v|v
    .exact v
    .rw[f _ v]at h1;omega
   exact Aw (by rw[Zn (by rw[<-g.len];exact z)];omega)
  obtain⟨rfl,h⟩:=hs
  refine ao λ_=>?_
  refine ao λ_=>?_
  refine ar rfl ?_
  refine bJ (T:=41) (ls:=I1) (y:=dL (x.1.getD i 0)) h λt w _ h=>?_
  refine eA (T:=41) (ls:=I1) (xs:=(x.1.take i).map dL) h (by rw[bW,cn];omega) λs' w h=>?_
  refine Ib (i:=3) (j:=3+(dP x.2 i).length) rfl (by rw[bQ om];omega) om (by rw[NR];omega) ?_
  rw[show 3+(dP x.2 i).length-3=(dP x.2 i).length by omega,Zo]
  have hlg:=g.lg
  refine cc (by rw[cn];omega) ?_
  rw[ah9]
  refine l om _ _ ⟨om,rfl,rfl,?_⟩
  have et:(x.1.take (i+1)).map dL=(x.1.take i).map dL++[dL (x.1.getD i 0)]:=by
   rw[lT m,fe,qC,fA m];rfl
  show ab E w (OS 41 I1 s' _::_)
  rw[et]
  exact h.sub sS
 .have e:i=x.1.length:=om
  subst e
  refine ar (by rw[f _ (cV _)];rfl) ?_
  rw[cB]at h
  have ev:x.2.take (125*x.1.length)=x.2:=iP (by rw[g.len];exact aa0 _)
  refine fin (V _ _ h) ?_
  rw[ev]
theorem UH {k:Sl×ByteArray×Int×Unit->Pr} (h:ab E w (bm q p::aj d X::aN p d T b c::L))
  (e:∀a,ab E a (bm q p::aj d X::aN p d T b c::L)->k (au,⟨#[]⟩,4,()) a):
  CL 236 #[.pointer (some ⟨q,0,none⟩),iv 0] (.aG [.leaf .slice,.leaf .str,.leaf (.int .i64)]) k w:=by
 refine PO ?_
 refine zE h λw h=>?_
 refine ar rfl ?_
 refine FQ (n:=0) h om λw h=>?_
 refine aR rfl ?_
 exact e _ h
theorem FH {k:ByteArray×Int×Unit->Pr} (h:ab E w (bm q p::aj d X::aN p d T b c::L)) (e:dn (bI X c) ca r) (f:x∈ca)
  (g:∀a,ab E a (bm q p::aj d X::aN p d T b c::L)->k (B x.2,0,()) a):
  CL 216 #[.pointer (some ⟨q,0,none⟩),iv ((x.1.getD 0 0:Nat):Int)] (.aG [.leaf .str,.leaf (.int .i64)]) k w:=by
 refine ad4 ?_
 refine K8 h e f λs w h=>?_
 exact g _ (h.sub sS)
def wb (a:aK) (u:Sl) (v:bc):Prop:=∀(E w:World) (L:List aK),ab E w (a::L)->Reads w u 1 (jg v)
theorem wb.sub (h:wb Lb u v) {l:Nat} (a:l<=m) (b:m<=u.len) (c:m<=n):wb Lb (gJ u l m n 1) ((v.drop l).take (m-l)):=λE w L d=>by
 have:=(h E w L d).sub (l:=l) (h:=m) (m:=n) a b c
 rw[py,py]at this
 have e:((jg v).drop l).take (m-l)=jg ((v.drop l).take (m-l)):=by simp[jg,Ez,List.map_drop]
 rwa[e]at this
abbrev oG:List bD:=[.slice]
abbrev rf (s:Sl):bK oG:=(s,())
theorem UN {k:Sl->Pr} (h:ab E w L) (hv:v.length<=100000)
  (V:∀o (a:List Sl) f Q,a.length=eI v.length->(∀j (D:j<a.length),(a[j]).len=(dP v j).length/\wb f a[j] (dP v j))->ab E Q (OS 299 oG o (a.map rf)::f::L)->k o Q):
  CL 240 #[.pointer (some ⟨q,0,none⟩),.string (B v)] aE k w:=by
 refine aer ?_
 refine xY h λt w W=>?_
 obtain⟨b,pre,c,M,X,R,U,p,Y,Z,h6,h⟩:=W.out
 have N:wb (aT b (.cells ⟨p++(jg v++c)⟩ 5 M)) t v:=λE w L h=>BF.reads (L:=L) ⟨b,pre,c,M,X,R,U,p,Y,Z,h6,h⟩
 generalize aT b (.cells ⟨p++(jg v++c)⟩ 5 M)=f at*
 refine K9 (n:=v.length) hv ?_
 have O:eI v.length<=1000:=by unfold eI;omega
 refine cy (S:=Sl×Sl×Int) (cf:=λs=>s.2.2) (eI v.length) rfl (λi s w=>wb f s.1 (v.drop (125*i))/\s.1.len=(v.drop (125*i)).length/\s.1.len<=s.1.cap/\∃a:List Sl,a.length=i/\(∀j (D:j<a.length),(a[j]).len=(dP v j).length/\wb f a[j] (dP v j))/\ab E w (OS 299 oG s.2.1 (a.map rf)::f::L)) rfl ⟨N,R,U,[],rfl,(λj D=>absurd D (Nat.not_lt_zero _)),fm h⟩ ?_ ?_
 .rintro next ⟨u,o,_⟩ w i hi rfl ⟨K,g,r,a,e,x,h⟩ A
  have h:ab E w (OS 299 oG o (a.map rf)::f::L):=h
  simp only at K g r
  rw[fq]at g
  have C:=Aj v i
  have G:(if(u.len:Int)<125 then(u.len:Int)else(125:Int))=(((dP v i).length:Nat):Int):=by
   rw[C];split<;>omega
  have P:(v.drop (125*i)).take (dP v i).length=dP v i:=by
   rw[C];unfold dP
   rw[List.take_eq_take_iff,fq];omega
  simp only[G]
  refine Ii (i:=(dP v i).length) (z:=1) om ?_
  have H:=K.sub (l:=0) (m:=(dP v i).length) (n:=(dP v i).length) om om (cV _)
  rw[mi,pz,P]at H
  refine bJ (T:=299) (ls:=oG) (y:=rf (gJ u 0 (dP v i).length (dP v i).length 1)) h λt w _ h=>?_
  refine eA (T:=299) (ls:=oG) (xs:=a.map rf) h (by rw[bW];omega) λo' w h=>?_
  refine AU (i:=(dP v i).length) (z:=1) om ?_
  have I:=K.sub (l:=(dP v i).length) (m:=u.len) (n:=u.cap) om (cV _) r
  rw[uv,iP (by rw[fq];omega)]at I
  have d:v.drop (125*i+(dP v i).length)=v.drop (125*(i+1)):=by
   rw[C]
   by_cases hh:125<=v.length-125*i
   .rw[rC hh];congr 1
   .rw[pF om,pF om]
  refine A _ _ (bV hi om) ⟨by rw[<-d];exact I,?_,?_,a++[gJ u 0 (dP v i).length (dP v i).length 1],by simp[e],λj D=>?_,?_⟩
  .show u.len-_=_
   rw[<-d,fq];omega
  .show u.len-_<=u.cap-_;omega
  .rw[aU,m8]at D
   by_cases J:j<a.length
   .rw[ur J];exact x j J
   .have ej:j=a.length:=om
    subst ej
    rw[Ek (cV _)]
    simp only[xz,Bk]
    rw[e]
    exact⟨by show _-0=_;omega,H⟩
  .rw[fe]
   exact h.sub sS
 .rintro⟨u,o,_⟩ w ⟨K,g,r,a,e,x,h⟩
  exact V _ a f _ e x h
structure BJ (P:iF) (ps:List Nat) (P':iF):Prop where
 len:(P' 0).length=128
 bit:∀m,iG (P' 0) m=(iG (P 0) m&&!decide (m∈ps))
 ot:∀m,m≠0->P' m=P m
theorem BJ.step (h:BJ P ps P') (hn:n<180) (hm:n∉ps) (c:iG (P 0) n=true):iG (P' 0) n=true/\BJ P (ps++[n]) (oa P' 0 (jj (P' 0) n)):=by
 have a:iG (P' 0) n=true:=by rw[h.bit,c];simp[hm]
 refine⟨a,⟨by rw[xl,CH];exact h.len,λm=>?_,λm b=>by rw[sH _ _ _ b];exact h.ot m b⟩⟩
 rw[xl,zy h.len om]
 by_cases e:m=n
 .subst e;rw[ak rfl,a];simp
 .rw[ai e,h.bit];simp[e]
theorem ag1 (c:fh) (n:Nat) (x y:bc):fy (fy c n x) n y=fy c n y:=by
 funext m;unfold fy;by_cases e:m=n
 .simp[e]
 .simp[e]
theorem Fz (h:ab E w (bm q p::aj d X::aN p d T b c::L)) (g:dn (bI X c) (x::ca) r)
  (J:∀f I,dn (bI X f) ca r->dm f<=dm c+1->ab E I (bm q p::aj d X::aN p d T b f::L)->k 0 I):
  CL 189 #[.pointer (some ⟨q,0,none⟩),iv ((x.1.getD 0 0:Nat):Int)] ah k w:=by
 have hc:=g.ch x eo
 have K:=g.OA (x:=x) eo
 have D:x.1.Nodup:=by
  have:=g.nd
  rw[show fp (x::ca)=x.1++fp ca from rfl,vK]at this
  exact this.1
 refine PJ ?_
 refine K8 h g eo λs w h=>?_
 have A:=fR h dE
 rw[bW]at A
 simp only[A]
 refine cy (S:=Int) (cf:=λs=>s) x.1.length rfl (λi _ w=>∃f,(f=c\/∃y,f=fy c 0 y)/\BJ (bI X c) (x.1.take i) (bI X f)/\ab E w (OS 41 I1 s (x.1.map dL)::bm q p::aj d X::aN p d T b f::L)) rfl ⟨c,.inl rfl,⟨g.len,λm=>by simp,λm _=>rfl⟩,h⟩ ?_ ?_
 .rintro next _ w i v rfl ⟨f,o,z,h⟩ u
  have C:=cp v
  have G:x.1[i]∉x.1.take i:=λM=>by
   obtain⟨j,N,e⟩:=List.mem_iff_getElem.1 M
   rw[cn]at N
   rw[y9]at e
   exact List.pairwise_iff_getElem.1 D j i om v om e
  obtain⟨O,H⟩:=z.step (hc.rg _ C).2 G (g.used (List.mem_flatMap.2 ⟨x,eo,C⟩)).2
  refine eO (T:=41) (ls:=I1) (xs:=x.1.map dL) (i:=i) h pK (by rw[bW];exact v) (λa P=>?_) rfl
  refine kH (T:=41) (ls:=I1) (i:=i) (l:=.int .i64) (j:=0) (x:=((x.1[i]:Nat):Int)) h pK P (by rw[bW];exact v) ?_ (hc:=by simp;rfl)
  refine aq ?_
  refine ld (t:=147) h ?_
  refine UJ (n:=x.1[i]) (h.bF (A1:=aj d X) (A2:=aN p d T b f) pK pK) (hc.rg _ C).2 (by have:=(hc.rg _ C).1;omega) O λw h=>?_
  refine u _ _ (bV v om) ⟨_,?_,?_,h.sub sS⟩
  .rcases o with rfl|⟨y,rfl⟩
   .exact .inr ⟨_,rfl⟩
   .exact .inr ⟨_,ag1 _ _ _ _⟩
  .rw[uZ,lT v]
   exact H
 .rintro _ w ⟨f,o,z,h⟩
  rw[cB]at z
  refine J f _ (dn.drop (ps:=x.1) (s:=x.2) g z.len z.bit z.ot) ?_ (h.sub sS)
  rcases o with rfl|⟨y,rfl⟩
  .omega
  .exact uX _ _ _
theorem KP (h:ab E w (bm q p::aj d X::aN p d T b c::L))
  (e:∀a,ab E a (bm q p::aj d X::aN p d T b c::L)->k 4 a):
  CL 189 #[.pointer (some ⟨q,0,none⟩),iv 0] ah k w:=by
 refine PJ ?_
 refine UH h λw h=>?_
 refine uA 0 ?_
 refine ao λ_=>?_
 refine ar rfl ?_
 exact e _ h
theorem Xo (hn:n<180) (a:eC P n=true) (f:(P 0).length=128) (g:P' 0=jj (P 0) n):kJ P'+1=kJ P:=by
 have c:∀m,eC P' m=(eC P m&&!decide (m=n)):=λm=>by
  unfold eC at a⊢
  rw[g,zy f om]
  simp only[bp,bX,mR]at a
  by_cases e:m=n
  .subst e;simp[a.2]
  .simp[e]
 have b:∀m,((List.range m).filter (eC P')).length+(if n<m then 1 else 0)=((List.range m).filter (eC P)).length:=by
  intro m
  induction m with
  |zero=>simp
  |succ m d=>
   rw[qz,nC,nC,aU,aU]
   by_cases e:m=n
   .subst e
    rw[ai om]at d
    rw[ak om]
    simp[c,a];omega
   .have i:eC P' m=eC P m:=by rw[c];simp[e]
    have j:(List.filter (eC P') [m]).length=(List.filter (eC P) [m]).length:=by simp only[jr,Bm,i]
    rw[j]
    split at d<;>rename_i k
    .rw[ak om];omega
    .rw[ai om];omega
 have:=b 180
 rw[ak hn]at this
 exact this
structure BH (P:iF) (ps:List Nat) (P':iF):Prop where
 len:(P' 0).length=128
 bit:∀m,iG (P' 0) m=(iG (P 0) m||decide (m∈ps))
 ot:∀m,m≠0->m∉ps->P' m=P m
 nd:ps.Nodup
 fr:∀n∈ps,n<180/\eC P n=true
 fn:kJ P'+ps.length=kJ P
theorem BH.step (h:BH P ps P') (hn:n<180) (i:eC P' n=true):BH P (ps++[n]) (oa (oa P' 0 (jj (P' 0) n)) n dI):=by
 have j:=i
 unfold eC at i
 simp only[bp,bX,mR]at i
 obtain⟨l,f⟩:=i
 rw[h.bit]at f
 simp only[Jy,ml]at f
 have k:oa (oa P' 0 (jj (P' 0) n)) n dI 0=jj (P' 0) n:=by rw[sH _ _ _ (yS l),xl]
 refine⟨by rw[k,CH];exact h.len,λm=>?_,λm c d=>?_,?_,λm c=>?_,?_⟩
 .rw[k,zy h.len om]
  by_cases e:m=n
  .subst e;rw[ak rfl,h.bit];simp[f]
  .rw[ai e,h.bit];simp[e]
 .rw[mN,fE]at d
  rw[sH _ _ _ (λe=>d (.inr e)),sH _ _ _ c]
  exact h.ot m c λo=>d (.inl o)
 .rw[vK]
  refine⟨h.nd,sI,λa p b g e=>?_⟩
  rw[fE]at g
  subst e;subst g
  exact f.2 p
 .rw[mN,fE]at c
  rcases c with c|rfl
  .exact h.fr m c
  .refine⟨hn,?_⟩
   unfold eC
   rw[f.1];simp[l]
 .have:=Xo hn j h.len k
  have:=h.fn
  rw[aU,m8];omega
structure BZ (P:iF) (ps:List Nat) (v:bc) (j:Nat) (P':iF):Prop where
 ot:∀m,m∉ps.take j->P' m=P m
 at_:∀i (h:i<ps.length),i<j->P' ps[i]=k8 ps v i
theorem BZ.step (h:BZ P ps v j P') (a:ps.Nodup) (d:j<ps.length):BZ P ps v (j+1) (oa P' ps[j] (k8 ps v j)):=by
 refine⟨λm b=>?_,λi f g=>?_⟩
 .rw[lT d,mN,fE]at b
  rw[sH _ _ _ (λe=>b (.inr e))]
  exact h.ot m λc=>b (.inl c)
 .by_cases e:i=j
  .subst e;exact xl _ _ _
  .rw[sH _ _ _ (λc=>List.pairwise_iff_getElem.1 a i j f d om c)]
   exact h.at_ i f om
theorem lz {s:Sem Next} {x:t.den} {k:Pr} (h:dQ prog s t (λy _=>y=x) w) (a:k w):oz prog s (t.val x) k w:=by
 obtain⟨y,b,rfl⟩:=h.out
 exact⟨b,a⟩
theorem M8 (ps:List Nat) (j:Nat) (a:j<=ps.length):(ps++[0])[j]'(by simp;omega)=ps.getD j 0:=by
 rw[qC]
 rcases kj j ps.length with h|h
 .rw[ur h,fA h];rfl
 .rw[Ek h,pA h]
  have:j-ps.length=0:=om
  simp[this]
theorem FA {k:Int×Int×Unit->Pr} (h:ab E w (bm q p::aj d X::aN p d T b c::L)) (hp:dn (bI X c) ca r) (hv:v.length<=100000)
  (wP:∀H,kJ (bI X c)<eI v.length->ab E H (bm q p::aj d X::aN p d T b c::L)->k (0,3,()) H)
  (Q:∀f g H,f.length=eI v.length->dn (bI X g) ((f,v)::ca) r->dm g<=dm c+3*eI v.length->ab E H (bm q p::aj d X::aN p d T b g::L)->k (((f.getD 0 0:Nat):Int),0,()) H):
  CL 190 #[.pointer (some ⟨q,0,none⟩),.string (B v)] (.aG [.leaf (.int .i64),.leaf (.int .i64)]) k w:=by
 have aj7:eI v.length<=1000:=by unfold eI;omega
 have Hd:=Dt v.length
 refine PK ?_
 refine zE h λw h=>?_
 refine ar rfl ?_
 rw[cJ]
 refine ar (nW om) ?_
 refine aq ?_
 refine ld (t:=147) h ?_
 refine UL (h.bF (A1:=aj d X) (A2:=aN p d T b c) pK pK) λw h=>?_
 refine K9 (n:=v.length) hv ?_
 refine ax (λhc=>?_) (λhc=>?_)
 .have h1:((kJ (bI X c):Nat):Int)<((eI v.length:Nat):Int):=cT hc
  exact wP _ om (h.sub sS)
 have ve:¬((kJ (bI X c):Nat):Int)<((eI v.length:Nat):Int):=cF hc
 refine UN h hv λo I W w yq ZN h=>?_
 have oY:=fR h dE
 rw[bW,yq]at oY
 simp only[oY]
 refine cy (S:=Sl×Int) (cf:=λs=>s.2) (eI v.length) rfl (λi s w=>∃f g,f.length=i/\BH (bI X c) f (bI X g)/\dm g<=dm c+2*i/\ab E w (OS 41 I1 s.1 (f.map dL)::OS 299 oG o (I.map rf)::W::bm q p::aj d X::aN p d T b g::L)) rfl ⟨[],c,rfl,⟨hp.len,(λm=>by simp),(λm _ _=>rfl),qp,(λn hn=>absurd hn sU),rfl⟩,om,fm (h.sub sS)⟩ ?_ ?_
 .rintro next ⟨s,_⟩ w i D rfl ⟨f,g,J,G,r8,h⟩ z
  have h:ab E w (OS 41 I1 s (f.map dL)::OS 299 oG o (I.map rf)::W::bm q p::aj d X::aN p d T b g::L):=h
  have Ab:=G.fn
  refine aq ?_
  refine ld (t:=147) h ?_
  refine KW (h.bF (A1:=aj d X) (A2:=aN p d T b g) pK pK) om λn w hn Zb _ h=>?_
  refine bJ (T:=41) (ls:=I1) (y:=dL n) h λt w _ h=>?_
  refine eA (T:=41) (ls:=I1) (xs:=f.map dL) h (by rw[bW];omega) λs' w h=>?_
  refine z _ _ (bV D om) ⟨f++[n],fy (fy g 0 (jj (bI X g 0) n)) n dI,by simp[J],?_,?_,?_⟩
  .have:=G.step hn Zb
   rw[<-uZ,<-uZ]at this
   exact this
  .have h1:=uX (fy g 0 (jj (bI X g 0) n)) n dI
   have Y:=uX g 0 (jj (bI X g 0) n)
   omega
  .rw[fe];exact h.sub sS
 rintro⟨s,_⟩ w ⟨f,c1,J,G,r8,h⟩
 have h:ab E w (OS 41 I1 s (f.map dL)::OS 299 oG o (I.map rf)::W::bm q p::aj d X::aN p d T b c1::L):=h
 refine bJ (T:=41) (ls:=I1) (y:=dL 0) h λt w _ h=>?_
 refine eA (T:=41) (ls:=I1) (xs:=f.map dL) h (by rw[bW];omega) λpg w h=>?_
 have emap:f.map dL++[dL 0]=(f++[0]).map dL:=by rw[fe];rfl
 rw[emap]at h
 have R:∀i (D:i<f.length),f[i]<180/\f[i]≠0:=λi D=>by
  obtain⟨h1,Y⟩:=G.fr _ (cp D)
  refine⟨h1,λe=>?_⟩
  rw[e]at Y;cases Y
 refine cy (S:=Int) (cf:=λs=>s) (eI v.length) rfl (λi _ w=>∃g,BZ (bI X c1) f v i (bI X g)/\dm g<=dm c1+i/\ab E w (OS 41 I1 pg ((f++[0]).map dL)::OS 299 oG o (I.map rf)::W::bm q p::aj d X::aN p d T b g::L)) rfl ⟨c1,⟨(λm _=>rfl),(λi _ D=>absurd D (Nat.not_lt_zero _))⟩,om,h.sub sS⟩ ?_ ?_
 .rintro next _ w i D rfl ⟨g,hw,Ys,h⟩ z
  have U:i<f.length:=om
  have V:i<I.length:=om
  obtain⟨ZL,ZM⟩:=ZN i V
  obtain⟨NB,ND⟩:=R i U
  have aka:=Aj v i
  have Ha:f.getD (i+1) 0<65536:=by
   rw[qC]
   rcases kj (i+1) f.length with Z|Z
   .rw[fA Z]
    have:=(R _ Z).1
    show f[i+1]<_;omega
   .rw[pA Z];decide
  have e1:(f++[0])[i]'(by simp;omega)=f[i]:=ur U
  have e2:(f++[0])[i+1]'(by simp;omega)=f.getD (i+1) 0:=M8 _ _ om
  have l1:i<((f++[0]).map dL).length:=by simp;omega
  have l2:i+1<((f++[0]).map dL).length:=by simp;omega
  have ME:w6 ((i:Int)+1)=((i+1:Nat):Int):=bV D om
  have C:(mg (f.getD (i+1) 0)++(u8 ((dP v i).length:Int)::dP v i)).length<=128:=by simp[mg];omega
  have P:∀H,ab E H (aj d X::aN p d T b (fy g f[i] (k8 f v i))::OS 41 I1 pg ((f++[0]).map dL)::OS 299 oG o (I.map rf)::W::bm q p::L)->next ((i+1:Nat):Int) H:=λH h=>by
   refine z _ _ rfl ⟨_,?_,?_,h.sub sS⟩
   .rw[uZ];exact hw.step G.nd U
   .have:=uX g f[i] (k8 f v i);omega
  refine eO (T:=299) (ls:=oG) (xs:=I.map rf) (i:=i) h pK (by rw[bW];exact V) (λa3 Yg=>?_) rfl
  refine kH (T:=299) (ls:=oG) (i:=i) (l:=.slice) (j:=0) (x:=I[i]) h pK Yg (by rw[bW];exact V) ?_ (hc:=by simp;rfl)
  refine dr h λw h=>?_
  refine aq ?_
  refine ld (t:=147) h ?_
  refine eO (T:=41) (ls:=I1) (xs:=(f++[0]).map dL) (i:=i) h pK l1 (λa1 N=>?_) rfl
  have Ao:(ay I1 ((f++[0]).map dL)[i])[0]?=some ((bD.int .i64).val ((f[i]:Nat):Int)):=by rw[qB,e1];rfl
  have Ho:(ay I1 ((f++[0]).map dL)[i+1])[0]?=some ((bD.int .i64).val ((f.getD (i+1) 0:Nat):Int)):=by rw[qB,e2];rfl
  refine kH (T:=41) (ls:=I1) (i:=i) (l:=.int .i64) (j:=0) (x:=((f[i]:Nat):Int)) h pK N l1 ?_ (hc:=Ao)
  refine eO (T:=41) (ls:=I1) (xs:=(f++[0]).map dL) (i:=i+1) h pK l2 (λa2 r7=>?_) ME
  refine kH (T:=41) (ls:=I1) (i:=i+1) (l:=.int .i64) (j:=0) (x:=((f.getD (i+1) 0:Nat):Int)) h pK r7 l2 ?_ (hc:=Ho)
  rw[ZL,ny,ME]
  have u:∀{w:World} {k:Pr} {M:List aK},ab E w (OS 41 I1 pg ((f++[0]).map dL)::M)->k w->LK 3 a1 (iv ((f[i]:Nat):Int)) k w:=λh Q=>
   lz (t:=ah) (kH (T:=41) (ls:=I1) (i:=i) (l:=.int .i64) (j:=0) (x:=((f[i]:Nat):Int)) h .head N l1 rfl (hc:=Ao)) Q
  have Yr:∀{w:World} {k:Pr} {M:List aK},ab E w (OS 41 I1 pg ((f++[0]).map dL)::M)->k w->LK 3 a2 (iv ((f.getD (i+1) 0:Nat):Int)) k w:=λh Q=>
   lz (t:=ah) (kH (T:=41) (ls:=I1) (i:=i+1) (l:=.int .i64) (j:=0) (x:=((f.getD (i+1) 0:Nat):Int)) h .head r7 l2 rfl (hc:=Ho)) Q
  have MC:eh (u8 ((dP v i).length:Int)::dP v i)=eh [u8 ((dP v i).length:Int)]++eh (dP v i):=rfl
  have qR:∀{M:List aK} (w:World),ab E w (W::M)->Reads w I[i] 1 ((eh (dP v i)).flatMap (ay dW)):=λw h=>by rw[pN];exact ZM _ _ _ h
  have A:∀{M:List aK} {s:Sl} {w:World} {K:ByteArray->Pr},ab E w (OS 143 dW s (eh (u8 ((dP v i).length:Int)::dP v i))::M)->K (B (u8 ((dP v i).length:Int)::dP v i)) w->dQ prog (vN (Go.convert 143 9 (.slice s.a s.len s.cap))) an K w:=λh Q=>by
   refine tr (e:=5) (bs:=u8 ((dP v i).length:Int)::dP v i) kK kK kK ?_ Q
   have:=h.iJ
   rw[pN]at this
   exact this
  refine⟨?_,?_⟩
  .refine Cd h Ha λw h=>?_
   refine lk h ?_
   refine u (h.pick pK) ?_
   refine bJ (T:=143) (ls:=dW) (y:=(((u8 ((dP v i).length:Int)).toNat:Int),())) h λt2 w _ h=>?_
   refine lk h ?_
   refine u (h.pick pK) ?_
   refine ap (T:=143) (ls:=dW) (xs:=eh [u8 ((dP v i).length:Int)]) (ys:=eh (dP v i)) h (λw h=>qR w (h.pick pK)) (by simp[eh];omega) (λt3 w h=>?_)
   rw[<-MC]at h
   refine lk h ?_
   refine u (h.pick pK) ?_
   refine A h ?_
   refine cc (by simp[mg];omega) ?_
   refine zD (n:=f[i]) (h.bF (A1:=aj d X) (A2:=aN p d T b g) pK pK) NB ND C λw h=>?_
   refine lz (t:=an) (A (h.pick pK) rfl) ?_
   exact P _ (h.sub sS)
  .refine bJ (T:=143) (ls:=dW) (y:=(((u8 ((dP v i).length:Int)).toNat:Int),())) h λt2 w _ h=>?_
   refine lk h ?_
   refine u (h.pick pK) ?_
   refine Yr (h.pick pK) ?_
   refine Cd h Ha λw h=>?_
   refine lk h ?_
   refine u (h.pick pK) ?_
   refine ap (T:=143) (ls:=dW) (xs:=eh [u8 ((dP v i).length:Int)]) (ys:=eh (dP v i)) h (λw h=>qR w (h.pick pK)) (by simp[eh];omega) (λt3 w h=>?_)
   rw[<-MC]at h
   refine lk h ?_
   refine u (h.pick pK) ?_
   refine A h ?_
   refine cc (by simp[mg];omega) ?_
   refine zD (n:=f[i]) (h.bF (A1:=aj d X) (A2:=aN p d T b g) pK pK) NB ND C λw h=>?_
   refine lz (t:=an) (A (h.pick pK) rfl) ?_
   exact P _ (h.sub sS)
 .rintro _ w ⟨g,hw,Ys,h⟩
  have l0:0<((f++[0]).map dL).length:=sI
  have e0:(f++[0])[0]'sI=f.getD 0 0:=M8 _ _ om
  refine eO (T:=41) (ls:=I1) (xs:=(f++[0]).map dL) (i:=0) h pK l0 (λa1 N=>?_) rfl
  refine kH (T:=41) (ls:=I1) (i:=0) (l:=.int .i64) (j:=0) (x:=((f.getD 0 0:Nat):Int)) h pK N l0 ?_ (hc:=by rw[qB,e0];rfl)
  have h0:(0:Nat)∉f.take (eI v.length):=λZ=>by
   obtain⟨i,D,e⟩:=List.mem_iff_getElem.1 (mj Z)
   exact(R i D).2 e
  refine Q f g _ J ?_ om (h.sub sS)
  have ht:f.take (eI v.length)=f:=iP om
  rw[ht]at h0
  have O:=hw.ot
  rw[ht]at O
  refine hp.put hv G.nd J G.fr ?_ (λm=>?_) (λm h1 Y=>?_) λj hj=>hw.at_ j hj om
  .rw[O 0 h0];exact G.len
  .rw[O 0 h0];exact G.bit m
  .rw[O m Y];exact G.ot m h1 Y
def BT (o:Option Rc) (r:Nat):Prop:=match o with
 |none=>r=0
 |some x=>r=x.1.getD 0 0
theorem dn.head (h:dn P ca r) (c:x∈ca):2<=x.1.getD 0 0/\x.1.getD 0 0<180:=by
 have b:=h.ch x c
 have a:0<x.1.length:=by rw[b.len];exact Dt _
 have e:x.1.getD 0 0=x.1[0]:=by rw[qC,fA a];rfl
 rw[e]
 exact b.rg _ (cp a)
theorem ajd (i:Nat):dI.getD i 0=0:=by
 unfold dI
 rw[qC,List.getElem?_replicate]
 split<;>rfl
theorem zA (n:Nat):iG dI n=false:=by unfold iG;rw[ajd];simp
theorem agW:gu [82]=vB 0:=dE
theorem P4 (r:Nat):gu ([82]++mg r)=vB r:=rfl
theorem T0 {k:ByteArray×Int×Unit->Pr} (h:ab E w (bm q p::aj d X::aN p d T b c::L)) (f:dn (bI X c) ca r) (a:BT o r) (hm:∀x,o=some x->x∈ca)
  (g:∀e,o=none->ab E e (bm q p::aj d X::aN p d T b c::L)->k (⟨#[]⟩,4,()) e)
  (l:∀x e,o=some x->ab E e (bm q p::aj d X::aN p d T b c::L)->k (B x.2,0,()) e):
  CL 169 #[.pointer (some ⟨q,0,none⟩)] (.aG [.leaf .str,.leaf (.int .i64)]) k w:=by
 refine adl ?_
 refine zE h λw h=>?_
 refine ar rfl ?_
 refine FG h f λw h=>?_
 cases o with
 |none=>
  have a:r=0:=a
  subst a
  refine aR rfl ?_
  exact g _ rfl h
 |some x=>
  have a:r=x.1.getD 0 0:=a
  have j:=hm x rfl
  have m:=f.head j
  have i:¬(r:Int)=0:=om
  refine ar (by simpa using i) ?_
  refine FG h f λw h=>?_
  rw[a]
  refine FH h f j λw h=>?_
  exact l x _ rfl h
theorem UG (h:ab E w (bm q p::aj d X::aN p d T b c::L)) (hp:dn (bI X c) (o.toList++rest) r) (N:BT o r) (hv:v.length<=100000)
  (Q:∀O,kJ (bI X c)<eI v.length->ab E O (bm q p::aj d X::aN p d T b c::L)->k 3 O)
  (R:∀g S O,g.length=eI v.length->dn (bI X S) ((g,v)::rest) (g.getD 0 0)->dm S<=dm c+3*eI v.length+2->ab E O (bm q p::aj d X::aN p d T b S::L)->k 0 O):
  CL 235 #[.pointer (some ⟨q,0,none⟩),.string (B v)] ah k w:=by
 have e82:(⟨#[82]⟩:ByteArray)=B [82]:=rfl
 refine aem ?_
 refine FA h hp hv (λw hf h=>?_) (λg c1 w U z r8 h=>?_)
 .refine aR rfl ?_
  exact Q _ hf h
 refine ar rfl ?_
 have C:2<=g.getD 0 0/\g.getD 0 0<180:=z.head (x:=(g,v)) eo
 refine FG h z λw h=>?_
 have j:∀c2 w,dn (bI X c2) ((g,v)::rest) r->dm c2<=dm c1+1->ab E w (bm q p::aj d X::aN p d T b c2::L)->
   aY (NC (some ⟨q,0,none⟩) λl=>LD 147 (Addr.add l 0) aI λi=>mo (
    BS 143 1 #[(0,i8 82)] λD=>LK 147 (Addr.add l 0) (.pointer i)<|GT (vN (Go.convert 143 9 (sv D))) an λG=>CL 241 #[iv ((g.getD 0 0:Nat):Int)] an λV=>LK 147 (Addr.add l 0) (.pointer i)<|CK (vN (Go.convert 143 9 (sv D))) (.string G)<|
    VL (cL .add 9 (.tmp 25) (.tmp 27) (.string G) (.string V)) an λW=>CL 202 #[.pointer i,iv 1,.string W] ah λt29=>CK (vN (Go.convert 143 9 (sv D))) (.string G)<|k 0) (
    CL 241 #[iv ((g.getD 0 0:Nat):Int)] an λH=>LK 147 (Addr.add l 0) (.pointer i)<|BS 143 1 #[(0,i8 82)] λm=>LK 147 (Addr.add l 0) (.pointer i)<|GT (vN (Go.convert 143 9 (sv m))) an λu=>
    VL (cL .add 9 (.tmp 25) (.tmp 27) (.string u) (.string H)) an λI=>CL 202 #[.pointer i,iv 1,.string I] ah λY=>CK (vN (Go.convert 143 9 (sv m))) (.string u)<|k 0)) w:=by
  intro c2 w J P h
  have f:∀{M:List aK} {s:Sl} {w:World} {K:ByteArray->Pr},ab E w (OS 143 dW s (eh [82])::M)->K (B [82]) w->dQ prog (vN (Go.convert 143 9 (.slice s.a s.len s.cap))) an K w:=λh R=>by
   refine tr (e:=5) (bs:=[82]) kK kK kK ?_ R
   have:=h.iJ
   rw[pN]at this
   exact this
  have A:∀w,ab E w (aj d X::aN p d T b (fy c2 1 (vB (g.getD 0 0)))::bm q p::L)->k 0 w:=λw h=>by
   refine R g _ _ U ?_ ?_ (h.sub sS)
   .rw[uZ];exact J.ag4 C.2
   .have:=uX c2 1 (vB (g.getD 0 0));omega
  refine dr h λw h=>?_
  refine aq ?_
  refine ld (t:=147) h ?_
  refine⟨?_,?_⟩
  .refine bJ (T:=143) (ls:=dW) (y:=((82:Int),())) h λt2 w _ h=>?_
   refine lk h ?_
   refine f h ?_
   refine Cd h (by have:=C.2;omega) λw h=>?_
   refine lk h ?_
   refine lz (t:=an) (f h rfl) ?_
   refine cc (by simp[mg]) ?_
   refine zD (n:=1) (h.bF (A1:=aj d X) (A2:=aN p d T b c2) pK pK) om om (by simp[mg]) λw h=>?_
   rw[P4]at h
   refine lz (t:=an) (f (h.pick pK) rfl) ?_
   exact A _ (h.sub sS)
  .refine Cd h (by have:=C.2;omega) λw h=>?_
   refine lk h ?_
   refine bJ (T:=143) (ls:=dW) (y:=((82:Int),())) h λt2 w _ h=>?_
   refine lk h ?_
   refine f h ?_
   refine cc (by simp[mg]) ?_
   refine zD (n:=1) (h.bF (A1:=aj d X) (A2:=aN p d T b c2) pK pK) om om (by simp[mg]) λw h=>?_
   rw[P4]at h
   refine lz (t:=an) (f (h.pick pK) rfl) ?_
   exact A _ (h.sub sS)
 cases o with
 |none=>
  have N:r=0:=N
  subst N
  refine KP h λw h=>?_
  exact j c1 _ z om h
 |some x=>
  have N:r=x.1.getD 0 0:=N
  have J:dn (bI X c1) (x::(g,v)::rest) r:=z.perm (List.Perm.swap _ _ _)
  rw[N]
  refine Fz h J λc2 w Z P h=>?_
  exact j c2 _ Z P h
theorem M7 (b:bI X c 0=dI):dn (bI X (fy (fy (fy c 0 (jj (bI X c 0) 1)) 1 dI) 1 (gu [82]))) [] 0:=by
 rw[uZ,uZ,uZ,b]
 have a:oa (oa (oa (bI X c) 0 (jj dI 1)) 1 dI) 1 (gu [82]) 0=jj dI 1:=by
  rw[sH _ _ _ dE,sH _ _ _ dE,xl]
 refine⟨by rw[a,CH];exact um,by rw[xl];exact agW,om,?_,qp,λn e f=>?_,λx d=>by cases d⟩
 .rw[a,zy um om,ak rfl,zA];rfl
 .rw[a,zy um om,ai om,zA];simp
theorem KD {k:Option Addr×Int×Unit->Pr} (h:ab E w (aj d X::aN p d T b c::L)) (D:bI X c 0=dI\/dn (bI X c) ca r)
  (v:∀q j,dn (bI X c) ca r->ab E j (bm q p::aj d X::aN p d T b c::L)->k (some ⟨q,0,none⟩,0,()) j)
  (x:∀q l j,bI X c 0=dI->dn (bI X l) [] 0->dm l<=dm c+3->ab E j (bm q p::aj d X::aN p d T b l::L)->k (some ⟨q,0,none⟩,0,()) j):
  CL 167 #[.pointer (some ⟨p,0,none⟩)] (.aG [.leaf .ptr,.leaf (.int .i64)]) k w:=by
 refine adj ?_
 refine FB h λw h=>?_
 refine ar rfl ?_
 refine br (λ_ w=>∃l f A,dn (bI X l) f A/\ab E w (aj d X::aN p d T b l::L)/\∀q j,ab E j (bm q p::aj d X::aN p d T b l::L)->k (some ⟨q,0,none⟩,0,()) j) (λ_ w G=>?_) λJ C=>?_
 .obtain⟨l,f,A,g,h,H⟩:=G
  obtain⟨_,_,I,K,_,_⟩:=P3 g
  refine ao λ_=>?_
  refine FD (n:=1) h om λw h=>?_
  refine mJ (i:=0) I ?_
  rw[K]
  refine ar rfl ?_
  refine bx h λq w h=>?_
  exact H q _ h
 refine KU (n:=1) h om λw h=>?_
 rcases Classical.em (bI X c 0=dI)with m|m
 .have a:eC (bI X c) 1=true:=by unfold eC;rw[m,zA];rfl
  rw[a]
  refine aR rfl ?_
  have o:0<kJ (bI X c):=by
   unfold kJ
   exact List.length_pos_iff.2 λe=>by
    have:(1:Nat)∈(List.range 180).filter (eC (bI X c)):=List.mem_filter.2 ⟨List.mem_range.2 om,a⟩
    rw[e]at this;cases this
  refine KW h o λn w N M t h=>?_
  have z:n=1:=by
   rcases Nat.lt_trichotomy n 1 with u|u|u
   .have:n=0:=om
    subst this;cases M
   .exact u
   .rw[t 1 u]at a;cases a
  subst z
  refine bJ (T:=143) (ls:=dW) (y:=((82:Int),())) h λO w _ h=>?_
  refine tr (e:=5) (bs:=[82]) kK kK kK (by have:=h.iJ;exact this) ?_
  refine zD (n:=1) (s:=[82]) (h.bF (A1:=aj d X) (A2:=aN p d T b _) pK pK) om om dE λw h=>?_
  refine C _ _ ⟨_,[],0,M7 m,h.sub sS,λq j h=>x q _ _ m (M7 m) ?_ h⟩
  have P:=uX (fy (fy c 0 (jj (bI X c 0) 1)) 1 dI) 1 (gu [82])
  have Q:=uX (fy c 0 (jj (bI X c 0) 1)) 1 dI
  have R:=uX c 0 (jj (bI X c 0) 1)
  omega
 .have g:dn (bI X c) ca r:=D.resolve_left m
  have a:eC (bI X c) 1=false:=by unfold eC;rw[g.one];rfl
  rw[a]
  refine ar rfl ?_
  exact C _ _ ⟨c,ca,r,g,h,λq j h=>v q _ g h⟩
end Go.Proofs.YtelhccfmfnaegaaGreat
