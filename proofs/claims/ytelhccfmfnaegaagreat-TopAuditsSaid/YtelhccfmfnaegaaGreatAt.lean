/- Lemmas for topAudits_holds. No conditions. -/
import Derived.Test.YtelhccfmfnaegaaGreatAq
set_option linter.unusedSectionVars false
set_option linter.unusedVariables false
set_option linter.unusedSimpArgs false
set_option linter.defProp false
set_option maxRecDepth 10000
namespace Go.Proofs.YtelhccfmfnaegaaGreat
open Go Go.Sh Tryz
attribute [local irreducible] aT jC gk dV kO dg hex iT jk ae bG aj
abbrev iF:=Nat->bc
abbrev fh:=Nat->Option bc
structure fg (es:List IE) (c:fh):Prop where
 nd:(es.map (·.key)).Nodup
 at_:∀n:Nat,n<180->dz my (n:Int) es=(c n).map B
 key:∀e∈es,∃n:Nat,n<180/\e.key=(n:Int)
 wf:∀n x,c n=some x->n<180/\x.length=128
def cU (X:DX):iF:=λn=>X.view (120+n)
abbrev bI (X:DX) (c:fh):iF:=jR c (cU X)
def fy (c:fh) (n:Nat) (x:bc):fh:=λm=>if m=n then some x else c m
abbrev b8 (p d l m:Nat) (bl:Bool):aK:=lc p 277 [.pointer (some ⟨d,0,none⟩),.pointer (some ⟨l,0,none⟩),iv 120,.map (some m),.bool bl]
def iG (a:bc) (n:Nat):Bool:=(a.getD (n/8) 0).toNat.testBit (n%8)
def jj (a:bc) (n:Nat):bc:=a.set (n/8) (UInt8.ofNat ((a.getD (n/8) 0).toNat^^^2^(n%8)))
theorem CH (a:bc) (n:Nat):(jj a n).length=a.length:=by unfold jj;simp
variable {p0:bc} {n m:Nat} {es:List IE} {ck:Nat} {c:fh} {x:bc} {X:DX} {p d l:Nat} {bl:Bool} {k:Int->Pr} {s:bc} {t:TypeId} {b off:Nat} {T:TypeId} {fr:Nat×Nat} {v:Value}
theorem zy (j:p0.length=128) (hn:n<1024):iG (jj p0 n) m=if m=n then !iG p0 n else iG p0 m:=by
 have f:n/8<128:=om
 unfold iG jj
 have c:(p0.getD (n/8) 0).toNat<256:=(p0.getD (n/8) 0).toNat_lt
 have a:2^(n%8)<2^8:=Bz dE om
 have g:(p0.getD (n/8) 0).toNat^^^2^(n%8)<256:=uy (n:=8) c a
 by_cases e:m/8=n/8
 .rw[e,qC,List.getElem?_set_self om,vX,EG g,Jm,yZ]
  by_cases b:m=n
  .subst b;rw[ak rfl];simp
  .have i:¬(n%8=m%8):=om
   rw[ai b]
   simp only[i,Jd,Bool.xor_false]
 .have b:m≠n:=λd=>e (by rw[d])
  rw[ai b,qC,Je (λd=>e d.symm),<-qC]
theorem SD (x k:Nat):x&&&2^k=if x.testBit k then 2^k else 0:=by
 apply Bu
 intro j
 rw[Jk,yZ]
 by_cases e:k=j
 .subst e
  cases h:x.testBit k with
  |true=>simp
  |false=>simp
 .simp only[e,Jd,vS]
  cases h:x.testBit k with
  |true=>simp[yZ,e]
  |false=>simp
theorem aiq (x:Nat) (k:Nat) (e:x<256) (d:k<8):((IntKind.u8.wrap ((BitVec.ofInt IntKind.u8.bits (x:Int)&&&BitVec.ofInt IntKind.u8.bits ((2^k:Nat):Int)).toNat:Int):Int)==0)=!x.testBit k:=by
 have b:IntKind.u8.bits=8:=rfl
 have a:2^k<2^8:=Bz dE d
 rw[b,iQ,iQ,vT,gW,gW,hU om,hU a,SD]
 cases b:x.testBit k with
 |true=>
  have c:0<2^k:=Nat.pow_pos dE
  simp only[gr,Bl]
  rw[Jx _ om,Es];omega
 |false=>rfl
theorem air (x:Nat) (k:Nat) (b:x<256) (c:k<8):IntKind.u8.wrap ((BitVec.ofInt IntKind.u8.bits (x:Int)^^^BitVec.ofInt IntKind.u8.bits ((2^k:Nat):Int)).toNat:Int)=((x^^^2^k:Nat):Int):=by
 have d:IntKind.u8.bits=8:=rfl
 have a:2^k<2^8:=Bz dE c
 have e:x^^^2^k<256:=uy (n:=8) b a
 rw[d,iQ,iQ,Bv,gW,gW,hU om,hU a]
 exact Jx _ om
theorem ag5 (x y:Operand) (n:Int) (c:Nat) (hc:c<=8):aQ prog (cL .shl 5 x y (i8 n) (iv (c:Int)))=some (.value (i8 (IntKind.u8.wrap (n*2^c)))):=by
 have a:¬((c:Int)<0):=om
 have b:min (c:Int).toNat IntKind.u8.bits=c:=by
  have:IntKind.u8.bits=8:=rfl
  rw[this];omega
 have d:aQ prog (cL .shl 5 x y (i8 n) (iv (c:Int)))=aQ prog (do let v<-Op.shift .shl .u8 n .i64 (c:Int);pure (Next.value v)):=kK
 rw[d,eJ]
 unfold Op.shift
 rw[ai a]
 simp only[b]
 rfl
theorem abA (c:fh) (P:iF) (n:Nat) (x:bc):jR (fy c n x) P=λm=>if m=n then x else jR c P m:=by
 funext m
 unfold jR fy
 by_cases e:m=n
 .rw[ak e,ak e];rfl
 .rw[ai e,ai e]
theorem fg.set (h:fg es c) (hn:n<180) (j:x.length=128):fg (fk my (n:Int) (B x) es ck) (fy c n x):=by
 have a:=j7.iff
 refine⟨w7 a _ _ _ _ h.nd,λm f=>?_,λe g=>?_,λm y b=>?_⟩
 .rw[sp a]
  unfold fy
  by_cases e:m=n
  .subst e
   rw[ak ((a _ _).2 rfl),ak rfl];rfl
  .rw[ai (λd=>e (by have i:(m:Int)=(n:Int):=(a _ _).1 d;omega)),ai e]
   exact h.at_ m f
 .have p:e.key∈(fk my (n:Int) (B x) es ck).map (·.key):=List.mem_map.2 ⟨e,g,rfl⟩
  rcases Classical.em (e.key=(n:Int))with d|d
  .exact⟨n,hn,d⟩
  .have f:=sm a (w7 a (n:Int) (B x) es ck h.nd) g
   rw[sp a,ai (λi=>d ((a _ _).1 i))]at f
   obtain⟨k,l,o,_⟩:=tK a f
   rw[<-o]
   exact h.key k l
 .unfold fy at b
  by_cases e:m=n
  .rw[ak e]at b;cases b;exact⟨om,j⟩
  .rw[ai e]at b;exact h.wf m y b
theorem Pb (h:fg es c) (a:X.Wf) (hn:n<180):(bI X c n).length=128:=by
 unfold bI jR
 cases b:c n with
 |none=>exact a.view _ om
 |some x=>exact(h.wf n x b).2
variable {E w:World} {L:List aK} {F:bh}
theorem xO {k:Bool->Pr} (h:ab E w (b8 p d l m bl::L)) (b:∀a,ab E a (b8 p d l m bl::L)->k true a):CL 204 #[.pointer (some ⟨p,0,none⟩)] aw k w:=by
 refine adR ?_
 refine dw (x:=true) kK ?_
 refine aL ?_
 refine aR rfl ?_
 refine aq ?_
 refine ld h ?_
 refine dw (x:=true) kK ?_
 refine ao λ_=>?_
 exact b _ h
theorem uQ (h:ab E w (aj d X::b8 p d l m bl::L)) (b:∀a,ab E a (aj d X::b8 p d l m bl::L)->k 180 a):CL 199 #[.pointer (some ⟨p,0,none⟩)] ah k w:=by
 refine adL ?_
 refine xO (h.pick (A:=b8 p d l m bl) pK) λw h=>?_
 refine ar rfl ?_
 refine dr h λw h=>?_
 refine aq ?_
 refine ld h ?_
 refine aq ?_
 refine ld h ?_
 refine xN (h.pick (A:=aj d X) pK) λw h=>?_
 refine lk h ?_
 exact b _ h
theorem Ce (h:ab E w (aj d X::b8 p d l m bl::L)) (hn:n<180) (e:∀c,ab E c (aj d X::b8 p d l m bl::L)->k 0 c):CL 251 #[.pointer (some ⟨p,0,none⟩),iv (n:Int)] ah k w:=by
 refine aeC ?_
 refine xO (h.pick (A:=b8 p d l m bl) pK) λw h=>?_
 refine ar rfl ?_
 refine aL ?_
 refine ar (Aw (a:=(n:Int)) (b:=0) om) ?_
 refine uQ (h.sub (M:=aj d X::b8 p d l m bl::L) sS) λw h=>?_
 refine ao λ_=>?_
 have f:¬(n:Int)>=180:=om
 refine ar (eM f) ?_
 exact e _ h
theorem Lh {k:ByteArray->Pr} (h:ab E w L) (b:∀a,ab E a L->k (B dI) a):CL 254 #[] an k w:=by
 refine aeF ?_
 refine HJ (ls:=dW) (n:=128) (((0:Int),()):bK dW) h om λs w c h=>?_
 refine tr (e:=5) (bs:=List.replicate 128 0) kK kK kK ?_ (b _ h.drop)
 have:=h.iJ
 exact this
theorem Li {k:ByteArray->Pr} (h:ab E w L) (hs:s.length<=128) (b:∀a,ab E a L->k (B (gu s)) a):CL 255 #[.string (B s)] an k w:=by
 refine aeG ?_
 refine Lh h λw h=>?_
 refine vC (m:=s.length) (by rw[cJ]) (by rw[um];omega) ?_
 have e:dI.drop s.length=List.replicate (128-s.length) 0:=by unfold dI;rw[Jp]
 rw[e]
 refine cc (by simp;omega) ?_
 exact b _ h
theorem JW (l:bc) (b:UInt8):lX (l++[b])=if b=0 then lX l else l++[b]:=by
 unfold lX
 rw[Eu,RF,RG,RY]
 by_cases a:b=0
 .rw[ak (by simpa using a),ak a]
 .rw[ai (by simpa using a),ai a];simp
theorem US {t:bc} {k:ByteArray->Pr} (h:ab E w L) (r:t.length<=1000) (l:∀n,ab E n L->k (B (lX t)) n):CL 259 #[.string (B t)] an k w:=by
 refine aeK ?_
 refine uD (S:=ByteArray) (λs w=>∃q:bc,s=B q/\lX q=lX t/\q.length<=1000/\ab E w L) (λs _=>s.size) ⟨t,rfl,rfl,r,h⟩ ?_
 rintro next s w ⟨q,rfl,d,u,h⟩ c
 refine ao λ_=>?_
 have o:(⟨#[]⟩:ByteArray)=B []:=rfl
 rcases EL q with rfl|⟨a,b,rfl⟩
 .refine aL ?_
  refine ar (by rw[o];simp) ?_
  refine ao λ_=>?_
  refine ar rfl ?_
  refine fin (l _ h) ?_
  rw[<-d];rfl
 .rw[EM]at*
  rw[JW]at d
  have e:(a++[b]).length=a.length+1:=sI
  have v:w6 (((B (a++[b])).size:Int)-1)=((a.length:Nat):Int):=by rw[cJ,e,bQ om];omega
  refine aL ?_
  refine aR ?_ ?_
  .rw[o,iK]
   have:¬B (a++[b])=B []:=λf=>by have:=pG.1 f;simp at this
   rw[eM this];rfl
  rw[v]
  refine mJ (i:=a.length) sI ?_
  have x:(a++[b])[a.length]'sI=b:=sI
  rw[x]
  refine ao λ_=>?_
  refine ax (λg=>?_) (λg=>?_)
  .have j:b=0:=by
     have p:((b.toNat:Nat):Int)=0:=ek g
     exact UInt8.toNat_inj.1 (by simpa using(by omega:b.toNat=0))
   rw[ak j]at d
   refine tS (m:=a.length) rfl sI ?_
   rw[vW]
   refine c _ _ ⟨a,rfl,d,om,h⟩ ?_
   rw[cJ,cJ];simp
  .have j:b≠0:=by
     have p:¬((b.toNat:Nat):Int)=0:=ei g
     intro f;subst f;exact p rfl
   rw[ai j]at d
   rw[d]
   exact l _ h
theorem FC {k:ByteArray×Int×Unit->Pr} (h:ab E w (aj d X::b8 p d l m bl::cQ m es ck::L)) (hc:fg es c) (hn:n<180) (f:∀g,ab E g (aj d X::b8 p d l m bl::cQ m es ck::L)->k (B (bI X c n),0,()) g):
  CL 203 #[.pointer (some ⟨p,0,none⟩),iv (n:Int)] (.aG [.leaf .str,.leaf (.int .i64)]) k w:=by
 refine adQ ?_
 refine Ce h hn λw h=>?_
 refine ar rfl ?_
 refine aq ?_
 refine ld (x:=some m) h ?_
 refine yj (K:=3) (V:=9) (kl:=.int .i64) (vl:=.leaf .str) (x:=(n:Int)) (z:=(⟨#[]⟩:ByteArray)) kK j7 kK h pK ?_
 have a:=hc.at_ n hn
 cases i:dz my (n:Int) es with
 |some v=>
  rw[i]at a
  refine aR rfl ?_
  refine fin (f _ h) ?_
  cases b:c n with
  |none=>rw[b]at a;cases a
  |some x=>
   rw[b]at a
   have e:v=B x:=ja a
   unfold bI jR
   rw[b,e];rfl
 |none=>
  rw[i]at a
  refine ar rfl ?_
  refine dr h λw h=>?_
  refine aq ?_
  refine ld h ?_
  refine aq ?_
  refine ld h ?_
  have j:w6 (120+(n:Int))=((120+n:Nat):Int):=by rw[bQ om];omega
  rw[j]
  refine Cf (h.pick (A:=aj d X) pK) om λw h=>?_
  refine lk h ?_
  refine fin (f _ h) ?_
  cases b:c n with
  |none=>unfold bI jR;rw[b];rfl
  |some x=>rw[b]at a;cases a
theorem Ur (h:ab E w (aj d X::b8 p d l m bl::cQ m es ck::L)) (hc:fg es c) (hn:n<180) (j:n≠0) (hs:s.length<=128)
  (g:∀a b f,fg a (fy c n (gu s))->ab E f (aj d X::b8 p d l m bl::cQ m a b::L)->k 0 f):CL 202 #[.pointer (some ⟨p,0,none⟩),iv (n:Int),.string (B s)] ah k w:=by
 refine adP ?_
 refine Ce h hn λw h=>?_
 refine ar rfl ?_
 have i:¬(n:Int)=0:=om
 refine ar (beq_eq_false_iff_ne.2 i) ?_
 have e:¬((B s).size:Int)>128:=by rw[cJ];omega
 refine ar (eM e) ?_
 refine dr h λw h=>?_
 refine aq ?_
 refine ld (x:=some m) h ?_
 refine Li h hs λw h=>?_
 refine lk h ?_
 refine mw (K:=3) (V:=9) (kl:=.int .i64) (vl:=.leaf .str) (x:=(n:Int)) (v:=B (gu s)) kK j7 h pK λw h=>?_
 exact g _ _ _ (hc.set hn (DB hs)) (h.sub sS)
theorem Le (h:ab E w L) (d:∀c,ab E c L->k ((2^(n%8):Nat):Int) c):CL 252 #[iv (n:Int)] (.one (.leaf (.int .u8))) k w:=by
 refine aeD ?_
 have e:Int.tmod (n:Int) 8=((n%8:Nat):Int):=rfl
 rw[e]
 have b:n%8<8:=qu _ dE
 generalize n%8=q at*
 have a:2^q<2^8:=Bz dE b
 refine jF (x:=IntKind.u8.wrap (1*2^q)) (ag5 _ _ 1 q om) ?_
 have f:IntKind.u8.wrap (1*2^q)=((2^q:Nat):Int):=by
  have g:(1:Int)*2^q=((2^q:Nat):Int):=sI
  have i:∀z:Nat,z<256->IntKind.u8.wrap (z:Int)=(z:Int):=λz j=>Jx _ om
  rw[g]
  exact i _ a
 rw[f]
 exact d _ h
theorem Cb {k:Bool->Pr} (h:ab E w (aj d X::b8 p d l m bl::cQ m es ck::L)) (g:X.Wf) (hc:fg es c) (hn:n<180) (a:∀b,ab E b (aj d X::b8 p d l m bl::cQ m es ck::L)->k (decide (n≠0)&&!iG (bI X c 0) n) b):
  CL 200 #[.pointer (some ⟨p,0,none⟩),iv (n:Int)] aw k w:=by
 refine adN ?_
 refine aL ?_
 by_cases e:n=0
 .subst e
  refine aR rfl ?_
  refine ao λ_=>?_
  refine aR rfl ?_
  exact a _ h
 have i:¬(n:Int)=0:=om
 refine ar (beq_eq_false_iff_ne.2 i) ?_
 refine Ce h hn λw h=>?_
 refine ao λ_=>?_
 refine ar rfl ?_
 refine FC (n:=0) h hc om λw h=>?_
 refine dr h λw h=>?_
 have j:w6 (Int.tdiv (n:Int) 8)=((n/8:Nat):Int):=by
  have:Int.tdiv (n:Int) 8=((n/8:Nat):Int):=rfl
  rw[this,bQ om]
 rw[j]
 have o:=Pb hc g (n:=0) om
 have f:n/8<(bI X c 0).length:=om
 refine mJ f ?_
 refine Le h λw h=>?_
 refine fin (a _ h) ?_
 rw[aiq _ _ ((bI X c 0)[n/8].toNat_lt) (qu _ dE),eu e,hI]
 unfold iG
 rw[qC,fA f];rfl
def eC (P:iF) (n:Nat):Bool:=decide (n≠0)&&!iG (P 0) n
def kJ (P:iF):Nat:=((List.range 180).filter (eC P)).length
theorem WM {c:Array Value} {k:Pr}
  (h:ab E w (aT b (.cells c T fr)::L)) (f:EV fr c.size) (hn:aQ prog (sizeOf t)=some 1) (dy:off<c.size) (hv:j9 v=true)
  (g:∀w',ab E w' (aT b (.cells (c.setIfInBounds off v) T fr)::L)->k w'):lv prog (uN (Instr.storeAt t (.pointer (some ⟨b,off,none⟩)) v)) k w:=by
 refine⟨_,xk ?_,g _ h.set⟩
 unfold Instr.storeAt
 rw[da (a:=⟨b,off,none⟩) (w':=w) rfl]
 unfold storeVar
 rw[ke hn]
 have d:v.cells.size=1:=by cases v<;>first|rfl|cases hv
 have e:v.cells.toList=[v]:=by cases v<;>first|rfl|cases hv
 simp only[d,uo,Bg,fF]
 rw[e]
 simp only[storeCells]
 rw[iC,sO,da (Qc h.own dy f hv)]
 rfl
theorem Lg {k:Unit->Pr} (h:ab E w (aj d X::b8 p d l m bl::cQ m es ck::L)) (S:X.Wf) (hc:fg es c) (hn:n<180)
  (D:∀g G N,fg g (fy c 0 (jj (bI X c 0) n))->ab E N (aj d X::b8 p d l m bl::cQ m g G::L)->k () N):CL 253 #[.pointer (some ⟨p,0,none⟩),iv (n:Int)] (.aG []) k w:=by
 have T:=Pb hc S (n:=0) om
 have H:=hc.set (ck:=ck) (n:=0) (x:=jj (bI X c 0) n) om (by rw[CH];exact T)
 refine aeE ?_
 refine FC (n:=0) h hc om λw h=>?_
 unfold jj at H D
 generalize bI X c 0=e at*
 refine xY h λt w U=>?_
 obtain⟨b,pre,a,O,A,P,Q,q,i,R,I,h⟩:=U.out
 have W:w6 (Int.tdiv (n:Int) 8)=((n/8:Nat):Int):=by
  have:Int.tdiv (n:Int) 8=((n/8:Nat):Int):=rfl
  rw[this,bQ om]
 have C:n/8<e.length:=om
 have f:(⟨q++(jg e++a)⟩:Array Value)[pre+n/8]?=some (.int .u8 ((e[n/8].toNat:Nat):Int)):=by
  rw[oo,gZ om,i,Bw,g0 (by simpa using C)]
  simp[C]
 refine dr h λw h=>?_
 rw[W]
 refine ui (Te:=5) (sz:=1) kK kK A om om ?_
 rw[iC,kW,py]
 refine GA (l:=.int .u8) (x:=((e[n/8].toNat:Nat):Int)) h.own kK rfl f ?_
 refine Le h λw h=>?_
 refine lk (off:=pre+n/8) h ?_ rfl .head f kK
 refine ui (Te:=5) (sz:=1) kK kK A om om ?_
 rw[iC,kW,py]
 rw[air _ _ (e[n/8].toNat_lt) (qu _ dE)]
 have J:e[n/8].toNat<256:=e[n/8].toNat_lt
 have j:2^(n%8)<2^8:=Bz dE (qu _ dE)
 have M:e[n/8].toNat^^^2^(n%8)<256:=uy (n:=8) J j
 have o:e.getD (n/8) 0=e[n/8]:=by rw[qC,fA C];rfl
 rw[o]at H D
 have r:((e[n/8].toNat^^^2^(n%8):Nat):Int)=(((UInt8.ofNat (e[n/8].toNat^^^2^(n%8))).toNat:Nat):Int):=by rw[EG M]
 rw[r]
 generalize UInt8.ofNat (e[n/8].toNat^^^2^(n%8))=y at*
 have u:(⟨q++(jg e++a)⟩:Array Value).setIfInBounds (pre+n/8) (.int .u8 ((y.toNat:Nat):Int))=⟨q++(jg (e.set (n/8) y)++a)⟩:=by
  simp only[IY]
  congr 1
  rw[vL _ _ om,i,Bw,IZ _ _ (by simpa using C)]
  congr 2
  show(e.map λb=>Value.int .u8 b.toNat).set (n/8) ((λb:UInt8=>Value.int .u8 b.toNat) y)=(e.set (n/8) y).map λb=>Value.int .u8 b.toNat
  rw[List.map_set]
 refine WM h (by simpa[i]using I) kK (by simp;omega) rfl λw h=>?_
 rw[u]at h
 have z:BF E w (aj d X::b8 p d l m bl::cQ m es ck::L) t (e.set (n/8) y):=⟨b,pre,a,O,A,by rw[xy];exact P,Q,q,i,R,by rw[xy];exact I,h⟩
 refine dr h λw h=>?_
 have z:BF E w (aj d X::b8 p d l m bl::cQ m es ck::L) t (e.set (n/8) y):=⟨b,pre,a,O,A,by rw[xy];exact P,Q,q,i,R,by rw[xy];exact I,h⟩
 refine aq ?_
 refine ld (x:=some m) h ?_
 refine z.str ?_
 refine mw (K:=3) (V:=9) (kl:=.int .i64) (vl:=.leaf .str) (x:=(0:Int)) (v:=B (e.set (n/8) y)) kK j7 h pK λw h=>?_
 exact D _ _ _ H (h.sub sS)
theorem UK (h:ab E w (aj d X::b8 p d l m bl::cQ m es ck::L)) (r:X.Wf) (hc:fg es c) (t:∀n,ab E n (aj d X::b8 p d l m bl::cQ m es ck::L)->k ((kJ (bI X c):Nat):Int) n):
  CL 238 #[.pointer (some ⟨p,0,none⟩)] ah k w:=by
 refine aeo ?_
 refine uQ h λw h=>?_
 refine cy (S:=Int×Int) (cf:=λs=>s.2) 180 rfl (λi s w=>s.1=((((List.range i).filter (eC (bI X c))).length:Nat):Int)/\ab E w (aj d X::b8 p d l m bl::cQ m es ck::L)) rfl ⟨rfl,h⟩ ?_ ?_
 .rintro next ⟨a,_⟩ w i o rfl ⟨f,h⟩ b
  simp only at f
  subst f
  have u:((List.range i).filter (eC (bI X c))).length<=i:=by
   have:=gV (eC (bI X c)) (List.range i)
   rw[px]at this;exact this
  refine br (λs w=>s=((((List.range (i+1)).filter (eC (bI X c))).length:Nat):Int)/\ab E w (aj d X::b8 p d l m bl::cQ m es ck::L)) (λs w v=>?_) λJ g=>?_
  .obtain⟨rfl,h⟩:=v
   exact .go λ_=>b _ _ (bV o om) ⟨rfl,h⟩
  .refine Cb h r hc o λw h=>?_
   rw[qz,nC,aU]at g
   have e:(decide (i≠0)&&!iG (bI X c 0) i)=eC (bI X c) i:=rfl
   rw[e]
   refine ax (λj=>?_) (λj=>?_)
   .refine g _ _ ⟨?_,h⟩
    rw[jr,ak j,bQ om];simp
   .refine g _ _ ⟨?_,h⟩
    rw[jr,ai (by rw[j];decide)];simp
 .rintro⟨a,_⟩ w ⟨f,h⟩
  simp only at f
  subst f
  exact t _ h
theorem Uq {k:Int×Int×Unit->Pr} (h:ab E w (aj d X::b8 p d l m bl::cQ m es ck::L)) (z:X.Wf) (hc:fg es c) (r:0<kJ (bI X c))
  (D:∀n b g C,n<180->eC (bI X c) n=true->(∀j,j<n->eC (bI X c) j=false)->fg b (fy (fy c 0 (jj (bI X c 0) n)) n dI)->ab E C (aj d X::b8 p d l m bl::cQ m b g::L)->k ((n:Int),0,()) C):
  CL 201 #[.pointer (some ⟨p,0,none⟩)] (.aG [.leaf (.int .i64),.leaf (.int .i64)]) k w:=by
 refine adO ?_
 refine xO (h.pick (A:=b8 p d l m bl) pK) λw h=>?_
 refine ar rfl ?_
 refine uQ (h.sub (M:=aj d X::b8 p d l m bl::cQ m es ck::L) sS) λw h=>?_
 refine cy (S:=Int) (cf:=λs=>s) 180 rfl (λi s w=>(∀j,j<i->eC (bI X c) j=false)/\ab E w (aj d X::b8 p d l m bl::cQ m es ck::L)) rfl ⟨λj t=>by omega,h⟩ ?_ ?_
 .rintro next _ w i o rfl ⟨a,h⟩ f
  refine Cb h z hc o λw h=>?_
  have e:(decide (i≠0)&&!iG (bI X c 0) i)=eC (bI X c) i:=rfl
  rw[e]
  refine ax (λu=>?_) (λu=>?_)
  .refine Lg h z hc o λb g w y h=>?_
   refine dr h λw h=>?_
   refine aq ?_
   refine ld (x:=some m) h ?_
   refine Lh h λw h=>?_
   refine lk h ?_
   refine mw (K:=3) (V:=9) (kl:=.int .i64) (vl:=.leaf .str) (x:=(i:Int)) (v:=B dI) kK j7 h pK λw h=>?_
   exact D i _ _ _ o u a (y.set o um) (h.sub sS)
  .refine f _ _ (bV o om) ⟨λj t=>?_,h⟩
   by_cases G:j=i
   .rw[G];exact u
   .exact a j om
 .rintro _ w ⟨a,h⟩
  exfalso
  unfold kJ at r
  have:(List.range 180).filter (eC (bI X c))=[]:=by
   rw[RP]
   intro j t
   rw[a j (List.mem_range.1 t)];decide
  rw[this]at r;simp at r
theorem UI (h:ab E w (aj d X::b8 p d l m bl::cQ m es ck::L)) (f:X.Wf) (hc:fg es c) (hn:n<180) (r:n≠0) (i:iG (bI X c 0) n=true)
  (j:∀a b g,fg a (fy c 0 (jj (bI X c 0) n))->ab E g (aj d X::b8 p d l m bl::cQ m a b::L)->k 0 g):CL 237 #[.pointer (some ⟨p,0,none⟩),iv (n:Int)] ah k w:=by
 refine aen ?_
 refine Ce h hn λw h=>?_
 refine ar rfl ?_
 have o:¬(n:Int)=0:=om
 refine ar (beq_eq_false_iff_ne.2 o) ?_
 refine Cb h f hc hn λw h=>?_
 refine ar (by rw[i];simp) ?_
 refine Lg h f hc hn λa b w e h=>?_
 exact j _ _ _ e h
end Go.Proofs.YtelhccfmfnaegaaGreat
namespace Go.Proofs.YtelhccfmfnaegaaGreat
open Go Go.Sh Tryz
attribute [local irreducible] aT jC gk dV kO dg hex iT jk ae aj
variable {E w:World} {L L':List aK} {K V R:TypeId} {kl:bD} {vl:cE} {r ck:Nat} {k:Int->Pr} {c:fh} {n:Nat} {es:List IE} {t:bc} {p d l m m2:Nat} {bl:Bool} {X:DX} {i:Nat} {x:bc} {T b:Nat} {u:Int} {rs:Sl} {ca:List bc} {S:Type} {s:S} {f:FuncId} {bound zL pL:Array Value} {Y:DX} {a:dt} {P Q:Nat->bc} {U:Nat}
theorem CN {T:TypeId} {es:List (dd kl.den vl.den)} (h:ab E w L) (p:b6 L (bG kl vl r es ck) L') (a:aQ prog (underlying T)=some (.map K V)) (b:k (es.length:Int) w):
  dQ prog (vN (Builtin.len_ #[T] R #[.map (some r)])) ah k w:=by
 have c:=(h.pick p).own
 refine⟨_,eE ?_,b⟩
 unfold Builtin.len_
 simp only[oo,Eh]
 rw[da (cd _ a w)]
 simp only
 rw[da (xi c)]
 simp only[Ej,bW]
 rfl
theorem lL {α:Type}:∀{l m:List α},l.Nodup->(∀x∈l,x∈m)->l.length<=m.length
 |[],m,_,_=>jt _
 |x::l,m,c,a=>by
  obtain⟨d,e⟩:=List.nodup_cons.1 c
  obtain⟨i,f,rfl⟩:=List.mem_iff_getElem.1 (a _ eo)
  have g:=lL (l:=l) (m:=m.eraseIdx i) e λy b=>by
   rw[List.mem_eraseIdx_iff_getElem]
   obtain⟨j,k,rfl⟩:=List.mem_iff_getElem.1 (a y (dH _ b))
   exact⟨j,k,λn=>d (by subst n;exact b),rfl⟩
  rw[List.length_eraseIdx,ak f]at g
  rw[db];omega
def dX (c:fh):List Nat:=(List.range 180).filter λn=>(c n).isSome
theorem x0:n∈dX c↔n<180/\∃x,c n=some x:=by
 unfold dX
 rw[Bf,yT,Option.isSome_iff_exists]
theorem VW (c:fh):(dX c).Nodup:=List.filter_sublist.nodup Ro
theorem abb {l:List Nat} (h:l.Nodup):(l.map λn:Nat=>(n:Int)).Nodup:=by
 induction l with
 |nil=>exact qp
 |cons a l c=>
  obtain⟨d,e⟩:=List.nodup_cons.1 h
  rw[eZ]
  refine List.nodup_cons.2 ⟨λf=>?_,c e⟩
  obtain⟨b,g,i⟩:=List.mem_map.1 f
  have:b=a:=om
  exact d (this▸g)
theorem fg.len (h:fg es c):es.length=dm c:=by
 have a:=j7.iff
 have e:dm c=(dX c).length:=rfl
 have t:es.length<=(dX c).length:=by
  have:=lL (l:=es.map (·.key)) (m:=(dX c).map λn:Nat=>(n:Int)) h.nd λx g=>by
   obtain⟨q,i,rfl⟩:=List.mem_map.1 g
   obtain⟨n,d,f⟩:=h.key q i
   refine List.mem_map.2 ⟨n,x0.2 ⟨d,?_⟩,f.symm⟩
   have j:=sm a h.nd i
   have b:=h.at_ n d
   rw[f]at j
   rw[j]at b
   cases k:c n with
   |none=>rw[k]at b;cases b
   |some x=>exact⟨x,rfl⟩
  rw[bW,bW]at this
  exact this
 have u:(dX c).length<=es.length:=by
  have:=lL (l:=(dX c).map λn:Nat=>(n:Int)) (m:=es.map (·.key)) (abb (VW c)) λx g=>by
   obtain⟨n,d,rfl⟩:=List.mem_map.1 g
   obtain⟨o,y,p⟩:=x0.1 d
   have b:=h.at_ n o
   rw[p]at b
   obtain⟨e,r,f,_⟩:=tK a b
   exact List.mem_map.2 ⟨e,r,f⟩
  rw[bW,bW]at this
  exact this
 omega
theorem zw:∀t:bc,(lX t).length<=t.length/\lX t++List.replicate (t.length-(lX t).length) 0=t:=by
 intro t
 induction a:t.length generalizing t with
 |zero=>
  have:t=[]:=List.length_eq_zero_iff.1 a
  subst this;exact⟨cV _,rfl⟩
 |succ n d=>
  rcases EL t with rfl|⟨q,b,rfl⟩
  .cases a
  .rw[EM]at*
   have f:q.length=n:=by simpa using a
   obtain⟨i,g⟩:=d q f
   rw[JW]
   by_cases c:b=0
   .subst c
    rw[ak rfl]
    refine⟨om,?_⟩
    have e:n+1-(lX q).length=(n-(lX q).length)+1:=om
    rw[e,RZ,<-cP,g]
   .rw[ai c]
    refine⟨by simp;omega,?_⟩
    have e:n+1-(q++[b]).length=0:=by simp;omega
    rw[e];simp
theorem abK (h:t.length=128):gu (lX t)=t:=by
 have:=(zw t).2
 rw[h]at this
 exact this
theorem Pg (h:fg es c) (hn:n<180):(jS c n).length<=150:=by
 unfold jS
 cases a:c n with
 |none=>simp
 |some x=>
  have b:=(h.wf n x a).2
  have d:=(zw x).1
  have e:=cD (n:=n) om
  have f:=cD (n:=(lX x).length) om
  simp only[aU]
  unfold cz
  rw[aU];omega
theorem Ph (h:fg es c) (i:Nat) (hi:i<=180):((List.range i).flatMap (jS c)).length<=150*i:=by
 induction i with
 |zero=>simp
 |succ i a=>
  have:=Pg h (n:=i) om
  have:=a om
  rw[qz,gM,aU]
  have e:[i].flatMap (jS c)=jS c i:=sI
  rw[e];omega
theorem MT {α β:Type} (f:α->List β) (q:α->Bool):∀l:List α,(∀x∈l,q x=false->f x=[])->(l.filter q).flatMap f=l.flatMap f
 |[],_=>rfl
 |x::l,h=>by
  rw[jr,fc]
  have a:=MT f q l λy b=>h y (dH _ b)
  cases c:q x with
  |true=>rw[ak rfl,fc,a]
  |false=>rw[ai dE,a,h x eo c];rfl
theorem agP (c:fh):cO c=aH (dX c).length++(dX c).flatMap (jS c):=by
 unfold cO
 have e:dm c=(dX c).length:=rfl
 rw[e]
 congr 1
 unfold dX
 rw[MT]
 intro n _ a
 unfold jS
 cases b:c n with
 |none=>rfl
 |some x=>rw[b]at a;cases a
theorem Ct (c:fh):(dX c).length<=180:=by
 unfold dX
 have:=gV (λn=>(c n).isSome) (List.range 180)
 rw[px]at this;exact this
theorem agQ (h:fg es c):(cO c).length<=27100:=by
 have a:=Ph h 180 (cV _)
 have b:=Ct c
 have d:=cD (n:=dm c) (by show(dX c).length<_;omega)
 unfold cO
 rw[aU];omega
variable {F:bh}
theorem FE {k:ByteArray->Pr} (h:ab E w (aj d X::b8 p d l m bl::cQ m2 es ck::L)) (hc:fg es c) (A:∀u,ab E u (aj d X::b8 p d l m bl::cQ m2 es ck::L)->k (B (cO c)) u):
  CL 205 #[.pointer (some ⟨p,0,none⟩),.map (some m2)] an k w:=by
 have C:=Ct c
 have D:dm c=(dX c).length:=rfl
 have M:=cD (n:=dm c) om
 refine adS ?_
 refine CN (T:=214) (K:=3) (V:=9) h (.tail (.tail .head)) kK ?_
 rw[hc.len,ug om]
 refine nf h om λw h=>?_
 refine uQ h λw h=>?_
 refine cy (S:=ByteArray×Int) (cf:=λs=>s.2) 180 rfl (λi s w=>s.1=B (aH (dm c)++(List.range i).flatMap (jS c))/\ab E w (aj d X::b8 p d l m bl::cQ m2 es ck::L)) rfl ⟨sI,h⟩ ?_ ?_
 .rintro next ⟨a,_⟩ w i r rfl ⟨j,h⟩ g
  simp only at j
  subst j
  have G:=Ph hc i om
  have k8:=Pg hc r
  refine br (λs w=>s=B (aH (dm c)++(List.range (i+1)).flatMap (jS c))/\ab E w (aj d X::b8 p d l m bl::cQ m2 es ck::L)) (λs w H=>?_) λJ t=>?_
  .obtain⟨rfl,h⟩:=H
   exact .go λ_=>g _ _ (bV r om) ⟨rfl,h⟩
  rw[qz,gM]at t
  refine yj (K:=3) (V:=9) (kl:=.int .i64) (vl:=.leaf .str) (x:=(i:Int)) (z:=(⟨#[]⟩:ByteArray)) kK j7 kK h pK ?_
  have b:=hc.at_ i r
  cases y:dz my (i:Int) es with
  |some v=>
   rw[y]at b
   refine aR rfl ?_
   cases f:c i with
   |none=>rw[f]at b;cases b
   |some x=>
    rw[f]at b
    have e:v=B x:=ja b
    subst e
    have N:=(hc.wf i x f).2
    have I:=(zw x).1
    have o:jS c i=aH i++cz (lX x):=by unfold jS;rw[f]
    rw[o,aU]at k8
    rw[ug om]
    refine nf h om λw h=>?_
    refine US h om λw h=>?_
    refine th h om λw h=>?_
    refine cc om ?_
    refine cc (by rw[aU,aU];omega) ?_
    refine t _ _ ⟨?_,h⟩
    rw[cP]
    simp[o]
  |none=>
   rw[y]at b
   refine ar rfl ?_
   cases f:c i with
   |some x=>rw[f]at b;cases b
   |none=>
    refine t _ _ ⟨?_,h⟩
    have o:jS c i=[]:=by unfold jS;rw[f]
    simp[o]
 .rintro⟨a,_⟩ w ⟨j,h⟩
  simp only at j
  subst j
  exact A _ h
def u0 (c:fh) (i:Nat):fh:=λn=>if n∈(dX c).take i then c n else none
theorem Wq (c:fh):u0 c 0=λ_=>none:=by funext n;unfold u0;simp
theorem Wp (hi:i<(dX c).length) (d:c (dX c)[i]=some x):u0 c (i+1)=fy (u0 c i) (dX c)[i] x:=by
 funext n
 unfold u0 fy
 rw[cR hi]
 by_cases e:n=(dX c)[i]
 .subst e
  rw[ak (List.mem_append.2 (.inr (List.mem_singleton.2 rfl))),ak rfl];exact d
 .rw[ai e]
  show _=if n∈(dX c).take i then c n else none
  by_cases b:n∈(dX c).take i
  .rw[ak (List.mem_append.2 (.inl b)),ak b]
  .rw[ai (λa=>by rcases List.mem_append.1 a with a|a;exact b a;exact e (by simpa using a)),ai b]
theorem Wo (b:∀n x,c n=some x->n<180/\x.length=128):u0 c (dX c).length=c:=by
 funext n
 unfold u0
 rw[cB]
 split
 .rfl
 .rename_i d
  cases a:c n with
  |none=>rfl
  |some x=>exact(d (x0.2 ⟨(b n x a).1,x,a⟩)).elim
theorem fg.nil:fg [] (λ_=>none):=⟨qp,λn _=>rfl,λe a=>(by cases a),λn x b=>by cases b⟩
theorem UR {k:Option Nat×Bool×Unit->Pr} (h:ab E w (aj d X::b8 p d l m bl::L)) (C:∀n x,c n=some x->n<180/\x.length=128) (D:(cO c).length<=1000000)
  (H:∀g b j G,fg b c->ab E G (aj d X::b8 p d l m bl::cQ g b j::L)->k (some g,true,()) G):CL 250 #[.pointer (some ⟨p,0,none⟩),.string (B (cO c))] (.aG [.leaf .map,.leaf .bool]) k w:=by
 have I:=Ct c
 have d0:(cO c).drop 0=aH (dX c).length++(dX c).flatMap (jS c):=by rw[mi];exact agP c
 have J:=fj d0
 refine aeB ?_
 refine tg h λt w h=>?_
 refine nP h λg w h=>?_
 rw[<-qf (kl:=.int .i64) (vl:=.leaf .str)]at h
 refine nL (pos:=0) (h.pick (A:=be t _ 0 0) pK) om d0 om λw h=>?_
 refine gD (S:=Int) (dX c).length (λi s w=>s=(((dX c).length-i:Nat):Int)/\∃pos b j,(cO c).drop pos=((dX c).drop i).flatMap (jS c)/\fg b (u0 c i)/\ab E w (be t (cO c) (pos:Nat) 0::aj d X::b8 p d l m bl::cQ g b j::L)) ⟨rfl,_,[],0,J,by rw[Wq];exact .nil,h.sub sS⟩ ?_
 rintro next s w i hi ⟨rfl,pos,b,j,hd,a,h⟩ e
 refine ao λ_=>?_
 refine aL ?_
 refine ax (λu=>?_) (λu=>?_)
 .have cH:i<(dX c).length:=by have N:(((dX c).length-i:Nat):Int)>0:=cT u;omega
  refine pO h λw h=>?_
  refine ao λ_=>?_
  refine aR rfl ?_
  have O:=cp cH
  obtain⟨P,x,y⟩:=x0.1 O
  have o:=(C _ x y).2
  have Q:=(zw x).1
  have f:=Wp cH y
  rw[iB cH,fc]at hd
  have R:jS c (dX c)[i]=aH (dX c)[i]++cz (lX x):=by unfold jS;rw[y]
  rw[R,cP]at hd
  generalize (dX c)[i]=n at*
  have e1:=fj hd
  have T:=fj e1
  refine nL h om hd om λw h=>?_
  refine wq h om e1 om λw h=>?_
  refine uQ (h.bF (A1:=aj d X) (A2:=b8 p d l m bl) pK pK) λw h=>?_
  have r:IntKind.u64.wrap 180=180:=dE
  rw[r]
  have U:¬(n:Int)>=180:=om
  have W:¬((B (lX x)).size:Int)>128:=by rw[cJ];omega
  refine aL ?_
  refine ar (eM U) ?_
  refine ao λ_=>?_
  refine ar (eM W) ?_
  refine Li h om λw h=>?_
  rw[abK o]
  have Y:w6 (n:Int)=(n:Int):=bQ om
  rw[Y]
  refine mw (K:=3) (V:=9) (kl:=.int .i64) (vl:=.leaf .str) (x:=(n:Int)) (v:=B x) kK j7 h pK λw h=>?_
  have z:IntKind.u64.wrap ((((dX c).length-i:Nat):Int)-1)=(((dX c).length-(i+1):Nat):Int):=by rw[u64_in om];omega
  rw[z]
  refine e cH _ _ ⟨rfl,_,_,_,T,?_,h.sub sS⟩
  rw[f]
  exact a.set P o
 .have cH:i=(dX c).length:=by have N:¬(((dX c).length-i:Nat):Int)>0:=cF u;omega
  subst cH
  rw[Wo C]at a
  refine ao λ_=>?_
  refine ar rfl ?_
  refine FE (h.sub (M:=aj d X::b8 p d l m bl::cQ g b j::be t (cO c) pos 0::L) sS) a λw h=>?_
  have Z:((B (cO c)).toList==(B (cO c)).toList)=true:=sI
  rw[Z]
  exact H _ _ _ _ a (h.sub sS)
def l6 (c:fh) (i:Nat):List Wr:=(List.range i).filterMap λn=>(c n).map λx=>(120+n,x)
theorem C3 (c:fh):l6 c 180=eN c:=rfl
theorem Hc (c:fh) (i:Nat):l6 c (i+1)=l6 c i++(match c i with|none=>[]|some x=>[(120+i,x)]):=by
 unfold l6
 rw[qz,RV]
 congr 1
 cases h:c i<;>simp[h]
theorem C4 (c:fh) (i:Nat):(l6 c i).length<=i:=by
 unfold l6
 have:=List.length_filterMap_le (λn=>(c n).map λx=>((120+n,x):Wr)) (List.range i)
 rw[px]at this;exact this
theorem NN (c:fh):∀(j i:Nat),∃r,l6 c (i+j)=l6 c i++r
 |0,i=>⟨[],sI⟩
 |j+1,i=>by
  obtain⟨r,a⟩:=NN c j i
  rw[show i+(j+1)=(i+j)+1 by omega,Hc,a]
  exact⟨_,cP _ _ _⟩
theorem Rh (a b:List Wr):cN (a++b)=cN a++cN b:=by unfold cN;rw[fe]
def jo (T:Nat):List ju:=.fl::eY T (T+1)
theorem HZ (c:fh) (T:Nat):mH c T=cN (eN c)++jo T:=rfl
theorem KY (h:ab E w (aj d X::b8 p d l m bl::cQ m2 es ck::L)) (hc:fg es c) (hn:X.c.length+180<1000000)
  (o:∀y,ab E y (aj d (X.to (cN (eN c)))::b8 p d l m bl::cQ m2 es ck::L)->k (if X.ok (cN (eN c))then 0 else 6) y):CL 211 #[.pointer (some ⟨p,0,none⟩),.map (some m2)] ah k w:=by
 rw[<-C3]at o
 refine adY ?_
 refine uQ h λw h=>?_
 refine cy (S:=Int) (cf:=λs=>s) 180 rfl (λi s w=>X.ok (cN (l6 c i))=true/\ab E w (aj d (X.to (cN (l6 c i)))::b8 p d l m bl::cQ m2 es ck::L)) rfl ⟨rfl,h⟩ ?_ ?_
 .rintro next _ w i A rfl ⟨g,h⟩ n
  refine br (λ_ w=>X.ok (cN (l6 c (i+1)))=true/\ab E w (aj d (X.to (cN (l6 c (i+1))))::b8 p d l m bl::cQ m2 es ck::L)) (λ_ w N=>?_) λJ t=>?_
  .exact .go λ_=>n _ _ (bV A om) N
  refine yj (K:=3) (V:=9) (kl:=.int .i64) (vl:=.leaf .str) (x:=(i:Int)) (z:=(⟨#[]⟩:ByteArray)) kK j7 kK h pK ?_
  have a:=hc.at_ i A
  cases C:dz my (i:Int) es with
  |none=>
   rw[C]at a
   refine aR rfl ?_
   cases f:c i with
   |some x=>rw[f]at a;cases a
   |none=>
    have e:l6 c (i+1)=l6 c i:=by rw[Hc,f];simp
    rw[e]at t
    exact t _ _ ⟨g,h⟩
  |some v=>
   rw[C]at a
   refine ar rfl ?_
   cases f:c i with
   |none=>rw[f]at a;cases a
   |some x=>
    rw[f]at a
    have e:v=B x:=ja a
    subst e
    have O:=(hc.wf i x f).2
    refine dr h λw h=>?_
    refine aq ?_
    refine ld h ?_
    refine aq ?_
    refine ld h ?_
    have P:w6 (120+(i:Int))=((120+i:Nat):Int):=by rw[bQ om];omega
    rw[P]
    have u:=sE (cN (l6 c i)) X
    rw[sM]at u
    have Q:=C4 c i
    have j:cN (l6 c (i+1))=cN (l6 c i)++[.w (120+i) (gu x)]:=by rw[Hc,f,Rh,abL O];rfl
    obtain⟨D,G⟩:=yM (b:=[.w (120+i) (gu x)]) g
    rw[<-j]at D G
    refine FK h om om om λw h=>?_
    rw[<-D]at h
    rw[<-G]
    refine lk h ?_
    cases H:X.ok (cN (l6 c (i+1)))with
    |true=>
     refine ar rfl ?_
     exact t _ _ ⟨H,h⟩
    |false=>
     refine aR rfl ?_
     obtain⟨r,I⟩:=NN c (180-(i+1)) (i+1)
     rw[show i+1+(180-(i+1))=180 by omega]at I
     have M:=P7 (b:=cN r) H
     rw[<-Rh,<-I]at M
     unfold DX.to DX.ok at o
     rw[M]at o
     exact o _ h
 .rintro _ w ⟨g,h⟩
  rw[g]at o
  exact o _ h
theorem KZ (h:ab E w (aj d X::b8 p d l m bl::cq l d T b u rs false::dA rs ca::L)) (t:T<=1000000) (hn:X.c.length<1000000)
  (g:∀i,X.ok (jo T)=true->ab E i (aj d (X.to (jo T))::b8 p d l m bl::cq l d (T+1:Nat) (T+1:Nat) 0 au false::dA au []::L)->k 0 i)
  (f:∀i,X.ok (jo T)=false->ab E i (aj d (X.to (jo T))::b8 p d l m bl::L)->k 6 i):CL 212 #[.pointer (some ⟨p,0,none⟩)] ah k w:=by
 have a:X.run (jo T)=if X.ok [.fl]then(X.to [.fl]).run (eY T (T+1))else(false,X.to [.fl]):=tQ [.fl] (eY T (T+1)) X
 refine adZ ?_
 refine aq ?_
 refine ld h ?_
 refine FN h λw h=>?_
 cases r:X.ok [.fl]with
 |false=>
  rw[r]at a
  simp only[kk,fF]at a
  have j:X.ok (jo T)=false:=gU Prod.fst a
  have n:X.to (jo T)=X.to [.fl]:=by show(X.run (jo T)).2=_;rw[a]
  refine aR rfl ?_
  refine f _ j ?_
  rw[n]
  exact h.sub sS
 |true=>
  rw[r]at a
  simp only[gr]at a
  have j:X.ok (jo T)=(X.to [.fl]).ok (eY T (T+1)):=gU Prod.fst a
  have n:X.to (jo T)=(X.to [.fl]).to (eY T (T+1)):=gU Prod.snd a
  rw[j,n]at g f
  have v:=sE [.fl] X
  have o:(X.to [.fl]).c.length<1000000:=by
   unfold DX.to
   rw[DV]
   split
   .exact hn
   .show([]:List Wr).length<_;simp
  refine ar rfl ?_
  refine aq ?_
  refine ld h ?_
  refine UX (h.lj (A1:=aj d _) (A2:=cq l d T b u rs false) (A3:=dA rs ca) pK pK pK) t o λw h=>?_
  cases e:(X.to [.fl]).ok (eY T (T+1))with
  |true=>
   rw[e]at h
   exact g _ e (h.sub sS)
  |false=>
   rw[e]at h
   exact f _ e (h.sub sS)
abbrev dL (n:Nat):bK [.int .i64]:=((n:Int),())
theorem VV (c:fh) (i:Nat):(List.range (i+1)).filter (λn=>(c n).isSome)=(List.range i).filter (λn=>(c n).isSome)++(if(c i).isSome then[i]else[]):=by
 rw[qz,nC,jr];rfl
theorem UY {k:Sl->Pr} (h:ab E w (aj d X::b8 p d l m bl::cQ m es ck::L)) (hc:fg es c) (D:∀s r,ab E r (OS 41 [.int .i64] s ((dX c).map dL)::aj d X::b8 p d l m bl::cQ m es ck::L)->k s r):
  CL 269 #[.pointer (some ⟨p,0,none⟩)] aE k w:=by
 refine aeV ?_
 refine xO (h.pick (A:=b8 p d l m bl) pK) λw h=>?_
 refine ar rfl ?_
 refine uQ (h.sub (M:=aj d X::b8 p d l m bl::cQ m es ck::L) sS) λw h=>?_
 refine cy (S:=Sl×Int) (cf:=λs=>s.2) 180 rfl (λi s w=>ab E w (OS 41 [.int .i64] s.1 (((List.range i).filter λn=>(c n).isSome).map dL)::aj d X::b8 p d l m bl::cQ m es ck::L)) rfl (fm h) ?_ ?_
 .rintro next ⟨o,_⟩ w i u rfl h b
  have h:ab E w (OS 41 [.int .i64] o (((List.range i).filter λn=>(c n).isSome).map dL)::aj d X::b8 p d l m bl::cQ m es ck::L):=h
  have G:((List.range i).filter λn=>(c n).isSome).length<=i:=by
   have:=gV (λn=>(c n).isSome) (List.range i)
   rw[px]at this;exact this
  have e:=VV c i
  refine br (λs w=>ab E w (OS 41 [.int .i64] s (((List.range (i+1)).filter λn=>(c n).isSome).map dL)::aj d X::b8 p d l m bl::cQ m es ck::L)) (λs w h=>?_) λJ g=>?_
  .exact .go λ_=>b _ _ (bV u om) h
  rw[e]at g
  refine aq ?_
  refine ld (x:=some m) h ?_
  refine yj (K:=3) (V:=9) (kl:=.int .i64) (vl:=.leaf .str) (x:=(i:Int)) (z:=(⟨#[]⟩:ByteArray)) kK j7 kK h pK ?_
  have a:=hc.at_ i u
  cases C:dz my (i:Int) es with
  |some v=>
   rw[C]at a
   refine aR rfl ?_
   have j:(c i).isSome=true:=by cases f:c i with
    |none=>rw[f]at a;cases a
    |some x=>rfl
   rw[ak j,fe]at g
   refine bJ (ls:=[.int .i64]) (y:=dL i) h λt w _ h=>?_
   refine eA (ls:=[.int .i64]) (xs:=((List.range i).filter λn=>(c n).isSome).map dL) h (by rw[bW];omega) λH w h=>?_
   exact g _ _ (h.sub sS)
  |none=>
   rw[C]at a
   refine ar rfl ?_
   have j:¬(c i).isSome=true:=by cases f:c i with
    |none=>decide
    |some x=>rw[f]at a;cases a
   rw[ai j,iO]at g
   exact g _ _ h
 .rintro⟨o,_⟩ w h
  exact D _ _ h
def u3 (c:fh) (i:Nat):fh:=λn=>if n∈(dX c).take i then none else c n
theorem K0 {k:Unit->Pr} (h:ab E w (aj d X::b8 p d l m bl::cQ m es ck::L)) (hc:fg es c) (I:∀o y D,fg o (λ_=>none)->ab E D (aj d X::b8 p d l m bl::cQ m o y::L)->k () D):
  CL 213 #[.pointer (some ⟨p,0,none⟩)] (.aG []) k w:=by
 have b:=j7.iff
 refine ad0 ?_
 refine xO (h.pick (A:=b8 p d l m bl) pK) λw h=>?_
 refine ar rfl ?_
 refine UY (h.sub (M:=aj d X::b8 p d l m bl::cQ m es ck::L) sS) hc λs w h=>?_
 have G:=fR h dE
 rw[bW]at G
 have J:=Ct c
 refine cy (S:=Int) (cf:=λs=>s) (dX c).length (by rw[G]) (λi _ w=>∃es ck,fg es (u3 c i)/\ab E w (OS 41 [.int .i64] s ((dX c).map dL)::aj d X::b8 p d l m bl::cQ m es ck::L)) rfl ⟨es,ck,?_,h⟩ ?_ ?_
 .have e:u3 c 0=c:=by funext n;unfold u3;simp
  rw[e];exact hc
 .rintro next _ w i z rfl ⟨es,ck,a,h⟩ g
  have r:i<((dX c).map dL).length:=by rw[bW];exact z
  refine eO (T:=41) (ls:=[.int .i64]) (i:=i) h pK r (λP C=>?_) rfl
  refine kH (T:=41) (ls:=[.int .i64]) (l:=.int .i64) (j:=0) (x:=(((dX c)[i]:Nat):Int)) h pK C r ?_ (hc:=by rw[qB];rfl)
  refine aq ?_
  refine ld (x:=some m) h ?_
  refine Gi (V:=9) (kl:=.int .i64) (vl:=.leaf .str) (x:=(((dX c)[i]:Nat):Int)) kK j7 h pK λw h=>?_
  refine g _ _ (bV z om) ⟨_,_,?_,h.sub sS⟩
  generalize K:(dX c)[i]=n at*
  have H:∀q,u3 c (i+1) q=if q=n then none else u3 c i q:=λq=>by
   unfold u3
   rw[cR z,K]
   by_cases e:q=n
   .rw[ak e,ak (List.mem_append.2 (.inr (List.mem_singleton.2 e)))]
   .rw[ai e]
    by_cases u:q∈(dX c).take i
    .rw[ak (List.mem_append.2 (.inl u)),ak u]
    .rw[ai (λf=>by rcases List.mem_append.1 f with f|f;exact u f;exact e (by simpa using f)),ai u]
  refine⟨Dp _ _ _ a.nd,λq N=>?_,λe O=>a.key e ((Dq _ _ _).mem O),λq x v=>?_⟩
  .rw[Dr b _ _ _ a.nd,H]
   by_cases e:q=n
   .subst e;rw[ak ((b _ _).2 rfl),ak rfl];rfl
   .rw[ai (λf=>e (by have Q:(q:Int)=(n:Int):=(b _ _).1 f;omega)),ai e]
    exact a.at_ q N
  .rw[H]at v
   split at v
   .cases v
   .exact a.wf q x v
 .rintro _ w ⟨es,ck,a,h⟩
  have e:u3 c (dX c).length=λ_=>none:=by
   funext n
   unfold u3
   rw[cB]
   split
   .rfl
   .rename_i f
    cases t:c n with
    |none=>rfl
    |some x=>exact(f (x0.2 ⟨(hc.wf n x t).1,x,t⟩)).elim
  rw[e]at a
  exact I _ _ _ a (h.sub sS)
attribute [local irreducible] bG
def rU (T:Nat) (c:fh):List ju:=oP T (cO c)++mH c T
theorem We (T:Nat) (c:fh):rU T c=cN (fi T (cO c))++([.fl]++(cN (eN c)++jo T)):=by
 unfold rU oP
 rw[HZ,cP]
theorem As {Fn:(S->Pr)->S->Pr} (h:Fn (iter Fn n) s w):iter Fn (n+1) s w:=h
theorem aV.aiu {Fn:(S->Pr)->S->Pr} (n:Nat) (h:Fn (iter Fn n) s w):aV Fn s w:=⟨n+1,h⟩
def uA:=@aV.aiu
theorem yu {t:Ty} {k:t.den->Pr} (h:kq prog f pL t k w) (hr:∀w,(eW (.func (.func f) bound zL) #[]).run prog w=.ok (.enter f pL) w):oD prog (eW (.func (.func f) bound zL) #[]) t k w:=
 ⟨.inr ⟨f,pL,hr w,h⟩⟩
theorem TY (h:ab E w (aj d X::b8 p d l m false::cq l d T b 0 au false::dA au []::cQ m es ck::L)) (hc:fg es c) (hT:T<=1000000) (hn:X.c.length+1000<1000000)
  (pU:∀f,(∀n,c n=none)->ab E f (aj d X::b8 p d l m false::cq l d T b 0 au false::dA au []::cQ m es ck::L)->k 0 f)
  (wP:∀f,118<kP (cO c)->ab E f (aj d X::b8 p d l m false::cq l d T b 0 au false::dA au []::cQ m es ck::L)->k 3 f)
  (y:∀D I f,X.ok (rU T c)=true->kP (cO c)<=118->fg D (λ_=>none)->ab E f (aj d (X.to (rU T c))::b8 p d l m false::cq l d (T+1:Nat) (T+1:Nat) 0 au false::dA au []::cQ m D I::L)->k 0 f)
  (g:dm c≠0->∀f,X.ok (rU T c)=false->kP (cO c)<=118->ab E f (aj d (X.to (rU T c))::L)->k 6 f):
  CL 168 #[.pointer (some ⟨p,0,none⟩)] ah k w:=by
 have jl:=agQ hc
 refine adk ?_
 refine bx h λj w h=>?_
 refine ld h ?_
 refine xO (h.pick (A:=b8 p d l m false) pK) λw h=>?_
 refine ar rfl ?_
 refine ld h ?_
 refine aq ?_
 refine ld h ?_
 refine ar rfl ?_
 refine ld h ?_
 refine aq ?_
 refine ld (x:=some m) h ?_
 refine CN (T:=214) (K:=3) (V:=9) (kl:=.int .i64) (vl:=.leaf .str) (es:=es) h pK kK ?_
 rw[hc.len]
 refine ax (λh0=>?_) (λh0=>?_)
 .have h1:((dm c:Nat):Int)=0:=ek h0
  refine pU _ (λn=>?_) (h.sub sS)
  cases S:c n with
  |none=>rfl
  |some x=>
   have hm:=x0.2 ⟨(hc.wf n x S).1,x,S⟩
   have:(dX c).length=0:=by show dm c=0;omega
   rw[List.length_eq_zero_iff.1 this]at hm
   cases hm
 replace g:=g (λe=>ei h0 (by rw[e];rfl))
 have h:ab E w (aj d X::b8 p d l m false::cQ m es ck::cq l d T b 0 au false::dA au []::lc j 147 [.pointer (some ⟨p,0,none⟩)]::L):=h.sub sS
 have z9:gq 9=⟨[.string ⟨#[]⟩]⟩:=kK
 refine br (λs w=>∃C,s=⟨C,0,none⟩/\ab E w (aj d X::b8 p d l m false::cQ m es ck::cq l d T b 0 au false::dA au []::lc j 147 [.pointer (some ⟨p,0,none⟩)]::lc C 9 [.string (B (cO c))]::L)) (λs w hs=>?_) λJ hJ=>?_
 rotate_left
 .refine dr h λw h=>?_
  refine ld h ?_
  refine ld h ?_
  refine aq ?_
  refine ld (x:=some m) h ?_
  refine⟨?_,?_⟩
  .refine FE h hc λw h=>?_
   refine lk h ?_
   refine al h λC w h=>?_
   rw[z9]at h
   refine lk h ?_
   refine nu h λw h=>?_
   exact hJ _ _ ⟨C,rfl,h.sub sS⟩
  .refine al h λC w h=>?_
   rw[z9]at h
   refine lk h ?_
   refine lk h ?_
   refine lk h ?_
   refine FE (h.sub (M:=aj d X::b8 p d l m false::cQ m es ck::cq l d T b 0 au false::dA au []::lc j 147 [.pointer (some ⟨p,0,none⟩)]::lc C 9 [.string ⟨#[]⟩]::L) sS) hc λw h=>?_
   refine lk h ?_
   refine nu h λw h=>?_
   exact hJ _ _ ⟨C,rfl,h.sub sS⟩
 obtain⟨C,rfl,h⟩:=hs
 refine ao λ_=>?_
 refine dr h λw h=>?_
 refine ld h ?_
 refine aq ?_
 refine ld h ?_
 refine ld (x:=B (cO c)) h ?_
 rw[cJ]
 refine KX (h.pick (A:=cq l d T b 0 au false) pK) om λw h=>?_
 refine lk h ?_
 refine lk h ?_
 refine ax (λP=>?_) (λP=>?_)
 .have:¬kP (cO c)<=118:=λhh=>by rw[eu hh]at P;cases P
  exact wP _ om (h.sub sS)
 have z:kP (cO c)<=118:=lS (nF P)
 have y:=λD I f a b c=>y D I f a z b c
 have g:=λf a b=>g f a z b
 rw[We]at y g
 refine dr h λw h=>?_
 refine ld h ?_
 refine aq ?_
 refine ld h ?_
 refine ld h ?_
 refine wD (Te:=84) (sz:=1) (len:=4) [.func (.func 207) #[] #[pa ⟨j,0,none⟩,pa ⟨C,0,none⟩],.func (.func 209) #[.pointer (some ⟨l,0,none⟩)] #[],.func (.func 210) #[] #[pa ⟨j,0,none⟩],.func (.func 212) #[.pointer (some ⟨p,0,none⟩)] #[]] h kK rfl λQ w YF h=>?_
 refine lk h ?_
 refine lk h ?_
 refine lk h ?_
 rw[YF]
 have GQ:∀{w:World} {M:List aK},ab E w (dV 84 1 Q [.func (.func 207) #[] #[pa ⟨j,0,none⟩,pa ⟨C,0,none⟩],.func (.func 209) #[.pointer (some ⟨l,0,none⟩)] #[],.func (.func 210) #[] #[pa ⟨j,0,none⟩],.func (.func 212) #[.pointer (some ⟨p,0,none⟩)] #[]]::M)->∃R,Q.a=some R:=λh=>by
  have hr:=h.iJ
  obtain⟨b0,o0,GK⟩:=hr.addr sI
  exact⟨_,GK⟩
 obtain⟨R,v⟩:=GQ h
 have U:=sE (cN (fi T (cO c))) X
 rw[sM,E5]at U
 have Ye:(X.to (cN (fi T (cO c)))).c.length<999200:=om
 have hS0:kP (cO c)<=118:=z
 have Hd:=sd (cO c)
 have o:∀(Y:DX) {f:World} {M:List aK},ab E f (aj d Y::b8 p d l m false::lc j 147 [.pointer (some ⟨p,0,none⟩)]::M)->(∀W,ab E W (aj d Y::M)->k 6 W)->
   LD 147 ⟨j,0,none⟩ aI (λt58=>NC t58 λt59=>ST 4 (Addr.add t59 4) (.bool true)<|k 6) f:=λY f M h P=>by
  refine ld h ?_
  refine aq ?_
  refine st h λw h=>?_
  exact P _ (h.sub sS)
 refine uA 4 ?_
 refine ao λ_=>?_
 refine aR rfl ?_
 refine ui (T:=287) (Te:=84) (sz:=1) (a:=R) kK kK v om om ?_
 refine zX (l:=.raw) (i:=0*1) (.func (.func 207) #[] #[pa ⟨j,0,none⟩,pa ⟨C,0,none⟩]) (h.iJ) v rfl kK rfl ?_
 refine yu (pL:=#[pa ⟨j,0,none⟩,pa ⟨C,0,none⟩]) ?_ (λw=>cd _ kK w)
 refine adU ?_
 refine dr h λw h=>?_
 refine ld h ?_
 refine aq ?_
 refine ld h ?_
 refine ld (x:=B (cO c)) h ?_
 refine Us (h.lj (A1:=aj d X) (A2:=cq l d T b 0 au false) (A3:=dA au []) pK pK pK) hT z om sI λrs w h=>?_
 have r:=tQ (cN (fi T (cO c))) ([.fl]++(cN (eN c)++jo T)) X
 cases N:X.ok (cN (fi T (cO c)))with
 |false=>
  rw[N]at h r
  simp only[kk,fF]at h r
  refine lk h ?_
  refine aR rfl ?_
  refine o _ (h.sub (M:=aj d (X.to (cN (fi T (cO c))))::b8 p d l m false::lc j 147 [.pointer (some ⟨p,0,none⟩)]::L) sS) λf h=>g f ?_ ?_
  .show(X.run _).1=false;rw[r]
  .rw[show X.to (cN (fi T (cO c))++([.fl]++(cN (eN c)++jo T)))=X.to (cN (fi T (cO c)))from by show(X.run _).2=_;rw[r]];exact h
 |true=>
 rw[N]at h
 simp only[gr]at h
 obtain⟨tA,oA⟩:=yM (b:=[.fl]++(cN (eN c)++jo T)) N
 rw[tA,oA]at y g
 generalize X.to (cN (fi T (cO c)))=G at*
 refine lk h ?_
 refine ar rfl ?_
 refine As (n:=3) ?_
 refine ao λ_=>?_
 rw[show w6 (0+1)=1 from by decide]
 refine aR rfl ?_
 refine ui (T:=287) (Te:=84) (sz:=1) (a:=R) kK kK v om om ?_
 refine zX (l:=.raw) (i:=1*1) (.func (.func 209) #[.pointer (some ⟨l,0,none⟩)] #[]) ((h.pick (A:=dV 84 1 Q _) pK).iJ) v rfl kK rfl ?_
 refine yu (pL:=#[.pointer (some ⟨l,0,none⟩)]) ?_ (λw=>cd _ kK w)
 refine Ut (h.bF (A1:=aj d G) (A2:=cq l d T b (kP (cO c):Nat) rs false) pK pK) λw h=>?_
 have t:=tQ [.fl] (cN (eN c)++jo T) G
 cases O:G.ok [.fl]with
 |false=>
  rw[O]at h t
  simp only[kk,fF]at t
  refine aR rfl ?_
  refine o _ (h.sub (M:=aj d (G.to [.fl])::b8 p d l m false::lc j 147 [.pointer (some ⟨p,0,none⟩)]::L) sS) λf h=>g f ?_ ?_
  .show(G.run _).1=false;rw[t]
  .rw[show G.to ([.fl]++(cN (eN c)++jo T))=G.to [.fl]from by show(G.run _).2=_;rw[t]];exact h
 |true=>
 rw[O]at h
 obtain⟨tB,oB⟩:=yM (b:=cN (eN c)++jo T) O
 rw[tB,oB]at y g
 have ajS:(G.to [.fl]).c.length<999200:=by
  have:=sE [.fl] G
  unfold DX.to at this⊢
  rw[DV]
  split
  .exact Ye
  .show([]:List Wr).length<_;simp
 generalize G.to [.fl]=H at*
 refine ar rfl ?_
 refine As (n:=2) ?_
 refine ao λ_=>?_
 rw[show w6 (1+1)=2 from by decide]
 refine aR rfl ?_
 refine ui (T:=287) (Te:=84) (sz:=1) (a:=R) kK kK v om om ?_
 refine zX (l:=.raw) (i:=2*1) (.func (.func 210) #[] #[pa ⟨j,0,none⟩]) ((h.pick (A:=dV 84 1 Q _) pK).iJ) v rfl kK rfl ?_
 refine yu (pL:=#[pa ⟨j,0,none⟩]) ?_ (λw=>cd _ kK w)
 refine adX ?_
 refine dr h λw h=>?_
 refine ld h ?_
 refine ld h ?_
 refine aq ?_
 refine ld (x:=some m) h ?_
 refine KY (h.lj (A1:=aj d H) (A2:=b8 p d l m false) (A3:=cQ m es ck) pK pK pK) hc om λw h=>?_
 refine lk h ?_
 have u:=tQ (cN (eN c)) (jo T) H
 have Z:=sE (cN (eN c)) H
 rw[sM]at Z
 have Ac:=C4 c 180
 rw[C3]at Ac
 cases NK:H.ok (cN (eN c))with
 |false=>
  rw[NK]at u
  simp only[kk,fF]at u
  refine aR rfl ?_
  refine o _ (h.sub (M:=aj d (H.to (cN (eN c)))::b8 p d l m false::lc j 147 [.pointer (some ⟨p,0,none⟩)]::L) sS) λf h=>g f ?_ ?_
  .show(H.run _).1=false;rw[u]
  .rw[show H.to (cN (eN c)++jo T)=H.to (cN (eN c))from by show(H.run _).2=_;rw[u]];exact h
 |true=>
 obtain⟨tC,oC⟩:=yM (b:=jo T) NK
 rw[tC,oC]at y g
 generalize H.to (cN (eN c))=XC at*
 refine ar rfl ?_
 refine As (n:=1) ?_
 refine ao λ_=>?_
 rw[show w6 (2+1)=3 from by decide]
 refine aR rfl ?_
 refine ui (T:=287) (Te:=84) (sz:=1) (a:=R) kK kK v om om ?_
 refine zX (l:=.raw) (i:=3*1) (.func (.func 212) #[.pointer (some ⟨p,0,none⟩)] #[]) ((h.pick (A:=dV 84 1 Q _) pK).iJ) v rfl kK rfl ?_
 refine yu (pL:=#[.pointer (some ⟨p,0,none⟩)]) ?_ (λw=>cd _ kK w)
 refine KZ (h.sub (M:=aj d XC::b8 p d l m false::cq l d T b (kP (cO c):Nat) rs false::dA rs ([]++[cO c])::cQ m es ck::dV 84 1 Q [.func (.func 207) #[] #[pa ⟨j,0,none⟩,pa ⟨C,0,none⟩],.func (.func 209) #[.pointer (some ⟨l,0,none⟩)] #[],.func (.func 210) #[] #[pa ⟨j,0,none⟩],.func (.func 212) #[.pointer (some ⟨p,0,none⟩)] #[]]::lc j 147 [.pointer (some ⟨p,0,none⟩)]::L) sS) hT om (λw ho h=>?_) (λw ho h=>?_)
 .refine ar rfl ?_
  refine As (n:=0) ?_
  refine ao λ_=>?_
  rw[show w6 (3+1)=4 from by decide]
  refine ar rfl ?_
  refine ld h ?_
  refine K0 (h.lj (A1:=aj d _) (A2:=b8 p d l m false) (A3:=cQ m es ck) pK pK pK) hc λD I w z4 h=>?_
  exact y _ _ _ ho z4 (h.sub sS)
 .refine aR rfl ?_
  exact o _ (h.sub (M:=aj d (XC.to (jo T))::b8 p d l m false::lc j 147 [.pointer (some ⟨p,0,none⟩)]::L) sS) λf h=>g f ho h
theorem Uo (h:ab E w (aj d X::b8 p d l m false::cq l d T b 0 au false::dA au []::L)) (c:∀a,ab E a (aj d X::b8 p d l m false::cq l d T b 0 au false::dA au []::L)->k 0 a):CL 198 #[.pointer (some ⟨p,0,none⟩)] ah k w:=by
 refine PL ?_
 refine aq ?_
 refine ld h ?_
 refine Ld (h.bF (A1:=cq l d T b 0 au false) (A2:=dA au []) pK pK) sI λs w h=>?_
 have e:=fR h dE
 refine aR (by rw[e];rfl) ?_
 exact c _ (h.sub sS)
theorem Up (h:ab E w (aj d X::b8 p d l m false::cq l d T b u rs false::dA rs [cO c]::L)) (A:∀n x,c n=some x->n<180/\x.length=128) (o:(cO c).length<=1000000) (C:T<=1000000) (hn:X.c.length+180<1000000)
  (g:∀r,X.ok (mH c T)=true->ab E r (aj d (X.to (mH c T))::b8 p d l m false::cq l d (T+1:Nat) (T+1:Nat) 0 au false::dA au []::L)->k 0 r)
  (e:∀r,X.ok (mH c T)=false->ab E r (aj d (X.to (mH c T))::L)->k 6 r):CL 198 #[.pointer (some ⟨p,0,none⟩)] ah k w:=by
 rw[HZ]at g e
 refine PL ?_
 refine aq ?_
 refine ld h ?_
 refine Ld (h.bF (A1:=cq l d T b u rs false) (A2:=dA rs [cO c]) pK pK) sI λs w h=>?_
 have z:s.len=1:=fR h dE
 refine ar (by rw[z];rfl) ?_
 rw[z]
 refine uA 1 ?_
 refine ao λ_=>?_
 refine aR rfl ?_
 refine br (λ_ w=>X.ok (cN (eN c))=true/\ab E w (aj d (X.to (cN (eN c)))::b8 p d l m false::cq l d T b u rs false::dA rs [cO c]::dA s [cO c]::L)) (λ_ w D=>?_) λJ G=>?_
 .obtain⟨f,h⟩:=D
  obtain⟨H,I⟩:=yM (b:=jo T) f
  rw[H,I]at g e
  have t:=sE (cN (eN c)) X
  rw[sM]at t
  have v:=C4 c 180
  rw[C3]at v
  refine ao λ_=>?_
  refine As (n:=0) ?_
  refine ao λ_=>?_
  rw[show w6 (0+1)=1 from by decide]
  refine ar rfl ?_
  refine KZ h C om (λw f h=>?_) (λw f h=>?_)
  .exact g _ f (h.sub sS)
  .exact e _ f (h.sub sS)
 .refine eO (T:=204) (ls:=eL) (xs:=[cO c].map iY) (i:=0) h pK sI (λK y=>?_) rfl
  refine kH (T:=204) (ls:=eL) (i:=0) (l:=.str) (j:=0) (x:=B (cO c)) h pK y sI ?_ (hc:=rfl)
  refine UR (h.bF (A1:=aj d X) (A2:=b8 p d l m false) pK pK) A o λM N O w hc h=>?_
  refine ar rfl ?_
  refine KY h hc hn λw h=>?_
  cases f:X.ok (cN (eN c))with
  |true=>
   refine ar rfl ?_
   exact G _ _ ⟨f,h.sub sS⟩
  |false=>
   have a:=tQ (cN (eN c)) (jo T) X
   rw[f]at a
   simp only[kk,fF]at a
   refine aR rfl ?_
   refine e _ ?_ ?_
   .show(X.run _).1=false;rw[a]
   .rw[show X.to (cN (eN c)++jo T)=X.to (cN (eN c))from by show(X.run _).2=_;rw[a]];exact h.sub sS
def aN (p d T b:Nat) (c:fh):aK:=hex λr:Nat×Nat×List IE×Nat=>dg (iT (fg r.2.2.1 c)) (dg (b8 p d r.1 r.2.1 false) (dg (cq r.1 d T b 0 au false) (dg (dA au []) (cQ r.2.1 r.2.2.1 r.2.2.2))))
theorem aN.opened (h:ab E w (aN p d T b c::L)):∃l m a e,fg a c/\ab E w (b8 p d l m false::cq l d T b 0 au false::dA au []::cQ m a e::L):=by
 obtain⟨⟨l,m,a,e⟩,h⟩:=h.Gr
 obtain⟨f,h⟩:=h.AY.HW
 exact⟨l,m,a,e,f,((h.AY.swap.yH.sub sS).swap.swap:ab E w (cq l d T b 0 au false::dA au []::cQ m a e::b8 p d l m false::L)).sub sS⟩
theorem aN.closed (a:fg es c) (h:ab E w (b8 p d l m false::cq l d T b 0 au false::dA au []::cQ m es ck::L)):ab E w (aN p d T b c::L):=by
 have e:ab E w (cq l d T b 0 au false::dA au []::cQ m es ck::b8 p d l m false::L):=h.sub sS
 have f:=e.yG.swap.AX
 exact ab.Gq (l,m,es,ck) (ab.AX (ab.HV a f))
def JI:=@aN.closed
theorem DT {l:List ju} (h:X.ok l=true):((X.to l).S,(X.to l).c)=jU (X.S,X.c) l:=by
 obtain⟨j,d,a,b,e⟩:=AO l X
 rw[a,b h,cB]
theorem xd {b:List Wr} (h:(Y.S,Y.c)=(a,b)):Y.S=a/\Y.c=b:=⟨gU Prod.fst h,gU Prod.snd h⟩
theorem HL (S:dt) (c:List Wr) (T b:Nat):jU (S,c) (eY T b)=(iy (fC S c) ((T+1)%2,jV (T+1) b),[]):=by
 unfold eY
 simp only[jU,kV,Bs,vD]
 rw[tq];rfl
theorem aa6 (a:eU X.S X.c T b P):∃d,d<=T+1/\eU (X.to (eY T b)).S (X.to (eY T b)).c d b P:=by
 obtain⟨j,i,e,k,l⟩:=AO (eY T b) X
 obtain⟨f,g⟩:=xd (e.trans (Prod.eta _).symm)
 rw[f,g]
 match j with
 |0=>exact⟨T,om,a⟩
 |1=>exact⟨T+1,om,a.slot⟩
 |j+2=>
  have:(eY T b).take (j+2)=eY T b:=by unfold eY;simp
  rw[this,HL]
  refine⟨T+1,om,?_⟩
  have h:=a.slot.flush
  rw[tq]at h
  exact h
theorem TV {k:Option Addr×Int×Unit->Pr} (h:ab E w (aj d X::L)) (hw:X.Wf) (z:eU X.S X.c T b P) (hT:T<=900000) (hn:X.c.length+1000<1000000)
  (A:∀p C Y f v,f<=T+2->v<=f->Y.fu=X.fu->Y.c=[]->Y.Wf->Clean Y.S f v P->ab E C (aj d Y::aN p d f v (λ_=>none)::L)->k (some ⟨p,0,none⟩,0,()) C)
  (D:∀C Y f v,f<=T+2->Y.fu=X.fu->X.fu=true->Y.Wf->Y.c.length<=X.c.length+1000->eU Y.S Y.c f v P->ab E C (aj d Y::L)->k (none,6,()) C):
  CL 166 #[.pointer (some ⟨d,0,none⟩),iv 120] (.aG [.leaf .ptr,.leaf (.int .i64)]) k w:=by
 have G:w6 (300-120)=180:=dE
 have hlen:=sE (eY T b) X
 have CZ:(eY T b).length=2:=rfl
 obtain⟨Td,hTd,Q⟩:=aa6 z
 have a:=DR (eY T b) X
 refine adi ?_
 refine xN h λw h=>?_
 refine xN h λw h=>?_
 rw[G]
 refine aL ?_
 refine ar rfl ?_
 refine ao λ_=>?_
 refine aL ?_
 refine ar rfl ?_
 refine ao λ_=>?_
 refine ar rfl ?_
 refine Un h hw z om om (λl pl g w y hi h=>?_) (λl rs pl g t c w y R x h=>?_) (λw y h=>?_)
 .refine ar rfl ?_
  refine nP h λm w h=>?_
  rw[<-qf (kl:=.int .i64) (vl:=.leaf .str)]at h
  refine bx h λp w h=>?_
  refine Uo (p:=p) (d:=d) (l:=l) (m:=m) (T:=T+1) (b:=b) (h.DG (A1:=aj d (X.to (eY T b))) (A2:=b8 p d l m false) (A3:=cq l d (T+1:Nat) b 0 au false) (A4:=dA au []) pK pK pK pK) λw h=>?_
  refine ar rfl ?_
  obtain⟨U,H⟩:=xd ((DT y).trans (HL _ _ _ _))
  obtain⟨r,_,e,_,_⟩:=ow h
  refine A p w _ (T+1) b om (by have:=z.view.base;omega) a H e ?_ ?_
  .rw[U];exact abj z hi
  .exact(JI (p:=p) (d:=d) (T:=T+1) (b:=b) (l:=l) (m:=m) (ck:=0) (es:=[]) (c:=λ_=>none) fg.nil (h.sub sS):ab E w (aN p d (T+1) b (λ_=>none)::aj d (X.to (eY T b))::L)).sub sS
 .refine ar rfl ?_
  refine nP h λm w h=>?_
  rw[<-qf (kl:=.int .i64) (vl:=.leaf .str)]at h
  refine bx h λp w h=>?_
  have hg:=R.xe
  rw[hg]at h x
  have V:(cO c).length<=1000000:=by unfold kP at x;omega
  have aj2:kP (cO c)<=118:=x
  obtain⟨U,H⟩:=xd ((DT y).trans (HL _ _ _ _))
  obtain⟨I,J⟩:=abn z R
  rw[<-U]at I J
  obtain⟨K,S',n,W⟩:=H0 I J
  have Z:=sE (mH c (T+1)) (X.to (eY T b))
  have C0:(mH c (T+1)).length<=183:=by
   have:=C4 c 180
   rw[C3]at this
   rw[HZ,aU,sM]
   show _+3<=183
   omega
  have o:=DR (mH c (T+1)) (X.to (eY T b))
  refine Up (p:=p) (d:=d) (l:=l) (m:=m) (T:=T+1) (b:=b) (u:=(kP (cO c):Nat)) (rs:=rs) (c:=c) (h.DG (A1:=aj d (X.to (eY T b))) (A2:=b8 p d l m false) (A3:=cq l d (T+1:Nat) b (kP (cO c):Nat) rs false) (A4:=dA rs [cO c]) pK pK pK pK) R.wf V om om (λw i h=>?_) (λw i h=>?_)
  .refine ar rfl ?_
   obtain⟨r,_,e,_,_⟩:=ow h
   rw[<-H]at n
   obtain⟨O,M⟩:=xd ((DT i).trans n)
   rw[H]at M
   refine A p w _ (T+2) (T+2) om om (o.trans a) M e ?_ ?_
   .rw[O];exact W
   .exact(JI (p:=p) (d:=d) (T:=T+2) (b:=T+2) (l:=l) (m:=m) (ck:=0) (es:=[]) (c:=λ_=>none) fg.nil (h.sub sS):ab E w (aN p d (T+2) (T+2) (λ_=>none)::aj d ((X.to (eY T b)).to (mH c (T+1)))::L)).sub sS
  .refine aR rfl ?_
   obtain⟨r,_,e,_,_⟩:=ow h
   obtain⟨j,j1,j2,j3,j4⟩:=AO (mH c (T+1)) (X.to (eY T b))
   obtain⟨O,M⟩:=xd (j2.trans (Prod.eta _).symm)
   rw[H]at O M
   obtain⟨f,v,oX,N⟩:=K j
   rw[<-O,<-M]at N
   refine D w _ f v om (o.trans a) ?_ e om N (h.sub sS)
   cases hf:X.fu with
   |true=>rfl
   |false=>rw[DQ _ _ (a.trans hf)]at i;cases i
 .refine aR rfl ?_
  obtain⟨r,_,e,_,_⟩:=ow h
  refine D w _ Td b om a ?_ e om Q h
  cases hf:X.fu with
  |true=>rfl
  |false=>rw[DQ _ _ hf]at y;cases y
def oa (P:iF) (n:Nat) (x:bc):iF:=λm=>if m=n then x else P m
theorem xl (P:iF) (n:Nat) (x:bc):oa P n x n=x:=ak rfl
theorem sH (P:iF) (n:Nat) (x:bc) (h:m≠n):oa P n x m=P m:=ai h
theorem uZ (X:DX) (c:fh) (n:Nat) (x:bc):bI X (fy c n x)=oa (bI X c) n x:=abA c _ n x
theorem uX (c:fh) (n:Nat) (x:bc):dm (fy c n x)<=dm c+1:=by
 have a:∀m,((List.range m).filter λq=>(fy c n x q).isSome).length<=((List.range m).filter λq=>(c q).isSome).length+(if n<m then 1 else 0):=by
  intro m
  induction m with
  |zero=>simp
  |succ m b=>
   rw[qz,nC,nC,aU,aU]
   by_cases e:m=n
   .subst e
    rw[ai om]at b
    rw[ak om]
    have:(List.filter (λq=>(fy c m x q).isSome) [m]).length<=1:=gV _ _
    omega
   .have d:(List.filter (λq=>(fy c n x q).isSome) [m])=List.filter (λq=>(c q).isSome) [m]:=by
      have:fy c n x m=c m:=ai e
      simp only[jr,Bm,this]
    rw[d]
    split at b<;>rename_i f
    .rw[ak om];omega
    .split<;>omega
 have:=a 180
 unfold dm
 split at this<;>omega
theorem aN.out (h:ab E w (aj d X::aN p d T b c::L)):X.Wf/\∃l m a e,fg a c/\ab E w (aj d X::b8 p d l m false::cQ m a e::cq l d T b 0 au false::dA au []::L):=by
 obtain⟨r,_,f,_,_⟩:=ow h
 obtain⟨l,m,a,e,g,h⟩:=aN.opened h.swap
 exact⟨f,l,m,a,e,g,h.sub sS⟩
def rF:=@aN.out
theorem aN.aat (hc:fg es c) (h:ab E w (aj d X::b8 p d l m false::cQ m es ck::cq l d T b 0 au false::dA au []::L)):ab E w (aj d X::aN p d T b c::L):=
 (JI hc (h.sub sS)).swap
def rG:=@aN.aat
theorem FB (h:ab E w (aj d X::aN p d T b c::L)) (e:∀a,ab E a (aj d X::aN p d T b c::L)->k 180 a):CL 199 #[.pointer (some ⟨p,0,none⟩)] ah k w:=by
 obtain⟨g,l,m,i,j,f,h⟩:=rF h
 exact uQ h λw h=>e _ (rG f h)
theorem FD {k:ByteArray×Int×Unit->Pr} (h:ab E w (aj d X::aN p d T b c::L)) (hn:n<180) (f:∀a,ab E a (aj d X::aN p d T b c::L)->k (B (bI X c n),0,()) a):
  CL 203 #[.pointer (some ⟨p,0,none⟩),iv (n:Int)] (.aG [.leaf .str,.leaf (.int .i64)]) k w:=by
 obtain⟨g,l,m,i,j,e,h⟩:=rF h
 exact FC h e hn λw h=>f _ (rG e h)
theorem zD {s:bc} (h:ab E w (aj d X::aN p d T b c::L)) (hn:n<180) (f:n≠0) (hs:s.length<=128)
  (g:∀e,ab E e (aj d X::aN p d T b (fy c n (gu s))::L)->k 0 e):CL 202 #[.pointer (some ⟨p,0,none⟩),iv (n:Int),.string (B s)] ah k w:=by
 obtain⟨o,l,m,r,t,a,h⟩:=rF h
 exact Ur h a hn f hs λi j w a h=>g _ (rG a h)
theorem KU {k:Bool->Pr} (h:ab E w (aj d X::aN p d T b c::L)) (hn:n<180) (f:∀a,ab E a (aj d X::aN p d T b c::L)->k (eC (bI X c) n) a):
  CL 200 #[.pointer (some ⟨p,0,none⟩),iv (n:Int)] aw k w:=by
 obtain⟨g,l,m,i,j,e,h⟩:=rF h
 exact Cb h g e hn λw h=>f _ (rG e h)
theorem UL (h:ab E w (aj d X::aN p d T b c::L)) (f:∀a,ab E a (aj d X::aN p d T b c::L)->k ((kJ (bI X c):Nat):Int) a):
  CL 238 #[.pointer (some ⟨p,0,none⟩)] ah k w:=by
 obtain⟨g,l,m,i,j,e,h⟩:=rF h
 exact UK h g e λw h=>f _ (rG e h)
theorem KW {k:Int×Int×Unit->Pr} (h:ab E w (aj d X::aN p d T b c::L)) (f:0<kJ (bI X c))
  (g:∀n e,n<180->eC (bI X c) n=true->(∀j,j<n->eC (bI X c) j=false)->ab E e (aj d X::aN p d T b (fy (fy c 0 (jj (bI X c 0) n)) n dI)::L)->k ((n:Int),0,()) e):
  CL 201 #[.pointer (some ⟨p,0,none⟩)] (.aG [.leaf (.int .i64),.leaf (.int .i64)]) k w:=by
 obtain⟨i,l,m,x,y,a,h⟩:=rF h
 exact Uq h i a f λn o r w t u v a h=>g _ _ t u v (rG a h)
theorem UJ (h:ab E w (aj d X::aN p d T b c::L)) (hn:n<180) (f:n≠0) (g:iG (bI X c 0) n=true)
  (i:∀e,ab E e (aj d X::aN p d T b (fy c 0 (jj (bI X c 0) n))::L)->k 0 e):CL 237 #[.pointer (some ⟨p,0,none⟩),iv (n:Int)] ah k w:=by
 obtain⟨j,l,m,t,u,a,h⟩:=rF h
 exact UI h j a hn f g λo r w a h=>i _ (rG a h)
theorem FF {k:Unit->Pr} (h:ab E w (aj d X::aN p d T b c::L)) (f:∀e,ab E e (aj d X::aN p d T b (λ_=>none)::L)->k () e):CL 213 #[.pointer (some ⟨p,0,none⟩)] (.aG []) k w:=by
 obtain⟨j,l,m,n,o,a,h⟩:=rF h
 exact K0 h a λg i w a h=>f _ (rG a h)
def Halt (S:dt) (c:List Wr) (U:Nat) (P Q:Nat->bc):Prop:=∀a,fY S c a->∃b d,b<=U/\(eU a [] b d P\/eU a [] b d Q)
theorem BK.halt {S:dt} {c:List Wr} (h:BK S c T b P Q):Halt S c T P Q:=λd g=>by
 obtain⟨e,i⟩:=h d g
 have a:∀R,mT d T b R->eU d [] T b R:=λR f=>⟨e,λk j=>by cases j.nil;exact⟨T,b,e,cV _,f,f⟩⟩
 exact⟨T,b,cV _,i.imp (a P) (a Q)⟩
theorem eU.halt {S:dt} {c:List Wr} (h:eU S c T b Q) (g:T<=U):Halt S c U P Q:=λi a=>by
 obtain⟨d,e,j,f⟩:=h.Cv a
 exact⟨d,e,om,.inr f⟩
theorem KF {P:iF} (h:ab E w (aj d X::aN p d T b c::L)) (hT:T<=900000) (C:X.c=[]) (x:Clean X.S T b P)
  (D:∀e,(∀n,c n=none)->ab E e (aj d X::aN p d T b c::L)->k 0 e)
  (G:∀e,118<kP (cO c)->ab E e (aj d X::aN p d T b c::L)->k 3 e)
  (H:∀e Y,Y.fu=X.fu->Y.c=[]->Clean Y.S (T+1) (T+1) (jR c P)->ab E e (aj d Y::aN p d (T+1) (T+1) (λ_=>none)::L)->k 0 e)
  (I:dm c≠0->∀e Y,X.fu=true->Y.fu=X.fu->Halt Y.S Y.c (T+1) P (jR c P)->ab E e (aj d Y::L)->k 6 e):
  CL 168 #[.pointer (some ⟨p,0,none⟩)] ah k w:=by
 obtain⟨hw,l,m,es,ck,y,h⟩:=rF h
 have J:=AO (rU T c) X
 have z:=DR (rU T c) X
 refine TY (h.sub sS) y om (by rw[C];decide) (λw h0 h=>?_) (λw h3 h=>?_) (λGp ck' w A u K h=>?_) (λM w A u h=>?_)
 .exact D _ h0 (rG y (h.sub sS))
 .exact G _ h3 (rG y (h.sub sS))
 .obtain⟨r,N,pl,g,f,v,O⟩:=JS x u y.wf
  obtain⟨i,V,o,t⟩:=H0 v O
  have W:=DT A
  rw[C]at W
  obtain⟨Q,R⟩:=xd (a:=V) (b:=[]) (W.trans (by unfold rU;rw[yA,f];exact o))
  exact H _ _ z R (by rw[Q];exact t) (rG K (h.sub sS))
 .obtain⟨r,N,pl,g,f,v,O⟩:=JS x u y.wf
  obtain⟨i,V,o,t⟩:=H0 v O
  obtain⟨j,j1,Z,j3,j4⟩:=J
  rw[C]at Z
  obtain⟨Q,R⟩:=xd (Z.trans (Prod.eta _).symm)
  refine I M w _ ?_ z ?_ h
  .cases hf:X.fu with
   |true=>rfl
   |false=>rw[DQ _ _ hf]at A;cases A
  .rw[Q,R]
   unfold rU
   rw[Jw]
   by_cases hj:j<=(fi T (cO c)).length
   .have hl:(oP T (cO c)).length=(fi T (cO c)).length+1:=by unfold oP;rw[aU,sM];rfl
    rw[show j-(oP T (cO c)).length=0 by omega,uw,iO]
    have:=(r j hj).halt
    intro N hS
    obtain⟨T',b',h1,U⟩:=this N hS
    exact⟨T',b',om,U⟩
   .have hl:(oP T (cO c)).length=(fi T (cO c)).length+1:=by unfold oP;rw[aU,sM];rfl
    rw[iP om,yA,f]
    obtain⟨T',b',h1,U⟩:=i (j-(oP T (cO c)).length)
    exact U.halt h1
end Go.Proofs.YtelhccfmfnaegaaGreat
