/- Lemmas for topAudits_holds. No conditions. -/
import Derived.Test.YtelhccfmfnaegaaGreatAk
set_option linter.unusedSectionVars false
set_option linter.unusedVariables false
set_option linter.unusedSimpArgs false
set_option linter.defProp false
set_option maxRecDepth 10000
namespace Go.Proofs.YtelhccfmfnaegaaGreat
open Go Go.Sh
attribute [local irreducible] aT jC gk dV kO dg hex iT jk ae aj bG aN bq fL az
def l5 (b:List UInt8):List UInt8:=dR 4 b.length++kN b
theorem S7 {n:Nat} (h:n<=100000):pM (dR 4 n)=n:=by
 have e:dR 4 n=[u8 ((n/2^24:Nat):Int),u8 ((n/2^16:Nat):Int),u8 ((n/2^8:Nat):Int),u8 ((n/2^0:Nat):Int)]:=rfl
 have a:∀m:Nat,(u8 (m:Int)).toNat=m%256:=λm=>by
  unfold u8
  rw[RH]
  omega
 rw[e]
 unfold pM
 simp only[kV,Bs,a]
 omega
theorem zU (b:List UInt8):(l5 b).length=b.length+8:=by
 unfold l5
 rw[aU,jL,pe];omega
variable {b:List UInt8} {sk v:Nat} {z:Bool} {a c e:Int} {R:Int×Int×Unit->Bool->Int->Int->List aK->Prop} {p q b0:Nat} {kB:ByteArray} {bl:Bool} {s:Sl} {B0:b9} {P:Pk} {F:bh} {X:DX} {T bT:Nat} {B2:b9} {G:bh} {pk:pH} {k:Int->Pr} {rp d:Nat} {fu:Bool} {B1:b9} {N:Nat} {fo:Bool} {hz n:Int} {Q:b9->Prop} {u:Option Addr} {dh:List Bool}
theorem aa3 (h:b.length<=100000):ss (l5 b)=(b,((b.length+8:Nat):Int),0):=by
 have a:(dR 4 b.length).length=4:=jL 4 _
 have c:(l5 b).take 4=dR 4 b.length:=by unfold l5;rw[Ew a]
 have d:(l5 b).drop 4=kN b:=by unfold l5;rw[Jz a]
 unfold ss
 rw[c,S7 h,d,ai (by rw[zU];omega),ai om,ai (by rw[zU];omega),iP (by rw[pe];omega),QI]
theorem OY:ss []=([],0,8):=rfl
theorem xo (A:aK):(L:List aK)->Sub (A::L) (L++[A])
 |[]=>.take .head .done
 |B::L=>.take (.tail .head) (xo A L)
theorem HT (A:aK):(L:List aK)->b6 (L++[A]) A L
 |[]=>.head
 |B::L=>.tail (HT A L)
theorem sub_self:(L:List aK)->Sub L L
 |[]=>.done
 |B::L=>.take .head (sub_self L)
theorem aht (A:aK):(L:List aK)->Sub (L++[A]) (A::L):=λL=>.take (HT A L) (sub_self L)
variable {E w:World} {L L' M:List aK}
theorem Fq {k:Sl->Pr} (h:ab E w (cX sk v ⟨#[]⟩ z a c e::L)) (f:∀d,ab E d (cX sk v ⟨#[]⟩ z a c e::L)->k au d):
  CL 103 #[.pointer (some ⟨sk,0,none⟩),.string ⟨#[]⟩] aE k w:=by
 refine PE ?_
 refine Ft h λw h=>?_
 refine ar rfl ?_
 refine aq ?_
 refine ld (t:=9) (x:=(⟨#[]⟩:ByteArray)) (b:=sk) (off:=1) h ?_
 refine cc (a:=[]) (b:=[]) sI ?_
 refine aq ?_
 refine st (t:=9) (b:=sk) (off:=1) h λw h=>?_
 refine uA 0 ?_
 refine ao λ_=>?_
 refine aq ?_
 refine ld (t:=9) (x:=(⟨#[]⟩:ByteArray)) (b:=sk) (off:=1) h ?_
 refine Fu (l:=[]) h sI λw h=>?_
 rw[OY]
 refine al h λg w h=>?_
 refine bU (t:=139) (b:=g) (vs:=[iv 0,iv 8]) h (λw h=>?_)
 refine aL ?_
 refine aR rfl ?_
 exact f w (h.sub sS)
theorem Fp {k:Sl->Pr} (h:ab E w (cX sk v ⟨#[]⟩ z a c e::M)) (hb:b.length<=100000)
  (ht:∀(N:List aK) w (K:Int×Int×Unit->Pr),ab E w (cX sk v ⟨#[]⟩ z a c e::(M++N))->(∀x i j n g A,R x i j n g->ab E A (cX sk v ⟨#[]⟩ i j n e::(g++N))->K x A)->CL 143 #[.pointer (some ⟨sk,0,none⟩),.string (B b)] (ya aC) K w)
  (hk:∀x i j n C g s A,R x i j n g->s.len=1->ab E A (OS 136 aC s [x]::cX sk v ⟨#[]⟩ i j n C::g)->k s A):
  CL 103 #[.pointer (some ⟨sk,0,none⟩),.string (B (l5 b))] aE k w:=by
 have o:=zU b
 refine PE ?_
 refine Ft h λw h=>?_
 refine ar rfl ?_
 refine aq ?_
 refine ld (t:=9) (x:=(⟨#[]⟩:ByteArray)) (b:=sk) (off:=1) h ?_
 refine cc (a:=[]) (b:=l5 b) (by rw[o];simp;omega) ?_
 rw[mQ]
 refine aq ?_
 refine st (t:=9) (b:=sk) (off:=1) h λw h=>?_
 refine uA 1 ?_
 refine ao λ_=>?_
 refine aq ?_
 refine ld (t:=9) (x:=B (l5 b)) (b:=sk) (off:=1) h ?_
 refine Fu h (by rw[o];omega) λw h=>?_
 rw[aa3 hb]
 refine al h λd w h=>?_
 refine bU (t:=139) (b:=d) (vs:=[iv 0,iv 0]) h (λw h=>?_)
 refine aL ?_
 refine ar rfl ?_
 refine aR rfl ?_
 refine aq ?_
 refine ld (t:=9) (x:=B (l5 b)) (b:=sk) (off:=1) h ?_
 refine vC (l:=l5 b) (m:=b.length+8) rfl (by rw[o];omega) ?_
 rw[pF (by rw[o];omega)]
 refine aq ?_
 refine st (t:=9) (b:=sk) (off:=1) h λw h=>?_
 have h:ab E w (lc d 139 [iv 0,iv 0]::cX sk v ⟨#[]⟩ z a c e::M):=h.sub sS
 refine ht [lc d 139 [iv 0,iv 0]] w _ (h.sub (xo _ (_::M))) λx i j n g w hR h=>?_
 have h:ab E w (lc d 139 [iv 0,iv 0]::cX sk v ⟨#[]⟩ i j n e::g):=h.sub (aht _ (_::g))
 have p:∀C w,ab E w (cX sk v ⟨#[]⟩ i j n C::lc d 139 (ay aC x)::g)->(LD 139 ⟨d,0,none⟩ (ya aC) λr=>
   BS 136 1 #[(0,ag aC r)] λu=>
   AP 136 136 136 au u λt65=>iter (λnext s=>ba λ_=>
    NC (some ⟨sk,0,none⟩) λH=>
    LD 9 (Addr.add H 1) an λI=>
    CL 142 #[.string I] (.aG [.leaf .str,.leaf (.int .i64),.leaf (.int .i64)]) λf=>
    AL 139 λd=>
    ST 139 d (.agg #[iv 0,iv f.2.2.1])<|
    bZ (S:=Unit) (λmc=>ba λ_=>
    bZ (S:=Unit) (λAQ=>ba λ_=>
    LD 139 d (ya aC) λr=>
    BS 136 1 #[(0,ag aC r)] λu=>
    AP 136 136 136 s u λt65=>next t65) λD=>
    LD 31 (Addr.add d 1) ah λO=>
    af ((O:Int) !=0) (
    NC (some ⟨sk,0,none⟩) λP=>
    LD 3 (Addr.add P 5) ah λQ=>
    NC (some ⟨sk,0,none⟩) λU=>
    ST 3 (Addr.add U 5) (iv (w6 (Q+1)))<|D ()) (D ())) λJ=>
    af ((f.2.2.1:Int)==8) (k s) (
    af ((f.2.2.1:Int)==0) (
    NC (some ⟨sk,0,none⟩) λV=>
    LD 9 (Addr.add V 1) an λW=>
    VL (vN (Instr.sliceAt 9 (.string W) (some (iv f.2.1)) none none)) an λX=>
    NC (some ⟨sk,0,none⟩) λY=>
    ST 9 (Addr.add Y 1) (.string X)<|
    CL 143 #[.pointer (some ⟨sk,0,none⟩),.string f.1] (ya aC) λZ=>
    ST 139 d (ag aC Z)<|J ()) (
    NC (some ⟨sk,0,none⟩) λt34=>
    ST 9 (Addr.add t34 1) (.string (⟨#[]⟩))<|J ()))) 1 t65) w:=by
  intro C w h
  refine bN (t:=139) (ls:=aC) (x:=x) (b:=d) h ?_
  refine bJ (ls:=aC) (y:=x) h λs w hs h=>?_
  have h:=fm (T:=136) (ls:=aC) h
  refine eA (T:=136) (ls:=aC) (xs:=[]) (y:=x) (h.bF (A1:=OS 136 aC s [x]) (A2:=OS 136 aC au []) pK pK) sI (λs2 w h=>?_)
  have hl:s2.len=1:=by have:=fR h dE;simpa using this
  refine ao λ_=>?_
  refine aq ?_
  refine ld (t:=9) (x:=(⟨#[]⟩:ByteArray)) (b:=sk) (off:=1) h ?_
  refine Fu (l:=[]) h sI λw h=>?_
  rw[OY]
  refine al h λd w h=>?_
  refine bU (t:=139) (b:=d) (vs:=[iv 0,iv 8]) h (λw h=>?_)
  refine aL ?_
  refine aR rfl ?_
  exact hk x i j n C g s2 w hR hl (h.sub sS)
 refine bU (t:=139) (b:=d) (vs:=ay aC x) h (λw h=>?_)
 refine ao λ_=>?_
 refine aL ?_
 refine ld (t:=31) (x:=x.2.1) (b:=d) (off:=1) h ?_
 refine ax (λ_=>?_) (λ_=>?_)
 .refine aq ?_
  refine ld (t:=3) (x:=e) (b:=sk) (off:=5) h ?_
  refine aq ?_
  refine st (t:=3) (b:=sk) (off:=5) h λw h=>?_
  exact ao λ_=>p _ w (h.sub sS)
 .exact ao λ_=>p _ w (h.sub sS)
theorem QV (A B:aK) (L:List aK):Sub (A::B::L) (L++[A,B]):=by
 induction L with
 |nil=>exact sub_self _
 |cons C L a=>exact .take (.tail (.tail .head)) a
theorem W5 (A B:aK) (L:List aK):Sub (L++[A,B]) (A::B::L):=by
 have a:∀(L N:List aK),b6 (L++A::N) A (L++N):=λL N=>by
  induction L with
  |nil=>exact .head
  |cons C L b=>exact .tail b
 exact .take (a L [B]) (.take (HT B L) (sub_self L))
theorem Fv {id:Nat} {R:Int->List aK->Prop} {k:Int×Int×Unit->Pr}
  (h:ab E w (ae F::cX sk v kB z a c e::bf v p q b0 id s bl::az F b0 B0::L)) (S:kt P) (T:gT P=true) (U:(cZ P).length<=100000) (V:dN B0.aJ)
  (r:P.1<=B0.seq->∀G d,F.le G->ab E d (ae G::cX sk v kB z a (w6 (c+1)) e::bf v p q b0 id s bl::az G b0 B0::L)->k (P.1,0,()) d)
  (i:B0.seq<P.1->∀G o (N:List aK) (K:Int->Pr) d,F.le G->je G o P->ab E d (ae G::cX sk v kB z a c e::bf v p q b0 id s bl::az G b0 B0::(L++N))->
    (∀e g d,R e g->ab E d (g++N)->K e d)->CL 183 #[.pointer (some ⟨sk,0,none⟩),ag av o] ah K d)
  (u:B0.seq<P.1->∀e g d,R e g->ab E d g->k (P.1,e,()) d):
  CL 143 #[.pointer (some ⟨sk,0,none⟩),.string (B (cZ P))] (ya aC) k w:=by
 have y:gq 68=⟨[iv 0,iv 0,sv au]⟩:=kK
 refine acV ?_
 refine al h λj w h=>?_
 refine KL (h.pick (A:=ae F) pK) S T U λG o w C l h=>?_
 refine al h λf w h=>?_
 rw[y]at h
 obtain⟨W,D,H,⟨⟩⟩:=o
 have I:W=P.1:=l.n
 subst I
 refine bU (t:=68) (b:=f) h (λw h=>?_)
 refine ar rfl ?_
 refine dr h λw h=>?_
 refine ld (t:=3) (x:=P.1) (b:=f) (off:=0) h ?_
 have h:=jG (h.pick (A:=az F b0 B0) pK) C
 refine Ud (h.DG (A1:=ae G) (A2:=cX sk v kB z a c e) (A3:=bf v p q b0 id s bl) (A4:=az G b0 B0) pK pK pK pK) V λw h=>?_
 refine lk (t:=3) (b:=f) (off:=0) h ?_
 refine lk (t:=3) (b:=f) (off:=0) h ?_
 refine ax (λJ=>?_) (λJ=>?_)
 .have O:P.1<=B0.seq:=cT J
  refine aq ?_
  refine ld (t:=3) (x:=c) (b:=sk) (off:=4) h ?_
  refine aq ?_
  refine st (t:=3) (b:=sk) (off:=4) h λw h=>?_
  refine ld (t:=3) (x:=P.1) (b:=f) (off:=0) h ?_
  refine bU (t:=139) (b:=j) (vs:=ay aC (P.1,0,())) h (λw h=>?_)
  refine pf (ls:=aC) (x:=(P.1,0,())) h ?_
  exact r O G w C (h.sub sS)
 .have m:B0.seq<P.1:=Int.not_le.1 (cF J)
  refine dr h λw h=>?_
  refine ld (t:=3) (x:=P.1) (b:=f) (off:=0) h ?_
  refine bN (t:=68) (ls:=av) (x:=(P.1,D,H,())) (b:=f) h ?_
  generalize X:ay av (P.1,D,H,())=vs at h
  have h:ab E w (lc j 139 [iv 0,iv 0]::lc f 68 vs::ae G::cX sk v kB z a c e::bf v p q b0 id s bl::az G b0 B0::L):=h.sub sS
  have h:ab E w (ae G::cX sk v kB z a c e::bf v p q b0 id s bl::az G b0 B0::(L++[lc j 139 [iv 0,iv 0],lc f 68 vs])):=h.sub (QV _ _ (_::_::_::_::L))
  refine i m G (P.1,D,H,()) [lc j 139 [iv 0,iv 0],lc f 68 vs] _ w C l h λe g w Q h=>?_
  replace h:=h.sub (W5 _ _ g)
  subst X
  refine lk (t:=3) (b:=f) (off:=0) h ?_
  refine bU (t:=139) (b:=j) (vs:=ay aC (P.1,e,())) h (λw h=>?_)
  refine pf (ls:=aC) (x:=(P.1,e,())) h ?_
  exact u m e g w Q (h.sub sS)
def de (E w:World) (G:bh) (rp d:Nat) (j:Bool) (T:Nat) (z:Bool) (B0:b9) (L:List aK):Prop:=
 ∃u g v p q b id s a c e X f i,X.fu=j/\f<=T/\ly G X f i id s B0/\
  ab E w (ae G::bE rp (some ⟨u,0,none⟩) d 120::cS u g v::cX g v ⟨#[]⟩ z a c e::bf v p q b id s false::bm q p::aj d X::aN p d f i (λ_=>none)::az G b B0::L)
def gP (E w:World) (G:bh) (rp d:Nat) (T:Nat) (B0 B1:b9) (L:List aK):Prop:=
 ∃u f v p q b id s z a c e X P g,Halt X.S X.c T P g/\oI P B0/\oI g B1/\
  ab E w (ae G::bE rp (some ⟨u,0,none⟩) d 120::cS u f v::cX f v ⟨#[]⟩ z a c e::bf v p q b id s true::aj d X::az G b B0::L)
def iD (E w:World) (G:bh) (rp d:Nat) (fo:Bool) (T N:Nat) (B0:b9) (L:List aK):Prop:=
 ∃X a b P,(fo=true->X.fu=false)/\a<=T/\X.c.length<=N/\eU X.S X.c a b P/\oI P B0/\ab E w (ae G::bE rp none d 120::aj d X::L)
theorem ly.f {id:Nat} (h:ly F X T bT id s B2):oI (cU X) B2:=by
 obtain⟨a,o,c,d,r,e,g,b,_⟩:=h.ex
 exact b.f
theorem ly.up {id:Nat} (h:ly F X T bT id s B2) (b:F.le G):ly G X T bT id s B2:=by
 obtain⟨a,o,d,e,r,f,g,i,j⟩:=h.ex
 exact⟨h.c,h.cl,a,o,d,e,r,f,g,i,j.up b⟩
def zq (b n e:Int) (z a:Bool):Prop:=(n<=b/\e=0/\a=z)\/(b<n/\e≠0/\(e=17->a=true)/\(e≠17->a=z))
theorem KM (h:ab E w (cX sk v kB true a c e::L)) (f:∀d,ab E d (cX sk v kB true a c e::L)->k 17 d):
  CL 183 #[.pointer (some ⟨sk,0,none⟩),ag av pk] ah k w:=by
 refine DH ?_
 refine bx h λg w h=>?_
 refine aq ?_
 refine ld (t:=4) (x:=true) (b:=sk) (off:=2) h ?_
 refine aR rfl ?_
 exact f w (h.sub sS)
theorem Uf {id:Nat} (h:ab E w (cX sk v kB false a c e::bf v p q b0 id s true::L)) (f:∀d,ab E d (cX sk v kB true a c e::bf v p q b0 id s true::L)->k 17 d):
  CL 183 #[.pointer (some ⟨sk,0,none⟩),ag av pk] ah k w:=by
 refine DH ?_
 refine bx h λg w h=>?_
 refine aq ?_
 refine ld (t:=4) (x:=false) (b:=sk) (off:=2) h ?_
 refine ar rfl ?_
 refine dr h λw h=>?_
 refine aq ?_
 refine ld (t:=90) (x:=some ⟨v,0,none⟩) (b:=sk) (off:=0) h ?_
 refine bN (t:=68) (ls:=av) (x:=pk) (b:=g) h ?_
 refine UF (h.pick (A:=bf v p q b0 id s true) pK) λw h=>?_
 refine ar rfl ?_
 refine aL ?_
 refine ar rfl ?_
 refine ar rfl ?_
 refine ar rfl ?_
 refine ar rfl ?_
 refine ar rfl ?_
 refine ar rfl ?_
 refine ao λ_=>?_
 refine ar rfl ?_
 refine aq ?_
 refine st (t:=4) (b:=sk) (off:=2) h λw h=>?_
 exact f w (h.sub sS)
theorem Wx {k:Sl->Pr} (h:de E w F rp d fu T z B0 L) (hT:T<=900000) (hO:kt P) (hR:gT P=true) (hl:(cZ P).length<=100000) (hZ:dN B0.aJ) (hC:rH B0 P)
  (wO:∀G s e i J,F.le G->zq B0.seq P.1 e z i->s.len=1->de E J G rp d fu T i B0 (OS 136 aC s [(P.1,e,())]::L)->k s J)
  (vg:∀G s J,F.le G->B0.seq<P.1->z=false->(cb B0 P).1=0->s.len=1->de E J G rp d fu (T+1) false (cb B0 P).2 (OS 136 aC s [(P.1,0,())]::L)->k s J)
  (wP:∀G s J,F.le G->B0.seq<P.1->z=false->(cb B0 P).1=0->s.len=1->gP E J G rp d (T+1) B0 (cb B0 P).2 (OS 136 aC s [(P.1,17,())]::L)->k s J):
  CL 53 #[.pointer (some ⟨rp,0,none⟩),.string (B (l5 (cZ P)))] aE k w:=by
 obtain⟨u,sk,v,p,q,b,id,s,a,c,e,X,l,bT,CT,Yc,hV,h⟩:=h
 refine xU (h.bF (A1:=bE rp (some ⟨u,0,none⟩) d 120) (A2:=cS u sk v) pK pK) λw h=>?_
 refine Fp (sk:=sk) (v:=v) (z:=z) (a:=a) (c:=c) (e:=e) (b:=cZ P)
  (M:=ae F::bf v p q b id s false::az F b B0::bm q p::aj d X::aN p d l bT (λ_=>none)::bE rp (some ⟨u,0,none⟩) d 120::cS u sk v::L)
  (R:=λx i O Q o=>∃(G:bh) (r:Nat) (D:Sl),F.le G/\(
    (∃e,x=(P.1,e,())/\zq B0.seq P.1 e z i/\o=ae G::bf v p q b id s false::az G b B0::bm q p::aj d X::aN p d l bT (λ_=>none)::bE rp (some ⟨u,0,none⟩) d 120::cS u sk v::L)\/
    (∃Y m g,x=(P.1,0,())/\B0.seq<P.1/\z=false/\i=false/\(cb B0 P).1=0/\Y.fu=X.fu/\m<=l+1/\ly G Y m g id D (cb B0 P).2/\o=ae G::bf v p q r id D false::bm q p::aj d Y::aN p d m g (λ_=>none)::az G r (cb B0 P).2::bE rp (some ⟨u,0,none⟩) d 120::cS u sk v::L)\/
    (∃Y H,x=(P.1,17,())/\B0.seq<P.1/\z=false/\(cb B0 P).1=0/\Halt Y.S Y.c (l+1) (cU X) H/\oI H (cb B0 P).2/\o=ae G::bf v p q b id s true::aj d Y::az G b B0::bE rp (some ⟨u,0,none⟩) d 120::cS u sk v::L)))
  (h.sub sS) hl (λN w K h hK=>?_) (λx i O Q e' o s1 w hR h1 h=>?_)
 .refine Fv (F:=F) (p:=p) (q:=q) (b0:=b) (id:=id) (s:=s) (bl:=false) (L:=bm q p::aj d X::aN p d l bT (λ_=>none)::bE rp (some ⟨u,0,none⟩) d 120::cS u sk v::(L++N))
       (R:=λt M1=>∃i O Q o,(∃(G:bh) (r:Nat) (D:Sl),F.le G/\(
       (∃e,((P.1,t,()):Int×Int×Unit)=(P.1,e,())/\zq B0.seq P.1 e z i/\o=ae G::bf v p q b id s false::az G b B0::bm q p::aj d X::aN p d l bT (λ_=>none)::bE rp (some ⟨u,0,none⟩) d 120::cS u sk v::L)\/
       (∃Y m g,((P.1,t,()):Int×Int×Unit)=(P.1,0,())/\B0.seq<P.1/\z=false/\i=false/\(cb B0 P).1=0/\Y.fu=X.fu/\m<=l+1/\ly G Y m g id D (cb B0 P).2/\o=ae G::bf v p q r id D false::bm q p::aj d Y::aN p d m g (λ_=>none)::az G r (cb B0 P).2::bE rp (some ⟨u,0,none⟩) d 120::cS u sk v::L)\/
       (∃Y H,((P.1,t,()):Int×Int×Unit)=(P.1,17,())/\B0.seq<P.1/\z=false/\(cb B0 P).1=0/\Halt Y.S Y.c (l+1) (cU X) H/\oI H (cb B0 P).2/\o=ae G::bf v p q b id s true::aj d Y::az G b B0::bE rp (some ⟨u,0,none⟩) d 120::cS u sk v::L)))
         /\M1=cX sk v ⟨#[]⟩ i O Q e::(o++N))
       (h.sub sS) hO hR hl hZ (λhle G w n h=>?_) (λj G pk Z K2 w n C6 h I=>?_) (λj t M1 w ⟨i,O,Q,o,hr,hM⟩ h=>?_)
  .exact hK (P.1,0,()) z a (w6 (c+1)) _ w ⟨G,b,s,n,.inl ⟨0,rfl,.inl ⟨hle,rfl,rfl⟩,rfl⟩⟩ (h.sub (M:=cX sk v ⟨#[]⟩ z a (w6 (c+1)) e::ae G::bf v p q b id s false::az G b B0::bm q p::aj d X::aN p d l bT (λ_=>none)::bE rp (some ⟨u,0,none⟩) d 120::cS u sk v::(L++N)) sS)
  .have h:ab E w (ae G::cX sk v ⟨#[]⟩ z a c e::bf v p q b id s false::az G b B0::bm q p::aj d X::aN p d l bT (λ_=>none)::bE rp (some ⟨u,0,none⟩) d 120::cS u sk v::(L++N++Z)):=h
   have hV:=hV.up n
   cases z with
   |true=>
    refine KM (h.pick (A:=cX sk v ⟨#[]⟩ true a c e) pK) λw h=>?_
    exact I 17 _ w ⟨true,a,c,_,⟨G,b,s,n,.inl ⟨17,rfl,.inr ⟨j,by decide,λ_=>rfl,λ_=>rfl⟩,rfl⟩⟩,rfl⟩ (h.sub (M:=cX sk v ⟨#[]⟩ true a c e::ae G::bf v p q b id s false::az G b B0::bm q p::aj d X::aN p d l bT (λ_=>none)::bE rp (some ⟨u,0,none⟩) d 120::cS u sk v::(L++N++Z)) sS)
   |false=>
    refine Ue (F:=G) (p:=p) (q:=q) (b0:=b) (id:=id) (s:=s) (X:=X) (T:=l) (bT:=bT) (B0:=B0) (P:=P) (L:=bE rp (some ⟨u,0,none⟩) d 120::cS u sk v::(L++N++Z)) (h.sub sS) hV om C6 hO hZ hC (λy t w he hw C h=>?_) (λy Y m g D r w U C hY oX V h=>?_) (λy Y H w U C hf hY hH hA h=>?_)
    .have W:∃i,zq B0.seq P.1 (if la t then t else 17) false i/\i=!la t:=by
       refine⟨_,.inr ⟨j,?_,?_,?_⟩,rfl⟩
       .split
        .exact he
        .decide
       .split
        .rename_i hm
         intro zZ
         rw[zZ]at hm;cases hm
        .rename_i hm
         intro _
         simpa using hm
       .split
        .rename_i hm
         intro _;rw[hm];rfl
        .intro hh;exact absurd rfl hh
     obtain⟨i,Ap,hz2⟩:=W
     rw[<-hz2]at h
     exact I _ _ w ⟨i,a,c,_,⟨y,b,s,n.trans C,.inl ⟨_,rfl,Ap,rfl⟩⟩,rfl⟩ (h.sub (M:=cX sk v ⟨#[]⟩ i a c e::ae y::bf v p q b id s false::az y b B0::bm q p::aj d X::aN p d l bT (λ_=>none)::bE rp (some ⟨u,0,none⟩) d 120::cS u sk v::(L++N++Z)) sS)
    .exact I 0 _ w ⟨false,w6 (a+1),c,_,⟨y,r,D,n.trans C,.inr (.inl ⟨Y,m,g,rfl,j,rfl,rfl,U,hY,oX,V,rfl⟩)⟩,rfl⟩ (h.sub (M:=cX sk v ⟨#[]⟩ false (w6 (a+1)) c e::ae y::bf v p q r id D false::bm q p::aj d Y::aN p d m g (λ_=>none)::az y r (cb B0 P).2::bE rp (some ⟨u,0,none⟩) d 120::cS u sk v::(L++N++Z)) sS)
    .exact I 17 _ w ⟨true,a,c,_,⟨y,b,s,n.trans C,.inr (.inr ⟨Y,H,rfl,j,rfl,U,hH,hA,rfl⟩)⟩,rfl⟩ (h.sub (M:=cX sk v ⟨#[]⟩ true a c e::ae y::bf v p q b id s true::aj d Y::az y b B0::bE rp (some ⟨u,0,none⟩) d 120::cS u sk v::(L++N++Z)) sS)
  .rw[hM]at h
   exact hK (P.1,t,()) i O Q o w hr h
 .obtain⟨G,r,D,n,hR⟩:=hR
  rcases hR with⟨t,rfl,W,rfl⟩|⟨Y,m,g,rfl,j,hz,rfl,U,hY,oX,V,rfl⟩|⟨Y,H,rfl,j,hz,U,hH,hA,rfl⟩
  .exact wO G s1 t i w n W h1 ⟨u,sk,v,p,q,b,id,s,O,Q,e',X,l,bT,CT,Yc,hV.up n,h.sub sS⟩
  .exact vg G s1 w n j hz U h1 ⟨u,sk,v,p,q,r,id,D,O,Q,e',Y,m,g,hY.trans CT,om,V,h.sub sS⟩
  .refine wP G s1 w n j hz U h1 ⟨u,sk,v,p,q,b,id,s,i,O,Q,e',Y,cU X,H,?_,hV.f,hA,h.sub sS⟩
   intro S' hS
   obtain⟨T3,b3,h3,h4⟩:=hH S' hS
   exact⟨T3,b3,om,h4⟩
theorem Wy {k:Sl->Pr} (h:gP E w F rp d T B0 B1 L) (S:kt P) (l:gT P=true) (y:(cZ P).length<=100000) (U:dN B0.aJ)
  (V:∀G s e C,F.le G->((P.1<=B0.seq/\e=0)\/(B0.seq<P.1/\e=17))->s.len=1->gP E C G rp d T B0 B1 (OS 136 aC s [(P.1,e,())]::L)->k s C):
  CL 53 #[.pointer (some ⟨rp,0,none⟩),.string (B (l5 (cZ P)))] aE k w:=by
 obtain⟨u,sk,v,p,q,b,id,s,z,a,c,e,X,W,Y,Z,m,n,h⟩:=h
 refine xU (h.bF (A1:=bE rp (some ⟨u,0,none⟩) d 120) (A2:=cS u sk v) pK pK) λw h=>?_
 refine Fp (sk:=sk) (v:=v) (z:=z) (a:=a) (c:=c) (e:=e) (b:=cZ P)
  (M:=ae F::bf v p q b id s true::az F b B0::aj d X::bE rp (some ⟨u,0,none⟩) d 120::cS u sk v::L)
  (R:=λx D H I J=>∃(G:bh) (e:Int),F.le G/\x=(P.1,e,())/\((P.1<=B0.seq/\e=0)\/(B0.seq<P.1/\e=17))/\J=ae G::bf v p q b id s true::az G b B0::aj d X::bE rp (some ⟨u,0,none⟩) d 120::cS u sk v::L)
  (h.sub sS) y (λN w K h O=>?_) (λx D H I e' J s1 w l h1 h=>?_)
 .refine Fv (F:=F) (p:=p) (q:=q) (b0:=b) (id:=id) (s:=s) (bl:=true) (L:=aj d X::bE rp (some ⟨u,0,none⟩) d 120::cS u sk v::(L++N))
      (R:=λj Q=>∃(G:bh),F.le G/\j=17/\Q=cX sk v ⟨#[]⟩ true a c e::(ae G::bf v p q b id s true::az G b B0::aj d X::bE rp (some ⟨u,0,none⟩) d 120::cS u sk v::(L++N)))
      (h.sub sS) S l y U (λo G w f h=>?_) (λg G pk r K2 w f C6 h i=>?_) (λg j Q w ⟨G,f,t,hM⟩ h=>?_)
  .exact O (P.1,0,()) z a (w6 (c+1)) _ w ⟨G,0,f,rfl,.inl ⟨o,rfl⟩,rfl⟩ (h.sub (M:=cX sk v ⟨#[]⟩ z a (w6 (c+1)) e::ae G::bf v p q b id s true::az G b B0::aj d X::bE rp (some ⟨u,0,none⟩) d 120::cS u sk v::(L++N)) sS)
  .have h:ab E w (ae G::cX sk v ⟨#[]⟩ z a c e::bf v p q b id s true::az G b B0::aj d X::bE rp (some ⟨u,0,none⟩) d 120::cS u sk v::(L++N++r)):=h
   cases z with
   |true=>
    refine KM (h.pick (A:=cX sk v ⟨#[]⟩ true a c e) pK) λw h=>?_
    exact i 17 _ w ⟨G,f,rfl,rfl⟩ (h.sub (M:=cX sk v ⟨#[]⟩ true a c e::ae G::bf v p q b id s true::az G b B0::aj d X::bE rp (some ⟨u,0,none⟩) d 120::cS u sk v::(L++N++r)) sS)
   |false=>
    refine Uf (h.bF (A1:=cX sk v ⟨#[]⟩ false a c e) (A2:=bf v p q b id s true) pK pK) λw h=>?_
    exact i 17 _ w ⟨G,f,rfl,rfl⟩ (h.sub (M:=cX sk v ⟨#[]⟩ true a c e::ae G::bf v p q b id s true::az G b B0::aj d X::bE rp (some ⟨u,0,none⟩) d 120::cS u sk v::(L++N++r)) sS)
  .rw[hM]at h
   rw[t]
   exact O (P.1,17,()) true a c _ w ⟨G,17,f,rfl,.inr ⟨g,rfl⟩,rfl⟩ h
 .obtain⟨G,j,f,rfl,t,rfl⟩:=l
  exact V G s1 j w f t h1 ⟨u,sk,v,p,q,b,id,s,D,H,I,e',X,W,Y,Z,m,n,h.sub sS⟩
theorem W1 {k:Sl->Pr} (h:de E w F rp d fu T z B0 L) (l:∀j,de E j F rp d fu T z B0 L->k au j):CL 53 #[.pointer (some ⟨rp,0,none⟩),.string ⟨#[]⟩] aE k w:=by
 obtain⟨u,f,v,p,q,b,id,s,a,c,e,X,m,n,g,i,o,h⟩:=h
 refine xU (h.bF (A1:=bE rp (some ⟨u,0,none⟩) d 120) (A2:=cS u f v) pK pK) λw h=>?_
 refine Fq (h.pick (A:=cX f v ⟨#[]⟩ z a c e) pK) λw h=>?_
 exact l w ⟨u,f,v,p,q,b,id,s,a,c,e,X,m,n,g,i,o,h.sub sS⟩
theorem W2 {k:Sl->Pr} (h:gP E w F rp d T B0 B1 L) (l:∀j,gP E j F rp d T B0 B1 L->k au j):CL 53 #[.pointer (some ⟨rp,0,none⟩),.string ⟨#[]⟩] aE k w:=by
 obtain⟨u,f,v,p,q,b,id,s,z,a,c,e,X,m,n,o,g,i,h⟩:=h
 refine xU (h.bF (A1:=bE rp (some ⟨u,0,none⟩) d 120) (A2:=cS u f v) pK pK) λw h=>?_
 refine Fq (h.pick (A:=cX f v ⟨#[]⟩ z a c e) pK) λw h=>?_
 exact l w ⟨u,f,v,p,q,b,id,s,z,a,c,e,X,m,n,o,g,i,h.sub sS⟩
theorem xr {k:Bool->Pr} (h:de E w F rp d fu T z B0 L) (j:∀i,de E i F rp d fu T z B0 L->k true i):CL 22 #[.pointer (some ⟨rp,0,none⟩)] aw k w:=by
 obtain⟨u,l,v,p,q,b,id,s,a,c,e,X,m,n,f,g,o,h⟩:=h
 refine zF (h.pick (A:=bE rp (some ⟨u,0,none⟩) d 120) pK) λw h=>?_
 exact j w ⟨u,l,v,p,q,b,id,s,a,c,e,X,m,n,f,g,o,h.sub sS⟩
theorem Ba {k:Bool->Pr} (h:gP E w F rp d T B0 B1 L) (j:∀i,gP E i F rp d T B0 B1 L->k true i):CL 22 #[.pointer (some ⟨rp,0,none⟩)] aw k w:=by
 obtain⟨u,l,v,p,q,b,id,s,z,a,c,e,X,m,n,o,f,g,h⟩:=h
 refine zF (h.pick (A:=bE rp (some ⟨u,0,none⟩) d 120) pK) λw h=>?_
 exact j w ⟨u,l,v,p,q,b,id,s,z,a,c,e,X,m,n,o,f,g,h.sub sS⟩
theorem D6 {k:Bool->Pr} (h:iD E w F rp d fo T N B0 L) (c:∀a,iD E a F rp d fo T N B0 L->k false a):CL 22 #[.pointer (some ⟨rp,0,none⟩)] aw k w:=by
 obtain⟨X,e,b,P,f,g,i,j,l,h⟩:=h
 refine UB (h.pick (A:=bE rp none d 120) pK) λw h=>?_
 exact c w ⟨X,e,b,P,f,g,i,j,l,h.sub sS⟩
theorem aiy {k:Int×Int×Unit->Pr} (h:de E w F rp d fu T z B0 L) (hT:T<=900000) (K:dN B0.aJ) (N:lu B0.aJ) (O:fz B0.time B0.aM hz=0->vZ (lQ hz B0))
  (o:∀G e i,F.le G->e≠0->e≠6->de E i G rp d fu T z B0 L->k (0,e,()) i)
  (y:∀G n i,F.le G->fz B0.time B0.aM hz=0->de E i G rp d fu (T+1) z (lQ hz B0) L->k (n,0,()) i)
  (A:∀G i,F.le G->fz B0.time B0.aM hz=0->gP E i G rp d (T+1) B0 (lQ hz B0) L->k (0,6,()) i):
  CL 54 #[.pointer (some ⟨rp,0,none⟩),iv hz] (.aG [.leaf (.int .i64),.leaf (.int .i64)]) k w:=by
 obtain⟨u,j,v,p,q,b,id,s,a,c,e,X,C,bT,l,r,t,h⟩:=h
 refine LC (h.bF (A1:=bE rp (some ⟨u,0,none⟩) d 120) (A2:=cS u j v) pK pK) λw h=>?_
 refine Tj (F:=F) (p:=p) (q:=q) (b0:=b) (d:=d) (T:=C) (bT:=bT) (id:=id) (s:=s) (X:=X) (B0:=B0) (L:=bE rp (some ⟨u,0,none⟩) d 120::cS u j v::cX j v ⟨#[]⟩ z a c e::L) (h.sub sS) t om K N O
  (λg w h=>?_) (λG w x m h=>?_) (λG Y P D H Q R n w x m J S I h=>?_) (λG Y U w x m hf J V W h=>?_)
 .refine o F _ w (dC _) g ?_ ⟨u,j,v,p,q,b,id,s,a,c,e,X,C,bT,l,r,t,h.sub sS⟩
  unfold fz at g⊢
  split
  .decide
  .split
   .decide
   .rename_i Z h2;rw[ai Z,ai h2]at g;exact absurd rfl g
 .exact o G 3 w m dE dE ⟨u,j,v,p,q,b,id,s,a,c,e,X,C,bT,l,r,t.up m,h.sub sS⟩
 .exact y G n w m x ⟨u,j,v,p,q,R,H,Q,a,c,e,Y,P,D,J.trans l,om,I,h.sub sS⟩
 .refine A G w m x ⟨u,j,v,p,q,b,id,s,z,a,c,e,Y,cU X,U,?_,t.f,W,h.sub sS⟩
  intro S' hS
  obtain⟨T3,b3,h3,h4⟩:=V S' hS
  exact⟨T3,b3,om,h4⟩
theorem aiA {k:Int×Int×Unit->Pr} (h:gP E w F rp d T B0 B1 L) (l:∀i,gP E i F rp d T B0 B1 L->k (0,17,()) i):
  CL 54 #[.pointer (some ⟨rp,0,none⟩),iv hz] (.aG [.leaf (.int .i64),.leaf (.int .i64)]) k w:=by
 obtain⟨u,j,v,p,q,b,id,s,z,a,c,e,X,m,n,o,f,g,h⟩:=h
 refine LC (h.bF (A1:=bE rp (some ⟨u,0,none⟩) d 120) (A2:=cS u j v) pK pK) λw h=>?_
 refine Tk (h.pick (A:=bf v p q b id s true) pK) λw h=>?_
 exact l w ⟨u,j,v,p,q,b,id,s,z,a,c,e,X,m,n,o,f,g,h.sub sS⟩
theorem aiz {k:Int×Int×Unit->Pr} (h:iD E w F rp d fo T N B0 L) (c:∀a,iD E a F rp d fo T N B0 L->k (0,6,()) a):
  CL 54 #[.pointer (some ⟨rp,0,none⟩),iv hz] (.aG [.leaf (.int .i64),.leaf (.int .i64)]) k w:=by
 obtain⟨X,e,b,P,f,g,i,j,l,h⟩:=h
 refine VA (h.pick (A:=bE rp none d 120) pK) λw h=>?_
 exact c w ⟨X,e,b,P,f,g,i,j,l,h.sub sS⟩
theorem abF (h:de E w F rp d fu T z B0 L) (W:T<=900000) (C:vZ B0)
  (j:∀G e l,F.le G->de E l G rp d fu (T+1) z B0 L->k e l)
  (n:∀G e l,F.le G->gP E l G rp d (T+1) B0 B0 L->k e l):
  CL 55 #[.pointer (some ⟨rp,0,none⟩)] ah k w:=by
 obtain⟨u,g,v,p,q,b,id,s,a,c,e,X,y,bT,m,D,o,h⟩:=h
 refine LF (h.bF (A1:=bE rp (some ⟨u,0,none⟩) d 120) (A2:=cS u g v) pK pK) λw h=>?_
 refine Tm (F:=F) (p:=p) (q:=q) (b0:=b) (d:=d) (T:=y) (bT:=bT) (id:=id) (s:=s) (X:=X) (B1:=B0) (L:=bE rp (some ⟨u,0,none⟩) d 120::cS u g v::cX g v ⟨#[]⟩ z a c e::L) (h.sub sS) o om C
  (λG w i h=>?_) (λG Y H r t I J w i A K x h=>?_) (λG Y N w i Z A O P h=>?_)
 .exact j G 3 w i ⟨u,g,v,p,q,b,id,s,a,c,e,X,y,bT,m,om,o.up i,h.sub sS⟩
 .exact j G 0 w i ⟨u,g,v,p,q,J,t,I,a,c,e,Y,H,r,A.trans m,om,x,h.sub sS⟩
 .refine n G 6 w i ⟨u,g,v,p,q,b,id,s,z,a,c,e,Y,cU X,N,?_,o.f,P,h.sub sS⟩
  intro Q R
  obtain⟨S,U,h3,V⟩:=O Q R
  exact⟨S,U,om,V⟩
theorem abH (h:gP E w F rp d T B0 B1 L) (l:∀i,gP E i F rp d T B0 B1 L->k 17 i):
  CL 55 #[.pointer (some ⟨rp,0,none⟩)] ah k w:=by
 obtain⟨u,j,v,p,q,b,id,s,z,a,c,e,X,m,n,o,f,g,h⟩:=h
 refine LF (h.bF (A1:=bE rp (some ⟨u,0,none⟩) d 120) (A2:=cS u j v) pK pK) λw h=>?_
 refine Tn (h.pick (A:=bf v p q b id s true) pK) λw h=>?_
 exact l w ⟨u,j,v,p,q,b,id,s,z,a,c,e,X,m,n,o,f,g,h.sub sS⟩
theorem abG (h:iD E w F rp d fo T N B0 L) (c:∀a,iD E a F rp d fo T N B0 L->k 6 a):
  CL 55 #[.pointer (some ⟨rp,0,none⟩)] ah k w:=by
 obtain⟨X,e,b,P,f,g,i,j,l,h⟩:=h
 refine VB (h.pick (A:=bE rp none d 120) pK) λw h=>?_
 exact c w ⟨X,e,b,P,f,g,i,j,l,h.sub sS⟩
theorem Xw {k:Unit->Pr} (h:de E w F rp d fu T z B0 L) (j:∀i,de E i F rp d true T z B0 L->k () i):CL 57 #[.pointer (some ⟨rp,0,none⟩),iv n] (.aG []) k w:=by
 obtain⟨u,l,v,p,q,b,id,s,a,c,e,X,m,o,r,f,g,h⟩:=h
 refine LG (h.bF (A1:=bE rp (some ⟨u,0,none⟩) d 120) (A2:=aj d X) pK pK) λw h=>?_
 exact j w ⟨u,l,v,p,q,b,id,s,a,c,e,{X with fu:=true,lf:=if 0>n then 0 else n},m,o,rfl,f,⟨g.c,g.cl,g.ex⟩,h.sub sS⟩
theorem Xy {k:Unit->Pr} (h:gP E w F rp d T B0 B1 L) (j:∀i,gP E i F rp d T B0 B1 L->k () i):CL 57 #[.pointer (some ⟨rp,0,none⟩),iv n] (.aG []) k w:=by
 obtain⟨u,l,v,p,q,b,id,s,z,a,c,e,X,m,o,r,f,g,h⟩:=h
 refine LG (h.bF (A1:=bE rp (some ⟨u,0,none⟩) d 120) (A2:=aj d X) pK pK) λw h=>?_
 exact j w ⟨u,l,v,p,q,b,id,s,z,a,c,e,{X with fu:=true,lf:=if 0>n then 0 else n},m,o,r,f,g,h.sub sS⟩
theorem Xx {k:Unit->Pr} (h:iD E w F rp d fo T N B0 L) (c:∀a,iD E a F rp d false T N B0 L->k () a):CL 57 #[.pointer (some ⟨rp,0,none⟩),iv n] (.aG []) k w:=by
 obtain⟨X,e,b,P,l,f,g,i,j,h⟩:=h
 refine VC (h.bF (A1:=bE rp none d 120) (A2:=aj d X) pK pK) λw h=>?_
 exact c w ⟨{X with fu:=true,lf:=if 0>n then 0 else n},e,b,P,(λh=>by cases h),f,g,i,j,h.sub sS⟩
def zh (E w:World) (G:bh) (rp d:Nat) (T:Nat) (Q:b9->Prop) (L:List aK):Prop:=
 ∃(u:Option Addr) (X:DX),(u=none\/∃b,u=some ⟨b,0,none⟩)/\(∀a,fY X.S X.c a->∃e b P f,e<=T/\eU a [] e b P/\oI P f/\Q f)/\ab E w (ae G::bE rp u d 120::aj d X::L)
abbrev o4 (dh:List Bool):List (bK [.bool]):=dh.map λb=>((b,()):bK [.bool])
theorem de.s9 (h:de E w F rp d fu T z B0 L) (j:Q B0):zh E w F rp d T Q L:=by
 obtain⟨u,t,v,p,q,b,id,s,a,c,e,X,x,y,k,l,g,h⟩:=h
 refine⟨some ⟨u,0,none⟩,X,.inr ⟨u,rfl⟩,λA i=>?_,h.sub sS⟩
 have m:=g.cl.down
 rw[g.c]at i
 obtain⟨n,o,C,r⟩:=m.Cv i
 exact⟨n,o,_,B0,om,r,g.f,j⟩
theorem gP.s9 (h:gP E w F rp d T B0 B1 L) (n:Q B0) (g:Q B1):zh E w F rp d T Q L:=by
 obtain⟨u,x,v,p,q,b,id,s,z,a,c,e,X,y,A,o,i,j,h⟩:=h
 refine⟨some ⟨u,0,none⟩,X,.inr ⟨u,rfl⟩,λr t=>?_,h.sub sS⟩
 obtain⟨k,l,m,f⟩:=o r t
 rcases f with f|f
 .exact⟨k,l,_,B0,m,f,i,n⟩
 .exact⟨k,l,_,B1,m,f,j,g⟩
theorem iD.s9 (h:iD E w F rp d fo T N B0 L) (a:Q B0):zh E w F rp d T Q L:=by
 obtain⟨X,k,b,P,l,m,n,c,e,h⟩:=h
 refine⟨none,X,.inl rfl,λo f=>?_,h⟩
 obtain⟨g,i,p,j⟩:=c.Cv f
 exact⟨g,i,P,B0,om,j,e,a⟩
theorem Tq (h:ab E w (ae F::bE rp u d 120::aj d X::L)) (l:u=none\/∃b,u=some ⟨b,0,none⟩)
  (m:∀e,fY X.S X.c e->∃i b P f,i<=T/\eU e [] i b P/\oI P f/\Q f) (hs:FL F [.bool] s (o4 dh)) (j:dh.length<=X.c.length)
  (n:∀f g,Q f->iD E g F rp d true T 0 f L->k 0 g):CL 106 #[.pointer (some ⟨rp,0,none⟩),sv s] ah k w:=by
 have a:∀e g,fY X.S X.c e->ab E g (ae F::bE rp none d 120::aj d {S:=e,c:=[],fu:=false,lf:=X.lf}::L)->k 0 g:=λe g o h=>by
  obtain⟨i,b,P,f,p,r,t,v⟩:=m e o
  exact n f g v ⟨_,i,b,P,λ_=>rfl,p,cV _,r,t,h⟩
 rcases l with rfl|⟨b,rfl⟩
 .exact Tp h hs j a
 .exact To h hs j a
theorem ahn (h:iD E w F rp d fo T N B0 L) (K:T<=800000) (O:N+1000<1000000) (y:dN B0.aJ)
  (c:∀G n a,F.le G->(fo=true->n=false)->de E a G rp d n (T+3) false B0 L->k 0 a)
  (e:fo=false->∀a,iD E a F rp d false (T+3) (N+1000) B0 L->k 6 a):CL 100 #[.pointer (some ⟨rp,0,none⟩)] ah k w:=by
 obtain⟨X,Q,b,P,o,R,S,z,f,h⟩:=h
 obtain⟨_,_,g,_,_⟩:=ow (h.pick (A:=aj d X) pK)
 refine Kf h g z om om f.2 y (λG u C v p q i id s Y j l w D H r I h=>?_) (λw Y r t U x m h=>?_)
 .exact c G X.fu w D o ⟨u,C,v,p,q,i,id,s,0,0,0,Y,j,l,r,om,I,h⟩
 .obtain⟨j,i,V,W,J⟩:=m f.1
  refine e ?_ w ⟨Y,j,i,P,(λh=>by cases h),om,om,J,f,h⟩
  cases fo with
  |false=>rfl
  |true=>rw[o rfl]at t;cases t
theorem HH (h:de E w F rp d fu T z B0 L) (l:dN B0.aJ) (m:∀i,de E i F rp d fu T z B0 L->k B0.seq i):CL 108 #[.pointer (some ⟨rp,0,none⟩)] ah k w:=by
 obtain⟨u,j,v,p,q,b,id,s,a,c,e,X,n,o,f,g,r,h⟩:=h
 refine Tt (F:=F) (h.Pq (A1:=ae F) (A2:=bE rp (some ⟨u,0,none⟩) d 120) (A3:=cS u j v) (A4:=bf v p q b id s false) (A5:=az F b B0) pK pK pK pK pK) l λw h=>?_
 exact m w ⟨u,j,v,p,q,b,id,s,a,c,e,X,n,o,f,g,r,h.sub sS⟩
theorem NP (h:de E w F rp d fu T z B0 L) (l:dN B0.aJ) (m:∀i,de E i F rp d fu T z B0 L->k B0.aM i):CL 109 #[.pointer (some ⟨rp,0,none⟩)] ah k w:=by
 obtain⟨u,j,v,p,q,b,id,s,a,c,e,X,n,o,f,g,r,h⟩:=h
 refine Tu (F:=F) (h.Pq (A1:=ae F) (A2:=bE rp (some ⟨u,0,none⟩) d 120) (A3:=cS u j v) (A4:=bf v p q b id s false) (A5:=az F b B0) pK pK pK pK pK) l λw h=>?_
 exact m w ⟨u,j,v,p,q,b,id,s,a,c,e,X,n,o,f,g,r,h.sub sS⟩
end Go.Proofs.YtelhccfmfnaegaaGreat
