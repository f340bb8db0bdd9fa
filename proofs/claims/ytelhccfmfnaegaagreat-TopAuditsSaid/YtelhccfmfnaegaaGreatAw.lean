/- Lemmas for topAudits_holds. No conditions. -/
import Derived.Test.YtelhccfmfnaegaaGreatAi
set_option linter.unusedSectionVars false
set_option linter.unusedVariables false
set_option linter.unusedSimpArgs false
set_option linter.defProp false
set_option maxRecDepth 10000
namespace Go.Proofs.YtelhccfmfnaegaaGreat
open Go Go.Sh Tryz
attribute [local irreducible] aT jC gk dV kO dg hex iT jk ae aj aN bq fL
def l9 (a b:ByteArray):Bool:=Op.bytesLess a.toList b.toList
theorem J9:∀{a b c:List UInt8},Op.bytesLess a b=true->Op.bytesLess b c=true->Op.bytesLess a c=true
 |a,b,[],_,h=>by cases b<;>simp[Op.bytesLess]at h
 |a,[],c::z,h,_=>by cases a<;>simp[Op.bytesLess]at h
 |[],b::y,c::z,_,_=>rfl
 |a::x,b::y,c::z,d,e=>by
  simp only[Op.bytesLess,rz,bX,bp,qq]at d e⊢
  rcases d with d|⟨rfl,d⟩<;>rcases e with e|⟨rfl,e⟩
  .left;rw[R2]at*;omega
  .exact .inl d
  .exact .inl e
  .exact .inr ⟨rfl,J9 d e⟩
theorem J6:∀(a b:List UInt8),Op.bytesLess a b=false->a≠b->Op.bytesLess b a=true
 |[],[],_,h=>absurd rfl h
 |[],b::y,h,_=>by simp[Op.bytesLess]at h
 |a::x,[],_,_=>rfl
 |a::x,b::y,h,d=>by
  simp only[Op.bytesLess,Jy,ml,Bool.and_eq_false_iff,Es]at h
  simp only[Op.bytesLess,rz,bX,bp,qq]
  by_cases c:a=b
  .subst c
   right
   refine⟨rfl,J6 x y ?_ (λe=>d (by rw[e]))⟩
   rcases h.2 with f|f
   .exact absurd rfl f
   .exact f
  .left
   have g:=h.1
   have:a.toNat≠b.toNat:=λe=>c (UInt8.toNat_inj.1 e)
   rw[R2]at*
   omega
theorem J1:∀(a:List UInt8),Op.bytesLess a a=false
 |[]=>rfl
 |a::x=>by simp[Op.bytesLess,J1 x]
variable {a c:ByteArray} {l:List ByteArray} {x:ByteArray} {n kck:Nat} {vl:cE} {M V:TypeId} {m ck:Nat} {kf:(Sl->Pr)->Addr->Sl->Pr} {J:Sl->Pr} {α:Type} {F:bh} {N:Nat} {es:List TE} {ez:List TR} {f:ByteArray->Option dO} {e:TE} {b:Nat} {nm:ByteArray} {done:List ByteArray} {T:dO} {vs:List Vn} {t3:Nat} {hz:Int} {v1 v2 v3 v4:Value} {ls:List bD} {y1 y2 y3 y4:bK ls} {s:Sl} {ns:List Int} {B0:b9}
theorem toList_inj {b:ByteArray} (hc:a.toList=b.toList):a=b:=by
 rw[R3,R3]at hc
 obtain⟨⟨x⟩⟩:=a
 obtain⟨⟨y⟩⟩:=b
 simp only at hc
 rw[hc]
theorem HG {b:ByteArray} (d:l9 a b=true) (e:l9 b c=true):l9 a c=true:=J9 d e
theorem Dm (a:ByteArray):l9 a a=false:=J1 _
theorem OE {b:ByteArray} (h:l9 a b=false) (c:a≠b):l9 b a=true:=J6 _ _ h λd=>c (toList_inj d)
def lU (l:List ByteArray):Prop:=l.Pairwise λa b=>l9 a b=true
theorem lU.insert (h:lU l) (hn:n<=l.length) (f:∀y∈l.take n,l9 y x=true) (g:∀y∈l.drop n,l9 x y=true):lU (l.take n++x::l.drop n):=by
 have c:lU (l.take n++l.drop n):=by rw[oq];exact h
 have c:=List.pairwise_append.1 c
 refine List.pairwise_append.2 ⟨c.1,List.pairwise_cons.2 ⟨λy i=>g y i,c.2.1⟩,λa e b d=>?_⟩
 rcases List.mem_cons.1 d with rfl|d
 .exact f a e
 .exact c.2.2 a e b d
theorem lU.nodup (h:lU l):l.Nodup:=List.Pairwise.imp (λ{a b} c e=>by subst e;rw[Dm]at c;cases c) h
theorem lU.ext:∀{a b:List ByteArray},lU a->lU b->(∀y,y∈a↔y∈b)->a=b
 |[],[],_,_,_=>rfl
 |[],b::y,_,_,h=>absurd ((h b).2 eo) sU
 |a::x,[],_,_,h=>absurd ((h a).1 eo) sU
 |a::x,b::y,i,j,h=>by
  have c:=List.pairwise_cons.1 i
  have d:=List.pairwise_cons.1 j
  have e:a=b:=by
   rcases List.mem_cons.1 ((h a).1 eo)with e|f
   .exact e
   rcases List.mem_cons.1 ((h b).2 eo)with e|k
   .exact e.symm
   have l:=d.1 a f
   have m:=c.1 b k
   have:=HG l m
   rw[Dm]at this;cases this
  subst e
  congr 1
  refine lU.ext c.2 d.2 λz=>⟨λg=>?_,λg=>?_⟩
  .rcases List.mem_cons.1 ((h z).1 (dH _ g))with e|f
   .subst e;have:=c.1 z g;rw[Dm]at this;cases this
   .exact f
  .rcases List.mem_cons.1 ((h z).2 (dH _ g))with e|f
   .subst e;have:=d.1 z g;rw[Dm]at this;cases this
   .exact f
structure BY {V:Type} (vq:List (dd ByteArray V)) (seen:Array Nat) (l:List ByteArray):Prop where
 H5:lU l
 mem:∀y,y∈l↔∃q∈vq,q.born∈seen/\q.key=y
 len:l.length+lP vq seen<=vq.length
theorem BY.step {V:Type} {vq:List (dd ByteArray V)} {seen:Array Nat} {q:dd ByteArray V} (d:BY vq seen l) (f:q∈vq) (hs:q.born∉seen) (i:Stamped vq kck) (hn:n<=l.length)
  (j:∀y∈l.take n,l9 y q.key=true) (k:∀y∈l.drop n,l9 q.key y=true):BY vq (seen.push q.born) (l.take n++q.key::l.drop n):=by
 refine⟨d.H5.insert hn j k,λy=>?_,?_⟩
 .have e:y∈l.take n++q.key::l.drop n↔y∈l\/y=q.key:=by
      have m:y∈l↔y∈l.take n\/y∈l.drop n:=by rw[<-mN,oq]
      rw[m,mN,nz]
      constructor
      .rintro(h|h|h)
       .exact .inl (.inl h)
       .exact .inr h
       .exact .inl (.inr h)
      .rintro((h|h)|h)
       .exact .inl h
       .exact .inr (.inr h)
       .exact .inr (.inl h)
  rw[e,d.mem]
  constructor
  .rintro(⟨g,b,a,c⟩|rfl)
   .exact⟨g,b,by simp[a],c⟩
   .exact⟨q,f,sI,rfl⟩
  .rintro⟨g,b,a,c⟩
   simp only[Array.mem_push]at a
   rcases a with a|a
   .exact .inl ⟨g,b,a,c⟩
   .have:=born_inj i b f a
    subst this
    exact .inr c.symm
 .have:=uf f hs
  have:=d.len
  rw[aU,db,cn,fq]
  omega
abbrev o8 (y:ByteArray):bK eL:=(y,())
variable {E w:World} {L L':List aK}
theorem OQ {es:List (dd ByteArray vl.den)} (hM:prog.underlying M=some (.map 9 V)) (hS:Stamped es ck) (C2:(es.map (·.key)).Nodup) (hn:es.length<=1000000) (h:ab E w (ae F::bG .str vl m es ck::L))
   (hJ:∀(l:List ByteArray) G s w',F.le G->lU l->(∀y,y∈l↔∃q∈es,q.key=y)->l.length<=es.length->FL G eL s (l.map o8)->ab E w' (ae G::bG .str vl m es ck::L)->J s w'):
   DP (vN (Instr.range M (.map (some m)))) dB (λt7=>aV (S:=Sl) (λnext mc=>ba λ_=>NX (vN (Instr.next (pa t7) false 0)) [.leaf .str,vl] (af false (kf next t7 mc) (J mc)) λt8=>af true (
 GT (vN (Instr.entry (pa t7))) (.aG [.leaf .str,vl]) λc=>
 aV (S:=Int) (λv f=>ba λ_=>
 JB (λN=>
 af N (v (w6 (f-1))) (
 aY<|
 VL (vN (Instr.sliceAt 204 (sv mc) none (some (iv f)) (some (iv f)))) aE λO=>
 VL (vN (Instr.sliceAt 204 (sv mc) (some (iv f)) none none)) aE λP=>
 BS 204 1 #[(0,.string c.1)] λQ=>
 AP 204 204 204 Q P λR=>
 AP 204 204 204 O R λahw=>next ahw)) λuG=>
 af (decide ((f:Int)>0)) (
 IX 204 mc (w6 (f-1)) λU=>
 LD 9 U an λo=>uG (!(Op.bytesLess o.toList c.1.toList||(o.toList==c.1.toList)))) (uG false)) mc.len) (J mc)) (au)) w:=by
  refine wF (K:=9) (V:=V) h pK hM λr w h=>?_
  refine sX (λn (s:Sl) w=>∃(seen:Array Nat) (l:List ByteArray) (G:bh),BY es seen l/\n=lP es seen/\F.le G/\FL G eL s (l.map o8)/\ab E w (aT r (.mapIter (some m) ck seen ck)::bG .str vl m es ck::ae G::L)) (lP es #[])
   ⟨#[],[],F,⟨ze,λy=>by simp,by rw[mO,qt];exact gV _ _⟩,rfl,.refl _,.nil,h.sub sS⟩ ?_
  rintro n next s w ⟨seen,l,G,W,rfl,hG,g,h⟩ X
  refine ao λ_=>?_
  refine w9 h hS (λhd=>?_) (λq hq hs w h=>?_)
  .refine ar rfl ?_
   refine hJ l G s w hG W.H5 (λy=>?_) (by have:=W.len;omega) g (h.sub sS)
   rw[W.mem]
   constructor
   .rintro⟨q,Z,_,h2⟩;exact⟨q,Z,h2⟩
   .rintro⟨q,Z,h2⟩;exact⟨q,Z,hd q Z,h2⟩
  .refine aR rfl ?_
   refine wH h hS hq ?_
   have A:q.key∉l:=λhc=>by
    obtain⟨q',Z,h2,h3⟩:=(W.mem _).1 hc
    have:=map_inj C2 Z hq h3
    subst this
    exact hs h2
   have ZT:=uf hq hs
   have hlen:=W.len
   have hl:s.len=l.length:=by rw[g.2,bW]
   have wK:=g.cap
   rw[bW]at wK
   refine uD (λ(i:Int) w=>∃n:Nat,i=n/\n<=l.length/\(∀y∈l.drop n,l9 q.key y=true)/\ab E w (aT r (.mapIter (some m) ck (seen.push q.born) ck)::bG .str vl m es ck::ae G::L)) (λi _=>i.toNat)
    ⟨l.length,by rw[hl],cV _,λy u=>by simp at u,h⟩ ?_
   rintro w8 i w ⟨n,rfl,tx,p,h⟩ C
   refine ao λ_=>?_
   refine br (λb w=>ab E w (aT r (.mapIter (some m) ck (seen.push q.born) ck)::bG .str vl m es ck::ae G::L)/\(b=true->0<n/\∃d:n-1<l.length,l9 q.key l[n-1]=true)/\(b=false->∀y∈l.take n,l9 y q.key=true)) ?_ ?_
   .rintro b w ⟨h,Yl,GK⟩
    refine ao λ_=>?_
    refine ax (λhc=>?_) (λhc=>?_)
    .obtain⟨D,d,dy⟩:=Yl hc
     refine C _ _ ⟨n-1,by rw[bQ om];omega,om,λy u=>?_,h⟩ (by rw[bQ om];omega)
     have e:l.drop (n-1)=l[n-1]::l.drop n:=by
      rw[iB d];congr 2;omega
     rw[e]at u
     rcases List.mem_cons.1 u with rfl|u
     .exact dy
     .exact p y u
    .have Y:=GK hc
     refine dr h λw h=>?_
     refine Ii (i:=n) (z:=1) om ?_
     refine AU (i:=n) (z:=1) om ?_
     have H:=g.sub (l:=0) (h:=n) (m:=n) (jt _) (by simpa using tx) (cV _)
     have I:=g.sub (l:=n) (h:=s.len) (m:=s.cap) om (by rw[hl];simp) om
     simp only[mi,pz]at H
     rw[iP (by rw[fq,bW];omega)]at I
     refine bJ (T:=204) (ls:=eL) (y:=o8 q.key) h λt32 w _ h=>?_
     refine ap (T:=204) (ls:=eL) (xs:=[o8 q.key]) (ys:=(l.map o8).drop n) h (λw h=>I.reads (h.pick pK)) (by simp;omega) λt36 w h=>?_
     obtain⟨G2,nX,h,GD⟩:=dT (T:=204) (ls:=eL) (s:=t36) (F:=G) h
     refine JR (T:=204) (ls:=eL) h (H.up nX) GD (by simp;omega) rfl sI λt37 w h=>?_
     obtain⟨G3,tu,h,GF⟩:=dT (T:=204) (ls:=eL) (s:=t37) (F:=G2) h
     refine X _ _ w ZT ⟨seen.push q.born,_,G3,W.step hq hs hS tx Y p,rfl,(hG.trans nX).trans tu,?_,h.sub sS⟩
     have e2:(l.take n++q.key::l.drop n).map o8=(l.map o8).take n++([o8 q.key]++(l.map o8).drop n):=sI
     rw[e2];exact GF
   .intro J2 lE
    refine ax (λhc=>?_) (λhc=>?_)
    .have D:0<n:=by have:=cT hc;omega
     have hw:w6 ((n:Int)-1)=((n-1:Nat):Int):=by rw[bQ om];omega
     have d:n-1<l.length:=om
     refine ix (T:=204) (ls:=eL) (i:=n-1) g (by simpa using d) (λa ha=>?_) hw
     refine nU (x:=l[n-1]) h ?_ (ha:=ha) (hc:=by simp;rfl)
     refine lE _ _ ⟨h,λk=>⟨D,d,?_⟩,λk y u=>?_⟩
     .simp only[mR,Jy]at k
      exact OE k.1 (λhc=>by rw[hc]at k;simp at k)
     .simp only[Bool.not_eq_false',rz]at k
      have t:l9 l[n-1] q.key=true:=by
       rcases k with k|k
       .exact k
       .have he:l[n-1]=q.key:=toList_inj (eq_of_beq k)
        exact absurd (he▸cp d) A
      obtain⟨j,hj,rfl⟩:=List.mem_iff_getElem.1 u
      rw[cn]at hj
      rw[y9]
      by_cases YP:j=n-1
      .subst YP;exact t
      .exact HG (List.pairwise_iff_getElem.1 W.H5 j (n-1) om d om) t
    .have D:n=0:=by have:¬(n:Int)>0:=cF hc;omega
     subst D
     exact lE _ _ ⟨h,λk=>(by cases k),λ_ y u=>by simp at u⟩
attribute [local irreducible] bG
def kX (f:ByteArray->Option α) (N:Nat):Prop:=∃a:List ByteArray,a.length<=N/\∀y v,f y=some v->y∈a
structure lu (f:ByteArray->Option dO):Prop where
 t:kX f 1000000
 k:∀y T,f y=some T->kX T.keys 1000000
def jd (l:List ByteArray) (f:ByteArray->Option α):Prop:=lU l/\∀y,y∈l↔(f y).isSome=true
theorem gN.short {es:List KE} {f:ByteArray->Option (List Vn)} (h:gN F es ck f) (hc:kX f N):es.length<=N:=by
 obtain⟨c,k,d⟩:=hc
 have:=lL h.nd (m:=c) λy g=>by
  obtain⟨e,i,rfl⟩:=List.mem_map.1 g
  have b:=sm ji h.nd i
  have a:iE (jv F) (dz fB e.key es) (f e.key):=h.at_ e.key
  rw[b]at a
  obtain⟨l,j,_⟩:=BD a
  exact d _ _ j
 rw[bW]at this
 omega
theorem fT.CB (h:fT F es ck ez f) (g:e∈es):∃T i,∃b:i<ez.length,f e.key=some T/\ez[i].nm=e.key/\e.val=mL ez[i]/\oH F ez[i] T:=by
 have a:=sm ji h.nd g
 cases c:f e.key with
 |none=>rw[h.no _ c]at a;cases a
 |some T=>
  obtain⟨i,b,j,d,k⟩:=h.so _ _ c
  rw[a]at d
  exact⟨T,i,b,rfl,j,ja d,k⟩
theorem fT.short (h:fT F es ck ez f) (hc:kX f N):es.length<=N:=by
 obtain⟨a,j,b⟩:=hc
 have:=lL h.nd (m:=a) λy c=>by
  obtain⟨e,d,rfl⟩:=List.mem_map.1 c
  obtain⟨T,i,k,g,_⟩:=h.CB d
  exact b _ _ g
 rw[bW]at this
 omega
theorem gN.mem {es:List KE} {f:ByteArray->Option (List Vn)} (h:gN F es ck f) (y:ByteArray):(∃q∈es,q.key=y)↔(f y).isSome=true:=by
 have a:iE (jv F) (dz fB y es) (f y):=h.at_ y
 constructor
 .rintro⟨q,c,rfl⟩
  rw[sm ji h.nd c]at a
  obtain⟨d,b,_⟩:=BD a
  rw[b];rfl
 .intro g
  obtain⟨d,b⟩:=Option.isSome_iff_exists.1 g
  rw[b]at a
  obtain⟨s,i,_⟩:=iE.so a
  obtain⟨e,j,k,_⟩:=tK ji i
  exact⟨e,j,k⟩
theorem fT.mem (h:fT F es ck ez f) (y:ByteArray):(∃q∈es,q.key=y)↔(f y).isSome=true:=by
 constructor
 .rintro⟨q,a,rfl⟩
  obtain⟨T,i,b,c,_⟩:=h.CB a
  rw[c];rfl
 .intro d
  obtain⟨T,g⟩:=Option.isSome_iff_exists.1 d
  obtain⟨i,b,m,j,_⟩:=h.so _ _ g
  obtain⟨e,k,l,_⟩:=tK ji j
  exact⟨e,k,l⟩
def rv (h:Int) (l:List Vn):Option (List Vn):=if(og l h).length=0 then none else some (og l h)
def Bb (h:Int) (T:dO):dO:=⟨T.defs,λk=>(T.keys k).bind (rv h)⟩
def rq (h:Int) (f:ByteArray->Option dO):ByteArray->Option dO:=λa=>(f a).map (Bb h)
variable {G:bh}
theorem Fx {es:List KE} {f:ByteArray->Option (List Vn)} {k:Sl->Pr} (h:ab E w (ae F::bG .str bH m es ck::L)) (a:gN F es ck f) (hc:kX f 1000000)
  (c:∀l G s b,jd l f->F.le G->FL G eL s (l.map o8)->ab E b (ae G::bG .str bH m es ck::L)->k s b):CL 162 #[.map (some m)] aE k w:=by
 refine adf ?_
 refine aL ?_
 refine OQ (vl:=bH) (V:=109) (F:=F) kK a.st a.nd (a.short hc) h λl G s w d e g j i h=>?_
 refine ao λ_=>?_
 exact c l G s w ⟨e,λy=>(g y).trans (a.mem y)⟩ d i h
theorem U9 {k:Sl->Pr} (h:ab E w (ae F::bS m es ck::L)) (a:fT F es ck ez f) (hc:kX f 1000000)
  (c:∀l G s b,jd l f->F.le G->FL G eL s (l.map o8)->ab E b (ae G::bS m es ck::L)->k s b):CL 291 #[.map (some m)] aE k w:=by
 refine afj ?_
 refine aL ?_
 refine OQ (vl:=.leaf .ptr) (V:=116) (F:=F) kK a.st a.nd (a.short hc) h λl G s w d e g j i h=>?_
 refine ao λ_=>?_
 exact c l G s w ⟨e,λy=>(g y).trans (a.mem y)⟩ d i h
theorem UO {B:b9} {k:Sl->Pr} (h:ab E w (ae F::az F b B::L)) (i:lu B.aJ) (j:∀l G s c,jd l B.aJ->F.le G->FL G eL s (l.map o8)->ab E c (ae G::az G b B::L)->k s c):CL 243 #[.pointer (some ⟨b,0,none⟩)] aE k w:=by
 obtain⟨m,d,e,a,f,h⟩:=ko (h.pick (A:=az F b B) pK)
 refine aeu ?_
 refine dw (x:=false) kK ?_
 refine ar rfl ?_
 refine aq ?_
 refine ld (t:=99) (x:=some m) (b:=b) (off:=3) h ?_
 refine U9 (F:=F) (h.bF (A1:=ae F) (A2:=bS m e d) pK pK) f i.t λl G s w n g o h=>?_
 have h:=jb (b:=b) (B:=B) (f.up g) (h.sub (M:=bY b B.seq B.time B.aM m::bS m e d::bO bq a::ae G::L) sS)
 exact j l G s w n g o (h.sub sS)
theorem TC {B:b9} {k:Sl->Pr} (h:ab E w (ae F::az F b B::L)) (u:lu B.aJ)
  (n:B.aJ nm=none->∀e,ab E e (ae F::az F b B::L)->k au e)
  (v:∀T l G s e,B.aJ nm=some T->jd l T.keys->F.le G->FL G eL s (l.map o8)->ab E e (ae G::az G b B::L)->k s e):CL 127 #[.pointer (some ⟨b,0,none⟩),.string nm] aE k w:=by
 obtain⟨m,c,d,a,j,h⟩:=ko (h.pick (A:=az F b B) pK)
 refine acG ?_
 refine dw (x:=false) kK ?_
 refine aL ?_
 refine ar rfl ?_
 refine aq ?_
 refine ld (t:=99) (x:=some m) (b:=b) (off:=3) h ?_
 cases f:B.aJ nm with
 |none=>
  refine kL (kl:=.str) (vl:=.leaf .ptr) (K:=9) (V:=116) (x:=nm) (z:=(none:Option Addr)) kK gi kK (h.pick (A:=bS m d c) pK) .head ?_
  rw[j.no _ f]
  refine dw (x:=true) kK ?_
  refine ao λ_=>?_
  refine aR rfl ?_
  have h:=jb (b:=b) (B:=B) j (h.sub (M:=bY b B.seq B.time B.aM m::bS m d c::bO bq a::ae F::L) sS)
  exact n f w (h.sub sS)
 |some T=>
  obtain⟨i,p,D,g,y⟩:=j.so _ _ f
  refine kL (kl:=.str) (vl:=.leaf .ptr) (K:=9) (V:=116) (x:=nm) (z:=(none:Option Addr)) kK gi kK (h.pick (A:=bS m d c) pK) .head ?_
  rw[g]
  refine dw (x:=false) kK ?_
  refine ao λ_=>?_
  refine ar rfl ?_
  refine aq ?_
  refine ld (t:=99) (x:=some m) (b:=b) (off:=3) h ?_
  refine kL (kl:=.str) (vl:=.leaf .ptr) (K:=9) (V:=116) (x:=nm) (z:=(none:Option Addr)) kK gi kK (h.pick (A:=bS m d c) pK) .head ?_
  rw[g]
  have h:=(h.pick (A:=bO bq a) pK).ri p
  have h:=ox h
  refine aq ?_
  refine ld (t:=113) (x:=some a[i].m) (b:=a[i].b) (off:=1) h ?_
  refine Fx (F:=F) (h.bF (A1:=ae F) (A2:=bG .str bH a[i].m a[i].es a[i].ck) pK pK) y.ky (u.k _ _ f) λl G s w C r o h=>?_
  have h:=mm (t:=a[i]) (h.sub (M:=dG a[i].b a[i].ds a[i].m::OS 112 bC a[i].ds a[i].bB::bG .str bH a[i].m a[i].es a[i].ck::bO bq (a.eraseIdx i)::bY b B.seq B.time B.aM m::bS m d c::ae G::L) sS)
  have h:=sY p h
  have h:=jb (b:=b) (B:=B) (j.up r) (h.sub (M:=bY b B.seq B.time B.aM m::bS m d c::bO bq a::ae G::L) sS)
  exact v T l G s w f C r o (h.sub sS)
theorem K7 {B:b9} {k:Int->Pr} (h:ab E w (ae F::az F b B::L)) (N:∀n D,ab E D (ae F::az F b B::L)->k n D):CL 232 #[.pointer (some ⟨b,0,none⟩)] ah k w:=by
 obtain⟨m,d,j,a,u,h⟩:=ko (h.pick (A:=az F b B) pK)
 refine aej ?_
 refine dw (x:=false) kK ?_
 refine ar rfl ?_
 refine br (λ_ w=>ab E w (bY b B.seq B.time B.aM m::bS m j d::bO bq a::ae F::L)) (λs w h=>?_) λJ O=>?_
 .refine ao λ_=>?_
  exact N s w ((jb (b:=b) (B:=B) u h).sub sS)
 refine aq ?_
 refine ld (t:=99) (x:=some m) (b:=b) (off:=3) h ?_
 refine wF (K:=9) (V:=116) h pK kK λr w h=>?_
 refine sX (λn _ w=>∃seen,n=lP j seen/\ab E w (aT r (.mapIter (some m) d seen d)::bS m j d::bY b B.seq B.time B.aM m::bO bq a::ae F::L)) (lP j #[]) ⟨#[],rfl,h.sub sS⟩ ?_
 rintro n next s w ⟨seen,rfl,h⟩ g
 refine ao λ_=>?_
 refine w9 h u.st (λl=>?_) (λe v y w h=>?_)
 .refine ar rfl ?_
  exact O _ _ (h.sub sS)
 .obtain⟨T,i,H,R,P,z,I⟩:=u.CB v
  refine aR rfl ?_
  refine wH h u.st v ?_
  have h:=(h.pick (A:=bO bq a) pK).ri H
  have h:=ox h
  simp only[z]
  refine aq ?_
  refine ld (t:=113) (x:=some a[i].m) (b:=a[i].b) (off:=1) h ?_
  refine wF (K:=9) (V:=109) h pK kK λQ w h=>?_
  refine sX (λn _ w=>∃c,n=lP a[i].es c/\ab E w (aT Q (.mapIter (some a[i].m) a[i].ck c a[i].ck)::bG .str bH a[i].m a[i].es a[i].ck::dG a[i].b a[i].ds a[i].m::OS 112 bC a[i].ds a[i].bB::bO bq (a.eraseIdx i)::aT r (.mapIter (some m) d (seen.push e.born) d)::bS m j d::bY b B.seq B.time B.aM m::ae F::L)) (lP a[i].es #[]) ⟨#[],rfl,h.sub sS⟩ ?_
  rintro n2 C S w ⟨c,rfl,h⟩ f
  refine ao λ_=>?_
  refine w9 h I.ky.st (λl=>?_) (λU o p w h=>?_)
  .refine ar rfl ?_
   have h:=mm (t:=a[i]) (h.sub (M:=dG a[i].b a[i].ds a[i].m::OS 112 bC a[i].ds a[i].bB::bG .str bH a[i].m a[i].es a[i].ck::bO bq (a.eraseIdx i)::aT r (.mapIter (some m) d (seen.push e.born) d)::bS m j d::bY b B.seq B.time B.aM m::ae F::L) sS)
   have h:=sY H h
   exact g _ _ _ (uf v y) ⟨_,rfl,h.sub sS⟩
  .refine aR rfl ?_
   refine wH h I.ky.st o ?_
   exact f _ _ _ (uf o p) ⟨_,rfl,h⟩
def qn (h:Int) (f:ByteArray->Option dO) (done:List ByteArray):ByteArray->Option dO:=λa=>(f a).map λT=>if a∈done then Bb h T else T
def ru (h:Int) (f:ByteArray->Option (List Vn)) (done:List ByteArray):ByteArray->Option (List Vn):=λy=>if y∈done then(f y).bind (rv h)else f y
theorem aiG (h:Int) (f:ByteArray->Option dO):qn h f []=f:=by
 funext y;unfold qn;cases f y<;>simp
theorem aiE (h:Int) (f:ByteArray->Option dO) (done:List ByteArray) (hd:∀y T,f y=some T->y∈done):qn h f done=rq h f:=by
 funext y;unfold qn rq
 cases a:f y with
 |none=>rfl
 |some T=>simp[hd y T a]
theorem aiH (h:Int) (a:f x=some T):qn h f (done++[x])=eH (qn h f done) x (some (Bb h T)):=by
 funext y
 by_cases e:y=x
 .subst e;rw[sK];unfold qn;rw[a];simp
 .rw[sL _ _ _ e];unfold qn;simp[e]
theorem aiF (h:Int) (a:f x=some T) (b:x∉done):qn h f done x=some T:=by
 unfold qn;rw[a];simp[b]
theorem aiC (h:Int) (f:ByteArray->Option (List Vn)):ru h f []=f:=by funext y;unfold ru;simp
theorem aiB (h:Int) (f:ByteArray->Option (List Vn)) (done:List ByteArray) (hd:∀y v,f y=some v->y∈done):ru h f done=λy=>(f y).bind (rv h):=by
 funext y;unfold ru
 cases a:f y with
 |none=>simp
 |some v=>simp[hd y v a]
theorem aiD (h:Int) {f:ByteArray->Option (List Vn)} (a:f x=some vs):ru h f (done++[x])=eH (ru h f done) x (if(og vs h).length=0 then none else some (og vs h)):=by
 funext y
 by_cases e:y=x
 .subst e;rw[sK];unfold ru;rw[a];simp[rv]
 .rw[sL _ _ _ e];unfold ru;simp[e]
theorem Ug {B:b9} {k:Int->Pr} (h:ab E w (ae F::lc t3 3 [iv hz]::az F b B::L)) (hZ:dN B.aJ) (hN:lu B.aJ)
  (hk:∀n G w',F.le G->ab E w' (ae G::lc t3 3 [iv hz]::az G b ⟨B.seq,B.time,B.aM,rq hz B.aJ⟩::L)->k n w'):CL 184 #[.pointer (some ⟨b,0,none⟩),.func (.func 185) #[] #[pa ⟨t3,0,none⟩]] ah k w:=by
 refine adA ?_
 refine K7 (F:=F) (h.bF (A1:=ae F) (A2:=az F b B) pK pK) λn1 w h=>?_
 refine br (λ_ w=>∃G,F.le G/\ab E w (ae G::az G b ⟨B.seq,B.time,B.aM,rq hz B.aJ⟩::lc t3 3 [iv hz]::L)) (λs w hs=>?_) λJ hJ=>?_
 .obtain⟨G,hG,h⟩:=hs
  refine ao λ_=>?_
  refine K7 (F:=G) h λn2 w h=>?_
  exact hk _ G w hG (h.sub sS)
 obtain⟨m,o,D,ez,Q,h⟩:=ko (h.pick (A:=az F b B) pK)
 refine aq ?_
 refine ld (t:=99) (x:=some m) (b:=b) (off:=3) h ?_
 refine wF (K:=9) (V:=116) h pK kK λr w h=>?_
 refine sX (λn _ w=>∃seen done G c,qG D seen done/\n=lP D seen/\F.le G/\fT G D o c (qn hz B.aJ (done.map (·.key)))/\ab E w (aT r (.mapIter (some m) o seen o)::bS m D o::bY b B.seq B.time B.aM m::bO bq c::ae G::lc t3 3 [iv hz]::L)) (lP D #[]) ⟨#[],[],F,ez,.nil,rfl,.refl _,by rw[ki,aiG];exact Q,h.sub sS⟩ ?_
 rintro n next s w ⟨seen,done,G,c,hD,rfl,hG,hK,h⟩ R
 refine ao λ_=>?_
 refine w9 h Q.st (λX=>?_) (λe P U w h=>?_)
 .refine ar rfl ?_
  rw[aiE]at hK
  .exact hJ _ _ ⟨G,hG,(jb (b:=b) (B:=⟨B.seq,B.time,B.aM,rq hz B.aJ⟩) hK (h.sub (M:=bY b B.seq B.time B.aM m::bS m D o::bO bq c::ae G::lc t3 3 [iv hz]::L) sS)).sub sS⟩
  .intro y T Y
   obtain⟨i,hi,h1,h2,h3⟩:=Q.so y T Y
   obtain⟨e,P,rfl,_⟩:=tK ji h2
   exact List.mem_map.2 ⟨e,hD.mem e P (X e P),rfl⟩
 .obtain⟨T,_,_,Z,_,_,_⟩:=Q.CB P
  have ve:=hD.fresh Q.nd P U
  obtain⟨i,hi,NJ,jQ,hR⟩:=hK.so _ _ (aiF hz Z ve)
  generalize I:c[i]=t at*
  refine aR rfl ?_
  refine wH h Q.st P ?_
  refine aq ?_
  refine ld (t:=99) (x:=some m) (b:=b) (off:=3) h ?_
  refine kL (kl:=.str) (vl:=.leaf .ptr) (K:=9) (V:=116) (x:=e.key) (z:=(none:Option Addr)) kK gi kK (h.pick (A:=bS m D o) pK) .head ?_
  rw[jQ]
  have h:=(h.pick (A:=bO bq c) pK).ri hi
  rw[I]at h
  have h:=ox h
  refine aq ?_
  refine ld (t:=113) (x:=some t.m) (b:=t.b) (off:=1) h ?_
  refine Fx (F:=G) (h.bF (A1:=ae G) (A2:=bG .str bH t.m t.es t.ck) pK pK) hR.ky (hN.k _ _ Z) λl G1 sl w hl N CS h=>?_
  have hlen:sl.len=l.length:=by rw[CS.2,bW]
  have wR:l.length<=1000000:=by
   obtain⟨ks,q1,q2⟩:=hN.k _ _ Z
   have:=lL hl.1.nodup (m:=ks) λy Y=>by
    obtain⟨v,hv⟩:=Option.isSome_iff_exists.1 ((hl.2 y).1 Y)
    exact q2 y v hv
   omega
  simp only[hlen]
  refine cy (S:=Int) (cf:=λs=>s) l.length rfl (λj _ w=>∃H d f,G1.le H/\gN H d f (ru hz T.keys (l.take j))/\ab E w (ae H::bG .str bH t.m d f::dG t.b t.ds t.m::OS 112 bC t.ds t.bB::bO bq (c.eraseIdx i)::aT r (.mapIter (some m) o (seen.push e.born) o)::bS m D o::bY b B.seq B.time B.aM m::lc t3 3 [iv hz]::L)) rfl ⟨G1,t.es,t.ck,.refl _,by rw[uw,aiC];exact hR.ky.up N,h.sub sS⟩ ?_ ?_
  .rintro w8 _ w j hj rfl ⟨H,d,f,p,u,h⟩ O
   obtain⟨vs,W⟩:=Option.isSome_iff_exists.1 ((hl.2 l[j]).1 (cp hj))
   have C2:=hl.1.nodup
   have Zc:l[j]∉l.take j:=λhh=>by
    obtain⟨q,hq,e⟩:=List.mem_iff_getElem.1 hh
    rw[cn]at hq
    rw[y9]at e
    exact List.pairwise_iff_getElem.1 C2 q j om hj om e
   have C:=u.look l[j]
   have YV:ru hz T.keys (l.take j) l[j]=some vs:=by unfold ru;rw[ai Zc,W]
   rw[YV]at C
   refine ix (T:=204) (ls:=eL) (i:=j) (CS.up p) (by simpa using hj) (λa ha=>?_)
   refine nU (x:=l[j]) h ?_ (ha:=ha) (hc:=by simp;rfl)
   refine aq ?_
   refine ld (t:=113) (x:=some t.m) (b:=t.b) (off:=1) h ?_
   refine kL (kl:=.str) (vl:=bH) (K:=9) (V:=109) (x:=l[j]) (z:=au) kK gi kK (h.pick (A:=bG .str bH t.m d f) pK) .head ?_
   refine lH ?_
   refine adB ?_
   refine ld (t:=3) (x:=hz) (b:=t3) (off:=0) h ?_
   refine Uh (F:=H) (h.pick (A:=ae H) pK) C ((hZ _ _ Z).ky _ _ W).1 λG3 s3 w tu tE h=>?_
   refine Co (h.bF (A1:=dG t.b t.ds t.m) (A2:=bG .str bH t.m d f) pK pK) λw h=>?_
   refine O _ _ (bV hj om) ⟨G3,_,_,p.trans tu,?_,h.sub sS⟩
   rw[lT hj,aiD hz W]
   exact(u.up tu).PA tE
  .rintro _ w ⟨H,d,f,p,u,h⟩
   rw[cB,aiB hz T.keys l (λy v Y=>(hl.2 y).2 (by rw[Y];rfl))]at u
   have h:=mm (t:=⟨t.nm,t.b,t.ds,t.bB,t.m,d,f⟩) (h.sub (M:=dG t.b t.ds t.m::OS 112 bC t.ds t.bB::bG .str bH t.m d f::bO bq (c.eraseIdx i)::aT r (.mapIter (some m) o (seen.push e.born) o)::bS m D o::bY b B.seq B.time B.aM m::ae H::lc t3 3 [iv hz]::L) sS)
   have h:=ab.Im hi h
   have g:=(hK.up (N.trans p)).set (t:=⟨t.nm,t.b,t.ds,t.bB,t.m,d,f⟩) (T:=Bb hz T) hi (by rw[I,NJ];exact jQ) (by rw[I]) (by rw[I]) ⟨(hR.up (N.trans p)).df,u⟩
   replace g:fT H D o (c.set i ⟨t.nm,t.b,t.ds,t.bB,t.m,d,f⟩) (eH (qn hz B.aJ (done.map (·.key))) e.key (some (Bb hz T))):=by rw[<-NJ];exact g
   rw[<-aiH hz Z]at g
   refine R _ _ _ (uf P U) ⟨_,done++[e],H,_,hD.push Q.st P U,rfl,(hG.trans N).trans p,?_,h.sub sS⟩
   rw[fe];exact g
theorem TN {B:b9} {k:Int×Int×Unit->Pr} (h:ab E w (ae F::az F b B::L)) (o:dN B.aJ) (p:lu B.aJ)
  (e:fz B.time B.aM hz≠0->∀a,ab E a (ae F::az F b B::L)->k (0,fz B.time B.aM hz,()) a)
  (r:fz B.time B.aM hz=0->∀n G a,F.le G->ab E a (ae G::az G b ⟨B.seq,B.time,hz,rq hz B.aJ⟩::L)->k (n,0,()) a):CL 145 #[.pointer (some ⟨b,0,none⟩),iv hz] (.aG [.leaf (.int .i64),.leaf (.int .i64)]) k w:=by
 obtain⟨m,i,j,c,l,h⟩:=ko (h.pick (A:=az F b B) pK)
 refine acX ?_
 refine bx h λd w h=>?_
 refine ld (t:=3) (x:=hz) (b:=d) (off:=0) h ?_
 refine Ko (h.pick (A:=bY b B.seq B.time B.aM m) pK) λw h=>?_
 refine ax (λf=>?_) (λf=>?_)
 .have g:fz B.time B.aM hz≠0:=by simpa using f
  have h:=jb (b:=b) (B:=B) l (h.sub (M:=bY b B.seq B.time B.aM m::bS m j i::bO bq c::ae F::L) sS)
  exact e g w (h.sub sS)
 have u:fz B.time B.aM hz=0:=by simpa using f
 refine ld (t:=3) (x:=hz) (b:=d) (off:=0) h ?_
 refine aq ?_
 refine st (t:=3) (b:=b) (off:=2) h λw h=>?_
 have h:ab E w (bY b B.seq B.time hz m::bS m j i::bO bq c::lc d 3 [iv hz]::ae F::L):=h.sub sS
 have h:=jb (b:=b) (B:=⟨B.seq,B.time,hz,B.aJ⟩) l h
 refine Ug (F:=F) (B:=⟨B.seq,B.time,hz,B.aJ⟩) (h.lj (A1:=ae F) (A2:=lc d 3 [iv hz]) (A3:=az F b ⟨B.seq,B.time,hz,B.aJ⟩) pK pK pK) o p λn G w v h=>?_
 exact r u n G w v (h.sub sS)
abbrev l8 (n:Int):bK I1:=(n,())
def cM (n:Int):bc:=aH n.toNat
def o9 (n:Int):Prop:=0<=n/\n<=1000000000000000
def nO (d:Int×di):bc:=cM d.1++cz (gm d.2)
def qo (v:Vn):bc:=(cM v.1++(cM v.2.1++(cM v.2.2.1++cM v.2.2.2.1)))++jD v.2.2.2.2
def Dg (f:ByteArray->Option (List Vn)) (k:ByteArray):bc:=cz (cY k)++aH ((f k).getD []).length
def mE (f:ByteArray->Option (List Vn)) (k:ByteArray):bc:=Dg f k++((f k).getD []).flatMap qo
def wL (T:dO):bc:=aH T.defs.length++T.defs.flatMap nO
def ud (l:List ByteArray) (T:dO):bc:=wL T++aH l.length++l.flatMap (mE T.keys)
theorem yg (f:α->bc) (xs:List α) (i:Nat) (hi:i<xs.length):((xs.take i).flatMap f).length+(f xs[i]).length<=(xs.flatMap f).length/\(xs.take (i+1)).flatMap f=(xs.take i).flatMap f++f xs[i]:=by
 have e:xs.take (i+1)=xs.take i++[xs[i]]:=lT hi
 refine⟨?_,by rw[e,gM];simp⟩
 have a:xs.flatMap f=(xs.take (i+1)).flatMap f++(xs.drop (i+1)).flatMap f:=by rw[<-gM,oq]
 rw[a,e,gM]
 simp
theorem sx (n:Int) (h:o9 n):(cM n).length<=10:=cD (by have:=h.2;omega)
theorem aip {n:Int} (h:o9 n):IntKind.u64.wrap n=((n.toNat:Nat):Int):=by
 have a:=h.1
 have b:=h.2
 have h:IntKind.u64.wrap n=n%18446744073709551616:=by rfl
 rw[h];omega
theorem Kc {T:TypeId} {k:Sl->Pr} (h:ab E w L) (i:∀b c,b.len=4->ab E c (OS T ls b [y1,y2,y3,y4]::L)->k b c) (d:v1.cells=⟨ay ls y1⟩:=by rfl) (e:v2.cells=⟨ay ls y2⟩:=by rfl) (j:v3.cells=⟨ay ls y3⟩:=by rfl) (l:v4.cells=⟨ay ls y4⟩:=by rfl)
  (a:qP T ls.length=true:=by kernel_rfl) (g:Nat.blt 0 ls.length=true:=by rfl) (f:Nat.ble ls.length 200=true:=by rfl):eT prog (vN (Instr.buildSlice T 4 #[(0,v1),(1,v2),(2,v3),(3,v4)])) aE k w:=by
 have a:=ti a
 simp only[I8,El]at g f
 have m:=run_build (w:=w) (T:=T) [(v1,ay ls y1),(v2,ay ls y2),(v3,ay ls y3),(v4,ay ls y4)] a.el a.ok.size g a.zn a.zs (by simp;omega) sI (by simp[d,e,j,l,du])
 exact wD (Te:=k6 T) (sz:=ls.length) (len:=4) ([y1,y2,y3,y4].flatMap (ay ls)) h m (by simp[du];omega) λb c d e=>i b c d e
theorem wo {k:ByteArray->Pr} (h:ab E w (OS 41 I1 s (ns.map l8)::L)) (hn:∀n∈ns,o9 n) (v:ns.length<=100) (p:∀o,ab E o L->k (B (ns.flatMap cM)) o):CL 242 #[sv s] an k w:=by
 have d:=fR h dE
 rw[bW]at d
 refine aet ?_
 simp only[d]
 refine cy (S:=ByteArray×Int) (cf:=λs=>s.2) ns.length rfl (λi st w=>st.1=B ((ns.take i).flatMap cM)/\((ns.take i).flatMap cM).length<=10*i/\ab E w (OS 41 I1 s (ns.map l8)::L)) rfl ⟨rfl,sI,h⟩ ?_ ?_
 .rintro next ⟨x,_⟩ w i g rfl ⟨rfl,m,h⟩ b
  have c:=hn _ (cp g)
  have e:i<(ns.map l8).length:=by rw[bW];exact g
  refine eO (T:=41) (ls:=I1) (xs:=ns.map l8) (i:=i) h pK e (λa r=>?_) rfl
  refine kH (T:=41) (ls:=I1) (i:=i) (l:=.int .i64) (j:=0) (x:=ns[i]) h pK r e ?_ (hc:=by rw[qB];rfl)
  rw[aip c]
  refine nf h (by have:=c.2;omega) λw h=>?_
  have t:=sx _ c
  have u:aH ns[i].toNat=cM ns[i]:=rfl
  rw[u]
  refine cc om ?_
  have f:=(yg cM ns i g).2
  refine b _ _ (bV g om) ⟨by rw[f],by rw[f,aU];omega,h⟩
 .rintro⟨x,_⟩ w ⟨rfl,m,h⟩
  rw[cB]
  exact p _ h.drop
structure E0 (T:dO):Prop where
 df:∀d∈T.defs,o9 d.1
 ky:∀k vs,T.keys k=some vs->∀v∈vs,o9 v.1/\o9 v.2.1/\o9 v.2.2.1/\o9 v.2.2.2.1
theorem jd.len {es:List KE} {f:ByteArray->Option (List Vn)} (h:jd l f) (a:gN F es ck f):es.length=l.length:=by
 have d:=lL h.1.nodup (m:=es.map (·.key)) λy b=>by
  obtain⟨q,c,e⟩:=(a.mem y).2 ((h.2 y).1 b)
  exact List.mem_map.2 ⟨q,c,e⟩
 have g:=lL a.nd (m:=l) λy b=>by
  obtain⟨q,c,e⟩:=List.mem_map.1 b
  exact(h.2 y).2 ((a.mem y).1 ⟨q,c,e⟩)
 rw[bW]at d g;omega
theorem UP {t:TR} {k:ByteArray->Pr} (h:ab E w (ae F::bq t::L)) (X:oH F t T) (hZ:xK T) (hE:E0 T) (hc:kX T.keys 1000000) (ZO:∀l,jd l T.keys->(ud l T).length<=8000000000000000000)
  (Y:∀l G w',jd l T.keys->F.le G->ab E w' (ae G::bq t::L)->k (B (ud l T)) w'):CL 244 #[.pointer (mL t)] an k w:=by
 have h:=ox (h.pick (A:=bq t) pK)
 have tw:=X.df.len
 have Ap:=hZ.dl
 have Z:t.ds.len=T.defs.length:=by
  have:=fR (h.pick (A:=OS 112 bC t.ds t.bB) pK) dE
  rw[this,tw]
 have Yw:∀d∈T.defs,(nO d).length<=3000:=λd hd=>by
  have h1:=sx _ (hE.df d hd)
  have h2:=tX d.2
  have h3:=cD (n:=(gm d.2).length) om
  unfold nO cz
  simp only[aU];omega
 refine aev ?_
 refine aq ?_
 refine ld (t:=112) (x:=t.ds) (b:=t.b) (off:=0) h ?_
 simp only[Z]
 refine bJ (T:=41) (ls:=I1) (y:=l8 (T.defs.length:Int)) h λs0 w _ h=>?_
 refine wo (ns:=[(T.defs.length:Int)]) h (λn f=>by rw[fE]at f;subst f;exact⟨om,om⟩) sI λw h=>?_
 have e0:[(T.defs.length:Int)].flatMap cM=aH T.defs.length:=by simp[cM]
 rw[e0]
 have hu0:=cD (n:=T.defs.length) om
 refine aq ?_
 refine ld (t:=112) (x:=t.ds) (b:=t.b) (off:=0) h ?_
 simp only[Z]
 refine cy (S:=ByteArray×Int) (cf:=λs=>s.2) T.defs.length rfl (λi st w=>st.1=B (aH T.defs.length++(T.defs.take i).flatMap nO)/\((T.defs.take i).flatMap nO).length<=3000*i/\ab E w (dG t.b t.ds t.m::OS 112 bC t.ds t.bB::bG .str bH t.m t.es t.ck::ae F::L)) rfl ⟨sI,sI,h.sub sS⟩ ?_ ?_
 .rintro next ⟨x,_⟩ w i p rfl ⟨rfl,vm,h⟩ c
  have R:i<t.bB.length:=om
  obtain⟨sa,sc⟩:=X.df.get i R p
  have Yx:=Yw _ (cp p)
  have Hb:=hE.df _ (cp p)
  refine eO (T:=112) (ls:=bC) (xs:=t.bB) (i:=i) h pK R (λa ha=>?_) rfl
  refine oV (T:=112) (ls:=bC) (xs:=t.bB) (i:=i) h pK ha R ?_
  generalize t.bB[i]=r at*
  obtain⟨r1,r2,r3,r4,⟨⟩⟩:=r
  simp only at sa
  subst sa
  refine al h λt5 w h=>?_
  refine bU (t:=191) (b:=t5) h (λw h=>?_)
  refine dr h λw h=>?_
  refine ld (t:=3) (x:=T.defs[i].1) (b:=t5) (off:=0) h ?_
  refine fK (t:=63) (ls:=aD) (b:=t5) (off:=1) (x:=(r2,r3,r4,())) h ?_
  refine bJ (T:=41) (ls:=I1) (y:=l8 T.defs[i].1) h λs1 w _ h=>?_
  refine j8 (t:=63) (b:=t5) (off:=1) (vs:=ay aD (r2,r3,r4,())) h ?_
  refine wo (ns:=[T.defs[i].1]) h (λn f=>by rw[fE]at f;subst f;exact Hb) sI λw h=>?_
  have e1:[T.defs[i].1].flatMap cM=cM T.defs[i].1:=sI
  rw[e1]
  refine j8 (t:=63) (b:=t5) (off:=1) (vs:=ay aD (r2,r3,r4,())) h ?_
  refine FR (F:=F) (h.pick (A:=ae F) pK) sc λw h=>?_
  have yq:=tX T.defs[i].2
  refine th h om λw h=>?_
  have D:cM T.defs[i].1++cz (gm T.defs[i].2)=nO T.defs[i]:=rfl
  have ajW:(cM T.defs[i].1).length+(cz (gm T.defs[i].2)).length<=3000:=by rw[<-aU,D];exact Yx
  refine cc om ?_
  rw[D]
  refine cc (by rw[aU];omega) ?_
  have Nz:=(yg nO T.defs i p).2
  refine c _ _ (bV p om) ⟨by rw[Nz,cP],by rw[Nz,aU];omega,h.sub sS⟩
 rintro⟨x,_⟩ w ⟨rfl,vm,h⟩
 rw[cB]at vm⊢
 have MD:aH T.defs.length++T.defs.flatMap nO=wL T:=rfl
 have Ac:(wL T).length<=10+3000*T.defs.length:=by rw[<-MD,aU];omega
 rw[MD]
 have ajX:=X.ky.short hc
 refine aq ?_
 refine ld (t:=113) (x:=some t.m) (b:=t.b) (off:=1) h ?_
 refine CN (T:=113) (K:=9) (V:=109) h (.tail (.tail .head)) kK ?_
 refine bJ (T:=41) (ls:=I1) (y:=l8 (t.es.length:Int)) h λs0 w _ h=>?_
 refine wo (ns:=[(t.es.length:Int)]) h (λn f=>by rw[fE]at f;subst f;exact⟨om,om⟩) sI λw h=>?_
 have e1:[(t.es.length:Int)].flatMap cM=aH t.es.length:=by simp[cM]
 rw[e1]
 have hu1:=cD (n:=t.es.length) om
 refine cc om ?_
 refine aq ?_
 refine ld (t:=113) (x:=some t.m) (b:=t.b) (off:=1) h ?_
 refine Fx (F:=F) (h.bF (A1:=ae F) (A2:=bG .str bH t.m t.es t.ck) pK pK) X.ky hc λl G sl w hl hG U h=>?_
 have NH:=hl.len X.ky
 rw[NH]
 have hlen:sl.len=l.length:=by rw[U.2,bW]
 have ZY:=ZO l hl
 have N5:ud l T=wL T++aH l.length++l.flatMap (mE T.keys):=rfl
 rw[N5,aU]at ZY
 replace Y:=λG w'=>Y l G w' hl
 rw[N5]at Y
 generalize hA:wL T++aH l.length=A at*
 simp only[hlen]
 refine cy (S:=ByteArray×Int) (cf:=λs=>s.2) l.length rfl (λi st w=>st.1=B (A++(l.take i).flatMap (mE T.keys))/\ab E w (ae G::dG t.b t.ds t.m::OS 112 bC t.ds t.bB::bG .str bH t.m t.es t.ck::L)) rfl ⟨sI,h.sub sS⟩ ?_ ?_
 .rintro next ⟨x,_⟩ w i p rfl ⟨rfl,h⟩ c
  obtain⟨H,YE⟩:=yg (mE T.keys) l i p
  obtain⟨vs,u⟩:=Option.isSome_iff_exists.1 ((hl.2 l[i]).1 (cp p))
  obtain⟨Hr,Hq⟩:=hZ.ky _ _ u
  have Zf:=hE.ky _ _ u
  have o:=(X.ky.look l[i]).up gw hG
  rw[u,vX]at o
  have MF:mE T.keys l[i]=cz (cY l[i])++aH vs.length++vs.flatMap qo:=by unfold mE Dg;rw[u];rfl
  rw[MF]at H
  rw[YE,MF]at c
  generalize (l.take i).flatMap (mE T.keys)=P at*
  simp only[aU]at H
  obtain⟨rs,I,N⟩:=o
  have jl:=N.len
  have O:((dz fB l[i] t.es).getD au).len=vs.length:=by rw[I.2,jl]
  have C:B (cY l[i])=l[i]:=rfl
  have htx:(cY l[i]).length<=(cz (cY l[i])).length:=by unfold cz;rw[aU];omega
  have e:∀{M:List aK} {w:World} {K:Sl->Pr},ab E w (bG .str bH t.m t.es t.ck::M)->K ((dz fB l[i] t.es).getD au) w->dQ prog (vN (Instr.lookup 113 (.map (some t.m)) (.string l[i]) false)) aE K w:=λh Y=>
   kL (kl:=.str) (vl:=bH) (K:=9) (V:=109) (x:=l[i]) (z:=au) kK gi kK h .head Y
  generalize (dz fB l[i] t.es).getD au=sk at*
  refine ix (T:=204) (ls:=eL) (i:=i) U (by simpa using p) (λa ha=>?_)
  refine nU (x:=l[i]) h ?_ (ha:=ha) (hc:=by simp;rfl)
  refine br (λ(x:ByteArray) w=>x=B (A++P++(cz (cY l[i])++aH vs.length))/\ab E w (ae G::dG t.b t.ds t.m::OS 112 bC t.ds t.bB::bG .str bH t.m t.es t.ck::L)) (λx w hs=>?_) λJ hJ=>?_
  .obtain⟨rfl,h⟩:=hs
   refine ao λ_=>?_
   refine aq ?_
   refine ld (t:=113) (x:=some t.m) (b:=t.b) (off:=1) h ?_
   refine e (h.pick pK) ?_
   simp only[O]
   refine cy (S:=ByteArray×Int) (cf:=λs=>s.2) vs.length rfl (λj st w=>st.1=B (A++P++(cz (cY l[i])++aH vs.length)++(vs.take j).flatMap qo)/\ab E w (ae G::dG t.b t.ds t.m::OS 112 bC t.ds t.bB::bG .str bH t.m t.es t.ck::L)) rfl ⟨sI,h⟩ ?_ ?_
   .rintro w8 ⟨y,_⟩ w j hj rfl ⟨rfl,h⟩ g
    obtain⟨NY,He⟩:=yg qo vs j hj
    rw[He]at g
    have vf:j<rs.length:=om
    obtain⟨n1,n2,n3,n4⟩:=Zf _ (cp hj)
    obtain⟨v1,v2,v3,v4,v5⟩:=N.get j vf hj
    have tz:=Hr.row _ (cp hj)
    refine ix (T:=109) (ls:=bg) (i:=j) I vf (λa ha=>?_)
    refine fJ h ?_
    generalize N3:rs[j]=r at*
    have W:qo vs[j]=(cM vs[j].1++(cM vs[j].2.1++(cM vs[j].2.2.1++cM vs[j].2.2.2.1)))++jD vs[j].2.2.2.2:=rfl
    generalize vs[j]=v at*
    obtain⟨r1,r2,r3,r4,r5,⟨⟩⟩:=r
    simp only at v1 v2 v3 v4 v5
    subst v1 v2 v3 v4
    refine al h λQ w h=>?_
    refine bU (t:=172) (b:=Q) h (λw h=>?_)
    refine dr h λw h=>?_
    refine ld (t:=3) (x:=v.1) (b:=Q) (off:=0) h ?_
    refine ld (t:=3) (x:=v.2.1) (b:=Q) (off:=1) h ?_
    refine ld (t:=3) (x:=v.2.2.1) (b:=Q) (off:=2) h ?_
    refine ld (t:=3) (x:=v.2.2.2.1) (b:=Q) (off:=3) h ?_
    refine ld (t:=28) (x:=r5) (b:=Q) (off:=4) h ?_
    refine Kc (T:=41) (ls:=I1) (y1:=l8 v.1) (y2:=l8 v.2.1) (y3:=l8 v.2.2.1) (y4:=l8 v.2.2.2.1) h λs1 w _ h=>?_
    refine lk (t:=28) (b:=Q) (off:=4) h ?_
    refine wo (ns:=[v.1,v.2.1,v.2.2.1,v.2.2.2.1]) h (λn f=>?_) sI λw h=>?_
    .simp only[nz,sU,BA]at f
     rcases f with rfl|rfl|rfl|rfl
     .exact n1
     .exact n2
     .exact n3
     .exact n4
    have e4:[v.1,v.2.1,v.2.2.1,v.2.2.2.1].flatMap cM=cM v.1++(cM v.2.1++(cM v.2.2.1++cM v.2.2.2.1)):=sI
    rw[e4]
    refine lk (t:=28) (b:=Q) (off:=4) h ?_
    refine Lq (F:=G) (r:=v.2.2.2.2) (h.pick (A:=ae G) pK) v5 tz λw h=>?_
    rw[W]at NY
    simp only[aU]at NY
    refine cc (by simp only[aU];omega) ?_
    rw[<-W]
    refine cc (by rw[W];simp only[aU];omega) ?_
    refine g _ _ (bV hj om) ⟨by simp only[cP],h.sub sS⟩
   .rintro⟨y,_⟩ w ⟨rfl,h⟩
    rw[cB]
    refine c _ _ (bV p (by have:=U.2;rw[bW]at this;omega)) ⟨by simp only[cP],h⟩
  .have hus:(aH vs.length).length<=10:=cD om
   refine dr h λw h=>?_
   refine aq ?_
   refine ld (t:=113) (x:=some t.m) (b:=t.b) (off:=1) h ?_
   refine e (h.pick pK) ?_
   simp only[O]
   have tx:∀n∈[(vs.length:Int)],o9 n:=λn f=>by rw[fE]at f;subst f;exact⟨om,om⟩
   have e2:[(vs.length:Int)].flatMap cM=aH vs.length:=by simp[cM]
   refine⟨?_,?_⟩
   .rw[<-C]
    refine th h om λw h=>?_
    rw[C]
    refine lk (t:=113) (b:=t.b) (off:=1) h ?_
    refine lz (t:=aE) (e (h.pick pK) rfl) ?_
    refine bJ (T:=41) (ls:=I1) (y:=l8 (vs.length:Int)) h λs1 w _ h=>?_
    refine lk (t:=113) (b:=t.b) (off:=1) h ?_
    refine lz (t:=aE) (e (h.pick pK) rfl) ?_
    refine wo (ns:=[(vs.length:Int)]) h tx sI λw h=>?_
    rw[e2]
    refine lk (t:=113) (b:=t.b) (off:=1) h ?_
    refine lz (t:=aE) (e (h.pick pK) rfl) ?_
    refine cc om ?_
    refine cc (by simp only[aU];omega) ?_
    exact hJ _ _ ⟨rfl,h.sub sS⟩
   .refine bJ (T:=41) (ls:=I1) (y:=l8 (vs.length:Int)) h λs1 w _ h=>?_
    refine lk (t:=113) (b:=t.b) (off:=1) h ?_
    refine lz (t:=aE) (e (h.pick pK) rfl) ?_
    rw[<-C]
    refine th h om λw h=>?_
    rw[C]
    refine lk (t:=113) (b:=t.b) (off:=1) h ?_
    refine lz (t:=aE) (e (h.pick pK) rfl) ?_
    refine wo (ns:=[(vs.length:Int)]) (h.pick (A:=OS 41 I1 s1 [l8 (vs.length:Int)]) pK) tx sI λw h=>?_
    rw[e2]
    refine lk (t:=113) (b:=t.b) (off:=1) h ?_
    refine lz (t:=aE) (e (h.pick pK) rfl) ?_
    refine cc om ?_
    refine cc (by simp only[aU];omega) ?_
    exact hJ _ _ ⟨rfl,h.sub sS⟩
 .rintro⟨x,_⟩ w ⟨rfl,h⟩
  rw[cB]
  exact Y G w hG ((mm (t:=t) (h.sub (M:=dG t.b t.ds t.m::OS 112 bC t.ds t.bB::bG .str bH t.m t.es t.ck::ae G::L) sS)).sub sS)
theorem jd.ext {f:ByteArray->Option α} {a b:List ByteArray} (ha:jd a f) (c:jd b f):a=b:=lU.ext ha.1 c.1 λy=>(ha.2 y).trans (c.2 y).symm
theorem agV (h:lU l) (g:x∉l):∃n,n<=l.length/\(∀y∈l.take n,l9 y x=true)/\∀y∈l.drop n,l9 x y=true:=by
 induction l with
 |nil=>exact⟨0,sI,sI,sI⟩
 |cons a l j=>
  have i:=List.pairwise_cons.1 h
  have f:a≠x:=λe=>g (by rw[e];exact eo)
  cases c:l9 a x with
  |true=>
   obtain⟨n,k,m,o⟩:=j i.2 λp=>g (dH _ p)
   refine⟨n+1,by simpa using k,λy b=>?_,o⟩
   rw[yV]at b
   rcases List.mem_cons.1 b with rfl|b
   .exact c
   .exact m y b
  |false=>
   have d:=OE c f
   refine⟨0,jt _,sI,λy b=>?_⟩
   rcases List.mem_cons.1 b with rfl|b
   .exact d
   .exact HG d (i.1 y b)
theorem jd.ex {f:ByteArray->Option α} (h:kX f N):∃l,jd l f:=by
 obtain⟨c,_,o⟩:=h
 have j:∀c:List ByteArray,∃l,lU l/\∀y,y∈l↔y∈c/\(f y).isSome=true:=by
  intro c
  induction c with
  |nil=>exact⟨[],ze,λy=>by simp⟩
  |cons k c p=>
   obtain⟨l,g,i⟩:=p
   by_cases m:k∉l/\(f k).isSome=true
   .obtain⟨n,r,t,u⟩:=agV g m.1
    refine⟨_,g.insert r t u,λy=>?_⟩
    have e:y∈l.take n++k::l.drop n↔y=k\/y∈l:=by
     have x:y∈l↔y∈l.take n\/y∈l.drop n:=by rw[<-mN,oq]
     rw[x,mN,nz]
     exact⟨λh=>by rcases h with h|h|h<;>simp[h],λh=>by rcases h with h|h|h<;>simp[h]⟩
    rw[e,i,nz]
    constructor
    .rintro(rfl|⟨a,b⟩)
     .exact⟨.inl rfl,m.2⟩
     .exact⟨.inr a,b⟩
    .rintro⟨rfl|a,b⟩
     .exact .inl rfl
     .exact .inr ⟨a,b⟩
   .refine⟨l,g,λy=>?_⟩
    rw[i,nz]
    constructor
    .rintro⟨a,b⟩;exact⟨.inr a,b⟩
    .rintro⟨rfl|a,b⟩
     .have:y∈l:=Classical.not_not.1 λd=>m ⟨d,b⟩
      exact(i y).1 this
     .exact⟨a,b⟩
 obtain⟨l,g,i⟩:=j c
 refine⟨l,g,λy=>(i y).trans ⟨λd=>d.2,λd=>?_⟩⟩
 obtain⟨v,z⟩:=Option.isSome_iff_exists.1 d
 exact⟨o y v z,d⟩
open Classical in
noncomputable def ir (f:ByteArray->Option α):List ByteArray:=if h:∃l,jd l f then Classical.choose h else[]
theorem jd.eq {f:ByteArray->Option α} (h:jd l f):l=ir f:=by
 have a:∃l,jd l f:=⟨l,h⟩
 unfold ir
 rw[Bt a]
 exact h.ext (Classical.choose_spec a)
theorem xa {f:ByteArray->Option α} (h:kX f N):jd (ir f) f:=by
 obtain⟨l,a⟩:=jd.ex h
 rw[<-a.eq];exact a
noncomputable def yL (T:dO):bc:=ud (ir T.keys) T
def te (B:b9) (n:Nat):bc:=cM B.seq++(cM (B.time+1)++(cM B.aM++aH n))
noncomputable def od (f:ByteArray->Option dO) (nm:ByteArray):bc:=match f nm with
 |some T=>yL T
 |none=>[]
noncomputable def gh (B:b9):bc:=te B (ir B.aJ).length++(ir B.aJ).flatMap (od B.aJ)
structure sZ (B:b9):Prop where
 sq:o9 B.seq
 tm:o9 (B.time+1)
 hr:o9 B.aM
 tb:∀y T,B.aJ y=some T->E0 T
 sz:(gh B).length<=8000000000000000000
theorem jd.aaR (h:jd l f) (a:fT F es ck ez f):es.length=l.length:=by
 have d:=lL h.1.nodup (m:=es.map (·.key)) λy b=>by
  obtain⟨q,c,e⟩:=(a.mem y).2 ((h.2 y).1 b)
  exact List.mem_map.2 ⟨q,c,e⟩
 have g:=lL a.nd (m:=l) λy b=>by
  obtain⟨q,c,e⟩:=List.mem_map.1 b
  exact(h.2 y).2 ((a.mem y).1 ⟨q,c,e⟩)
 rw[bW]at d g;omega
theorem KQ {k:ByteArray->Pr} (h:ab E w (ae F::az F b B0::L)) (hZ:dN B0.aJ) (Y:lu B0.aJ) (D:sZ B0)
  (hk:∀G w',F.le G->ab E w' (ae G::az G b B0::L)->k (B (gh B0)) w'):CL 191 #[.pointer (some ⟨b,0,none⟩)] an k w:=by
 have H:=D.sz
 have o:gh B0=te B0 (ir B0.aJ).length++(ir B0.aJ).flatMap (od B0.aJ):=rfl
 rw[o,aU]at H
 rw[o]at hk
 have p:=xa Y.t
 generalize vh:ir B0.aJ=ns at*
 have G0:ns.length<=1000000:=by
  obtain⟨ks,q1,q2⟩:=Y.t
  have:=lL p.1.nodup (m:=ks) λy hy=>by
   obtain⟨v,hv⟩:=Option.isSome_iff_exists.1 ((p.2 y).1 hy)
   exact q2 y v hv
  omega
 obtain⟨m,I,J,c,N,h⟩:=ko (h.pick (A:=az F b B0) pK)
 have YB:=p.aaR N
 have r:=D.tm
 refine adF ?_
 refine dw (x:=false) kK ?_
 refine ar rfl ?_
 refine dr h λw h=>?_
 refine aq ?_
 refine ld (t:=3) (x:=B0.seq) (b:=b) (off:=0) h ?_
 refine aq ?_
 refine ld (t:=3) (x:=B0.time) (b:=b) (off:=1) h ?_
 refine aq ?_
 refine ld (t:=3) (x:=B0.aM) (b:=b) (off:=2) h ?_
 refine aq ?_
 refine ld (t:=99) (x:=some m) (b:=b) (off:=3) h ?_
 refine CN (T:=99) (K:=9) (V:=116) h (.tail .head) kK ?_
 have ew:w6 (B0.time+1)=B0.time+1:=bQ (by have:=r.1;have:=r.2;omega)
 rw[YB,ew]
 refine Kc (T:=41) (ls:=I1) (y1:=l8 B0.seq) (y2:=l8 (B0.time+1)) (y3:=l8 B0.aM) (y4:=l8 (ns.length:Int)) h λs1 w _ h=>?_
 refine lk (t:=3) (b:=b) (off:=1) h ?_
 refine lk (t:=99) (b:=b) (off:=3) h ?_
 refine wo (ns:=[B0.seq,B0.time+1,B0.aM,(ns.length:Int)]) h (λn hn=>?_) sI λw h=>?_
 .simp only[nz,sU,BA]at hn
  rcases hn with rfl|rfl|rfl|rfl
  .exact D.sq
  .exact r
  .exact D.hr
  .exact⟨om,om⟩
 have e4:[B0.seq,B0.time+1,B0.aM,(ns.length:Int)].flatMap cM=te B0 ns.length:=by simp[cM,te]
 rw[e4]
 refine lk (t:=3) (b:=b) (off:=1) h ?_
 refine lk (t:=99) (b:=b) (off:=3) h ?_
 have h:=jb (b:=b) (B:=B0) N (h.sub (M:=bY b B0.seq B0.time B0.aM m::bS m J I::bO bq c::ae F::L) sS)
 refine UO (F:=F) (b:=b) (B:=B0) (h.bF (A1:=ae F) (A2:=az F b B0) pK pK) Y λl G sl w hl hG u h=>?_
 have hle:l=ns:=hl.eq.trans vh
 rw[hle]at hl u
 have O:sl.len=ns.length:=by rw[u.2,bW]
 simp only[O]
 generalize te B0 ns.length=A at*
 refine cy (S:=ByteArray×Int) (cf:=λs=>s.2) ns.length rfl (λi st w=>st.1=B (A++(ns.take i).flatMap (od B0.aJ))/\∃f,G.le f/\ab E w (ae f::az f b B0::L)) rfl ⟨sI,G,.refl _,h⟩ ?_ ?_
 .rintro next ⟨x,_⟩ w i Z rfl ⟨rfl,f,g,h⟩ d
  obtain⟨P,Q⟩:=yg (od B0.aJ) ns i Z
  obtain⟨T,R⟩:=Option.isSome_iff_exists.1 ((hl.2 ns[i]).1 (cp Z))
  have U:od B0.aJ ns[i]=yL T:=by unfold od;rw[R]
  rw[U]at P
  rw[Q,U]at d
  obtain⟨m,I,J,c,N,h⟩:=ko (h.pick (A:=az f b B0) pK)
  obtain⟨j,hj,hn,jQ,hR⟩:=N.so _ _ R
  refine ix (T:=204) (ls:=eL) (i:=i) (u.up g) (by simpa using Z) (λa ha=>?_)
  refine nU (x:=ns[i]) h ?_ (ha:=ha) (hc:=by simp;rfl)
  refine aq ?_
  refine ld (t:=99) (x:=some m) (b:=b) (off:=3) h ?_
  refine kL (kl:=.str) (vl:=.leaf .ptr) (K:=9) (V:=116) (x:=ns[i]) (z:=(none:Option Addr)) kK gi kK (h.pick (A:=bS m J I) pK) .head ?_
  rw[jQ]
  have h:=(h.pick (A:=bO bq c) pK).ri hj
  have W:∀C,jd C T.keys->ud C T=yL T:=λC e=>by unfold yL;rw[e.eq]
  refine UP (F:=f) (t:=c[j]) (h.bF (A1:=ae f) (A2:=bq c[j]) pK pK) hR (hZ _ _ R) (D.tb _ _ R) (Y.k _ _ R) (λC e=>by rw[W C e];omega) λC G3 w e X h=>?_
  rw[W C e]
  refine cc (by rw[aU];omega) ?_
  have h:=sY hj (h.sub (M:=bq c[j]::bO bq (c.eraseIdx j)::bY b B0.seq B0.time B0.aM m::bS m J I::ae G3::L) sS)
  have h:=jb (b:=b) (B:=B0) (N.up X) (h.sub (M:=bY b B0.seq B0.time B0.aM m::bS m J I::bO bq c::ae G3::L) sS)
  exact d _ _ (bV Z om) ⟨by simp only[cP],G3,g.trans X,h.sub sS⟩
 .rintro⟨x,_⟩ w ⟨rfl,f,g,h⟩
  rw[cB]
  exact hk f w (hG.trans g) h
end Go.Proofs.YtelhccfmfnaegaaGreat
