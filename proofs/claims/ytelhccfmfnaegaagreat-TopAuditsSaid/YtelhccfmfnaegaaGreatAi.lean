/- Lemmas for topAudits_holds. No conditions. -/
import Derived.Test.YtelhccfmfnaegaaGreatAh
set_option linter.unusedSectionVars false
set_option linter.unusedVariables false
set_option linter.unusedSimpArgs false
set_option linter.defProp false
set_option maxRecDepth 10000
namespace Go.Proofs.YtelhccfmfnaegaaGreat
open Go Go.Sh Tryz
attribute [local irreducible] aT jC gk dV kO dg hex iT jk ae aj bG aN
structure dO where
 defs:List (Int×di)
 keys:ByteArray->Option (List Vn)
structure b9 where
 seq:Int
 time:Int
 aM:Int
 aJ:ByteArray->Option dO
variable {α:Type} {y:ByteArray} {β:Type} {R S:α->β->Prop} {F G:bh} {f:ByteArray->Option (List Vn)} {T:dO} {K V:Type} {l:List α} {a:dd K V} {done:List (dd K V)} {e:dd K V} {x:ByteArray} {s:Sl} {vs:List Vn} {q:Int} {wk d:Nat} {xs:Array Value} {ps:List Pc} {fM:Nat} {B0:b9} {c:v7} {C:jc} {p:List Pc} {w:World} {m2 t3:Nat} {cs:Sl} {pn:Int} {J:Pr} {P:Pk}
def eH (f:ByteArray->Option α) (x:ByteArray) (v:Option α):ByteArray->Option α:=λy=>if y=x then v else f y
theorem sK (f:ByteArray->Option α) (x:ByteArray) (v:Option α):eH f x v x=v:=ak rfl
theorem sL (f:ByteArray->Option α) (x:ByteArray) (v:Option α) (h:y≠x):eH f x v y=f y:=ai h
def iE (R:α->β->Prop):Option α->Option β->Prop
 |none,none=>True
 |some a,some b=>R a b
 |_,_=>False
theorem iE.imp (h:∀a b,R a b->S a b):∀{x:Option α} {y:Option β},iE R x y->iE S x y
 |none,none,_=>trivial
 |some _,some _,c=>h _ _ c
 |none,some _,c=>c.elim
 |some _,none,c=>c.elim
theorem iE.so {x:Option α} {b:β} (h:iE R x (some b)):∃a,x=some a/\R a b:=by
 cases x with
 |none=>exact h.elim
 |some a=>exact⟨a,rfl,h⟩
theorem iE.no {x:Option α} (h:iE R x (none:Option β)):x=none:=by
 cases x with
 |none=>rfl
 |some a=>exact h.elim
theorem iE.left {a:α} {y:Option β} (h:iE R (some a) y):∃b,y=some b/\R a b:=by
 cases y with
 |none=>exact h.elim
 |some b=>exact⟨b,rfl,h⟩
def BD:=@iE.left
structure gN (F:bh) (es:List KE) (ck:Nat) (f:ByteArray->Option (List Vn)):Prop where
 nd:(es.map (·.key)).Nodup
 st:Stamped es ck
 at_:∀y,iE (jv F) (dz fB y es) (f y)
structure TR where
 nm:ByteArray
 b:Nat
 ds:Sl
 bB:List zk
 m:Nat
 es:List KE
 ck:Nat
def bq (t:TR):aK:=dg (dG t.b t.ds t.m) (dg (OS 112 bC t.ds t.bB) (bG .str bH t.m t.es t.ck))
def DL (F:bh) (r:zk) (d:Int×di):Prop:=r.1=d.1/\ft F r.2 d.2
structure oH (F:bh) (t:TR) (T:dO):Prop where
 df:cw (DL F) t.bB T.defs
 ky:gN F t.es t.ck T.keys
abbrev TE:=dd ByteArray (Option Addr)
abbrev mL (t:TR):Option Addr:=some ⟨t.b,0,none⟩
structure fT (F:bh) (es:List TE) (ck:Nat) (ez:List TR) (f:ByteArray->Option dO):Prop where
 nd:(es.map (·.key)).Nodup
 st:Stamped es ck
 no:∀y,f y=none->dz fB y es=none
 so:∀y T,f y=some T->∃(i:Nat) (hi:i<ez.length),ez[i].nm=y/\dz fB y es=some (mL ez[i])/\oH F ez[i] T
structure BR where
 m:Nat
 ck:Nat
 es:List TE
 ez:List TR
abbrev bS (m:Nat) (es:List TE) (ck:Nat):aK:=bG .str (.leaf .ptr) m es ck
def az (F:bh) (b:Nat) (B:b9):aK:=hex λr:BR=>dg (iT (fT F r.es r.ck r.ez B.aJ)) (dg (bY b B.seq B.time B.aM r.m) (dg (bS r.m r.es r.ck) (bO bq r.ez)))
theorem H2:uM DL:=λF G r a b ⟨c,d⟩=>⟨c,d.up b⟩
theorem gN.up {es:List KE} {ck:Nat} (h:gN F es ck f) (c:F.le G):gN G es ck f:=
 ⟨h.nd,h.st,λy=>(h.at_ y).imp λa b d=>d.up gw c⟩
variable {t:TR}
theorem oH.up (h:oH F t T) (c:F.le G):oH G t T:=⟨h.df.imp λa b d=>H2 _ _ _ _ c d,h.ky.up c⟩
theorem fT.up {es:List TE} {ck:Nat} {ez:List TR} {f:ByteArray->Option dO} (h:fT F es ck ez f) (a:F.le G):fT G es ck ez f:=
 ⟨h.nd,h.st,h.no,λy T b=>by obtain⟨i,c,d,e,g⟩:=h.so y T b;exact⟨i,c,d,e,g.up a⟩⟩
theorem ji (a b:ByteArray):fB a b=true↔a=b:=gi.iff a b
theorem fT.add {es:List TE} {ck:Nat} {ez:List TR} {f:ByteArray->Option dO} (h:fT F es ck ez f) (d:oH F t T):fT F (fk fB t.nm (mL t) es ck) (iU fB t.nm es ck) (ez++[t]) (eH f t.nm (some T)):=by
 refine⟨w7 ji _ _ _ _ h.nd,h.st.set _ _ _,λy a=>?_,λy g a=>?_⟩
 .by_cases e:y=t.nm
  .subst e;rw[sK]at a;cases a
  .rw[sL _ _ _ e]at a
   rw[sp ji,ai (λb=>e ((ji _ _).1 b))]
   exact h.no y a
 .by_cases e:y=t.nm
  .subst e;rw[sK]at a;cases a
   refine⟨ez.length,sI,?_,?_,?_⟩
   .simp
   .rw[sp ji,ak ((ji _ _).2 rfl)];simp
   .simpa using d
  .rw[sL _ _ _ e]at a
   obtain⟨i,c,j,k,l⟩:=h.so y g a
   refine⟨i,by simp;omega,?_,?_,?_⟩
   .rw[ur c];exact j
   .rw[sp ji,ai (λb=>e ((ji _ _).1 b)),ur c];exact k
   .rw[ur c];exact l
theorem fT.set {es:List TE} {ck:Nat} {ez:List TR} {f:ByteArray->Option dO} {i:Nat} (h:fT F es ck ez f) (hi:i<ez.length) (g:dz fB ez[i].nm es=some (mL ez[i])) (hn:t.nm=ez[i].nm) (k:t.b=ez[i].b) (l:oH F t T):fT F es ck (ez.set i t) (eH f t.nm (some T)):=by
 refine⟨h.nd,h.st,λy a=>?_,λy m a=>?_⟩
 .by_cases e:y=t.nm
  .subst e;rw[sK]at a;cases a
  .rw[sL _ _ _ e]at a
   exact h.no y a
 .by_cases e:y=t.nm
  .subst e;rw[sK]at a;cases a
   refine⟨i,by simpa using hi,sI,?_,by simpa using l⟩
   rw[R0,hn]
   show _=some (some _)
   rw[k];exact g
  .rw[sL _ _ _ e]at a
   obtain⟨j,n,d,o,p⟩:=h.so y m a
   have c:i≠j:=λr=>by subst r;exact e (by rw[<-d,hn])
   refine⟨j,by simpa using n,?_,?_,?_⟩
   .rw[EO c];exact d
   .rw[EO c];exact o
   .rw[EO c];exact p
structure qG {K V:Type} (es:List (dd K V)) (seen:Array Nat) (done:List (dd K V)):Prop where
 sub:∀e∈done,e∈es/\e.born∈seen
 mem:∀e∈es,e.born∈seen->e∈done
 nd:done.Nodup
theorem qG.nil {es:List (dd K V)}:qG es #[] []:=⟨(λe a=>absurd a sU),(λe _ a=>absurd a sI),qp⟩
theorem map_inj {f:α->β} (hn:(l.map f).Nodup) {a b:α} (ha:a∈l) (e:b∈l) (h:f a=f b):a=b:=by
 induction l with
 |nil=>cases ha
 |cons x l j=>
  rw[eZ,sN]at hn
  rcases List.mem_cons.1 ha with g|i
  .rcases List.mem_cons.1 e with c|d
   .rw[g,c]
   .exact(hn.1 (List.mem_map.2 ⟨b,d,by rw[<-h,g]⟩)).elim
  .rcases List.mem_cons.1 e with c|d
   .exact(hn.1 (List.mem_map.2 ⟨a,i,by rw[h,c]⟩)).elim
   .exact j hn.2 i d
theorem born_inj {es:List (dd K V)} {ck:Nat} (c:Stamped es ck) {b:dd K V} (ha:a∈es) (d:b∈es) (h:a.born=b.born):a=b:=map_inj c.nodup ha d h
theorem qG.push {es:List (dd K V)} {ck:Nat} {seen:Array Nat} (h:qG es seen done) (g:Stamped es ck) (f:e∈es) (hn:e.born∉seen):qG es (seen.push e.born) (done++[e]):=by
 refine⟨λa c=>?_,λa c d=>?_,?_⟩
 .rcases List.mem_append.1 c with c|c
  .exact⟨(h.sub a c).1,by simp[(h.sub a c).2]⟩
  .rw[fE]at c;subst c;exact⟨f,sI⟩
 .simp only[Array.mem_push]at d
  rcases d with d|d
  .exact uz _ (h.mem a c d)
  .rw[born_inj g c f d];simp
 .rw[vK]
  refine⟨h.nd,sI,λa c b d i=>?_⟩
  rw[fE]at d
  subst d;subst i
  exact hn (h.sub a c).2
theorem qG.fresh {es:List (dd K V)} {seen:Array Nat} (h:qG es seen done) (hd:(es.map (·.key)).Nodup) (c:e∈es) (hn:e.born∉seen):e.key∉done.map (·.key):=λd=>by
 obtain⟨a,f,g⟩:=List.mem_map.1 d
 have b:=h.sub a f
 have:=map_inj hd b.1 c g
 subst this
 exact hn b.2
def part (α:Type) (f:ByteArray->Option α) (a:List ByteArray):ByteArray->Option α:=λy=>if y∈a then f y else none
theorem DE (f:ByteArray->Option α):part α f []=λ_=>none:=by funext y;unfold part;simp
theorem DF (f:ByteArray->Option α) (a:List ByteArray) (x:ByteArray):part α f (a++[x])=eH (part α f a) x (f x):=by
 funext y
 unfold part eH
 by_cases e:y=x
 .subst e;simp
 .simp[e]
theorem DD (f:ByteArray->Option α) (a:List ByteArray) (h:∀y v,f y=some v->y∈a):part α f a=f:=by
 funext y
 unfold part
 split
 .rfl
 .rename_i b
  cases c:f y with
  |none=>rfl
  |some v=>exact absurd (h y v c) b
theorem gN.set {es:List KE} {ck:Nat} (h:gN F es ck f) (hs:jv F s vs):gN F (fk fB x s es ck) (iU fB x es ck) (eH f x (some vs)):=by
 refine⟨w7 ji _ _ _ _ h.nd,h.st.set _ _ _,λy=>?_⟩
 rw[sp ji]
 by_cases e:y=x
 .subst e;rw[ak ((ji _ _).2 rfl),sK];exact hs
 .rw[ai (λa=>e ((ji _ _).1 a)),sL _ _ _ e];exact h.at_ y
theorem gN.del {es:List KE} {ck:Nat} (h:gN F es ck f):gN F (lK fB x es) ck (eH f x none):=by
 refine⟨Dp _ _ _ h.nd,h.st.del _ _,λy=>?_⟩
 rw[Dr ji _ _ _ h.nd]
 by_cases e:y=x
 .subst e;rw[ak ((ji _ _).2 rfl),sK];trivial
 .rw[ai (λa=>e ((ji _ _).1 a)),sL _ _ _ e];exact h.at_ y
theorem gN.nil:gN F [] 0 (λ_=>none):=⟨qp,JH,λ_=>trivial⟩
theorem fT.nil:fT F [] 0 [] (λ_=>none):=⟨qp,JH,λ_ _=>rfl,λy T h=>by cases h⟩
variable {E:World} {L:List aK}
theorem bq.opened (h:ab E w (bq t::L)):ab E w (dG t.b t.ds t.m::OS 112 bC t.ds t.bB::bG .str bH t.m t.es t.ck::L):=h.yH
def ox:=@bq.opened
theorem bq.closed (h:ab E w (dG t.b t.ds t.m::OS 112 bC t.ds t.bB::bG .str bH t.m t.es t.ck::L)):ab E w (bq t::L):=h.yG
def mm:=@bq.closed
theorem az.opened {b:Nat} {B:b9} (h:ab E w (az F b B::L)):∃m c d a,fT F d c a B.aJ/\ab E w (bY b B.seq B.time B.aM m::bS m d c::bO bq a::L):=by
 obtain⟨⟨m,c,d,a⟩,h⟩:=h.Gr
 obtain⟨e,h⟩:=h.AY.HW
 exact⟨m,c,d,a,e,h.yH⟩
def ko:=@az.opened
theorem az.closed {b m ck:Nat} {B:b9} {es:List TE} {ez:List TR} (a:fT F es ck ez B.aJ) (h:ab E w (bY b B.seq B.time B.aM m::bS m es ck::bO bq ez::L)):ab E w (az F b B::L):=
 ab.Gq ⟨m,ck,es,ez⟩ (ab.AX (ab.HV a h.yG))
def jb:=@az.closed
theorem az.up {b:Nat} {B:b9} (h:ab E w (az F b B::L)) (a:F.le G):ab E w (az G b B::L):=by
 obtain⟨m,e,f,c,d,h⟩:=ko h
 exact jb (d.up a) h
def jG:=@az.up
theorem TF {b m:Nat} {n t:Int} {k:Int->Pr} (h:ab E w (bY b n t q m::L)) (c:∀a,ab E a (bY b n t q m::L)->k t a):CL 129 #[.pointer (some ⟨b,0,none⟩)] ah k w:=by
 refine acI ?_
 refine dw (x:=false) kK ?_
 refine ar rfl ?_
 refine aq ?_
 refine ld (x:=t) h ?_
 exact c _ h
theorem Kt {b m:Nat} {n t:Int} {k:Int->Pr} (h:ab E w (bY b n t q m::L)) (c:∀a,ab E a (bY b n t q m::L)->k q a):CL 132 #[.pointer (some ⟨b,0,none⟩)] ah k w:=by
 refine acM ?_
 refine dw (x:=false) kK ?_
 refine ar rfl ?_
 refine aq ?_
 refine ld (x:=q) h ?_
 exact c _ h
theorem Kx {b m:Nat} {n t:Int} {k:Int->Pr} (h:ab E w (bY b n t q m::L)) (c:∀a,ab E a (bY b n t q m::L)->k n a):CL 150 #[.pointer (some ⟨b,0,none⟩)] ah k w:=by
 refine ac2 ?_
 refine dw (x:=false) kK ?_
 refine ar rfl ?_
 refine aq ?_
 refine ld (x:=n) h ?_
 exact c _ h
theorem VD {k:Option Addr->Pr} (h:ab E w (bq t::L)) (f:oH F t T) (hn:T.defs.length<=1000000) (N:∀C I,C.nm=t.nm->oH F C T->ab E I (bq C::bq t::L)->k (mL C) I):CL 71 #[.pointer (mL t)] aI k w:=by
 have h:=ox h
 have S:=f.df.len
 refine agn ?_
 refine aq ?_
 refine ld h ?_
 refine ap (T:=112) (ls:=bC) (xs:=[]) (ys:=t.bB) (fm (T:=112) (ls:=bC) h) (λw h=>(h.pick (A:=OS 112 bC t.ds t.bB) pK).iJ) (by simp;omega) (λa w h=>?_)
 refine nP h λm w h=>?_
 rw[<-qf (kl:=.str) (vl:=bH)]at h
 refine bx h λb w h=>?_
 have o:∀j l w,gN F j l T.keys->ab E w (dG b a m::OS 112 bC a t.bB::bG .str bH m j l::dG t.b t.ds t.m::OS 112 bC t.ds t.bB::bG .str bH t.m t.es t.ck::L)->k (some ⟨b,0,none⟩) w:=λj l w p h=>by
  refine N ⟨t.nm,b,a,t.bB,m,j,l⟩ w rfl ⟨f.df,p⟩ ?_
  refine mm (t:=⟨t.nm,b,a,t.bB,m,j,l⟩) ?_
  have h:=h.sub (M:=dG t.b t.ds t.m::OS 112 bC t.ds t.bB::bG .str bH t.m t.es t.ck::dG b a m::OS 112 bC a t.bB::bG .str bH m j l::L) sS
  have h:=mm h
  exact h.sub sS
 refine aL ?_
 refine aq ?_
 refine ld (x:=some t.m) (off:=1) (b:=t.b) h ?_
 refine wF (K:=9) (V:=109) h pK kK λr w h=>?_
 refine sX (λn _ w=>∃seen done c d,qG t.es seen done/\n=lP t.es seen/\gN F c d (part _ T.keys (done.map (·.key)))/\ab E w (aT r (.mapIter (some t.m) t.ck seen t.ck)::bG .str bH t.m t.es t.ck::bG .str bH m c d::dG b a m::OS 112 bC a t.bB::dG t.b t.ds t.m::OS 112 bC t.ds t.bB::L)) (lP t.es #[])
  ⟨#[],[],[],0,.nil,rfl,by rw[ki,DE];exact gN.nil,h.sub sS⟩ ?_
 rintro n next s w ⟨seen,done,c,d,J,rfl,p,h⟩ g
 refine ao λ_=>?_
 refine w9 h f.ky.st (λu=>?_) (λe i v w h=>?_)
 .refine ar rfl ?_
  refine ao λ_=>?_
  rw[DD]at p
  .exact o _ _ _ p (h.sub sS)
  .intro y O P
   have:iE (jv F) (dz fB y t.es) (T.keys y):=f.ky.at_ y
   rw[P]at this
   obtain⟨U,Q,_⟩:=iE.so this
   obtain⟨e,i,rfl,_⟩:=tK ji Q
   exact List.mem_map.2 ⟨e,J.mem e i (u e i),rfl⟩
 .refine aR rfl ?_
  refine wH h f.ky.st i ?_
  refine aq ?_
  refine ld (x:=some m) (off:=1) (b:=b) h ?_
  refine mw (kl:=.str) (vl:=bH) (K:=9) (V:=109) kK gi (h.sub (M:=bG .str bH m c d::aT r (.mapIter (some t.m) t.ck (seen.push e.born) t.ck)::bG .str bH t.m t.es t.ck::dG b a m::OS 112 bC a t.bB::dG t.b t.ds t.m::OS 112 bC t.ds t.bB::L) sS) .head λw h=>?_
  have D:=sm ji f.ky.nd i
  have z:iE (jv F) (dz fB e.key t.es) (T.keys e.key):=f.ky.at_ e.key
  rw[D]at z
  obtain⟨O,H,R⟩:=BD z
  refine g _ _ _ (uf i v) ⟨_,done++[e],_,_,J.push f.ky.st i v,rfl,?_,h.sub sS⟩
  rw[fe,eZ,ki,DF,H]
  exact p.set R
attribute [local irreducible] bq
structure xK (T:dO):Prop where
 ne:0<T.defs.length
 dl:T.defs.length<=1000000
 ky:∀k vs,T.keys k=some vs->kY vs/\vs.length<=50000000
def dN (f:ByteArray->Option dO):Prop:=∀y T,f y=some T->xK T
theorem xT {b:Nat} {B:b9} {k:Option Addr->Pr} (h:ab E w (ae F::az F b B::L)) (Y:dN B.aJ) (Z:∀R S,ab E S (ae F::az F R B::az F b B::L)->k (some ⟨R,0,none⟩) S):CL 37 #[.pointer (some ⟨b,0,none⟩)] aI k w:=by
 obtain⟨m,o,p,d,t,h⟩:=ko h.swap
 refine afV ?_
 refine dw (x:=false) kK ?_
 refine ar rfl ?_
 refine aq ?_
 refine fK (ls:=[.int .i64,.int .i64,.int .i64,.map]) (off:=0) (x:=(B.seq,B.time,B.aM,some m,())) h ?_
 refine al h λc w h=>?_
 refine bU h (λw h=>?_)
 refine nP h λl w h=>?_
 rw[<-qf (kl:=.str) (vl:=.leaf .ptr)]at h
 refine st (b:=c) (off:=3) h λw h=>?_
 have h:ab E w (bY c B.seq B.time B.aM l::bS l [] 0::bY b B.seq B.time B.aM m::bS m p o::bO bq d::ae F::L):=h.sub sS
 refine aL ?_
 refine aq ?_
 refine ld (x:=some m) (off:=3) (b:=b) h ?_
 refine wF (K:=9) (V:=116) h (.tail (.tail (.tail .head))) kK λr w h=>?_
 refine sX (λn _ w=>∃seen done g j a,qG p seen done/\n=lP p seen/\fT F g j a (part _ B.aJ (done.map (·.key)))/\ab E w (aT r (.mapIter (some m) o seen o)::bS m p o::bS l g j::bO bq a::bY c B.seq B.time B.aM l::bY b B.seq B.time B.aM m::bO bq d::ae F::L)) (lP p #[])
  ⟨#[],[],[],0,[],.nil,rfl,by rw[ki,DE];exact fT.nil,?_⟩ ?_
 .have h:=ab.Ik (f:=bq) h
  exact h.sub sS
 rintro n next s w ⟨seen,done,g,j,a,U,rfl,O,h⟩ u
 refine ao λ_=>?_
 refine w9 h t.st (λH=>?_) (λe z I w h=>?_)
 .refine ar rfl ?_
  refine ao λ_=>?_
  rw[DD]at O
  .refine Z c w ?_
   have h:ab E w (bY b B.seq B.time B.aM m::bS m p o::bO bq d::bY c B.seq B.time B.aM l::bS l g j::bO bq a::ae F::L):=h.sub sS
   have h:=jb t h
   have h:=jb (B:=B) O (h.sub (M:=bY c B.seq B.time B.aM l::bS l g j::bO bq a::ae F::az F b B::L) sS)
   exact h.sub sS
  .intro y T hy
   obtain⟨i,P,W,D,X⟩:=t.so y T hy
   obtain⟨e,z,rfl,_⟩:=tK ji D
   exact List.mem_map.2 ⟨e,U.mem e z (H e z),rfl⟩
 .refine aR rfl ?_
  refine wH h t.st z ?_
  refine dr h λw h=>?_
  refine ld (x:=some l) (off:=3) (b:=c) h ?_
  have C:=sm ji t.nd z
  cases N:B.aJ e.key with
  |none=>rw[t.no _ N]at C;cases C
  |some T=>
   obtain⟨i,P,W,D,X⟩:=t.so _ _ N
   rw[C]at D
   have D:e.val=mL d[i]:=ja D
   simp only[D]
   have h:=(h.pick (A:=bO bq d) pK).ri P
   refine VD h X (Y _ _ N).dl λJ w hn Q h=>?_
   have h:ab E w (bq d[i]::bO bq (d.eraseIdx i)::bq J::bO bq a::aT r (.mapIter (some m) o (seen.push e.born) o)::bS m p o::bS l g j::bY c B.seq B.time B.aM l::bY b B.seq B.time B.aM m::ae F::L):=h.sub sS
   have h:=h.Qv P
   have h:=(h.sub (M:=bq J::bO bq a::bS l g j::bO bq d::aT r (.mapIter (some m) o (seen.push e.born) o)::bS m p o::bY c B.seq B.time B.aM l::bY b B.seq B.time B.aM m::ae F::L) sS).Io
   refine lk (off:=3) (b:=c) h ?_
   refine mw (kl:=.str) (vl:=.leaf .ptr) (K:=9) (V:=116) (x:=e.key) (v:=mL J) kK gi (h.sub (M:=bS l g j::aT r (.mapIter (some m) o (seen.push e.born) o)::bS m p o::bO bq (a++[J])::bY c B.seq B.time B.aM l::bY b B.seq B.time B.aM m::bO bq d::ae F::L) sS) .head λw h=>?_
   refine u _ _ _ (uf z I) ⟨_,done++[e],_,_,a++[J],U.push t.st z I,rfl,?_,h.sub sS⟩
   rw[fe,eZ,ki,DF,N]
   have:=O.add Q
   rw[hn,W]at this
   exact this
def mG (T:dO):Int×di:=T.defs.getLast?.getD (0,jA)
abbrev dv (T:dO):di:=(mG T).2
def lI (f:ByteArray->Option dO) (at_:Int) (S:di):Int×(ByteArray->Option dO):=match f S.1 with
 |none=>(0,eH f S.1 (some ⟨[(at_,S)],λ_=>none⟩))
 |some T=>if j5 (dv T) S then(0,eH f S.1 (some ⟨if(mG T).1=at_ then T.defs.dropLast++[(at_,S)]else T.defs++[(at_,S)],T.keys⟩))else(11,f)
theorem cw.AW {m:List β} (h:cw R l m) (f:0<m.length):∃c a d b,l=c++[a]/\m=d++[b]/\cw R c d/\R a b:=by
 have e:=h.len
 rcases EL l with rfl|⟨c,a,rfl⟩
 .simp at e;omega
 rcases EL m with rfl|⟨d,b,rfl⟩
 .simp at f
 rw[EM,EM]at*
 simp only[aU,m8]at e
 refine⟨c,a,d,b,rfl,rfl,?_,?_⟩
 .have:=h.take c.length
  rwa[vW,show c.length=d.length by omega,vW]at this
 .have:=h.get c.length sI (by simp;omega)
  simpa[show c.length=d.length by omega]using this
theorem wZ (ds:List (Int×di)) (d:Int×di) (f:ByteArray->Option (List Vn)):mG ⟨ds++[d],f⟩=d:=by unfold mG;simp
abbrev iA (wk b:Nat) (at_:Int) (nm:Nat):aK:=lc wk 106 [.pointer (some ⟨b,0,none⟩),iv at_,.map (some nm)]
theorem VE {b nm:Nat} {at_:Int} {B:b9} {p:nG} {S:di} {k:Int->Pr} (h:ab E w (ae F::iA wk b at_ nm::az F b B::L)) (hp:ft F p S) (hS:S.2.1.length<=1073741824) (hZ:dN B.aJ)
  (hk:∀G w',F.le G->ab E w' (ae G::iA wk b at_ nm::az G b ⟨B.seq,B.time,B.aM,(lI B.aJ at_ S).2⟩::L)->k (lI B.aJ at_ S).1 w'):
  CL 72 #[.pointer (some ⟨wk,0,none⟩),ag aD p] ah k w:=by
 obtain⟨m,o,u,a,Y,h⟩:=ko (h.pick (A:=az F b B) pK)
 obtain⟨pn,pc,pk,⟨⟩⟩:=p
 obtain⟨h1,h2,h3⟩:=hp
 simp only at h1 h2 h3
 subst h1 h3
 refine ago ?_
 refine bx h λC w h=>?_
 refine dr h λw h=>?_
 refine aq ?_
 refine ld (t:=57) (x:=some ⟨b,0,none⟩) (b:=wk) (off:=0) h ?_
 refine aq ?_
 refine ld (t:=99) (x:=some m) (b:=b) (off:=3) h ?_
 refine ld (t:=9) (x:=S.1) (b:=C) (off:=0) h ?_
 refine kL (kl:=.str) (vl:=.leaf .ptr) (K:=9) (V:=116) (x:=S.1) (z:=(none:Option Addr)) kK gi kK (h.pick (A:=bS m u o) pK) .head ?_
 refine ld (t:=61) (x:=pc) (b:=C) (off:=1) h ?_
 refine ta (T:=61) (ls:=dj) h h2 hS λe w h=>?_
 refine st (b:=C) (off:=1) h λw h=>?_
 refine dr h λw h=>?_
 refine aq ?_
 refine ld (t:=3) (x:=at_) (b:=wk) (off:=1) h ?_
 refine bN (t:=63) (x:=(S.1,e,S.2.2,())) (b:=C) h ?_
 refine al h λt6 w h=>?_
 refine lk (t:=3) (b:=wk) (off:=1) h ?_
 refine j8 (t:=63) (b:=C) (off:=0) (vs:=ay aD (S.1,e,S.2.2,())) h ?_
 refine bU (t:=191) (b:=t6) h (λw h=>?_)
 obtain⟨G,hG,h,hf⟩:=dT (T:=61) (ls:=dj) (F:=F) h
 have W:ft G (S.1,e,S.2.2,()) S:=⟨rfl,hf,rfl⟩
 have Y:=Y.up hG
 have h:ab E w (ae G::bY b B.seq B.time B.aM m::bS m u o::bO bq a::iA wk b at_ nm::lc C 63 (ay aD (S.1,e,S.2.2,()))::lc t6 191 (ay bC (at_,S.1,e,S.2.2,()))::L):=h.sub sS
 refine br (λ_ w=>(lI B.aJ at_ S).1=0/\ab E w (ae G::iA wk b at_ nm::az G b ⟨B.seq,B.time,B.aM,(lI B.aJ at_ S).2⟩::L)) (λ_ w hs=>?_) λJ hJ=>?_
 .obtain⟨Z,h⟩:=hs
  refine ao λ_=>?_
  have:=hk G w hG h
  rwa[Z]at this
 cases N:B.aJ S.1 with
 |none=>
  have Z:lI B.aJ at_ S=(0,eH B.aJ S.1 (some ⟨[(at_,S)],λ_=>none⟩)):=by unfold lI;rw[N]
  rw[Z]at hJ
  rw[Y.no _ N]
  refine dw (x:=true) kK ?_
  refine aR rfl ?_
  refine dr h λw h=>?_
  refine aq ?_
  refine ld (t:=57) (x:=some ⟨b,0,none⟩) (b:=wk) (off:=0) h ?_
  refine aq ?_
  refine ld (t:=99) (x:=some m) (b:=b) (off:=3) h ?_
  refine ld (t:=9) (x:=S.1) (b:=C) (off:=0) h ?_
  refine bN (t:=191) (ls:=bC) (x:=(at_,S.1,e,S.2.2,())) (b:=t6) h ?_
  have g:∀(n:Sl) (P H:Nat) w,ab E w (dG H n P::OS 112 bC n [(at_,S.1,e,S.2.2,())]::bG .str bH P [] 0::bS m (fk fB S.1 (some ⟨H,0,none⟩) u o) (iU fB S.1 u o)::bY b B.seq B.time B.aM m::bO bq a::ae G::iA wk b at_ nm::L)->J () w:=λn P H w h=>by
   have h:=mm (t:=⟨S.1,H,n,[(at_,S.1,e,S.2.2,())],P,[],0⟩) h
   have h:=(h.sub (M:=bq ⟨S.1,H,n,[(at_,S.1,e,S.2.2,())],P,[],0⟩::bO bq a::bY b B.seq B.time B.aM m::bS m (fk fB S.1 (some ⟨H,0,none⟩) u o) (iU fB S.1 u o)::ae G::iA wk b at_ nm::L) sS).Io
   refine hJ _ _ ⟨rfl,?_⟩
   have Yi:=Y.add (t:=⟨S.1,H,n,[(at_,S.1,e,S.2.2,())],P,[],0⟩) (T:=⟨[(at_,S)],λ_=>none⟩) ⟨.one ⟨rfl,W⟩,gN.nil⟩
   have h:=jb (b:=b) (B:=⟨B.seq,B.time,B.aM,eH B.aJ S.1 (some ⟨[(at_,S)],λ_=>none⟩)⟩) Yi (h.sub (M:=bY b B.seq B.time B.aM m::bS m (fk fB S.1 (some ⟨H,0,none⟩) u o) (iU fB S.1 u o)::bO bq (a++[⟨S.1,H,n,[(at_,S.1,e,S.2.2,())],P,[],0⟩])::ae G::iA wk b at_ nm::L) sS)
   exact h.sub sS
  refine⟨?_,?_⟩
  .refine bJ (T:=112) (ls:=bC) (y:=(at_,S.1,e,S.2.2,())) h λn w _ h=>?_
   refine lk (t:=57) (b:=wk) (off:=0) h ?_
   refine lk (t:=99) (b:=b) (off:=3) h ?_
   refine lk (t:=9) (b:=C) (off:=0) h ?_
   refine nP h λP w h=>?_
   rw[<-qf (kl:=.str) (vl:=bH)]at h
   refine lk (t:=57) (b:=wk) (off:=0) h ?_
   refine lk (t:=99) (b:=b) (off:=3) h ?_
   refine lk (t:=9) (b:=C) (off:=0) h ?_
   refine bx h λH w h=>?_
   refine lk (t:=57) (b:=wk) (off:=0) h ?_
   refine lk (t:=99) (b:=b) (off:=3) h ?_
   refine lk (t:=9) (b:=C) (off:=0) h ?_
   refine mw (kl:=.str) (vl:=.leaf .ptr) (K:=9) (V:=116) (x:=S.1) (v:=some ⟨H,0,none⟩) kK gi (h.pick (A:=bS m u o) pK) .head λw h=>?_
   exact g n P H _ (h.sub sS)
  .refine nP h λP w h=>?_
   rw[<-qf (kl:=.str) (vl:=bH)]at h
   refine lk (t:=57) (b:=wk) (off:=0) h ?_
   refine lk (t:=99) (b:=b) (off:=3) h ?_
   refine lk (t:=9) (b:=C) (off:=0) h ?_
   refine j8 (t:=191) (b:=t6) (off:=0) (vs:=ay bC (at_,S.1,e,S.2.2,())) h ?_
   refine bJ (T:=112) (ls:=bC) (y:=(at_,S.1,e,S.2.2,())) h λn w _ h=>?_
   refine lk (t:=57) (b:=wk) (off:=0) h ?_
   refine lk (t:=99) (b:=b) (off:=3) h ?_
   refine lk (t:=9) (b:=C) (off:=0) h ?_
   refine bx h λH w h=>?_
   refine lk (t:=57) (b:=wk) (off:=0) h ?_
   refine lk (t:=99) (b:=b) (off:=3) h ?_
   refine lk (t:=9) (b:=C) (off:=0) h ?_
   refine mw (kl:=.str) (vl:=.leaf .ptr) (K:=9) (V:=116) (x:=S.1) (v:=some ⟨H,0,none⟩) kK gi (h.pick (A:=bS m u o) pK) .head λw h=>?_
   exact g n P H _ (h.sub sS)
 |some T=>
  obtain⟨i,hi,hn,jQ,hR⟩:=Y.so _ _ N
  have hz:=hZ _ _ N
  rw[jQ]
  obtain⟨O,r,n,d,er,ed,tv,qR⟩:=cw.AW hR.df hz.ne
  have hlen:=hR.df.len
  have tw:=hz.dl
  have I:mG T=d:=by
   have:T=⟨n++[d],T.keys⟩:=by rw[<-ed]
   rw[this];exact wZ _ _ _
  generalize Q:a[i]=t at*
  have jl:t.bB.length=O.length+1:=by rw[er];simp
  have GV:t.bB[t.bB.length-1]'om=r:=by
   have:t.bB.length-1=O.length:=om
   simp only[this,er];simp
  refine dw (x:=false) kK ?_
  refine ar rfl ?_
  refine dr h λw h=>?_
  refine bN (t:=63) (x:=(S.1,e,S.2.2,())) (b:=C) h ?_
  have h:=(h.pick (A:=bO bq a) pK).ri hi
  rw[Q]at h
  have h:=ox h
  have z8:t.ds.len=O.length+1:=by
   have:=fR (h.pick (A:=OS 112 bC t.ds t.bB) pK) dE
   rw[this,jl]
  have yr:w6 ((t.ds.len:Int)-1)=((O.length:Nat):Int):=by rw[z8,bQ om];omega
  refine xV (h.bF (A1:=dG t.b t.ds t.m) (A2:=OS 112 bC t.ds t.bB) pK pK) om om λw h=>?_
  rw[GV]
  refine j8 (t:=63) (b:=C) (off:=0) (vs:=ay aD (S.1,e,S.2.2,())) h ?_
  refine Ki (F:=G) (A:=d.2) (B:=S) (h.pick (A:=ae G) pK) qR.2 W λw h=>?_
  refine ax (λhc=>?_) (λhc=>?_)
  .have hx:j5 (dv T) S=false:=by unfold dv;rw[I];simpa using hc
   have Z:lI B.aJ at_ S=(11,B.aJ):=by unfold lI;rw[N];simp only[hx,kk,fF]
   have:=hk G w hG
   rw[Z]at this
   refine this ?_
   have h:=mm (t:=t) (h.sub (M:=dG t.b t.ds t.m::OS 112 bC t.ds t.bB::bG .str bH t.m t.es t.ck::bO bq (a.eraseIdx i)::bY b B.seq B.time B.aM m::bS m u o::ae G::iA wk b at_ nm::L) sS)
   have h:=sY hi (by rw[Q];exact h)
   have h:=jb (b:=b) (B:=B) Y (h.sub (M:=bY b B.seq B.time B.aM m::bS m u o::bO bq a::ae G::iA wk b at_ nm::L) sS)
   exact h.sub sS
  have hx:j5 (dv T) S=true:=by unfold dv;rw[I];simpa using hc
  have Z:lI B.aJ at_ S=(0,eH B.aJ S.1 (some ⟨if d.1=at_ then n++[(at_,S)]else T.defs++[(at_,S)],T.keys⟩)):=by
   unfold lI;rw[N];simp only[hx,gr];rw[I,ed,List.dropLast_concat]
  rw[Z]at hJ
  have g:∀(f:Sl) (c:List zk) (D:List (Int×di)) w,cw (DL G) c D->(D=if d.1=at_ then n++[(at_,S)]else T.defs++[(at_,S)])->ab E w (dG t.b f t.m::OS 112 bC f c::bG .str bH t.m t.es t.ck::bO bq (a.eraseIdx i)::bY b B.seq B.time B.aM m::bS m u o::ae G::iA wk b at_ nm::L)->J () w:=λf c D w Yj hD h=>by
   rw[<-hD]at hJ
   have h:=mm (t:=⟨t.nm,t.b,f,c,t.m,t.es,t.ck⟩) h
   have h:=ab.Im hi h
   refine hJ _ _ ⟨rfl,?_⟩
   have R:=Y.set (t:=⟨t.nm,t.b,f,c,t.m,t.es,t.ck⟩) (T:=⟨D,T.keys⟩) hi (by rw[Q,hn];exact jQ) (by rw[Q]) (by rw[Q]) ⟨Yj,hR.ky⟩
   replace R:fT G u o (a.set i ⟨t.nm,t.b,f,c,t.m,t.es,t.ck⟩) (eH B.aJ S.1 (some ⟨D,T.keys⟩)):=by rw[<-hn];exact R
   have h:=jb (b:=b) (B:=⟨B.seq,B.time,B.aM,eH B.aJ S.1 (some ⟨D,T.keys⟩)⟩) R (h.sub (M:=bY b B.seq B.time B.aM m::bS m u o::bO bq (a.set i ⟨t.nm,t.b,f,c,t.m,t.es,t.ck⟩)::ae G::iA wk b at_ nm::L) sS)
   exact h.sub sS
  refine dr h λw h=>?_
  refine aq ?_
  refine ld (t:=112) (x:=t.ds) (b:=t.b) (off:=0) h ?_
  refine aq ?_
  refine ld (t:=112) (x:=t.ds) (b:=t.b) (off:=0) h ?_
  rw[yr]
  refine eO (T:=112) (ls:=bC) (xs:=t.bB) (i:=O.length) h pK om (λa1 X=>?_) rfl
  have U:(ay bC (t.bB[O.length]'om))[0]?=some ((bD.int .i64).val d.1):=by
   have:t.bB[O.length]'om=r:=by simp only[er];simp
   rw[this,<-qR.1];rfl
  refine kH (T:=112) (ls:=bC) (i:=O.length) (l:=.int .i64) (j:=0) (x:=d.1) h pK X om ?_ (hc:=U)
  refine aq ?_
  refine ld (t:=3) (x:=at_) (b:=wk) (off:=1) h ?_
  refine lk (t:=112) (b:=t.b) (off:=0) h ?_
  refine lk (t:=112) (b:=t.b) (off:=0) h ?_
  refine lz (t:=ah) (kH (T:=112) (ls:=bC) (i:=O.length) (l:=.int .i64) (j:=0) (x:=d.1) h pK X om rfl (hc:=U)) ?_
  refine lk (t:=3) (b:=wk) (off:=1) h ?_
  refine ax (λhc=>?_) (λhc=>?_)
  .have u7:d.1=at_:=ek hc
   refine dr h λw h=>?_
   refine aq ?_
   refine ld (t:=112) (x:=t.ds) (b:=t.b) (off:=0) h ?_
   refine aq ?_
   refine ld (t:=112) (x:=t.ds) (b:=t.b) (off:=0) h ?_
   refine bN (t:=191) (ls:=bC) (x:=(at_,S.1,e,S.2.2,())) (b:=t6) h ?_
   rw[yr]
   refine eO (T:=112) (ls:=bC) (xs:=t.bB) (i:=O.length) h pK om (λa1 X=>?_) rfl
   refine Iq (T:=112) (ls:=bC) (xs:=t.bB) (i:=O.length) (y:=(at_,S.1,e,S.2.2,())) h pK X om (λw h=>?_)
   have Xa:t.bB.set O.length (at_,S.1,e,S.2.2,())=O++[(at_,S.1,e,S.2.2,())]:=by rw[er];simp
   rw[Xa]at h
   exact g t.ds _ (n++[(at_,S)]) _ (tv.app (.one ⟨rfl,W⟩)) (by rw[ak u7]) (h.sub sS)
  .have u7:¬d.1=at_:=ei hc
   refine dr h λw h=>?_
   refine aq ?_
   refine ld (t:=112) (x:=t.ds) (b:=t.b) (off:=0) h ?_
   refine bN (t:=191) (ls:=bC) (x:=(at_,S.1,e,S.2.2,())) (b:=t6) h ?_
   refine bJ (T:=112) (ls:=bC) (y:=(at_,S.1,e,S.2.2,())) h λdx w _ h=>?_
   refine lk (t:=112) (b:=t.b) (off:=0) h ?_
   refine eA (T:=112) (ls:=bC) (xs:=t.bB) h om λf w h=>?_
   refine aq ?_
   refine st (t:=112) (b:=t.b) (off:=0) h λw h=>?_
   exact g f _ (T.defs++[(at_,S)]) _ (hR.df.app (.one ⟨rfl,W⟩)) (by rw[ai u7]) (h.sub sS)
abbrev jH:cE:=.agg jI
abbrev xL:=ByteArray×ByteArray×Unit
def pS:xL->xL->Bool:=λa b=>a.1==b.1&&a.2.1==b.2.1
theorem Py {t:TypeId} (h:prog.underlying t=some .string) (a b:ByteArray):aQ prog (Op.equalIn (d+1) t (.string a) (.string b))=some (a==b):=by
 unfold Op.equalIn
 rw[eJ,yz,h]
 rfl
theorem DC {t:TypeId} {i:Nat} {x:Value} (a:aQ prog (isAgg t)=some false) (b:xs[i]?=some x):aQ prog (Go.part t xs i)=some x:=by
 unfold Go.part
 rw[eJ,a]
 simp only[jZ,kk,fF,b];rfl
theorem ab0 (a b c d:ByteArray):aQ prog (Op.equal 108 (.agg #[.string a,.string b]) (.agg #[.string c,.string d]))=some (a==c&&b==d):=by
 have:=Ie
 show aQ prog (Op.equalIn (9998+1+1) 108 (.agg #[.string a,.string b]) (.agg #[.string c,.string d]))=_
 unfold Op.equalIn
 have e:aQ prog (isAgg 9)=some false:=kK
 have f:aQ prog (sizeOf 9)=some 1:=kK
 rw[eJ,yz,show prog.underlying 108=some (.array 2 9)from kK]
 simp only[jZ]
 rw[eJ,f,jZ]
 have st:∀{i':Nat} {u v:Value} {r:Bool},(#[Value.string a,.string b])[i']?=some u->(#[Value.string c,.string d])[i']?=some v->aQ prog (Op.equalIn 9999 9 u v)=some r->
   aQ prog (do let g<-Go.part 9 #[Value.string a,.string b] i';let i<-Go.part 9 #[Value.string c,.string d] i';let r<-Op.equalIn 9999 9 g i;if(!r)=true then pure (ForInStep.done (some false,()))else pure (ForInStep.yield (none,())):Sem (ForInStep (Option Bool×Unit)))=some (if r then .yield (none,())else .done (some false,())):=by
  intro i' u v r j k l
  rw[eJ,DC e j,jZ,eJ,DC e k,jZ,eJ,l,jZ]
  cases r<;>rfl
 have m:=st (i':=0) rfl rfl (Py (d:=9998) kK a c)
 have n:=st (i':=1) rfl rfl (Py (d:=9998) kK b d)
 simp only[R1,Std.Legacy.Range.size,List.range',pz,Jq,Nat.div_one,Ja,List.forIn_nil,qt,py]
 rw[eJ,eJ,m]
 cases a==c
 .rfl
 simp only[gr,jZ]
 rw[eJ,n]
 cases b==d<;>rfl
theorem ab1 (a:α):aQ prog (pure a)=some a:=rfl
theorem V3 (a b:ByteArray) (e:Bool):aQ prog (Instr.checkKey e 10000 108 (.agg #[.string a,.string b]))=some ():=by
 show aQ prog (Instr.checkKey e (9999+1) 108 (.agg #[.string a,.string b]))=some ()
 have:=Ie
 unfold Instr.checkKey
 have c:aQ prog (isAgg 9)=some false:=kK
 have d:aQ prog (sizeOf 9)=some 1:=kK
 rw[eJ,yz,show prog.underlying 108=some (.array 2 9)from kK]
 simp only[jZ]
 have f:∀x,aQ prog (Instr.checkKey e 9999 9 (.string x))=some ():=λx=>by
  show aQ prog (Instr.checkKey e (9998+1) 9 (.string x))=some ()
  unfold Instr.checkKey
  rw[eJ,yz,show prog.underlying 9=some .string from kK];rfl
 simp only[R1,Std.Legacy.Range.size,List.range',pz,Jq,Nat.div_one,Ja,List.forIn_nil,eJ,d,jZ,DC c (xs:=#[.string a,.string b]) (i:=0) (x:=.string a) rfl,
  DC c (xs:=#[.string a,.string b]) (i:=1) (x:=.string b) rfl,uq,qt,Nat.one_mul,py,f,ab1]
theorem yv:BL prog 108 jH pS where
 iff:=λx y=>by
  obtain⟨a,b,_⟩:=x
  obtain⟨c,d,_⟩:=y
  simp only[pS,bp,tc]
  constructor
  .rintro⟨rfl,rfl⟩;rfl
  .intro h;cases h;exact⟨rfl,rfl⟩
 eq:=⟨.array 2 9,kK,λx=>⟨λy=>rfl,λy=>ab0 _ _ _ _⟩⟩
 gX:=λx e=>V3 _ _ _
 bits:=λx=>by
  obtain⟨a,b,_⟩:=x
  show(_==_&&_)=true
  have f:∀t:ByteArray,(t==t)=true:=λt=>(tc t t).2 rfl
  simp[Instr.sameBits,ay,bD.val]
attribute [local irreducible] fL
abbrev oE:=ByteArray×ByteArray->Option (List Pc)
def qm (f:oE) (x:ByteArray×ByteArray) (v:List Pc):oE:=λy=>if y=x then some v else f y
abbrev NE:=dd xL Sl
structure oF (F:bh) (es:List NE) (ck:Nat) (f:oE):Prop where
 nd:(es.map (·.key)).Nodup
 st:Stamped es ck
 at_:∀y,iE (eV F) (dz pS (y.1,y.2,()) es) (f y)
theorem oF.up {es:List NE} {ck:Nat} {f:oE} (h:oF F es ck f) (c:F.le G):oF G es ck f:=
 ⟨h.nd,h.st,λy=>(h.at_ y).imp λa b d=>d.up eK c⟩
theorem oF.nil:oF F [] 0 (λ_=>none):=⟨qp,JH,λ_=>trivial⟩
theorem oF.set {es:List NE} {ck:Nat} {f:oE} {x:ByteArray×ByteArray} (h:oF F es ck f) (hs:eV F s ps):oF F (fk pS (x.1,x.2,()) s es ck) (iU pS (x.1,x.2,()) es ck) (qm f x ps):=by
 have a:=yv.iff
 refine⟨w7 a _ _ _ _ h.nd,h.st.set _ _ _,λy=>?_⟩
 rw[sp a]
 by_cases e:y=x
 .subst e;rw[ak ((a _ _).2 rfl)]
  unfold qm;rw[ak rfl];exact hs
 .rw[ai (λb=>e (by
    have c:=(a _ _).1 b
    obtain⟨d,g⟩:=y
    obtain⟨i,j⟩:=x
    cases c;rfl))]
  unfold qm;rw[ai e];exact h.at_ y
abbrev m9:=(ByteArray->Option dO)×oE
def lM (st:m9) (T:dO) (y:ByteArray×ByteArray):List Pc:=(st.2 y).getD (cK ((T.keys y.2).getD []) 1099511627775)
def dY (at_:Int) (st:m9) (C:jc):Int×m9:=if C.1=3 then((lI st.1 at_ C.2.2.2.2.2).1,(lI st.1 at_ C.2.2.2.2.2).2,st.2)else match st.1 C.2.1 with
 |none=>(18,st)
 |some T=>if(gR (dv T) C).2≠0 then((gR (dv T) C).2,st)else
  (0,st.1,qm st.2 (C.2.1,B (gR (dv T) C).1) (if C.1=1 then ma (lM st T (C.2.1,B (gR (dv T) C).1)) (C.2.2.2.1,C.2.2.2.2.1,()) C.2.2.1 else gG (lM st T (C.2.1,B (gR (dv T) C).1)) (C.2.2.2.1,C.2.2.2.2.1,())))
def JP (f:ByteArray->Option dO):Prop:=∀y T,f y=some T->(dv T).2.2<=(dv T).2.1.length
def JO (f:oE):Prop:=∀y p,f y=some p->fs p/\p.length<=100000000
theorem E8 (vs:List Vn) (t:Int):(cK vs t).length<=vs.length:=by
 unfold cK
 split
 .obtain⟨a,_⟩:=Df ((vs.filter λv=>ey (iL v) t).map (·.2.2)) []
  rw[a,bW]
  have:=gV (λv=>ey (iL v) t) vs
  simp;omega
 .simp
theorem gN.look {es:List KE} {ck:Nat} (h:gN F es ck f) (y:ByteArray):jv F ((dz fB y es).getD au) ((f y).getD []):=by
 have:=h.at_ y
 cases a:f y with
 |none=>rw[a]at this;rw[iE.no this];exact⟨[],.nil,.nil⟩
 |some d=>rw[a]at this;obtain⟨s,b,c⟩:=iE.so this;rw[b];exact c
variable {now:oE}
theorem Vv {b nm:Nat} {at_:Int} {eP:List NE} {k:Int->Pr} (h:ab E w (ae F::iA wk b at_ nm::fL jH bH nm eP fM::az F b B0::L)) (hc:nE F c C) (hC:oy C) (hZ:dN B0.aJ) (Yd:JP B0.aJ) (hN:oF F eP fM now) (X7:JO now)
  (W:∀G OX OT w',F.le G->oF G OX OT (dY at_ (B0.aJ,now) C).2.2->ab E w' (ae G::iA wk b at_ nm::fL jH bH nm OX OT::az G b ⟨B0.seq,B0.time,B0.aM,(dY at_ (B0.aJ,now) C).2.1⟩::L)->k (dY at_ (B0.aJ,now) C).1 w'):
  CL 38 #[.pointer (some ⟨wk,0,none⟩),ag bP c] ah k w:=by
 have Yu:=hc
 obtain⟨l,a,X,g,j,sn,Y,sk,⟨⟩⟩:=c
 obtain⟨Ck,Cn,y,Cl,Ch,H⟩:=C
 obtain⟨h1,h2,h3,h4,h5,h6⟩:=hc
 simp only at h1 h2 h3 h4 h5 h6
 subst h1 h2 h4 h5
 have Nm:=hC.row
 simp only at Nm
 refine afW ?_
 refine bx h λI w h=>?_
 refine ld (t:=3) (x:=l) (b:=I) (off:=0) h ?_
 refine ax (λN=>?_) (λN=>?_)
 .have e:dY at_ (B0.aJ,now) (l,a,y,g,j,H)=((lI B0.aJ at_ H).1,(lI B0.aJ at_ H).2,now):=by unfold dY;rw[ak (ek N)]
  rw[e]at W
  refine fK (t:=63) (ls:=aD) (b:=I) (off:=5) (x:=(sn,Y,sk,())) h ?_
  refine VE (wk:=wk) (b:=b) (nm:=nm) (at_:=at_) (h.lj (A1:=ae F) (A2:=iA wk b at_ nm) (A3:=az F b B0) pK pK pK) h6 hC.DY hZ λG w Z h=>?_
  exact W G eP fM w Z (hN.up Z) (h.sub sS)
 have NI:¬l=3:=ei N
 obtain⟨m,ck,es,n,hT,h⟩:=ko (h.pick (A:=az F b B0) pK)
 refine dr h λw h=>?_
 refine aq ?_
 refine ld (t:=57) (x:=some ⟨b,0,none⟩) (b:=wk) (off:=0) h ?_
 refine aq ?_
 refine ld (t:=99) (x:=some m) (b:=b) (off:=3) h ?_
 refine ld (t:=9) (x:=a) (b:=I) (off:=1) h ?_
 refine kL (kl:=.str) (vl:=.leaf .ptr) (K:=9) (V:=116) (x:=a) (z:=(none:Option Addr)) kK gi kK (h.pick (A:=bS m es ck) pK) .head ?_
 cases D:B0.aJ a with
 |none=>
  have e:dY at_ (B0.aJ,now) (l,a,y,g,j,H)=(18,B0.aJ,now):=by unfold dY;rw[ai NI];simp only[D]
  rw[e]at W
  rw[hT.no _ D]
  refine dw (x:=true) kK ?_
  refine aR rfl ?_
  have h:=jb hT (h.sub (M:=bY b B0.seq B0.time B0.aM m::bS m es ck::bO bq n::ae F::iA wk b at_ nm::fL jH bH nm eP fM::L) sS)
  exact W F eP fM w (.refl _) hN (h.sub sS)
 |some T=>
  obtain⟨i,cH,hn,jQ,hR⟩:=hT.so _ _ D
  have hz:=hZ _ _ D
  have CQ:=Yd _ _ D
  rw[jQ]
  obtain⟨rs,r,ds,d,er,ed,tv,qR⟩:=cw.AW hR.df hz.ne
  have hlen:=hR.df.len
  have tw:=hz.dl
  have W0:mG T=d:=by
   have:T=⟨ds++[d],T.keys⟩:=by rw[<-ed]
   rw[this];exact wZ _ _ _
  have rX:dv T=d.2:=by unfold dv;rw[W0]
  rw[rX]at CQ
  generalize vi:n[i]=t at*
  have jl:t.bB.length=rs.length+1:=by rw[er];simp
  have GV:t.bB[t.bB.length-1]'om=r:=by
   have:t.bB.length-1=rs.length:=om
   simp only[this,er];simp
  have ef:dY at_ (B0.aJ,now) (l,a,y,g,j,H)=if(gR d.2 (l,a,y,g,j,H)).2≠0 then((gR d.2 (l,a,y,g,j,H)).2,B0.aJ,now)else
    (0,B0.aJ,qm now (a,B (gR d.2 (l,a,y,g,j,H)).1) (if l=1 then ma (lM (B0.aJ,now) T (a,B (gR d.2 (l,a,y,g,j,H)).1)) (g,j,()) y else gG (lM (B0.aJ,now) T (a,B (gR d.2 (l,a,y,g,j,H)).1)) (g,j,()))):=by
   unfold dY;rw[ai NI];simp only[D,rX]
  refine dw (x:=false) kK ?_
  refine ar rfl ?_
  refine dr h λw h=>?_
  refine bN (t:=65) (ls:=bP) (x:=(l,a,X,g,j,sn,Y,sk,())) (b:=I) h ?_
  have h:=(h.pick (A:=bO bq n) pK).ri cH
  rw[vi]at h
  have h:=ox h
  refine xV (h.bF (A1:=dG t.b t.ds t.m) (A2:=OS 112 bC t.ds t.bB) pK pK) om om λw h=>?_
  rw[GV]
  refine j8 (t:=65) (b:=I) (off:=0) (vs:=ay bP (l,a,X,g,j,sn,Y,sk,())) h ?_
  refine VF (F:=F) (S:=d.2) (C:=(l,a,y,g,j,H)) (h.pick (A:=ae F) pK) qR.2 Yu hC CQ λG w Z h=>?_
  rw[ef]at W
  generalize gR d.2 (l,a,y,g,j,H)=f at*
  have iH:∀{u:bh} {w:World} {M:List aK},F.le u->ab E w (dG t.b t.ds t.m::OS 112 bC t.ds t.bB::bG .str bH t.m t.es t.ck::bO bq (n.eraseIdx i)::bY b B0.seq B0.time B0.aM m::bS m es ck::M)->ab E w (az u b B0::M):=λO h=>by
   have h:=mm (t:=t) h
   have h:=sY cH (by rw[vi];exact h)
   exact jb (b:=b) (B:=B0) (hT.up O) (h.sub sS)
  refine ax (λN=>?_) (λN=>?_)
  .have Y7:¬f.2=0:=by simpa using N
   rw[ak Y7]at W
   have h:=iH Z (h.sub (M:=dG t.b t.ds t.m::OS 112 bC t.ds t.bB::bG .str bH t.m t.es t.ck::bO bq (n.eraseIdx i)::bY b B0.seq B0.time B0.aM m::bS m es ck::ae G::iA wk b at_ nm::fL jH bH nm eP fM::L) sS)
   exact W G eP fM w Z (hN.up Z) (h.sub sS)
  have GN:¬f.2≠0:=by simpa using N
  rw[ai GN]at W
  refine ld (t:=9) (x:=a) (b:=I) (off:=1) h ?_
  refine al h λt8 w h=>?_
  refine bU (t:=108) (b:=t8) h (λw h=>?_)
  refine dr h λw h=>?_
  refine aq ?_
  refine ld (t:=104) (x:=some nm) (b:=wk) (off:=2) h ?_
  refine bN (t:=108) (ls:=jI) (x:=(a,B f.1,())) (b:=t8) h ?_
  refine XE (kl:=jH) (vl:=bH) (K:=108) (V:=45) (x:=(a,B f.1,())) (z:=au) kK yv kK (h.pick (A:=fL jH bH nm eP fM) pK) .head ?_
  refine br (λs w=>∃u,G.le u/\eV u s (lM (B0.aJ,now) T (a,B f.1))/\fs (lM (B0.aJ,now) T (a,B f.1))/\(lM (B0.aJ,now) T (a,B f.1)).length<=100000000/\
   ab E w (ae u::lc t8 108 [.string a,.string (B f.1)]::lc I 65 (ay bP (l,a,X,g,j,sn,Y,sk,()))::dG t.b t.ds t.m::OS 112 bC t.ds t.bB::bG .str bH t.m t.es t.ck::bO bq (n.eraseIdx i)::bY b B0.seq B0.time B0.aM m::bS m es ck::iA wk b at_ nm::fL jH bH nm eP fM::L)) (λs w hs=>?_) λJ hJ=>?_
  .obtain⟨u,O,pW,NV,pV,h⟩:=hs
   have CO:=Z.trans O
   refine ao λ_=>?_
   refine br (λ_ w=>∃R U,u.le R/\eV R U (if l=1 then ma (lM (B0.aJ,now) T (a,B f.1)) (g,j,()) y else gG (lM (B0.aJ,now) T (a,B f.1)) (g,j,()))/\ab E w (ae R::fL jH bH nm (fk pS (a,B f.1,()) U eP fM) (iU pS (a,B f.1,()) eP fM)::dG t.b t.ds t.m::OS 112 bC t.ds t.bB::bG .str bH t.m t.es t.ck::bO bq (n.eraseIdx i)::bY b B0.seq B0.time B0.aM m::bS m es ck::iA wk b at_ nm::L)) (λ_ w hs=>?_) λJ2 lE=>?_
   .obtain⟨R,U,o,P,h⟩:=hs
    refine ao λ_=>?_
    have h:=iH (CO.trans o) (h.sub (M:=dG t.b t.ds t.m::OS 112 bC t.ds t.bB::bG .str bH t.m t.es t.ck::bO bq (n.eraseIdx i)::bY b B0.seq B0.time B0.aM m::bS m es ck::ae R::iA wk b at_ nm::fL jH bH nm (fk pS (a,B f.1,()) U eP fM) (iU pS (a,B f.1,()) eP fM)::L) sS)
    exact W R _ _ w (CO.trans o) ((hN.up (CO.trans o)).set (x:=(a,B f.1)) P) (h.sub sS)
   refine ld (t:=3) (x:=l) (b:=I) (off:=0) h ?_
   refine ax (λN=>?_) (λN=>?_)
   .rw[ak (ek N)]at lE
    refine dr h λw h=>?_
    refine aq ?_
    refine ld (t:=104) (x:=some nm) (b:=wk) (off:=2) h ?_
    refine bN (t:=108) (ls:=jI) (x:=(a,B f.1,())) (b:=t8) h ?_
    refine fK (t:=39) (ls:=aC) (b:=I) (off:=3) (x:=(g,j,())) h ?_
    refine ld (t:=28) (x:=X) (b:=I) (off:=2) h ?_
    refine VG (F:=u) (r:=y) (h.pick (A:=ae u) pK) pW (h3.up CO) NV Nm pV λR U w o P h=>?_
    refine lk (t:=104) (b:=wk) (off:=2) h ?_
    refine j8 (t:=108) (b:=t8) (off:=0) (vs:=[.string a,.string (B f.1)]) h ?_
    refine Mt (kl:=jH) (vl:=bH) (K:=108) (V:=45) (x:=(a,B f.1,())) (v:=U) kK yv (h.pick (A:=fL jH bH nm eP fM) pK) .head λw h=>?_
    exact lE _ _ ⟨R,U,o,P,h.sub sS⟩
   .rw[ai (ei N)]at lE
    refine dr h λw h=>?_
    refine aq ?_
    refine ld (t:=104) (x:=some nm) (b:=wk) (off:=2) h ?_
    refine bN (t:=108) (ls:=jI) (x:=(a,B f.1,())) (b:=t8) h ?_
    refine fK (t:=39) (ls:=aC) (b:=I) (off:=3) (x:=(g,j,())) h ?_
    refine LL (F:=u) (h.pick (A:=ae u) pK) pW NV pV λR U w o P h=>?_
    refine lk (t:=104) (b:=wk) (off:=2) h ?_
    refine j8 (t:=108) (b:=t8) (off:=0) (vs:=[.string a,.string (B f.1)]) h ?_
    refine Mt (kl:=jH) (vl:=bH) (K:=108) (V:=45) (x:=(a,B f.1,())) (v:=U) kK yv (h.pick (A:=fL jH bH nm eP fM) pK) .head λw h=>?_
    exact lE _ _ ⟨R,U,o,P,h.sub sS⟩
  .have qQ:iE (eV F) (dz pS (a,B f.1,()) eP) (now (a,B f.1)):=hN.at_ (a,B f.1)
   cases Q:now (a,B f.1)with
   |some p=>
    rw[Q]at qQ
    obtain⟨s,Al,pX⟩:=iE.so qQ
    obtain⟨z1,z2⟩:=X7 _ _ Q
    have en:lM (B0.aJ,now) T (a,B f.1)=p:=by unfold lM;show(now (a,B f.1)).getD _=_;rw[Q];rfl
    rw[Al]
    refine ar rfl ?_
    rw[en]at hJ
    exact hJ _ _ ⟨G,.refl _,pX.up eK Z,z1,z2,h.sub sS⟩
   |none=>
    rw[Q]at qQ
    rw[iE.no qQ]
    have en:lM (B0.aJ,now) T (a,B f.1)=cK ((T.keys (B f.1)).getD []) 1099511627775:=by unfold lM;show(now (a,B f.1)).getD _=_;rw[Q];rfl
    have vj:kY ((T.keys (B f.1)).getD [])/\((T.keys (B f.1)).getD []).length<=50000000:=by
     cases CW:T.keys (B f.1)with
     |none=>exact⟨⟨sI,λv hv=>by cases hv⟩,sI⟩
     |some vs=>exact hz.ky _ _ CW
    refine aR rfl ?_
    refine aq ?_
    refine ld (t:=113) (x:=some t.m) (b:=t.b) (off:=1) h ?_
    refine kL (kl:=.str) (vl:=bH) (K:=9) (V:=109) (x:=B f.1) (z:=au) kK gi kK (h.pick (A:=bG .str bH t.m t.es t.ck) pK) .head ?_
    refine Cp (F:=G) (h.pick (A:=ae G) pK) ((hR.ky.look (B f.1)).up gw Z) vj.1 λu s2 w O pX h=>?_
    rw[en]at hJ
    have:=E8 ((T.keys (B f.1)).getD []) 1099511627775
    exact hJ _ _ ⟨u,O,pX,wh vj.1 _,om,h.sub sS⟩
def dS (at_:Int):m9->List jc->Int×m9
 |st,[]=>(0,st)
 |st,C::l=>if(dY at_ st C).1≠0 then dY at_ st C else dS at_ (dY at_ st C).2 l
def qi (l:List Vn) (t:Int) (p:List Pc):Option (List Vn):=if(if m6 l t p then n9 l t p else[]).length=0 then none else some (if m6 l t p then n9 l t p else[])
def mz (t:Int) (f:ByteArray->Option dO) (now:oE):ByteArray->Option dO:=λa=>(f a).map λT=>⟨T.defs,λk=>match now (a,k)with
 |none=>T.keys k
 |some p=>qi ((T.keys k).getD []) t p⟩
def eD:oE:=λ_=>none
def cb (B:b9) (P:Pk):Int×b9:=if kU B.seq B.time P≠0 then(kU B.seq B.time P,B)else
 if(dS P.2.1 (B.aJ,eD) P.2.2).1≠0 then((dS P.2.1 (B.aJ,eD) P.2.2).1,B)else
 (0,⟨P.1,P.2.1,B.aM,mz P.2.1 (dS P.2.1 (B.aJ,eD) P.2.2).2.1 (dS P.2.1 (B.aJ,eD) P.2.2).2.2⟩)
structure EY (st:m9):Prop where
 z:dN st.1
 k:JP st.1
 n:JO st.2
 i:∀y p,st.2 y=some p->∃T,st.1 y.1=some T
structure rH (B:b9) (P:Pk):Prop where
 sq:-1000000000000000<=B.seq/\B.seq<=1000000000000000
 ok:kt P
 z:dN B.aJ
 st:kU B.seq B.time P=0->∀l1 l2,P.2.2=l1++l2->(dS P.2.1 (B.aJ,eD) l1).1=0->EY (dS P.2.1 (B.aJ,eD) l1).2
theorem LR (at_:Int):∀(l:List jc) (st:m9) (C:jc),(dS at_ st l).1=0->dS at_ st (l++[C])=if(dY at_ (dS at_ st l).2 C).1≠0 then dY at_ (dS at_ st l).2 C else(0,(dY at_ (dS at_ st l).2 C).2)
 |[],st,C,_=>rfl
 |D::l,st,C,h=>by
  rw[nA]
  have e:dS at_ st (D::l)=if(dY at_ st D).1≠0 then dY at_ st D else dS at_ (dY at_ st D).2 l:=rfl
  have b:dS at_ st (D::(l++[C]))=if(dY at_ st D).1≠0 then dY at_ st D else dS at_ (dY at_ st D).2 (l++[C]):=rfl
  rw[e]at h⊢
  rw[b]
  by_cases a:(dY at_ st D).1≠0
  .rw[ak a]at h;exact absurd h a
  .rw[ai a]at h⊢
   rw[ai a]
   exact LR at_ l _ C h
theorem LQ (at_:Int):∀(c a:List jc) (st:m9),(dS at_ st c).1≠0->dS at_ st (c++a)=dS at_ st c
 |[],a,st,h=>absurd rfl h
 |D::l,a,st,h=>by
  have e:dS at_ st (D::l)=if(dY at_ st D).1≠0 then dY at_ st D else dS at_ (dY at_ st D).2 l:=rfl
  have d:dS at_ st (D::l++a)=if(dY at_ st D).1≠0 then dY at_ st D else dS at_ (dY at_ st D).2 (l++a):=rfl
  rw[d]
  rw[e]at h⊢
  by_cases b:(dY at_ st D).1≠0
  .rw[ak b,ak b]
  .rw[ai b]at h⊢
   rw[ai b]
   exact LQ at_ l a _ h
def nR (t:Int) (f:ByteArray->Option dO) (now:oE) (done:List xL):ByteArray->Option dO:=mz t f λy=>if(y.1,y.2,())∈done then now y else none
theorem Xh (t:Int) (f:ByteArray->Option dO) (now:oE):nR t f now []=f:=by
 funext nm
 unfold nR mz
 cases f nm with
 |none=>rfl
 |some T=>simp
theorem Xg (t:Int) (f:ByteArray->Option dO) (now:oE) (done:List xL) (h:∀y p,now y=some p->(y.1,y.2,())∈done):nR t f now done=mz t f now:=by
 unfold nR
 congr 1
 funext y
 split
 .rfl
 .rename_i a
  cases b:now y with
  |none=>rfl
  |some p=>exact absurd (h y p b) a
theorem Xi {t:Int} {f:ByteArray->Option dO} {done:List xL} {nm k:ByteArray} (c:f nm=some T) (g:now (nm,k)=some p) (d:(nm,k,())∉done):
  ∃a,nR t f now done nm=some a/\a.defs=T.defs/\a.keys k=T.keys k/\nR t f now (done++[(nm,k,())])=eH (nR t f now done) nm (some ⟨a.defs,eH a.keys k (qi ((a.keys k).getD []) t p)⟩):=by
 have i:nR t f now done nm=some ⟨T.defs,λk'=>match(if(nm,k',())∈done then now (nm,k')else none)with|none=>T.keys k'|some p=>qi ((T.keys k').getD []) t p⟩:=by unfold nR mz;rw[c];rfl
 have j:(match(if(nm,k,())∈done then now (nm,k)else none)with|none=>T.keys k|some p=>qi ((T.keys k).getD []) t p)=T.keys k:=by rw[ai d]
 refine⟨_,i,rfl,j,?_⟩
 funext y
 by_cases e:y=nm
 .subst e
  rw[sK]
  have l:nR t f now (done++[(y,k,())]) y=some ⟨T.defs,λk'=>match(if(y,k',())∈done++[(y,k,())]then now (y,k')else none)with|none=>T.keys k'|some p=>qi ((T.keys k').getD []) t p⟩:=by unfold nR mz;rw[c];rfl
  rw[l]
  congr 2
  funext k'
  by_cases b:k'=k
  .subst b
   rw[sK]
   simp only[ai d]
   rw[ak sI,g]
  .rw[sL _ _ _ b]
   have:((y,k',())∈done++[(y,k,())])↔(y,k',())∈done:=by simp[b]
   simp only[this]
 .rw[sL _ _ _ e]
  unfold nR mz
  congr 1
  funext T2
  congr 1
  funext k'
  have:((y,k',())∈done++[(nm,k,())])↔(y,k',())∈done:=by simp[e]
  simp only[this]
theorem D7 {b:Nat} {i:Nat} {n:Int} {k:Addr->Pr} (hi:i<2) (hn:n=(i:Int)) (a:k ⟨b,i,none⟩ w):fU prog (vN (Instr.indexAt 108 (.pointer (some ⟨b,0,none⟩)) (.int .i64 n))) dB k w:=by
 subst hn
 refine jF (x:=(⟨b,i,none⟩:Addr)) ?_ a
 have c:aQ prog (vN (Instr.indexAt 108 (.pointer (some ⟨b,0,none⟩)) (.int .i64 (i:Int))))=aQ prog (vN (if 0<=(i:Int)/\(i:Int)<(2:Nat)then do pure (.pointer (some ((⟨b,0,none⟩:Addr).add ((i:Int).toNat*(<-sizeOf 9)))))else boundsPanic .i64 (i:Int) 2 .index)):=kK
 rw[c,ak ⟨om,om⟩]
 have d:aQ prog (sizeOf 9)=some 1:=kK
 unfold vN
 rw[eJ,eJ,d]
 show some (Next.value (.pointer (some (Addr.add ⟨b,0,none⟩ ((i:Int).toNat*1)))))=_
 rw[iC,kW,py,qt];rfl
theorem gN.PA {es:List KE} {ck:Nat} (h:gN F es ck f) (hs:jv F s vs):gN F (tO x s es ck) (tP x s es ck) (eH f x (if vs.length=0 then none else some vs)):=by
 have c:s.len=vs.length:=by obtain⟨d,a,b⟩:=hs;rw[a.2,b.len]
 unfold tO tP
 by_cases e:vs.length=0
 .rw[ak om,ak om,ak e];exact h.del
 .rw[ai om,ai om,ai e];exact h.set hs
theorem Xf {c nm b ck:Nat} {at_:Int} {B:b9} {es:List TE} {ez:List TR} {eP:List NE} {f:ByteArray->Option dO} {k:(Unit->Pr)->Addr->Pr}
   (h:ab E w (ae F::iA wk c at_ nm::fL jH bH nm eP fM::lc t3 68 (ay av (pn,at_,cs,()))::bY c B.seq B.time B.aM m2::bS m2 es ck::bO bq ez::L)) (hT:fT F es ck ez f) (hN:oF F eP fM now) (hS:EY (f,now))
   (hJ:∀G QQ w',F.le G->fT G es ck QQ (mz at_ f now)->ab E w' (ae G::iA wk c at_ nm::lc t3 68 (ay av (pn,at_,cs,()))::bY c B.seq B.time B.aM m2::bS m2 es ck::bO bq QQ::L)->J w'):
   DP (vN (Instr.range 104 (.map (some nm)))) dB (λt47=>aV (S:=Unit) (λU sG=>ba λ_=>NX (vN (Instr.next (pa t47) false 0)) [.agg jI,.leaf .slice] (af false (k U t47) (J)) λt48=>af true (
    GT (vN (Instr.entry (pa t47))) (.aG [.agg jI,.leaf .slice]) λY=>
 AL 108 λg=>
 ST 108 g (ag jI Y.1)<|
 aY<|
 NC (some ⟨wk,0,none⟩) λZ=>
 LD 57 (Addr.add Z 0) aI λQz=>
 NC Qz λQA=>
 LD 99 (Addr.add QA 3) cI λI=>
 VL (vN (Instr.indexAt 108 (pa g) (iv 0))) dB λQC=>
 LD 9 QC an λN=>
 GT (vN (Instr.lookup 99 (.map I) (.string N) false)) aI λQD=>
 NC QD λQE=>
 LD 113 (Addr.add QE 1) cI λQF=>
 VL (vN (Instr.indexAt 108 (pa g) (iv 1))) dB λQG=>
 LD 9 QG an λD3=>
 GT (vN (Instr.lookup 113 (.map QF) (.string D3) false)) aE λahL=>
 LD 3 (Addr.add (⟨t3,0,none⟩:Addr) 1) ah λIs=>
 CL 39 #[sv ahL,iv Is,sv Y.2.1] (.aG [.leaf .slice,.leaf (.int .i64)]) λahO=>
 LK 57 (Addr.add Z 0) (.pointer Qz)<|
 LK 99 (Addr.add QA 3) (.map I)<|
 LK 9 QC (.string N)<|
 CK (vN (Instr.lookup 99 (.map I) (.string N) false)) (.pointer QD)<|
 LK 113 (Addr.add QE 1) (.map QF)<|
 LK 9 QG (.string D3)<|
 aY<|
 NC (some ⟨wk,0,none⟩) λj=>
 LD 57 (Addr.add j 0) aI λl=>
 NC l λo=>
 LD 99 (Addr.add o 3) cI λu=>
 VL (vN (Instr.indexAt 108 (pa g) (iv 0))) dB λC=>
 LD 9 C an λD=>
 GT (vN (Instr.lookup 99 (.map u) (.string D) false)) aI λO=>
 VL (vN (Instr.indexAt 108 (pa g) (iv 1))) dB λP=>
 LD 9 P an λQ=>
 CL 40 #[.pointer O,.string Q,sv ahO.1] (.aG []) λQH=>
 LK 57 (Addr.add j 0) (.pointer l)<|
 LK 99 (Addr.add o 3) (.map u)<|
 LK 9 C (.string D)<|U ()) (J)) ()) w:=by
  refine WH (K:=108) (V:=45) h pK kK λr w h=>?_
  refine sX (λn _ w=>∃seen done G a,qG eP seen done/\n=lP eP seen/\F.le G/\fT G es ck a (nR at_ f now (done.map (·.key)))/\ab E w (aT r (.mapIter (some nm) fM seen fM)::fL jH bH nm eP fM::ae G::iA wk c at_ nm::lc t3 68 (ay av (pn,at_,cs,()))::bY c B.seq B.time B.aM m2::bS m2 es ck::bO bq a::L)) (lP eP #[])
   ⟨#[],[],F,ez,.nil,rfl,.refl _,by rw[ki,Xh];exact hT,h.sub sS⟩ ?_
  rintro n next s w ⟨seen,done,G,a,hD,rfl,hG,hK,h⟩ Ai
  refine ao λ_=>?_
  refine aa7 h hN.st (λtv=>?_) (λe he vh w h=>?_)
  .refine ar rfl ?_
   rw[Xg]at hK
   .exact hJ G a w hG hK (h.sub sS)
   .intro y p hy
    have:iE (eV F) (dz pS (y.1,y.2,()) eP) (now y):=hN.at_ y
    rw[hy]at this
    obtain⟨s2,h1,_⟩:=iE.so this
    obtain⟨e,he,e2,_⟩:=tK yv.iff h1
    exact List.mem_map.2 ⟨e,hD.mem e he (tv e he),e2⟩
  .obtain⟨⟨n1,n2,⟨⟩⟩,ev,eb⟩:=e
   have jQ:=sm yv.iff hN.nd he
   have qQ:iE (eV F) (dz pS (n1,n2,()) eP) (now (n1,n2)):=hN.at_ (n1,n2)
   simp only at jQ
   rw[jQ]at qQ
   obtain⟨p,hp,pW⟩:=BD qQ
   obtain⟨T,GP⟩:=hS.i _ _ hp
   simp only at GP
   have ve:=hD.fresh hN.nd he vh
   obtain⟨T',oX,hdf,CW,Za⟩:=Xi (t:=at_) GP hp ve
   obtain⟨i,hi,hn,CZ,hR⟩:=hK.so _ _ oX
   generalize vi:a[i]=t at*
   have NW:=hS.n _ _ hp
   have vj:kY ((T'.keys n2).getD [])/\((T'.keys n2).getD []).length<=50000000:=by
    rw[CW]
    cases hq:T.keys n2 with
    |none=>exact⟨⟨sI,λv hv=>by cases hv⟩,sI⟩
    |some vs=>exact(hS.z _ _ GP).ky _ _ hq
   refine aR rfl ?_
   refine XA h hN.st he ?_
   refine al h λd w h=>?_
   refine bU (t:=108) (b:=d) (vs:=[.string n1,.string n2]) h (λw h=>?_)
   refine dr h λw h=>?_
   refine aq ?_
   refine ld (t:=57) (x:=some ⟨c,0,none⟩) (b:=wk) (off:=0) h ?_
   refine aq ?_
   refine ld (t:=99) (x:=some m2) (b:=c) (off:=3) h ?_
   refine D7 (i:=0) om rfl ?_
   refine ld (t:=9) (x:=n1) (b:=d) (off:=0) h ?_
   have R:∀{M:List aK} {w:World} {K:Option Addr->Pr},ab E w (bS m2 es ck::M)->K (mL t) w->dQ prog (vN (Instr.lookup 99 (.map (some m2)) (.string n1) false)) aI K w:=λh hk=>by
    refine kL (kl:=.str) (vl:=.leaf .ptr) (K:=9) (V:=116) (x:=n1) (z:=(none:Option Addr)) kK gi kK h .head ?_
    rw[CZ];exact hk
   refine R (h.pick pK) ?_
   have h:=(h.pick (A:=bO bq a) pK).ri hi
   rw[vi]at h
   have h:=ox h
   refine aq ?_
   refine ld (t:=113) (x:=some t.m) (b:=t.b) (off:=1) h ?_
   refine D7 (i:=1) om rfl ?_
   refine ld (t:=9) (x:=n2) (b:=d) (off:=1) h ?_
   refine kL (kl:=.str) (vl:=bH) (K:=9) (V:=109) (x:=n2) (z:=au) kK gi kK (h.pick (A:=bG .str bH t.m t.es t.ck) pK) .head ?_
   refine ld (t:=3) (x:=at_) (b:=t3) (off:=1) h ?_
   have N1:∀(G2:bh) (X:Sl) (er:Int) w,G.le G2->jv G2 X (if m6 ((T'.keys n2).getD []) at_ p then n9 ((T'.keys n2).getD []) at_ p else[])->ab E w (ae G2::lc d 108 [.string n1,.string n2]::dG t.b t.ds t.m::OS 112 bC t.ds t.bB::bG .str bH t.m t.es t.ck::bO bq (a.eraseIdx i)::aT r (.mapIter (some nm) fM (seen.push eb) fM)::fL jH bH nm eP fM::iA wk c at_ nm::lc t3 68 (ay av (pn,at_,cs,()))::bY c B.seq B.time B.aM m2::bS m2 es ck::L)->
    (LK 57 (Addr.add (⟨wk,0,none⟩:Addr) 0) (.pointer (some ⟨c,0,none⟩))<|
     LK 99 (Addr.add (⟨c,0,none⟩:Addr) 3) (.map (some m2))<|
     LK 9 ⟨d,0,none⟩ (.string n1)<|
     CK (vN (Instr.lookup 99 (.map (some m2)) (.string n1) false)) (.pointer (mL t))<|
     LK 113 (Addr.add (⟨t.b,0,none⟩:Addr) 1) (.map (some t.m))<|
     LK 9 ⟨d,1,none⟩ (.string n2)<|
     aY<|
     NC (some ⟨wk,0,none⟩) λj=>
     LD 57 (Addr.add j 0) aI λl=>
     NC l λo=>
     LD 99 (Addr.add o 3) cI λu=>
     VL (vN (Instr.indexAt 108 (pa (⟨d,0,none⟩:Addr)) (iv 0))) dB λC=>
     LD 9 C an λD=>
     GT (vN (Instr.lookup 99 (.map u) (.string D) false)) aI λO=>
     VL (vN (Instr.indexAt 108 (pa (⟨d,0,none⟩:Addr)) (iv 1))) dB λP=>
     LD 9 P an λQ=>
     CL 40 #[.pointer O,.string Q,sv X] (.aG []) λQH=>
     LK 57 (Addr.add j 0) (.pointer l)<|
     LK 99 (Addr.add o 3) (.map u)<|
     LK 9 C (.string D)<|next ()) w:=by
    intro G2 X er w H yo h
    refine lk (t:=57) (b:=wk) (off:=0) h ?_
    refine lk (t:=99) (b:=c) (off:=3) h ?_
    refine lk (t:=9) (b:=d) (off:=0) h ?_
    refine lz (t:=aI) (R (h.pick pK) rfl) ?_
    refine lk (t:=113) (b:=t.b) (off:=1) h ?_
    refine lk (t:=9) (b:=d) (off:=1) h ?_
    refine dr h λw h=>?_
    refine aq ?_
    refine ld (t:=57) (x:=some ⟨c,0,none⟩) (b:=wk) (off:=0) h ?_
    refine aq ?_
    refine ld (t:=99) (x:=some m2) (b:=c) (off:=3) h ?_
    refine D7 (i:=0) om rfl ?_
    refine ld (t:=9) (x:=n1) (b:=d) (off:=0) h ?_
    refine R (h.pick pK) ?_
    refine D7 (i:=1) om rfl ?_
    refine ld (t:=9) (x:=n2) (b:=d) (off:=1) h ?_
    refine Co (h.bF (A1:=dG t.b t.ds t.m) (A2:=bG .str bH t.m t.es t.ck) pK pK) λw h=>?_
    refine lk (t:=57) (b:=wk) (off:=0) h ?_
    refine lk (t:=99) (b:=c) (off:=3) h ?_
    refine lk (t:=9) (b:=d) (off:=0) h ?_
    have h:=mm (t:=⟨t.nm,t.b,t.ds,t.bB,t.m,tO n2 X t.es t.ck,tP n2 X t.es t.ck⟩) (h.sub (M:=dG t.b t.ds t.m::OS 112 bC t.ds t.bB::bG .str bH t.m (tO n2 X t.es t.ck) (tP n2 X t.es t.ck)::bO bq (a.eraseIdx i)::aT r (.mapIter (some nm) fM (seen.push eb) fM)::fL jH bH nm eP fM::ae G2::iA wk c at_ nm::lc t3 68 (ay av (pn,at_,cs,()))::bY c B.seq B.time B.aM m2::bS m2 es ck::L) sS)
    have h:=ab.Im hi h
    have W:=(hK.up H).set (t:=⟨t.nm,t.b,t.ds,t.bB,t.m,tO n2 X t.es t.ck,tP n2 X t.es t.ck⟩) (T:=⟨T'.defs,eH T'.keys n2 (qi ((T'.keys n2).getD []) at_ p)⟩) hi (by rw[vi,hn];exact CZ) (by rw[vi]) (by rw[vi]) ⟨(hR.up H).df,((hR.up H).ky).PA yo⟩
    replace W:fT G2 es ck (a.set i ⟨t.nm,t.b,t.ds,t.bB,t.m,tO n2 X t.es t.ck,tP n2 X t.es t.ck⟩) (eH (nR at_ f now (done.map (·.key))) n1 (some ⟨T'.defs,eH T'.keys n2 (qi ((T'.keys n2).getD []) at_ p)⟩)):=by rw[<-hn];exact W
    rw[<-Za]at W
    refine Ai _ _ _ (uf he vh) ⟨_,done++[⟨(n1,n2,()),ev,eb⟩],G2,_,hD.push hN.st he vh,rfl,hG.trans H,?_,h.sub sS⟩
    rw[fe]
    exact W
   refine wy (F:=G) (h.pick (A:=ae G) pK) ((hR.ky.look n2)) (pW.up eK hG) vj.1 NW.1 om NW.2 (λlG G2 w H h=>?_) (λaah G2 X w H yo h=>?_)
   .refine N1 G2 au 1 w H ?_ (h.sub sS)
    rw[lG];exact⟨[],.nil,.nil⟩
   .refine N1 G2 X 0 w H ?_ (h.sub sS)
    rw[aah];exact yo
theorem KB {b:Nat} {B:b9} {p:pH} {k:Int->Pr} (h:ab E w (ae F::az F b B::L)) (hp:je F p P) (hC:rH B P)
  (K:∀G w',F.le G->ab E w' (ae G::az G b (cb B P).2::L)->k (cb B P).1 w'):CL 16 #[.pointer (some ⟨b,0,none⟩),ag av p] ah k w:=by
 have pW:=hp
 have v:=hC.ok
 obtain⟨pn,d,cs,⟨⟩⟩:=p
 obtain⟨Pn,Pt,Pc⟩:=P
 obtain⟨h1,h2,h3⟩:=hp
 simp only at h1 h2 h3
 subst h1 h2
 obtain⟨m,ck,es,ez,hT,h⟩:=ko (h.pick (A:=az F b B) pK)
 refine adb ?_
 refine bx h λt3 w h=>?_
 refine dw (x:=false) kK ?_
 refine ar rfl ?_
 refine bN (t:=68) (ls:=av) (x:=(pn,d,cs,())) (b:=t3) h ?_
 refine Vu (F:=F) (b:=b) (m:=m) (P:=(pn,d,Pc)) (h.bF (A1:=ae F) (A2:=bY b B.seq B.time B.aM m) pK pK) pW v hC.sq λw h=>?_
 have iH:∀{u:bh} {w:World} {M:List aK},F.le u->ab E w (bY b B.seq B.time B.aM m::bS m es ck::bO bq ez::M)->ab E w (az u b B::M):=λg h=>jb (b:=b) (B:=B) (hT.up g) h
 refine ax (λR=>?_) (λR=>?_)
 .have y:kU B.seq B.time (pn,d,Pc)≠0:=by simpa using R
  have e:cb B (pn,d,Pc)=(kU B.seq B.time (pn,d,Pc),B):=by unfold cb;rw[ak y]
  rw[e]at K
  have h:=iH (.refl _) (h.sub (M:=bY b B.seq B.time B.aM m::bS m es ck::bO bq ez::ae F::L) sS)
  exact K F w (.refl _) (h.sub sS)
 have N8:kU B.seq B.time (pn,d,Pc)=0:=by simpa using R
 have U:=hC.st N8
 simp only at U
 have e:cb B (pn,d,Pc)=if(dS d (B.aJ,eD) Pc).1≠0 then((dS d (B.aJ,eD) Pc).1,B)else
  (0,⟨pn,d,B.aM,mz d (dS d (B.aJ,eD) Pc).2.1 (dS d (B.aJ,eD) Pc).2.2⟩):=by unfold cb;rw[ai (by rw[N8];simp)]
 rw[e]at K
 refine br (λs w=>∃wk c nm,s=some ⟨wk,0,none⟩/\ab E w (ae F::iA wk c d nm::fL jH bH nm [] 0::az F c B::lc t3 68 (ay av (pn,d,cs,()))::az F b B::L)) (λs w hs=>?_) λJ hJ=>?_
 rotate_left
 .refine dr h λw h=>?_
  refine ld (t:=3) (x:=d) (b:=t3) (off:=1) h ?_
  have h:=iH (.refl _) (h.sub (M:=bY b B.seq B.time B.aM m::bS m es ck::bO bq ez::ae F::lc t3 68 (ay av (pn,d,cs,()))::L) sS)
  refine⟨?_,?_⟩
  .refine xT (F:=F) (b:=b) (B:=B) (h.bF (A1:=ae F) (A2:=az F b B) pK pK) hC.z λc w h=>?_
   refine lk (t:=3) (b:=t3) (off:=1) h ?_
   refine nP h λnm w h=>?_
   rw[<-OF jH bH]at h
   refine lk (t:=3) (b:=t3) (off:=1) h ?_
   refine bx h λwk w h=>?_
   refine lk (t:=3) (b:=t3) (off:=1) h ?_
   exact hJ _ _ ⟨wk,c,nm,rfl,h.sub sS⟩
  .refine nP h λnm w h=>?_
   rw[<-OF jH bH]at h
   refine lk (t:=3) (b:=t3) (off:=1) h ?_
   refine xT (F:=F) (b:=b) (B:=B) (h.bF (A1:=ae F) (A2:=az F b B) pK pK) hC.z λc w h=>?_
   refine lk (t:=3) (b:=t3) (off:=1) h ?_
   refine bx h λwk w h=>?_
   refine lk (t:=3) (b:=t3) (off:=1) h ?_
   exact hJ _ _ ⟨wk,c,nm,rfl,h.sub sS⟩
 obtain⟨wk,c,nm,rfl,h⟩:=hs
 refine ao λ_=>?_
 refine ld (t:=66) (x:=cs) (b:=t3) (off:=2) h ?_
 obtain⟨rs,N,O⟩:=h3
 have hlen:=O.len
 have pV:=v.len
 simp only at pV
 have Yv:cs.len=rs.length:=N.2
 simp only[Yv]
 refine cy (S:=Int) (cf:=λs=>s) rs.length rfl (λi _ w=>(dS d (B.aJ,eD) (Pc.take i)).1=0/\∃G eP fM,F.le G/\oF G eP fM (dS d (B.aJ,eD) (Pc.take i)).2.2/\ab E w (ae G::iA wk c d nm::fL jH bH nm eP fM::az G c ⟨B.seq,B.time,B.aM,(dS d (B.aJ,eD) (Pc.take i)).2.1⟩::lc t3 68 (ay av (pn,d,cs,()))::az G b B::L)) rfl ⟨rfl,F,[],0,.refl _,oF.nil,h⟩ ?_ ?_
 .rintro next _ w i hi rfl ⟨o,G,eP,fM,Z,hN,h⟩ V
  have W:i<Pc.length:=om
  have r:=U (Pc.take i) (Pc.drop i) (oq i Pc).symm o
  refine ix (T:=66) (ls:=bP) (F:=G) (xs:=rs) (i:=i) (N.up Z) hi λa ha=>?_
  refine fJ h ?_
  refine al h λt8 w h=>?_
  refine bU (t:=65) (b:=t8) h (λw h=>?_)
  refine bN (t:=65) (ls:=bP) (x:=rs[i]) (b:=t8) h ?_
  have l:=LR d (Pc.take i) (B.aJ,eD) Pc[i] o
  rw[<-lT W]at l
  generalize akg:dS d (B.aJ,eD) (Pc.take i)=r1 at*
  obtain⟨e1,D,n1⟩:=r1
  simp only at o r hN l h
  refine Vv (wk:=wk) (b:=c) (nm:=nm) (fM:=fM) (at_:=d) (B0:=⟨B.seq,B.time,B.aM,D⟩) (eP:=eP) (now:=n1) (C:=Pc[i]) (h.DG (A1:=ae G) (A2:=iA wk c d nm) (A3:=fL jH bH nm eP fM) (A4:=az G c ⟨B.seq,B.time,B.aM,D⟩) pK pK pK pK) ((O.get i hi W).up Z) (v.ok _ (cp W)) r.z r.k hN r.n λu aa1 aaY w g X6 h=>?_
  refine ax (λR=>?_) (λR=>?_)
  .have y:(dY d (D,n1) Pc[i]).1≠0:=by simpa using R
   rw[ak y]at l
   have Q:=LQ d (Pc.take (i+1)) (Pc.drop (i+1)) (B.aJ,eD) (by rw[l];exact y)
   rw[oq]at Q
   rw[Q,l,ak y]at K
   have X:=jG (h.pick (A:=az G b B) pK) g
   exact K u w (Z.trans g) (X.sub sS)
  .have GN:¬(dY d (D,n1) Pc[i]).1≠0:=by simpa using R
   rw[ai GN]at l
   have X:=jG (h.pick (A:=az G b B) pK) g
   refine V _ _ (bV hi om) ⟨by rw[l],u,aa1,aaY,Z.trans g,by rw[l];exact X6,?_⟩
   rw[l]
   exact X.sub sS
 .rintro _ w ⟨o,G,eP,fM,Z,hN,h⟩
  have et:Pc.take rs.length=Pc:=iP om
  rw[et]at o hN h
  have r:=U Pc [] sI o
  rw[ai (by rw[o];simp)]at K
  generalize dS d (B.aJ,eD) Pc=r1 at*
  obtain⟨e1,D,n1⟩:=r1
  simp only at o r hN K h
  obtain⟨m2,H,I,aii,No,h⟩:=ko (h.pick (A:=az G c ⟨B.seq,B.time,B.aM,D⟩) pK)
  refine br (λ_ w=>∃u j,G.le u/\fT u I H j (mz d D n1)/\ab E w (ae u::iA wk c d nm::lc t3 68 (ay av (pn,d,cs,()))::bY c B.seq B.time B.aM m2::bS m2 I H::bO bq j::az G b B::L)) (λ_ w hs=>?_) λJ hJ=>?_
  .obtain⟨u,j,g,Y,h⟩:=hs
   refine ao λ_=>?_
   obtain⟨m1,ck1,es1,aky,hT1,h⟩:=ko (h.pick (A:=az G b B) pK)
   refine dr h λw h=>?_
   refine aq ?_
   refine ld (t:=57) (x:=some ⟨c,0,none⟩) (b:=wk) (off:=0) h ?_
   refine aq ?_
   refine ld (t:=99) (x:=some m2) (b:=c) (off:=3) h ?_
   refine ld (t:=3) (x:=pn) (b:=t3) (off:=0) h ?_
   refine ld (t:=3) (x:=d) (b:=t3) (off:=1) h ?_
   refine aq ?_
   refine st (t:=99) (b:=b) (off:=3) h λw h=>?_
   refine lk (t:=3) (b:=t3) (off:=0) h ?_
   refine lk (t:=3) (b:=t3) (off:=1) h ?_
   refine aq ?_
   refine st (t:=3) (b:=b) (off:=0) h λw h=>?_
   refine lk (t:=3) (b:=t3) (off:=1) h ?_
   refine aq ?_
   refine st (t:=3) (b:=b) (off:=1) h λw h=>?_
   have h:ab E w (bY b pn d B.aM m2::bS m2 I H::bO bq j::ae u::L):=h.sub sS
   have h:=jb (b:=b) (B:=⟨pn,d,B.aM,mz d D n1⟩) Y h
   exact K u w (Z.trans g) (h.sub sS)
  .refine aq ?_
   refine ld (t:=104) (x:=some nm) (b:=wk) (off:=2) h ?_
   refine Xf (F:=G) (wk:=wk) (c:=c) (m2:=m2) (nm:=nm) (b:=b) (t3:=t3) (ck:=H) (fM:=fM) (at_:=d) (B:=B) (es:=I) (ez:=aii) (eP:=eP) (f:=D) (now:=n1) (cs:=cs) (pn:=pn) (J:=J ()) (L:=az G b B::L) (h.sub sS) No hN r λu j w g Y h=>?_
   exact hJ _ _ ⟨u,j,g,Y,h.sub sS⟩
end Go.Proofs.YtelhccfmfnaegaaGreat
