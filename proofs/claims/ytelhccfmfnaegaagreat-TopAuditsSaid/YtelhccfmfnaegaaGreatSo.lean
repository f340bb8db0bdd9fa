/- Lemmas for topAudits_holds. No conditions. -/
import Derived.Test.YtelhccfmfnaegaaGreatSg
set_option linter.unusedSectionVars false
set_option linter.unusedVariables false
set_option linter.unusedSimpArgs false
set_option linter.defProp false
set_option maxRecDepth 10000
namespace Go.Proofs.YtelhccfmfnaegaaGreat
open Go Go.Sh Tryz
attribute [local irreducible] aT jC gk dV kO dg hex iT jk ae aj bG aN bq fL az
def Open (E:World) (S:World->bh->List aK->Prop):Prop:=
 ∀w F L,S w F L->∃A,ab E w (ae F::(L++A))/\∀G a L',F.le G->ab E a (ae G::(L'++A))->S a G L'
theorem ab.Qy {E w:World}:(A L:List aK)->ab E w (A++L)->ab E w (L++A)
 |[],L,h=>by rw[iO];exact h
 |a::A,L,h=>by
  have b:ab E w ((A++L)++[a]):=h.sub (xo a (A++L))
  rw[cP]at b
  have c:=ab.Qy A (L++[a]) b
  rw[cP]at c
  exact c
def uB:=@ab.Qy
variable {E w:World} {L L' M:List aK} {F G:bh} {rp d T:Nat} {fu z:Bool} {B0 B1:b9} {N:Nat} {fo:Bool} {s:Sl} {n:Nat} {ls:List bD} {P:Pk} {kd sq tm oN q0 q2 q3 q4 q5 q8:Int} {cs oK fN q6 q7:Sl} {q1:ByteArray} {q9:Bool} {S:World->bh->List aK->Prop} {b m:Nat} {Ls Ms:Sl} {hh mh:Int} {k:Bool->Pr} {oS:ByteArray} {Q:Int->Bool->(World->bh->List aK->Prop)->Prop} {S':World->bh->List aK->Prop} {dh:List Bool}
theorem eF:Open E λw F L=>de E w F rp d fu T z B0 L:=by
 intro w F L hU
 obtain⟨u,sk,v,p,q,b,id,s,a,c,e,X,T0,bT,CT,Yc,hV,h⟩:=hU
 refine⟨bE rp (some ⟨u,0,none⟩) d 120::cS u sk v::cX sk v ⟨#[]⟩ z a c e::bf v p q b id s false::bm q p::aj d X::aN p d T0 bT (λ_=>none)::az F b B0::[],?_,λG w' L' hG h=>?_⟩
 .have h:ab E w ((bE rp (some ⟨u,0,none⟩) d 120::cS u sk v::cX sk v ⟨#[]⟩ z a c e::bf v p q b id s false::bm q p::aj d X::aN p d T0 bT (λ_=>none)::az F b B0::[])++(L++[ae F])):=h.sub (xo (ae F) (_::_::_::_::_::_::_::_::L))
  have h:=uB _ _ h
  rw[cP]at h
  exact h.sub (.take (Pu (ae F) L _) (sub_self _))
 .have h:ab E w' ((ae G::L')++(bE rp (some ⟨u,0,none⟩) d 120::cS u sk v::cX sk v ⟨#[]⟩ z a c e::bf v p q b id s false::bm q p::aj d X::aN p d T0 bT (λ_=>none)::az F b B0::[])):=h
  have h:=uB _ _ h
  have h:=jG (h.pick (A:=az F b B0) pK) hG
  exact⟨u,sk,v,p,q,b,id,s,a,c,e,X,T0,bT,CT,Yc,hV.up hG,h.sub sS⟩
 where
 Pu (A:aK):(L N:List aK)->b6 (L++([A]++N)) A (L++N)
  |[],N=>.head
  |C::L,N=>.tail (Pu A L N)
theorem lN:Open E λw F L=>gP E w F rp d T B0 B1 L:=by
 intro w F L j
 obtain⟨u,f,v,p,q,b,id,s,z,a,c,e,X,k,l,m,g,i,h⟩:=j
 refine⟨bE rp (some ⟨u,0,none⟩) d 120::cS u f v::cX f v ⟨#[]⟩ z a c e::bf v p q b id s true::aj d X::az F b B0::[],?_,λG n L' o h=>?_⟩
 .have h:ab E w ((bE rp (some ⟨u,0,none⟩) d 120::cS u f v::cX f v ⟨#[]⟩ z a c e::bf v p q b id s true::aj d X::az F b B0::[])++(L++[ae F])):=h.sub (xo (ae F) (_::_::_::_::_::_::L))
  have h:=uB _ _ h
  rw[cP]at h
  exact h.sub (.take (eF.Pu (ae F) L _) (sub_self _))
 .have h:ab E n ((ae G::L')++(bE rp (some ⟨u,0,none⟩) d 120::cS u f v::cX f v ⟨#[]⟩ z a c e::bf v p q b id s true::aj d X::az F b B0::[])):=h
  have h:=uB _ _ h
  have h:=jG (h.pick (A:=az F b B0) pK) o
  exact⟨u,f,v,p,q,b,id,s,z,a,c,e,X,k,l,m,g,i,h.sub sS⟩
theorem lh:Open E λw F L=>iD E w F rp d fo T N B0 L:=by
 intro w F L a
 obtain⟨X,c,b,P,e,f,g,i,j,h⟩:=a
 refine⟨bE rp none d 120::aj d X::[],?_,λG k L' l h=>?_⟩
 .have h:ab E w ((bE rp none d 120::aj d X::[])++(L++[ae F])):=h.sub (xo (ae F) (_::_::L))
  have h:=uB _ _ h
  rw[cP]at h
  exact h.sub (.take (eF.Pu (ae F) L _) (sub_self _))
 .have h:ab E k ((ae G::L')++(bE rp none d 120::aj d X::[])):=h
  have h:=uB _ _ h
  exact⟨X,c,b,P,e,f,g,i,j,h.sub sS⟩
def gO (F:bh) (s:Sl) (n:Nat):Prop:=∃a:List (bK av),FL F av s a/\a.length=n
theorem gO.up (h:gO F s n) (a:F.le G):gO G s n:=by
 obtain⟨b,c,d⟩:=h
 exact⟨b,c.up a,d⟩
theorem gO.len (h:gO F s n):s.len=n:=by
 obtain⟨c,a,b⟩:=h
 rw[a.2,b]
theorem gO.nil:gO F au 0:=⟨[],.nil,rfl⟩
def BE:=@gO.nil
theorem bz {T:TypeId} {k:Sl->Pr} (h:ab E w L) (d:∀a b,ab E b (OS T ls a []::L)->k a b)
  (c:qP T ls.length=true:=by kernel_rfl):eT prog (vN (Instr.buildSlice T 0 #[])) aE k w:=by
 have c:=ti c
 have f:(Instr.buildSlice T 0 #[]).run prog w=.ok (.slice (some ⟨w.heap.size,0,none⟩) 0 0) {w with heap:=w.heap.push (.cells ⟨[]⟩ (k6 T) (0,0))}:=by
  unfold Instr.buildSlice
  rw[ke (u4 c.el)]
  simp only
  rw[ke c.ok.size,ai sI,ak sI]
  have e:Instr.fill (λi=>some (i*ls.length,ls.length)) (Array.map (λx=>(#[]:Array Value)[x%(#[]:Array Value).size]!) (Array.range (0*ls.length))) []=some ⟨[]⟩:=by
   simp[Instr.fill]
  simp only[pure_bind]
  rw[show(Instr.fill (λi=>some (i*ls.length,ls.length)) (Array.map (λx=>(#[]:Array Value)[x%(#[]:Array Value).size]!) (Array.range (0*ls.length))) (#[]:Array (Nat×Value)).toList)=some ⟨[]⟩from e]
  rfl
 exact wD (Te:=k6 T) (sz:=ls.length) (len:=0) ([]:List Value) h f sI λa b j g=>d a b g
theorem B8 {k:Sl->Pr} (h:ab E w L) (c:∀a b,ab E b (OS 34 av a []::L)->k a b):eT prog (vN (Instr.buildSlice 34 0 #[])) aE k w:=bz (T:=34) (ls:=av) h c
def bytesOf (P:Pk):List UInt8:=if D9 P>500 then[]else if(wG P).length>400 then[]else wG P
theorem Fm (h:bytesOf P≠[]):gT P=true/\(cZ P).length<=392/\bytesOf P=l5 (cZ P)/\fv P=cZ P/\fv P≠[]:=by
 unfold bytesOf at h⊢
 split at h
 .exact absurd rfl h
 rename_i f
 split at h
 .exact absurd rfl h
 rename_i b
 rw[ai f,ai b]
 unfold wG at h b⊢
 split at h
 .exact absurd rfl h
 rename_i c
 rw[ai c]at b⊢
 rw[zU]at b
 have a:=c
 unfold fv at a
 split at a
 .rename_i d
  split at a
  .exact absurd rfl a
  .rename_i g
   have e:fv P=cZ P:=by unfold fv;rw[ak d,ai g]
   exact⟨d,by rw[<-e];omega,by rw[e],e,c⟩
 .exact absurd rfl a
abbrev bk (b rp:Nat) (a c:Sl) (h d:Int):aK:=lc b 36 [.pointer (some ⟨rp,0,none⟩),sv a,sv c,iv h,iv d]
theorem Vz {k:ByteArray->Pr} (h:ab E w (ae F::L)) (c:je F (sq,tm,cs,()) P) (e:pI P) (a:∀d,ab E d (ae F::L)->k (B (bytesOf P)) d):
  CL 52 #[ag Y0 (kd,sq,tm,cs,eB,oN,oK,q0,q1,fN,q2,q3,q4,q5,q6,q7,q8,q9,())] an k w:=by
 refine af7 ?_
 refine bx h λf w h=>?_
 refine ld h ?_
 rw[qY]
 refine ar sI ?_
 refine fK h ?_
 refine Tg (h.pick (A:=ae F) pK) c λw h=>?_
 unfold bytesOf at a
 refine ax ?_ ?_<;>intro b
 .rw[ak (cT b)]at a
  exact a w (h.sub sS)
 rw[ai (cF b)]at a
 refine fK h ?_
 refine Th h c e λw h=>?_
 rw[cJ]
 refine ax ?_ ?_<;>intro b
 .have:=cT b
  rw[ak om]at a
  exact a w (h.sub sS)
 .have:=cF b
  rw[ai om]at a
  exact a w (h.sub sS)
def mZ (n:Nat) (a e:Int):Nat:=if e=0/\a>=(n:Int)+1 then n+1 else n
def lJ (n m:Nat) (a e:Int):Nat:=if e=17/\a=(n:Int)+1/\m=0 then 1 else m
def m0 (n:Nat) (a e:Int):Bool:=if e=0/\a>=(n:Int)+1 then decide (a=(n:Int)+1)else decide (e≠0\/a<(n:Int)+1)
theorem It {Q:Int->(World->bh->List aK->Prop)->Prop}
  (hS:Open E S) (hs:S w F (bk b rp Ls Ms hh mh::L)) (hp:je F (sq,tm,cs,()) P) (hP:pI P) (hL:gO F Ls n) (hM:gO F Ms m) (hn:n<=100000)
  (Hn:∀w L (k:Bool->Pr),S w F L->(∀z,S z F L->k true z)->CL 22 #[.pointer (some ⟨rp,0,none⟩)] aw k w)
  (GO:∀w L (k:Sl->Pr),S w F L->(∀z,S z F L->k au z)->CL 53 #[.pointer (some ⟨rp,0,none⟩),.string ⟨#[]⟩] aE k w)
  (W:bytesOf P≠[]->∀w L (k:Sl->Pr),S w F L->(∀G s e z R,F.le G->Open E R->Q e R->s.len=1->R z G (OS 136 aC s [(P.1,e,())]::L)->k s z)->CL 53 #[.pointer (some ⟨rp,0,none⟩),.string (B (bytesOf P))] aE k w)
  (pU:bytesOf P=[]->∀z,S z F (bk b rp Ls Ms hh mh::L)->k true z)
  (X:bytesOf P≠[]->∀G e R z o c,F.le G->Open E R->Q e R->gO G o (mZ n P.1 e)->gO G c (lJ n m P.1 e)->R z G (bk b rp o c hh mh::L)->k (m0 n P.1 e) z):
  CL 21 #[.pointer (some ⟨b,0,none⟩),ag Y0 (0,sq,tm,cs,eB,oN,oK,q0,q1,fN,q2,q3,q4,q5,q6,q7,q8,q9,())] aw k w:=by
 have H:sq=P.1:=hp.n
 obtain⟨A,h,r⟩:=hS _ _ _ hs
 have h:ab E w (ae F::bk b rp Ls Ms hh mh::(L++A)):=h
 refine xf ?_
 generalize Zk:((0,sq,tm,cs,eB,oN,oK,q0,q1,fN,q2,q3,q4,q5,q6,q7,q8,q9,()):bK Y0)=p0 at*
 refine bx h λC w h=>?_
 subst Zk
 refine aL ?_
 refine ld h ?_
 refine aR rfl ?_
 refine ld h ?_
 rw[qY]
 refine aL ?_
 refine ar sI ?_
 refine aq ?_
 refine ld h ?_
 generalize Y:ay Y0 ((0,sq,tm,cs,eB,oN,oK,q0,q1,fN,q2,q3,q4,q5,q6,q7,q8,q9,()):bK Y0)=Z at*
 have hs:S w F (lc C 81 Z::bk b rp Ls Ms hh mh::L):=r F w _ (dC _) (h.sub (M:=ae F::lc C 81 Z::bk b rp Ls Ms hh mh::(L++A)) sS)
 refine Hn w _ _ hs λw hs=>?_
 refine ao λ_=>?_
 refine ar rfl ?_
 obtain⟨A,h,r⟩:=hS _ _ _ hs
 have h:ab E w (ae F::lc C 81 Z::bk b rp Ls Ms hh mh::(L++A)):=h
 subst Y
 refine bN h ?_
 refine Vz h hp hP λw h=>?_
 refine aq ?_
 refine ld h ?_
 generalize Y:ay Y0 ((0,sq,tm,cs,eB,oN,oK,q0,q1,fN,q2,q3,q4,q5,q6,q7,q8,q9,()):bK Y0)=Z at*
 have hs:S w F (lc C 81 Z::bk b rp Ls Ms hh mh::L):=r F w _ (dC _) h
 rw[qY]
 by_cases I:bytesOf P=[]
 .rw[I]
  refine GO w _ _ hs λw hs=>?_
  refine aR (eu rfl) ?_
  obtain⟨A,h,r⟩:=hS _ _ _ hs
  have h:ab E w (ae F::lc C 81 Z::bk b rp Ls Ms hh mh::(L++A)):=h
  exact pU I w (r F w _ (dC _) (h.sub (M:=ae F::bk b rp Ls Ms hh mh::(L++A)) sS))
 replace W:=W I
 replace X:=X I
 refine W w _ _ hs λG l e w R hG Nn hQ hlen hs=>?_
 refine ar (eM λe=>I (pG.1 e)) ?_
 have hL:=hL.up hG
 have hM:=hM.up hG
 have wR:=hL.len
 have GX:=hM.len
 obtain⟨A,h,r⟩:=Nn _ _ _ hs
 have h:ab E w (ae G::OS 136 aC l [(P.1,e,())]::lc C 81 Z::bk b rp Ls Ms hh mh::(L++A)):=h
 subst Y
 refine aL ?_
 refine dr h λw h=>?_
 refine ar (by simp[hlen]) ?_
 refine eO (i:=0) h pK sI λa U=>?_
 refine kH (i:=0) (j:=0) (x:=P.1) h pK U sI ?_
 refine ld h ?_
 refine ao λ_=>?_
 refine ar (by simp[H]) ?_
 refine aq ?_
 refine ld h ?_
 have yr:w6 ((Ls.len:Int)+1)=((n+1:Nat):Int):=by rw[wR];exact bV (n:=100001) om om
 rw[yr]
 have Yq:((n+1:Nat):Int)=(n:Int)+1:=om
 rw[Yq]
 have N:∀{w:World} {L:List aK} {a:Addr} {K:Int->Pr},ab E w (OS 136 aC l [(P.1,e,())]::L)->qE l (0*aC.length) a->K e w->dQ prog (vN (Instr.loadAt 31 (.pointer (some (Addr.add a 1))))) (.one (.leaf (.int .i64))) K w:=λ{w L a K} h U hK=>
  kH h .head (U.add 1) sI hK
 refine eO (xs:=[(P.1,e,())]) (i:=0) h pK sI λa U=>?_
 refine N (h.pick pK) U ?_
 have d:∀(g:bh) (o c:Sl) (v:List Value) w,G.le g->gO g o (mZ n P.1 e)->gO g c (lJ n m P.1 e)->ab E w (ae g::OS 136 aC l [(P.1,e,())]::lc C 81 v::bk b rp o c hh mh::(L++A))->k (m0 n P.1 e) w:=λg o c v w f h1 h2 h=>
  X g e R w o c (hG.trans f) Nn hQ h1 h2 (r g w _ f (h.sub (M:=ae g::bk b rp o c hh mh::(L++A)) sS))
 refine br (λB4 w=>B4=decide (e=0/\P.1>=(n:Int)+1)/\ab E w (ae G::OS 136 aC l [(P.1,e,())]::lc C 81 (ay Y0 (0,sq,tm,cs,eB,oN,oK,q0,q1,fN,q2,q3,q4,q5,q6,q7,q8,q9,()))::bk b rp Ls Ms hh mh::(L++A))) (λB4 w I=>?_) λJ hJ=>?_
 rotate_left
 .refine ax ?_ ?_<;>intro D
  .have p:=ek D
   refine ld h ?_
   exact hJ _ _ ⟨by rw[gb,bX,bX,H];exact⟨λh=>⟨p,h⟩,λh=>h.2⟩,h.sub sS⟩
  .have p:=ei D
   exact hJ _ _ ⟨by symm;rw[ml];exact λh=>p h.1,h.sub sS⟩
 obtain⟨rfl,h⟩:=I
 refine ao λ_=>?_
 refine ax ?_ ?_<;>intro D
 ·
  have D:=cT D
  have e1:mZ n P.1 e=n+1:=by unfold mZ;rw[ak D]
  have e2:lJ n m P.1 e=m:=by unfold lJ;rw[ai (λh=>by have:=h.1;have:=D.1;omega)]
  have e3:m0 n P.1 e=decide (P.1=(n:Int)+1):=by unfold m0;rw[ak D]
  rw[e1,e2,e3]at d
  obtain⟨xs,wU,vm⟩:=hL
  have t:∀(O:Sl) w,ab E w (OS 34 av O (xs++[(sq,tm,cs,())])::ae G::OS 136 aC l [(P.1,e,())]::lc C 81 (ay Y0 (0,sq,tm,cs,eB,oN,oK,q0,q1,fN,q2,q3,q4,q5,q6,q7,q8,q9,()))::bk b rp Ls Ms hh mh::(L++A))->
    (NC (some ⟨b,0,none⟩) λt80=>ST 34 (Addr.add t80 1) (sv O)<|(ba λ_=>LD 3 (Addr.add (Addr.add (⟨C,0,none⟩:Addr) 1) 0) ah λt84=>k ((t84:Int)==(n:Int)+1))) w:=λO w h=>by
   obtain⟨g,f,h,hf⟩:=dT h
   refine aq ?_
   refine st h λw h=>?_
   refine ao λ_=>?_
   refine ld h ?_
   have:=d g O Ms _ w f ⟨_,hf,by rw[aU,vm];rfl⟩ (hM.up f) (h.sub sS)
   have e4:(sq==(n:Int)+1)=decide (P.1=(n:Int)+1):=by rw[H];rfl
   rw[e4]
   exact this
  refine aL ?_
  refine dr h λw h=>?_
  refine aq ?_
  refine ld h ?_
  refine fK h ?_
  refine⟨?_,?_⟩
  .refine B8 h λs0 w h=>?_
   refine lk h ?_
   refine j8 h ?_
   refine⟨?_,?_⟩
   .refine ap h (λw h=>wU.reads (h.pick (A:=ae G) pK)) (by simp;omega) (λs1 w h=>?_) .head
    rw[mQ]at h
    refine j8 h ?_
    refine bJ h λs2 w _ h=>?_
    refine eA (xs:=xs) (y:=(sq,tm,cs,())) (h.bF (A1:=OS 34 av s2 [(sq,tm,cs,())]) (A2:=OS 34 av s1 xs) pK pK) om (λO w h=>?_)
    exact t O w (h.sub sS)
   .refine bJ h λs2 w _ h=>?_
    refine lk h ?_
    refine ap (xs:=[]) (ys:=xs) h (λw h=>wU.reads (h.pick (A:=ae G) pK)) (by simp;omega) (λs1 w h=>?_) pK
    rw[mQ]at h
    refine eA (xs:=xs) (y:=(sq,tm,cs,())) (h.bF (A1:=OS 34 av s2 [(sq,tm,cs,())]) (A2:=OS 34 av s1 xs) pK pK) om (λO w h=>?_)
    exact t O w (h.sub sS)
  .refine bJ h λs2 w _ h=>?_
   refine lk h ?_
   refine B8 h λs0 w h=>?_
   refine lk h ?_
   refine ap h (λw h=>wU.reads (h.pick (A:=ae G) pK)) (by simp;omega) (λs1 w h=>?_) .head
   rw[mQ]at h
   refine eA (T:=34) (ls:=av) (xs:=xs) (y:=(sq,tm,cs,())) (h.bF (A1:=OS 34 av s2 [(sq,tm,cs,())]) (A2:=OS 34 av s1 xs) pK pK) om (λO w h=>?_)
   exact t O w (h.sub sS)
 ·
  have D:=cF D
  have e1:mZ n P.1 e=n:=by unfold mZ;rw[ai D]
  have e3:m0 n P.1 e=decide (e≠0\/P.1<(n:Int)+1):=by unfold m0;rw[ai D]
  rw[e1,e3]at d
  refine br (λ_ w=>∃(c:Sl) (g:bh),G.le g/\gO g c (lJ n m P.1 e)/\ab E w (ae g::OS 136 aC l [(P.1,e,())]::lc C 81 (ay Y0 (0,sq,tm,cs,eB,oN,oK,q0,q1,fN,q2,q3,q4,q5,q6,q7,q8,q9,()))::bk b rp Ls c hh mh::(L++A))) (λ_ w hh=>?_) λJ hJ=>?_
  .obtain⟨c,g,f,rZ,h⟩:=hh
   refine ao λ_=>?_
   refine eO (T:=136) (ls:=aC) (xs:=[(P.1,e,())]) (i:=0) h pK sI λa U=>?_
   refine N (h.pick pK) U ?_
   refine aL ?_
   refine ax ?_ ?_<;>intro u
   .have p:e≠0:=by simpa using u
    refine ao λ_=>?_
    have:=d g Ls c _ w f (hL.up f) rZ h
    rwa[show decide (e≠0\/P.1<(n:Int)+1)=true from eu (.inl p)]at this
   .have p:e=0:=by simpa using u
    refine ld h ?_
    refine ao λ_=>?_
    have:=d g Ls c _ w f (hL.up f) rZ h
    refine fin this ?_
    rw[H,gb,bX,bX]
    exact⟨λh=>.inr h,λh=>h.resolve_left (λh=>h p)⟩
  .refine eO (T:=136) (ls:=aC) (xs:=[(P.1,e,())]) (i:=0) h pK sI λa U=>?_
   refine N (h.pick pK) U ?_
   refine br (λB5 w=>B5=decide (e=17/\P.1=(n:Int)+1)/\ab E w (ae G::OS 136 aC l [(P.1,e,())]::lc C 81 (ay Y0 (0,sq,tm,cs,eB,oN,oK,q0,q1,fN,q2,q3,q4,q5,q6,q7,q8,q9,()))::bk b rp Ls Ms hh mh::(L++A))) (λB5 w I=>?_) λJ2 lE=>?_
   rotate_left
   .refine ax ?_ ?_<;>intro u
    .have p:=ek u
     refine ld h ?_
     exact lE _ _ ⟨by rw[gb,qq,bX,H];exact⟨λh=>⟨p,h⟩,λh=>h.2⟩,h.sub sS⟩
    .have p:=ei u
     exact lE _ _ ⟨by symm;rw[ml];exact λh=>p h.1,h.sub sS⟩
   obtain⟨rfl,h⟩:=I
   refine ao λ_=>?_
   refine br (λV w=>V=decide (e=17/\P.1=(n:Int)+1/\m=0)/\ab E w (ae G::OS 136 aC l [(P.1,e,())]::lc C 81 (ay Y0 (0,sq,tm,cs,eB,oN,oK,q0,q1,fN,q2,q3,q4,q5,q6,q7,q8,q9,()))::bk b rp Ls Ms hh mh::(L++A))) (λV w I=>?_) λJ3 yl=>?_
   rotate_left
   .refine ax ?_ ?_<;>intro u
    .have p:=cT u
     refine aq ?_
     refine ld h ?_
     refine yl _ _ ⟨?_,h.sub sS⟩
     rw[GX,gb,qq,bX]
     exact⟨λh=>⟨p.1,p.2,om⟩,λh=>by rw[h.2.2];rfl⟩
    .have p:=cF u
     exact yl _ _ ⟨by symm;rw[ml];exact λh=>p ⟨h.1,h.2.1⟩,h.sub sS⟩
   obtain⟨rfl,h⟩:=I
   refine ao λ_=>?_
   refine ax ?_ ?_<;>intro u
   .have u:=cT u
    have e2:lJ n m P.1 e=1:=by unfold lJ;rw[ak u]
    rw[e2]at hJ
    refine fK h ?_
    refine bJ h λs2 w _ h=>?_
    obtain⟨g,f,h,hf⟩:=dT h
    refine aq ?_
    refine st h λw h=>?_
    exact hJ () w ⟨s2,g,f,⟨_,hf,rfl⟩,h.sub sS⟩
   .have u:=cF u
    have e2:lJ n m P.1 e=m:=by unfold lJ;rw[ai u]
    rw[e2]at hJ
    exact hJ () w ⟨Ms,G,dC _,hM,h⟩
abbrev iV (b c tm:Int) (cs:Sl) (d:ByteArray) (e:Int) (f:Sl) (g:Int) (i:ByteArray) (a:Sl) (j k l m:Int) (n o:Sl) (p:Int) (r:Bool):bK Y0:=(b,c,tm,cs,d,e,f,g,i,a,j,k,l,m,n,o,p,r,())
theorem D4
  (i:Open E S) (hs:S w F (bk b rp Ls Ms hh mh::L))
  (d:oS=eB->∀w L (k:Bool->Pr),S w F L->(∀c,S c F L->k false c)->CL 22 #[.pointer (some ⟨rp,0,none⟩)] aw k w)
  (j:∀c,S c F (bk b rp Ls Ms hh mh::L)->k true c):
  CL 21 #[.pointer (some ⟨b,0,none⟩),ag Y0 (iV 0 sq tm cs oS oN oK q0 q1 fN q2 q3 q4 q5 q6 q7 q8 q9)] aw k w:=by
 obtain⟨A,h,a⟩:=i _ _ _ hs
 have h:ab E w (ae F::bk b rp Ls Ms hh mh::(L++A)):=h
 refine xf ?_
 refine bx h λf w h=>?_
 refine aL ?_
 refine ld h ?_
 refine aR rfl ?_
 refine ld h ?_
 rw[qY]
 refine aL ?_
 refine ax ?_ ?_<;>intro l
 .refine ao λ_=>?_
  refine aR rfl ?_
  exact j w (a F w _ (dC _) (h.sub (M:=ae F::bk b rp Ls Ms hh mh::(L++A)) sS))
 .have e:oS=eB:=cT (nF l)
  refine aq ?_
  refine ld h ?_
  generalize ay Y0 (iV 0 sq tm cs oS oN oK q0 q1 fN q2 q3 q4 q5 q6 q7 q8 q9)=g at*
  have hs:S w F (lc f 81 g::bk b rp Ls Ms hh mh::L):=a F w _ (dC _) (h.sub (M:=ae F::lc f 81 g::bk b rp Ls Ms hh mh::(L++A)) sS)
  refine d e w _ _ hs λw hs=>?_
  refine ao λ_=>?_
  refine aR rfl ?_
  obtain⟨A,h,a⟩:=i _ _ _ hs
  have h:ab E w (ae F::lc f 81 g::bk b rp Ls Ms hh mh::(L++A)):=h
  exact j w (a F w _ (dC _) (h.sub (M:=ae F::bk b rp Ls Ms hh mh::(L++A)) sS))
theorem Iu
  (y:Open E S) (hs:S w F (bk b rp Ls Ms hh mh::L))
  (hv:∀w L (k:Int×Int×Unit->Pr),S w F L->(∀G n e u d a,F.le G->Open E a->Q e u a->(∀w L (k:Bool->Pr),a w G L->(∀d,a d G L->k u d)->CL 22 #[.pointer (some ⟨rp,0,none⟩)] aw k w)->a d G L->k (n,e,()) d)->CL 54 #[.pointer (some ⟨rp,0,none⟩),iv oN] (.aG [.leaf (.int .i64),.leaf (.int .i64)]) k w)
  (m:∀G e u a d,F.le G->Q e u a->a d G (bk b rp Ls Ms (if e=0 then oN else hh) (if e=6/\u=true then oN else mh)::L)->k true d):
  CL 21 #[.pointer (some ⟨b,0,none⟩),ag Y0 (iV 1 sq tm cs oS oN oK q0 q1 fN q2 q3 q4 q5 q6 q7 q8 q9)] aw k w:=by
 obtain⟨A,h,c⟩:=y _ _ _ hs
 have h:ab E w (ae F::bk b rp Ls Ms hh mh::(L++A)):=h
 refine xf ?_
 refine bx h λi w h=>?_
 refine aL ?_
 refine ld h ?_
 refine ar rfl ?_
 refine aR rfl ?_
 refine dr h λw h=>?_
 refine aq ?_
 refine ld h ?_
 refine ld h ?_
 have hs:S w F (lc i 81 (ay Y0 (iV 1 sq tm cs oS oN oK q0 q1 fN q2 q3 q4 q5 q6 q7 q8 q9))::bk b rp Ls Ms hh mh::L):=c F w _ (dC _) (h.sub (M:=ae F::lc i 81 (ay Y0 (iV 1 sq tm cs oS oN oK q0 q1 fN q2 q3 q4 q5 q6 q7 q8 q9))::bk b rp Ls Ms hh mh::(L++A)) sS)
 refine hv w _ _ hs λG n e u w a o j p r hs=>?_
 obtain⟨A,h,c⟩:=j _ _ _ hs
 have h:ab E w (ae G::lc i 81 (ay Y0 (iV 1 sq tm cs oS oN oK q0 q1 fN q2 q3 q4 q5 q6 q7 q8 q9))::bk b rp Ls Ms hh mh::(L++A)):=h
 refine aL ?_
 refine ax ?_ ?_<;>intro v
 .have l:e=0:=ek v
  refine ld h ?_
  refine aq ?_
  refine st h λw h=>?_
  refine ao λ_=>?_
  have:=m G e u a w o p
  rw[ak l,ai (λh=>by have:=h.1;omega)]at this
  exact this (c G w _ (dC _) (h.sub (M:=ae G::bk b rp Ls Ms oN mh::(L++A)) sS))
 have l:e≠0:=ei v
 refine br (λf w=>f=decide (e=6/\u=true)/\a w G (lc i 81 (ay Y0 (iV 1 sq tm cs oS oN oK q0 q1 fN q2 q3 q4 q5 q6 q7 q8 q9))::bk b rp Ls Ms hh mh::L)) (λf w z=>?_) λJ x=>?_
 .obtain⟨rfl,hs⟩:=z
  obtain⟨A,h,c⟩:=j _ _ _ hs
  have h:ab E w (ae G::lc i 81 (ay Y0 (iV 1 sq tm cs oS oN oK q0 q1 fN q2 q3 q4 q5 q6 q7 q8 q9))::bk b rp Ls Ms hh mh::(L++A)):=h
  refine ao λ_=>?_
  have:=m G e u a w o p
  rw[ai l]at this
  refine ax ?_ ?_<;>intro g
  .rw[ak (cT g)]at this
   refine ld h ?_
   refine aq ?_
   refine st h λw h=>?_
   refine ao λ_=>?_
   have:=m G e u a w o p
   rw[ai l,ak (cT g)]at this
   exact this (c G w _ (dC _) (h.sub (M:=ae G::bk b rp Ls Ms hh oN::(L++A)) sS))
  .rw[ai (cF g)]at this
   refine ao λ_=>?_
   exact this (c G w _ (dC _) (h.sub (M:=ae G::bk b rp Ls Ms hh mh::(L++A)) sS))
 .refine ax ?_ ?_<;>intro g
  .have t:e=6:=ek g
   refine aq ?_
   refine ld h ?_
   refine r w _ _ hs λw hs=>?_
   exact x _ _ ⟨by cases u<;>simp[t],hs⟩
  .have t:e≠6:=ei g
   exact x _ _ ⟨by simp[t],hs⟩
theorem Iv {Q:(World->bh->List aK->Prop)->Prop}
  (j:Open E S) (hs:S w F (bk b rp Ls Ms hh mh::L))
  (hv:∀w L (k:Int->Pr),S w F L->(∀G e d a,F.le G->Open E a->Q a->a d G L->k e d)->CL 55 #[.pointer (some ⟨rp,0,none⟩)] ah k w)
  (l:∀G a d,F.le G->Q a->a d G (bk b rp Ls Ms hh mh::L)->k true d):
  CL 21 #[.pointer (some ⟨b,0,none⟩),ag Y0 (iV 2 sq tm cs oS oN oK q0 q1 fN q2 q3 q4 q5 q6 q7 q8 q9)] aw k w:=by
 obtain⟨A,h,c⟩:=j _ _ _ hs
 have h:ab E w (ae F::bk b rp Ls Ms hh mh::(L++A)):=h
 refine xf ?_
 refine bx h λf w h=>?_
 refine aL ?_
 refine ld h ?_
 refine ar rfl ?_
 refine ar rfl ?_
 refine aR rfl ?_
 refine aq ?_
 refine ld h ?_
 generalize ay Y0 (iV 2 sq tm cs oS oN oK q0 q1 fN q2 q3 q4 q5 q6 q7 q8 q9)=g at*
 have hs:S w F (lc f 81 g::bk b rp Ls Ms hh mh::L):=c F w _ (dC _) (h.sub (M:=ae F::lc f 81 g::bk b rp Ls Ms hh mh::(L++A)) sS)
 refine hv w _ _ hs λG e w a m i n hs=>?_
 obtain⟨A,h,c⟩:=i _ _ _ hs
 have h:ab E w (ae G::lc f 81 g::bk b rp Ls Ms hh mh::(L++A)):=h
 exact l G a w m n (c G w _ (dC _) (h.sub (M:=ae G::bk b rp Ls Ms hh mh::(L++A)) sS))
theorem Iw
  (g:Open E S) (d:Open E S') (hs:S w F (bk b rp Ls Ms hh mh::L))
  (hv:∀w L (k:Unit->Pr),S w F L->(∀c,S' c F L->k () c)->CL 57 #[.pointer (some ⟨rp,0,none⟩),iv oN] (.aG []) k w)
  (i:∀c,S' c F (bk b rp Ls Ms hh mh::L)->k true c):
  CL 21 #[.pointer (some ⟨b,0,none⟩),ag Y0 (iV 4 sq tm cs oS oN oK q0 q1 fN q2 q3 q4 q5 q6 q7 q8 q9)] aw k w:=by
 obtain⟨A,h,a⟩:=g _ _ _ hs
 have h:ab E w (ae F::bk b rp Ls Ms hh mh::(L++A)):=h
 refine xf ?_
 refine bx h λe w h=>?_
 refine aL ?_
 refine ld h ?_
 refine ar rfl ?_
 refine ar rfl ?_
 refine ar rfl ?_
 refine aL ?_
 refine ar rfl ?_
 refine ar rfl ?_
 refine ao λ_=>?_
 refine ar rfl ?_
 refine aR rfl ?_
 refine dr h λw h=>?_
 refine aq ?_
 refine ld h ?_
 refine ld h ?_
 generalize ay Y0 (iV 4 sq tm cs oS oN oK q0 q1 fN q2 q3 q4 q5 q6 q7 q8 q9)=f at*
 have hs:S w F (lc e 81 f::bk b rp Ls Ms hh mh::L):=a F w _ (dC _) (h.sub (M:=ae F::lc e 81 f::bk b rp Ls Ms hh mh::(L++A)) sS)
 refine hv w _ _ hs λw hs=>?_
 obtain⟨A,h,a⟩:=d _ _ _ hs
 have h:ab E w (ae F::lc e 81 f::bk b rp Ls Ms hh mh::(L++A)):=h
 refine ao λ_=>?_
 exact i w (a F w _ (dC _) (h.sub (M:=ae F::bk b rp Ls Ms hh mh::(L++A)) sS))
theorem Ix
  (e:Open E S) (hs:S w F (bk b rp Ls Ms hh mh::L)) (a:kd≠0/\kd≠1/\kd≠2/\kd≠3/\kd≠4/\kd≠5/\kd≠6)
  (f:∀d,S d F (bk b rp Ls Ms hh mh::L)->k true d):
  CL 21 #[.pointer (some ⟨b,0,none⟩),ag Y0 (iV kd sq tm cs oS oN oK q0 q1 fN q2 q3 q4 q5 q6 q7 q8 q9)] aw k w:=by
 obtain⟨A,h,c⟩:=e _ _ _ hs
 have h:ab E w (ae F::bk b rp Ls Ms hh mh::(L++A)):=h
 obtain⟨g,i,j,l,m,n,o⟩:=a
 refine xf ?_
 refine bx h λp w h=>?_
 refine aL ?_
 refine ld h ?_
 refine ar (by simpa using g) ?_
 refine ar (by simpa using i) ?_
 refine ar (by simpa using j) ?_
 refine aL ?_
 refine ar (by simpa using l) ?_
 refine ar (by simpa using o) ?_
 refine ao λ_=>?_
 refine ar (by simpa using n) ?_
 refine ar (by simpa using m) ?_
 refine ao λ_=>?_
 exact f w (c F w _ (dC _) (h.sub (M:=ae F::bk b rp Ls Ms hh mh::(L++A)) sS))
theorem xp
  (h:ab E w L) (a:kd=3\/kd=5\/kd=6)
  (hv:∀d g,ab E g (lc d 81 (ay Y0 (iV kd sq tm cs oS oN oK q0 q1 fN q2 q3 q4 q5 q6 q7 q8 q9))::L)->CL 56 #[.pointer (some ⟨b,0,none⟩),ag Y0 (iV kd sq tm cs oS oN oK q0 q1 fN q2 q3 q4 q5 q6 q7 q8 q9)] aw k g):
  CL 21 #[.pointer (some ⟨b,0,none⟩),ag Y0 (iV kd sq tm cs oS oN oK q0 q1 fN q2 q3 q4 q5 q6 q7 q8 q9)] aw k w:=by
 refine xf ?_
 refine bx h λd w h=>?_
 refine aL ?_
 refine ld h ?_
 refine ar (by rcases a with e|e|e<;>rw[e]<;>rfl) ?_
 refine ar (by rcases a with e|e|e<;>rw[e]<;>rfl) ?_
 refine ar (by rcases a with e|e|e<;>rw[e]<;>rfl) ?_
 refine br (λb w=>b=true/\ab E w (lc d 81 (ay Y0 (iV kd sq tm cs oS oN oK q0 q1 fN q2 q3 q4 q5 q6 q7 q8 q9))::L)) (λb w i=>?_) λJ f=>?_
 .obtain⟨rfl,h⟩:=i
  refine ao λ_=>?_
  refine aR rfl ?_
  refine bN h ?_
  exact hv d w h
 .refine ax ?_ ?_<;>intro c
  .exact f _ _ ⟨c,h⟩
  .have l:kd≠3:=ei c
   refine ax ?_ ?_<;>intro c
   .exact f _ _ ⟨c,h⟩
   .have m:kd≠6:=ei c
    have j:kd=5:=om
    exact f _ _ ⟨by rw[j];rfl,h⟩
def TW (n m:Nat) (h a:Int) (B1:b9):Prop:=((B1.seq=(n:Int)+1/\m=1)\/B1.seq=n)/\((B1.aM=a/\a>h)\/B1.aM=h)
theorem again {Q:b9->Prop}
  (wQ:kd=3\/kd=5\/kd=6) (O:FL F [.bool] oK (o4 dh)) (CX:dh.length<=9223372036854775807) (hL:gO F Ls n) (hM:gO F Ms m) (hn:n<=100000)
  (hQ:∀o,Q o->TW n m hh mh o/\dN o.aJ) (hT:T<=800000) (hN:N+1000<1000000)
  (hS:Open E S) (Hn:∀w L (k:Bool->Pr),S w F L->(∀D,S D F L->k true D)->CL 22 #[.pointer (some ⟨rp,0,none⟩)] aw k w)
  (P:(kd≠5/\zh E w F rp d T Q (bk b rp Ls Ms hh mh::L))\/(kd=5/\∃o,Q o/\iD E w F rp d fo T N o (bk b rp Ls Ms hh mh::L))\/(kd=5/\S w F (bk b rp Ls Ms hh mh::L)))
  (Af:∀o D,kd=6->Q o->iD E D F rp d true T 0 o (bk b rp Ls Ms hh mh::L)->k true D)
  (YR:kd=5->∀D,S D F (bk b rp Ls Ms hh mh::L)->k true D)
  (YQ:∀o D,kd=5->Q o->iD E D F rp d false (T+3) (N+1000) o (bk b rp Ls Ms hh mh::L)->k true D)
  (Ag:∀o G V g W D,F.le G->Q o->(kd=3->V=false)->gO G g W->(W:Int)=o.seq->de E D G rp d V (T+3) false o (bk b rp g au o.aM 0::L)->k true D):
  CL 56 #[.pointer (some ⟨b,0,none⟩),ag Y0 (iV kd sq tm cs oS oN oK q0 q1 fN q2 q3 q4 q5 q6 q7 q8 q9)] aw k w:=by
 have XR:Open E λw F L=>(kd≠5/\zh E w F rp d T Q L)\/(kd=5/\∃o,Q o/\iD E w F rp d fo T N o L)\/(kd=5/\S w F L):=by
  intro w F L P
  rcases P with⟨H,u,X,hu,hX,h⟩|⟨H,o,hB,h⟩|⟨H,h⟩
  .refine⟨[bE rp u d 120,aj d X],?_,λG D L' _ h=>.inl ⟨H,u,X,hu,hX,?_⟩⟩
   .exact h.sub (.take .head (QV _ _ L))
   .have h:ab E D ((ae G::L')++[bE rp u d 120,aj d X]):=h
    have h:=uB _ _ h
    exact h.sub sS
  .obtain⟨A,h,C⟩:=lh _ _ _ h
   exact⟨A,h,λG D L' hG h=>.inr (.inl ⟨H,o,hB,C G D L' hG h⟩)⟩
  .obtain⟨A,h,C⟩:=hS _ _ _ h
   exact⟨A,h,λG D L' hG h=>.inr (.inr ⟨H,C G D L' hG h⟩)⟩
 obtain⟨A,h,f⟩:=XR _ _ _ P
 have h:ab E w (ae F::bk b rp Ls Ms hh mh::(L++A)):=h
 refine af9 ?_
 refine bx h λp w h=>?_
 generalize Z:ay Y0 (iV kd sq tm cs oS oN oK q0 q1 fN q2 q3 q4 q5 q6 q7 q8 q9)=r at*
 have P:=f F w (lc p 81 r::bk b rp Ls Ms hh mh::L) (dC _) (h.sub (M:=ae F::lc p 81 r::bk b rp Ls Ms hh mh::(L++A)) sS)
 clear h f
 refine br (λs w=>s=false/\((∃Gy N' o,Q o/\((kd≠5/\Gy=true/\N'=0)\/(kd=5/\N'=N))/\iD E w F rp d Gy T N' o (lc p 81 r::bk b rp Ls Ms hh mh::L))\/(kd=5/\S w F (lc p 81 r::bk b rp Ls Ms hh mh::L)))) (λs w YH=>?_) λJ hJ=>?_
 rotate_left
 .rcases P with⟨H,u,X,hu,hX,h⟩|⟨H,o,hB,h⟩|⟨H,h⟩
  .subst Z
   refine dr h λw h=>?_
   refine ld (t:=3) (x:=kd) (b:=p) (off:=0) h ?_
   refine aR (by simpa using H) ?_
   refine aq ?_
   refine ld (t:=33) (x:=some ⟨rp,0,none⟩) (b:=b) (off:=0) h ?_
   refine ld (t:=79) (x:=oK) (b:=p) (off:=6) h ?_
   refine ld (t:=79) (x:=oK) (b:=p) (off:=6) h ?_
   refine aq ?_
   refine ld (t:=33) (x:=some ⟨rp,0,none⟩) (b:=b) (off:=0) h ?_
   refine Tr (h.bF (A1:=bE rp u d 120) (A2:=aj d X) pK pK) λw h=>?_
   refine lk (t:=3) (b:=p) (off:=0) h ?_
   refine lk (t:=33) (b:=b) (off:=0) h ?_
   refine lk (t:=79) (b:=p) (off:=6) h ?_
   refine lk (t:=79) (b:=p) (off:=6) h ?_
   have hlen:oK.len=dh.length:=by rw[O.2];unfold o4;rw[bW]
   have wK:=O.cap
   have aj1:(o4 dh).length=dh.length:=by unfold o4;rw[bW]
   have Y5:(if(X.c.length:Int)<(oK.len:Int)then(X.c.length:Int)else(oK.len:Int))=((min X.c.length dh.length:Nat):Int):=by
    rw[hlen];split<;>omega
   refine AV (T:=79) (z:=1) (s:=oK) (i:=min X.c.length dh.length) om ?_ (hn:=Y5)
   have N4:=O.sub (l:=0) (h:=min X.c.length dh.length) (m:=oK.cap) om om om
   have e:((o4 dh).drop 0).take (min X.c.length dh.length-0)=o4 (dh.take (min X.c.length dh.length)):=by
    unfold o4
    rw[mi,pz,Ez]
   rw[e]at N4
   have h:ab E w (ae F::bE rp u d 120::aj d X::(lc p 81 (ay Y0 (iV kd sq tm cs oS oN oK q0 q1 fN q2 q3 q4 q5 q6 q7 q8 q9))::bk b rp Ls Ms hh mh::L)):=h.sub sS
   refine Tq h hu hX N4 (by rw[cn];omega) λo w hB h=>?_
   obtain⟨A,h,f⟩:=lh _ _ _ h
   have h:ab E w (ae F::lc p 81 (ay Y0 (iV kd sq tm cs oS oN oK q0 q1 fN q2 q3 q4 q5 q6 q7 q8 q9))::bk b rp Ls Ms hh mh::(L++A)):=h
   refine lk (t:=3) (b:=p) (off:=0) h ?_
   refine lk (t:=79) (b:=p) (off:=6) h ?_
   refine lk (t:=79) (b:=p) (off:=6) h ?_
   exact hJ _ _ ⟨rfl,.inl ⟨true,0,o,hB,.inl ⟨H,rfl,rfl⟩,f F w _ (dC _) h⟩⟩
  .obtain⟨A,h,f⟩:=lh _ _ _ h
   have h:ab E w (ae F::lc p 81 r::bk b rp Ls Ms hh mh::(L++A)):=h
   subst Z
   refine dr h λw h=>?_
   refine ld (t:=3) (x:=kd) (b:=p) (off:=0) h ?_
   refine ar (by simpa using H) ?_
   exact hJ _ _ ⟨rfl,.inl ⟨fo,N,o,hB,.inr ⟨H,rfl⟩,f F w _ (dC _) h⟩⟩
  .obtain⟨A,h,f⟩:=hS _ _ _ h
   have h:ab E w (ae F::lc p 81 r::bk b rp Ls Ms hh mh::(L++A)):=h
   subst Z
   refine dr h λw h=>?_
   refine ld (t:=3) (x:=kd) (b:=p) (off:=0) h ?_
   refine ar (by simpa using H) ?_
   exact hJ _ _ ⟨rfl,.inr ⟨H,f F w _ (dC _) h⟩⟩
 obtain⟨rfl,P⟩:=YH
 refine ao λ_=>?_
 refine ar rfl ?_
 rcases P with⟨Gy,N',o,hB,I,h⟩|⟨H,h⟩
 rotate_left
 ·
  obtain⟨A,h,f⟩:=hS _ _ _ h
  have h:ab E w (ae F::lc p 81 r::bk b rp Ls Ms hh mh::(L++A)):=h
  subst Z
  refine ld (t:=3) (x:=kd) (b:=p) (off:=0) h ?_
  refine aL ?_
  refine ar (by rw[H];rfl) ?_
  refine aq ?_
  refine ld (t:=33) (x:=some ⟨rp,0,none⟩) (b:=b) (off:=0) h ?_
  generalize ay Y0 (iV kd sq tm cs oS oN oK q0 q1 fN q2 q3 q4 q5 q6 q7 q8 q9)=r at*
  refine Hn w _ _ (f F w (lc p 81 r::bk b rp Ls Ms hh mh::L) (dC _) h) λw h=>?_
  refine ao λ_=>?_
  refine aR rfl ?_
  obtain⟨A,h,f⟩:=hS _ _ _ h
  have h:ab E w (ae F::lc p 81 r::bk b rp Ls Ms hh mh::(L++A)):=h
  exact YR H w (f F w _ (dC _) (h.sub (M:=ae F::bk b rp Ls Ms hh mh::(L++A)) sS))
 obtain⟨Np,hZ⟩:=hQ o hB
 obtain⟨A,h,f⟩:=lh _ _ _ h
 have h:ab E w (ae F::lc p 81 r::bk b rp Ls Ms hh mh::(L++A)):=h
 subst Z
 refine ld (t:=3) (x:=kd) (b:=p) (off:=0) h ?_
 refine aL ?_
 by_cases h6:kd=6
 .refine aR (by rw[h6];rfl) ?_
  refine ao λ_=>?_
  refine aR rfl ?_
  rcases I with⟨H,e1,e2⟩|⟨H,_⟩
  .rw[e1,e2]at f
   exact Af o w h6 hB (f F w _ (dC _) (h.sub (M:=ae F::bk b rp Ls Ms hh mh::(L++A)) sS))
  .omega
 refine ar (by simpa using h6) ?_
 refine aq ?_
 refine ld (t:=33) (x:=some ⟨rp,0,none⟩) (b:=b) (off:=0) h ?_
 generalize ay Y0 (iV kd sq tm cs oS oN oK q0 q1 fN q2 q3 q4 q5 q6 q7 q8 q9)=r at*
 refine D6 (f F w (lc p 81 r::bk b rp Ls Ms hh mh::L) (dC _) h) λw h=>?_
 refine ao λ_=>?_
 refine ar rfl ?_
 obtain⟨A,h,f⟩:=lh _ _ _ h
 have h:ab E w (ae F::lc p 81 r::bk b rp Ls Ms hh mh::(L++A)):=h
 refine aq ?_
 refine ld (t:=33) (x:=some ⟨rp,0,none⟩) (b:=b) (off:=0) h ?_
 have h:=f F w (lc p 81 r::bk b rp Ls Ms hh mh::L) (dC _) h
 have X5:N'+1000<1000000:=by
  rcases I with⟨_,_,e⟩|⟨_,e⟩<;>omega
 refine ahn h hT X5 hZ (λG V w hG CT h=>?_) (λNy w h=>?_)
 rotate_left
 ·
  refine aR rfl ?_
  refine aL ?_
  refine aR rfl ?_
  obtain⟨A,h,f⟩:=lh _ _ _ h
  have h:ab E w (ae F::lc p 81 r::bk b rp Ls Ms hh mh::(L++A)):=h
  refine aq ?_
  refine ld (t:=33) (x:=some ⟨rp,0,none⟩) (b:=b) (off:=0) h ?_
  refine D6 (f F w (lc p 81 r::bk b rp Ls Ms hh mh::L) (dC _) h) λw h=>?_
  refine ao λ_=>?_
  obtain⟨A,h,f⟩:=lh _ _ _ h
  have h:ab E w (ae F::lc p 81 r::bk b rp Ls Ms hh mh::(L++A)):=h
  rcases I with⟨_,e,_⟩|⟨H,e2⟩
  .rw[e]at Ny;cases Ny
  .rw[e2]at f
   exact YQ o w H hB (f F w _ (dC _) (h.sub (M:=ae F::bk b rp Ls Ms hh mh::(L++A)) sS))
 have Nx:∀(v:bh) (g:Sl) (W:Nat) w,G.le v->gO v g W->(W:Int)=o.seq->de E w v rp d V (T+3) false o (bk b rp g au o.aM 0::L)->k true w:=λv g W w U h1 h2 h=>
  Ag o v V g W w (hG.trans U) hB (λh3=>CT (by
   rcases I with⟨_,e,_⟩|⟨H,_⟩
   .exact e
   .omega)) h1 h2 h
 have hL:=hL.up hG
 have hM:=hM.up hG
 have wR:=hL.len
 have GX:=hM.len
 have yr:w6 ((Ls.len:Int)+1)=(n:Int)+1:=by
  rw[wR,bV (n:=100001) om om];omega
 have hUp:∀{w:World} {L:List aK} {K:Int->Pr},de E w G rp d V (T+3) false o L->(∀D,de E D G rp d V (T+3) false o L->K o.seq D)->CL 108 #[.pointer (some ⟨rp,0,none⟩)] ah K w:=λh hK=>HH h hZ hK
 refine ar rfl ?_
 refine br (λ_ w=>∃(v:bh) (g:Sl) (W:Nat),G.le v/\gO v g W/\(W:Int)=o.seq/\de E w v rp d V (T+3) false o (lc p 81 r::bk b rp g Ms hh mh::L)) (λ_ w hx=>?_) λJ hJ=>?_
 rotate_left
 .refine br (λs w=>s=decide (o.seq=(n:Int)+1/\m=1)/\de E w G rp d V (T+3) false o (lc p 81 r::bk b rp Ls Ms hh mh::L)) (λs w hx=>?_) λJ8 Nl=>?_
  rotate_left
  .obtain⟨A,h,f⟩:=eF _ _ _ h
   have h:ab E w (ae G::lc p 81 r::bk b rp Ls Ms hh mh::(L++A)):=h
   refine dr h λw h=>?_
   refine aq ?_
   refine ld (t:=33) (x:=some ⟨rp,0,none⟩) (b:=b) (off:=0) h ?_
   refine aq ?_
   refine ld (t:=34) (x:=Ls) (b:=b) (off:=1) h ?_
   refine HH (f G w (lc p 81 r::bk b rp Ls Ms hh mh::L) (dC _) h) hZ λw h=>?_
   obtain⟨A,h,f⟩:=eF _ _ _ h
   have h:ab E w (ae G::lc p 81 r::bk b rp Ls Ms hh mh::(L++A)):=h
   refine lk (t:=34) (b:=b) (off:=1) h ?_
   rw[yr]
   refine ax (λC=>?_) (λC=>?_)
   .have C:=ek C
    refine aq ?_
    refine ld (t:=34) (x:=Ms) (b:=b) (off:=2) h ?_
    refine Nl _ _ ⟨?_,f G w (lc p 81 r::bk b rp Ls Ms hh mh::L) (dC _) h⟩
    rw[GX,gb,qq,bX]
    exact⟨λh=>⟨C,om⟩,λh=>by rw[h.2];rfl⟩
   .have C:=ei C
    exact Nl _ _ ⟨by symm;rw[ml];exact λh=>C h.1,f G w (lc p 81 r::bk b rp Ls Ms hh mh::L) (dC _) h⟩
  obtain⟨rfl,h⟩:=hx
  refine ao λ_=>?_
  refine ax (λC=>?_) (λC=>?_)
  .have C:=cT C
   obtain⟨xs,wU,vm⟩:=hL
   obtain⟨ys,hys,hyl⟩:=hM
   obtain⟨A,h,f⟩:=eF _ _ _ h
   have h:ab E w (ae G::lc p 81 r::bk b rp Ls Ms hh mh::(L++A)):=h
   have R:∀(Y:Sl) (y:bK av) w,ab E w (OS 34 av Y (xs++[y])::ae G::lc p 81 r::bk b rp Ls Ms hh mh::(L++A))->
     (NC (some ⟨b,0,none⟩) λt91=>ST 34 (Addr.add t91 1) (sv Y)<|J ()) w:=λY y w h=>by
    obtain⟨v,U,h,hf⟩:=dT (T:=34) (ls:=av) (s:=Y) (F:=G) h
    refine aq ?_
    refine st (t:=34) (b:=b) (off:=1) h λw h=>?_
    refine hJ () w ⟨v,Y,n+1,U,⟨_,hf,by rw[aU,vm];rfl⟩,om,f v w (lc p 81 r::bk b rp Y Ms hh mh::L) U (h.sub sS)⟩
   refine dr h λw h=>?_
   refine aq ?_
   refine ld (t:=34) (x:=Ls) (b:=b) (off:=1) h ?_
   refine aq ?_
   refine ld (t:=34) (x:=Ms) (b:=b) (off:=2) h ?_
   refine ix (T:=34) (ls:=av) (i:=0) hys om λa ha=>?_
   have NG:∀{w:World} {L:List aK} {K:Pr},ab E w (ae G::L)->K w->oz prog (vN (Instr.loadAt 68 (.pointer (some a)))) (ag av (ys[0]'om)) K w:=λh hK=>by
    have:=tj (t:=68) (a:=a) (j:=0) (cs:=ay av (ys[0]'om)) (vs:=ay av (ys[0]'om)) h hK ha .head (by rfl) kK (by rw[du];kernel_rfl)
    rwa[show Addr.add a 0=a from rfl]at this
   refine fJ (t:=68) (ls:=av) h ?_ (ha:=ha)
   generalize ys[0]'om=y at*
   refine⟨?_,?_⟩
   .refine B8 h λs0 w h=>?_
    refine lk (t:=34) (b:=b) (off:=1) h ?_
    refine lk (t:=34) (b:=b) (off:=2) h ?_
    refine NG (h.pick (A:=ae G) pK) ?_
    refine⟨?_,?_⟩
    .refine ap (T:=34) (ls:=av) (s:=s0) (xs:=[]) (ys:=xs) h (λw h=>wU.reads (h.pick (A:=ae G) pK)) (by simp;omega) (λs1 w h=>?_) .head
     rw[mQ]at h
     refine lk (t:=34) (b:=b) (off:=2) h ?_
     refine NG (h.pick (A:=ae G) pK) ?_
     refine bJ (ls:=av) (y:=y) h λs2 w _ h=>?_
     refine lk (t:=34) (b:=b) (off:=2) h ?_
     refine eA (T:=34) (ls:=av) (xs:=xs) (y:=y) (h.bF (A1:=OS 34 av s2 [y]) (A2:=OS 34 av s1 xs) pK pK) om (λY w h=>?_)
     refine lk (t:=34) (b:=b) (off:=2) h ?_
     exact R Y y w (h.sub sS)
    .refine bJ (ls:=av) (y:=y) h λs2 w _ h=>?_
     refine lk (t:=34) (b:=b) (off:=1) h ?_
     refine lk (t:=34) (b:=b) (off:=2) h ?_
     refine ap (T:=34) (ls:=av) (s:=s0) (xs:=[]) (ys:=xs) h (λw h=>wU.reads (h.pick (A:=ae G) pK)) (by simp;omega) (λs1 w h=>?_) pK
     rw[mQ]at h
     refine lk (t:=34) (b:=b) (off:=2) h ?_
     refine eA (T:=34) (ls:=av) (xs:=xs) (y:=y) (h.bF (A1:=OS 34 av s2 [y]) (A2:=OS 34 av s1 xs) pK pK) om (λY w h=>?_)
     refine lk (t:=34) (b:=b) (off:=2) h ?_
     exact R Y y w (h.sub sS)
   .refine bJ (ls:=av) (y:=y) h λs2 w _ h=>?_
    refine lk (t:=34) (b:=b) (off:=1) h ?_
    refine lk (t:=34) (b:=b) (off:=2) h ?_
    refine B8 h λs0 w h=>?_
    refine lk (t:=34) (b:=b) (off:=1) h ?_
    refine lk (t:=34) (b:=b) (off:=2) h ?_
    refine ap (T:=34) (ls:=av) (s:=s0) (xs:=[]) (ys:=xs) h (λw h=>wU.reads (h.pick (A:=ae G) pK)) (by simp;omega) (λs1 w h=>?_) .head
    rw[mQ]at h
    refine lk (t:=34) (b:=b) (off:=2) h ?_
    refine eA (T:=34) (ls:=av) (xs:=xs) (y:=y) (h.bF (A1:=OS 34 av s2 [y]) (A2:=OS 34 av s1 xs) pK pK) om (λY w h=>?_)
    refine lk h ?_
    exact R Y y w (h.sub sS)
  .have C:=cF C
   refine hJ () w ⟨G,Ls,n,dC _,hL,?_,h⟩
   rcases Np.1 with h1|h1
   .exact absurd h1 C
   .exact h1.symm
 obtain⟨v,g,W,U,pT,GY,h⟩:=hx
 have YW:=pT.len
 refine ao λ_=>?_
 refine br (λ_ w=>de E w v rp d V (T+3) false o (lc p 81 r::bk b rp g Ms o.aM mh::L)) (λ_ w h=>?_) λJ5 Nj=>?_
 .refine ao λ_=>?_
  obtain⟨A,h,f⟩:=eF _ _ _ h
  have h:ab E w (ae v::lc p 81 r::bk b rp g Ms o.aM mh::(L++A)):=h
  refine aq ?_
  refine st h λw h=>?_
  refine aq ?_
  refine st h λw h=>?_
  have h:ab E w (ae v::lc p 81 r::bk b rp g au o.aM 0::(L++A)):=h.sub sS
  have YD:∀w,de E w v rp d V (T+3) false o (lc p 81 r::bk b rp g au o.aM 0::L)->k true w:=λw h=>by
   obtain⟨A,h,f⟩:=eF _ _ _ h
   have h:ab E w (ae v::lc p 81 r::bk b rp g au o.aM 0::(L++A)):=h
   exact Nx v g W w U pT GY (f v w (bk b rp g au o.aM 0::L) (dC _) (h.sub (M:=ae v::bk b rp g au o.aM 0::(L++A)) sS))
  refine aL ?_
  refine dr h λw h=>?_
  refine aq ?_
  refine ld h ?_
  refine aq ?_
  refine ld h ?_
  refine HH (f v w (lc p 81 r::bk b rp g au o.aM 0::L) (dC _) h) hZ λw h=>?_
  obtain⟨A,h,f⟩:=eF _ _ _ h
  have h:ab E w (ae v::lc p 81 r::bk b rp g au o.aM 0::(L++A)):=h
  refine lk h ?_
  refine aR (by rw[YW,GY];simp) ?_
  refine aq ?_
  refine ld h ?_
  refine aq ?_
  refine ld h ?_
  refine NP (f v w (lc p 81 r::bk b rp g au o.aM 0::L) (dC _) h) hZ λw h=>?_
  obtain⟨A,h,f⟩:=eF _ _ _ h
  have h:ab E w (ae v::lc p 81 r::bk b rp g au o.aM 0::(L++A)):=h
  refine lk h ?_
  refine lk h ?_
  refine ao λ_=>?_
  have e:(o.aM==o.aM)=true:=sI
  simp only[e]
  exact YD w (f v w (lc p 81 r::bk b rp g au o.aM 0::L) (dC _) h)
 .refine br (λs w=>s=decide (o.aM=mh/\mh>hh)/\de E w v rp d V (T+3) false o (lc p 81 r::bk b rp g Ms hh mh::L)) (λs w hx=>?_) λJ7 Nk=>?_
  .obtain⟨rfl,h⟩:=hx
   obtain⟨A,h,f⟩:=eF _ _ _ h
   have h:ab E w (ae v::lc p 81 r::bk b rp g Ms hh mh::(L++A)):=h
   refine ao λ_=>?_
   refine ax ?_ ?_<;>intro C
   .have C:=cT C
    refine aq ?_
    refine ld h ?_
    refine aq ?_
    refine st h λw h=>?_
    have:=Nj () w
    rw[C.1]at this
    exact this (f v w (lc p 81 r::bk b rp g Ms mh mh::L) (dC _) (h.sub sS))
   .have C:=cF C
    have e:o.aM=hh:=by
     rcases Np.2 with h1|h1
     .exact absurd h1 C
     .exact h1
    have:=Nj () w
    rw[e]at this
    exact this (f v w (lc p 81 r::bk b rp g Ms hh mh::L) (dC _) h)
  .obtain⟨A,h,f⟩:=eF _ _ _ h
   have h:ab E w (ae v::lc p 81 r::bk b rp g Ms hh mh::(L++A)):=h
   refine dr h λw h=>?_
   refine aq ?_
   refine ld h ?_
   refine aq ?_
   refine ld h ?_
   refine NP (f v w (lc p 81 r::bk b rp g Ms hh mh::L) (dC _) h) hZ λw h=>?_
   obtain⟨A,h,f⟩:=eF _ _ _ h
   have h:ab E w (ae v::lc p 81 r::bk b rp g Ms hh mh::(L++A)):=h
   refine lk h ?_
   refine ax ?_ ?_<;>intro C
   .have C:=ek C
    refine aq ?_
    refine ld h ?_
    refine aq ?_
    refine ld h ?_
    refine Nk _ _ ⟨?_,f v w (lc p 81 r::bk b rp g Ms hh mh::L) (dC _) h⟩
    rw[gb,bX,bX]
    exact⟨λh=>⟨C,h⟩,λh=>h.2⟩
   .have C:=ei C
    exact Nk _ _ ⟨by symm;rw[ml];exact λh=>C h.1,f v w (lc p 81 r::bk b rp g Ms hh mh::L) (dC _) h⟩
end Go.Proofs.YtelhccfmfnaegaaGreat
