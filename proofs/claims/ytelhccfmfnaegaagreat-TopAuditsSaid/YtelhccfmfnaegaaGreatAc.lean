/- Lemmas for topAudits_holds. No conditions. -/
import Derived.Test.YtelhccfmfnaegaaGreatAb
set_option linter.unusedSectionVars false
set_option linter.unusedVariables false
set_option linter.unusedSimpArgs false
set_option linter.defProp false
set_option maxRecDepth 10000
namespace Go.Proofs.YtelhccfmfnaegaaGreat
open Go Go.Sh Tryz
attribute [local irreducible] aT jC gk dV kO dg hex iT jk ae
abbrev Vn:=Int×Int×Pc
def jB (F:bh) (r:bK bg) (v:Vn):Prop:=r.1=v.1/\r.2.1=v.2.1/\iu F (r.2.2.1,r.2.2.2.1,r.2.2.2.2.1,()) v.2.2
theorem gw:uM jB:=λF G r a b ⟨c,d,e⟩=>⟨c,d,eK _ _ _ _ b e⟩
abbrev jv (F:bh) (s:Sl) (vs:List Vn):Prop:=NL F bg jB s vs
structure kY (vs:List Vn):Prop where
 len:vs.length<=268435456
 row:∀v∈vs,dk v.2.2.2.2
abbrev iL (v:Vn):Sp:=(v.1,v.2.1,())
abbrev yP (v:Vn):Sp:=(v.2.2.1,v.2.2.2.1,())
def kc (v:Vn):Bool:=v.2.1==1099511627776
def pP (v u:Vn):Bool:=pr (iL v) (iL u)&&pr (yP v) (yP u)
def oO (v u:Vn):Bool:=if v.1=u.1 then decide (v.2.2.1<u.2.2.1)else decide (v.1<u.1)
def qU (pre:List Vn) (v:Vn):Bool:=cA (iL v)&&eG 0 [v.2.2]&&(match pre.getLast? with|some u=>!oO v u|none=>true)&&!(pre.any λu=>pP v u)
def ry:List Vn->List Vn->Bool
 |_,[]=>true
 |pre,v::l=>qU pre v&&ry (pre++[v]) l
def gL (l:List Vn):Bool:=ry [] l
variable {E w:World} {L:List aK} {F:bh} {r:bK bg} {k:Bool->Pr} {q:bK bg} {v u:Vn} {s:Sl} {vs:List Vn} {α:Type} {f:Value} {so:Vn->Bool} {b:Nat} {t:Int} {x:α} {g:Sl} {gs:List Pc} {c0:Nat} {rs:List (bK bg)} {l:List Vn} {p:List Pc} {tm m a n:Int} {i:Nat} {o:Sl} {ps:List Pc} {d:Sp}
theorem LM (h:ab E w L) (b:∀a,ab E a L->k ((r.2.1:Int)==1099511627776) a):CL 82 #[ag bg r] aw k w:=by
 refine agz ?_
 repeat (first|refine gA ?_|(refine gB ?_;clear h;intro w h)|(refine gC ?_;clear h;intro b0 w h))
 exact b _ dD
theorem TA (h:ab E w L) (hr:jB F r v) (b:jB F q u) (c:∀a,ab E a L->k (pP v u) a):CL 121 #[ag bg r,ag bg q] aw k w:=by
 obtain⟨e,f,g,i,_⟩:=hr
 obtain⟨j,l,m,n,_⟩:=b
 refine acB ?_
 repeat' (first|refine gA ?_|(refine gB ?_;clear h;intro w h)|(refine gC ?_;clear h;intro b0 w h)|(refine Kz h ?_;clear h;intro w h)|refine aL ?_|refine ax (λd=>?_) (λd=>?_))
 all_goals refine fin (c _ dD) ?_
 all_goals simp_all[pP]
theorem Kl (h:ab E w L) (hr:jB F r v) (d:jB F q u) (a:∀c,ab E c L->k (oO v u) c):CL 120 #[ag bg r,ag bg q] aw k w:=by
 obtain⟨e,j,f,l,_⟩:=hr
 obtain⟨g,m,i,n,_⟩:=d
 refine acA ?_
 unfold oO at a
 rw[<-e,<-g,<-f,<-i]at a
 repeat' (first|refine gA ?_|(refine gB ?_;clear h;intro w h)|(refine gC ?_;clear h;intro b0 w h)|refine aL ?_|refine ax (λb=>?_) (λb=>?_))
 .rw[ak (ek b)]at a;exact a _ dD
 .rw[ai (ei b)]at a;exact a _ dD
theorem VI {r q:bK av} {p u:Pc} (h:ab E w (ae F::L)) (hr:iu F r p) (e:iu F q u) (f:dk p.2.2) (g:∀G c,F.le G->ab E c (ae G::L)->k (decide (p=u)) c):CL 83 #[ag av r,ag av q] aw k w:=by
 refine agA ?_
 repeat (first|refine gA ?_|(refine gB ?_;clear h;intro w h)|(refine gC ?_;clear h;intro b0 w h))
 refine bJ (ls:=av) (y:=r) h λi w _ h=>?_
 repeat (first|refine gA ?_|(refine gB ?_;clear h;intro w h)|(refine gC ?_;clear h;intro b0 w h))
 refine bJ (ls:=av) (y:=q) h λj w _ h=>?_
 obtain⟨l,b,h,m⟩:=dT (T:=45) (ls:=av) (s:=i) (F:=F) h
 obtain⟨n,a,h,o⟩:=dT (T:=45) (ls:=av) (s:=j) (F:=l) h
 refine Kn (ic:=[p]) (bJ:=[u]) h ⟨_,m.up a,.one (eK _ _ _ _ (b.trans a) hr)⟩ ⟨_,o,.one (eK _ _ _ _ (b.trans a) e)⟩ ⟨xx rfl,λx d=>by simp at d;subst d;exact f⟩ λw h=>?_
 refine fin (g n _ (b.trans a) (h.sub sS)) ?_
 simp
theorem xW (h:ab E w (ae F::L)) (hs:jv F s vs) (hv:kY vs) (S:∀G w',F.le G->ab E w' (ae G::L)->k (gL vs) w'):CL 78 #[sv s] aw k w:=by
 refine agu ?_
 have hn:=hv.len
 refine cy (cf:=λs=>s) vs.length (by rw[hs.len]) (λi _ w=>gL vs=ry (vs.take i) (vs.drop i)/\∃G,F.le G/\ab E w (ae G::L)) rfl ⟨rfl,F,.refl _,h⟩ ?_ ?_
 .rintro next _ w i M rfl ⟨I,G,K,h⟩ o
  rw[iB M,ry,<-cR M]at I
  have p:=hs.up gw K
  refine fx p M λa r _ hr=>?_
  refine fJ h ?_
  refine al h λN w h=>?_
  refine bU h λw h=>?_
  obtain⟨t,v,A⟩:=hr
  refine br (λ(c:Bool) w=>c=!(cA (iL vs[i])&&eG 0 [vs[i].2.2]&&(match(vs.take i).getLast? with|some u=>!oO vs[i] u|none=>true))/\∃d,G.le d/\ab E w (ae d::lc N 172 (ay bg r)::L)) (λc w h=>?_) λJ P=>?_
  .obtain⟨rfl,d,b,h⟩:=h
   refine ao λ_=>?_
   refine ax (λf=>?_) (λf=>?_)
   .refine fin (S d _ (K.trans b) (h.sub sS)) ?_
    have f:=nT f
    rw[I,qU,f];rfl
   have f:=nF f
   have O:=p.up gw b
   have wK:=O.cap
   refine AV (i:=i) (z:=5) om ?_
   have n:=O.sub (l:=0) (h:=i) (m:=s.cap) (jt _) om om
   simp only[mi,pz]at n
   refine cy (cf:=λs=>s) i (by have e:(gJ s 0 i s.cap 5).len=i-0:=rfl;rw[e];omega) (λj _ w=>((vs.take i).take j).any (λu=>pP vs[i] u)=false/\ab E w (ae d::lc N 172 (ay bg r)::L)) rfl ⟨rfl,h⟩ ?_ ?_
   .rintro U _ w j hj rfl ⟨Q,h⟩ g
    have C:j<(vs.take i).length:=by rw[cn];omega
    refine fx n C λa q _ V=>?_
    repeat (first|refine gA ?_|(refine gB ?_;clear h;intro w h)|(refine gC ?_;clear h;intro b0 w h))
    refine TA (F:=d) h ⟨t,v,eK _ _ _ _ b A⟩ V λw h=>?_
    refine ax (λD=>?_) (λD=>?_)
    .refine fin (S d _ (K.trans b) (h.sub sS)) ?_
     have:(vs.take i).any (λu=>pP vs[i] u)=true:=List.any_eq_true.2 ⟨_,cp C,D⟩
     rw[I,qU,this,Bl,vS,rD]
    .refine g _ _ (bV hj om) ⟨?_,h.sub sS⟩
     rw[cR C,Jf,Q];simpa using D
   .rintro _ w ⟨Q,h⟩
    rw[iP (by rw[cn];omega)]at Q
    refine o _ _ (bV M om) ⟨?_,d,K.trans b,h.sub sS⟩
    rw[I,qU,f,Q];rfl
  .have H:∀{X:Pr} {w:World} {d:bh},cA (iL vs[i])=true->eG 0 [vs[i].2.2]=true->G.le d->ab E w (ae d::lc N 172 (ay bg r)::L)->
       (∀w,ab E w (ae d::lc N 172 (ay bg r)::L)->(af (decide ((i:Int)>0)) (LD 172 ⟨N,0,none⟩ (ya bg) λW=>IX 109 s (w6 ((i:Int)-1)) λY=>LD 172 Y (ya bg) λZ=>CL 120 #[ag bg W,ag bg Z] aw λt35=>J t35) (J false)) w->X w)->X w:=by
      intro X w d R e2 b h hX
      refine hX w h ?_
      refine ax (λf=>?_) (λf=>?_)
      .have Hd:0<i:=by have:=cT f;omega
       refine bN h ?_
       refine fx (i:=i-1) (p.up gw b) om (λa q _ V=>?_) (by rw[bQ om];omega)
       refine fJ h ?_
       refine Kl (F:=d) h ⟨t,v,eK _ _ _ _ b A⟩ V λw h=>?_
       refine P _ _ ⟨?_,d,b,h⟩
       have:(vs.take i).getLast?=some vs[i-1]:=by
        rw[Bq,cn,rC om,pC om,fA]
       rw[R,e2,this];simp
      .have:i=0:=by have:=cF f;omega
       subst this
       refine P _ _ ⟨?_,d,b,h⟩
       rw[R,e2];simp
   refine dr h λw h=>?_
   repeat (first|refine gA ?_|(refine gB ?_;clear h;intro w h)|(refine gC ?_;clear h;intro b0 w h)|(refine qM h ?_;clear h;intro w h))
   have R:cA (r.1,r.2.1,())=cA (iL vs[i]):=by rw[t,v]
   rw[R]
   refine ax (λf=>?_) (λf=>?_)
   .refine aR rfl ?_
    refine P _ _ ⟨?_,G,.refl _,h.sub sS⟩
    rw[nT f];rfl
   repeat (first|refine gA ?_|(refine gB ?_;clear h;intro w h)|(refine gC ?_;clear h;intro b0 w h))
   refine bJ (ls:=av) (y:=(r.2.2.1,r.2.2.2.1,r.2.2.2.2.1,())) h λt21 w _ h=>?_
   obtain⟨d,b,h,Nf⟩:=dT (T:=45) (ls:=av) (s:=t21) (F:=G) h
   refine wx (ps:=[vs[i].2.2]) h ⟨_,Nf,.one (eK _ _ _ _ b A)⟩ ⟨xx rfl,λx hx=>by simp at hx;subst hx;exact hv.row _ (cp M)⟩ λw h=>?_
   refine ax (λD=>?_) (λD=>?_)
   .refine P _ _ ⟨?_,d,b,h.sub sS⟩
    rw[nT D,vS];rfl
   .exact H (nF f) (nF D) b (h.sub sS) λw h hX=>hX
 .rintro _ w ⟨I,G,K,h⟩
  refine fin (S G _ K h) ?_
  rw[I,qv];rfl
def wc (E:World) (A:aK) (F:bh) (f:Value) (c:Vn->Bool):Prop:=∀(G:bh) (w:World) (r:bK bg) (v:Vn) (k:Bool->Pr) (M:List aK),F.le G->jB G r v->dk v.2.2.2.2->ab E w (ae G::A::M)->
 (∀a b,G.le a->ab E b (ae a::A::M)->k (c v) b)->oD prog (eW f #[ag bg r]) aw k w
def nk (f:α->Bool) (x:α) (a:List α):List α:=let n:=a.length-(a.reverse.takeWhile f).length;a.take n++x::a.drop n
def l7 (a:List Pc) (p:Pc):List Pc:=nk (λq=>decide (q.1>p.1)) p a
def cK (vs:List Vn) (t:Int):List Pc:=if gL vs then((vs.filter λv=>ey (iL v) t).map (·.2.2)).foldl l7 []else[]
def tJ (t:Int) (v:Vn):Int:=let m:=if v.1>t then v.1 else t;if kc v then m else if v.2.1>m then v.2.1 else m
def qe (vs:List Vn):Int:=if gL vs then vs.foldl tJ 0 else 0
variable {A:aK}
theorem LN {k:Sl->Pr} (h:ab E w (ae F::A::L)) (hs:jv F s vs) (hv:kY vs) (u:wc E A F f so) (N:∀G D c H,F.le G->cw (jB G) c (vs.filter so)->ab E H (OS 109 bg D c::ae G::A::L)->k D H):CL 84 #[sv s,f] aE k w:=by
 refine agB ?_
 have R:=hv.len
 refine cy (S:=Sl×Int) (cf:=λs=>s.2) vs.length (by rw[hs.len]) (λi s w=>∃G c,F.le G/\cw (jB G) c ((vs.take i).filter so)/\ab E w (ae G::A::OS 109 bg s.1 c::L)) rfl ⟨F,[],.refl _,.nil,(fm (T:=109) (ls:=bg) h).sub sS⟩ ?_ ?_
 .rintro next ⟨o,_⟩ w i t rfl ⟨G,c,l,b,h⟩ d
  have O:=b.len
  have v:=gV so (vs.take i)
  rw[cn]at v
  have j:=hv.row _ (cp t)
  have e:(vs.take (i+1)).filter so=(vs.take i).filter so++if so vs[i]then[vs[i]]else[]:=by rw[cR t,nC,jr];rfl
  rw[e]at d
  refine br (λo w=>∃G c,F.le G/\cw (jB G) c ((vs.take i).filter so++if so vs[i]then[vs[i]]else[])/\ab E w (ae G::A::OS 109 bg o c::L)) (λo w h=>?_) λJ I=>?_
  .exact .go λ_=>d _ _ (bV t om) h
  refine fx (hs.up gw l) t λa r _ m=>?_
  refine fJ h ?_
  refine al h λU w h=>?_
  refine bU h λw h=>?_
  refine bN h ?_
  refine u G _ r vs[i] _ _ l m j (h.bF pK pK) λK w g h=>?_
  refine ax (λz=>?_) (λz=>?_)
  .refine ld (x:=r.2.2.2.2.1) h ?_
   have C:=gw _ _ _ _ g m
   refine ta h C.2.2.2.2 (by have:=j.len;omega) λM w h=>?_
   refine st h λw h=>?_
   refine fK (x:=(r.1,r.2.1,r.2.2.1,r.2.2.2.1,M,())) h ?_
   refine bJ (ls:=bg) (y:=(r.1,r.2.1,r.2.2.1,r.2.2.2.1,M,())) h λV w _ h=>?_
   refine eA (xs:=c) h om λW w h=>?_
   obtain⟨P,n,h,Q⟩:=dT (T:=28) (ls:=aP) (F:=K) h
   refine I _ _ ⟨P,_,(l.trans g).trans n,?_,h.sub sS⟩
   rw[ak z]
   exact(b.imp λr p=>gw _ _ r p (g.trans n)).app (.one ⟨m.1,m.2.1,m.2.2.1,m.2.2.2.1,Q⟩)
  .refine I _ _ ⟨K,c,l.trans g,?_,h.sub sS⟩
   rw[ai (by rw[z];decide),iO]
   exact b.imp λr p=>gw _ _ r p g
 .rintro⟨o,_⟩ w ⟨G,c,l,b,h⟩
  rw[cB]at b
  exact N G _ _ _ l b (h.sub sS)
theorem F0 {k:Sl->Pr} (h:ab E w (ae F::A::L)) (hs:jv F s vs) (hv:kY vs) (a:wc E A F f so) (g:∀G b d,F.le G->jv G b (vs.filter so)->ab E d (ae G::A::L)->k b d):CL 84 #[sv s,f] aE k w:=
 LN h hs hv a λG b i w j c h=>by
  obtain⟨l,e,h,m⟩:=dT (T:=109) (ls:=bg) (F:=G) h
  exact g l _ _ (j.trans e) ⟨i,m,c.imp λr p=>gw _ _ r p e⟩ h
theorem ahe:wc E (lc b 3 [iv t]) F (.func (.func 117) #[] #[pa ⟨b,0,none⟩]) λv=>ey (iL v) t:=by
 intro G w r v k M d a _ h c
 refine lH ?_
 refine acw ?_
 repeat (first|refine gA ?_|(refine gB ?_;clear h;intro w h)|(refine gC ?_;clear h;intro b0 w h)|(refine Tx h ?_;clear h;intro w h))
 refine fin (c G _ (.refl _) (h.sub sS)) ?_
 rw[a.1,a.2.1]
theorem ahg:wc E (lc b 3 [iv t]) F (.func (.func 234) #[] #[pa ⟨b,0,none⟩]) λv=>decide (v.2.1>t):=by
 intro G w r v k M d a _ h c
 refine lH ?_
 refine ael ?_
 repeat (first|refine gA ?_|(refine gB ?_;clear h;intro w h)|(refine gC ?_;clear h;intro b0 w h))
 refine fin (c G _ (.refl _) (h.sub sS)) ?_
 rw[a.2.1]
theorem ahf:wc E jk F (.func (.func 233) #[] #[]) λ_=>true:=by
 intro G w r v k M b c _ h a
 refine lH ?_
 refine aek ?_
 repeat (first|refine gA ?_|(refine gB ?_;clear h;intro w h)|(refine gC ?_;clear h;intro b0 w h))
 exact a G _ (.refl _) (h.sub sS)
theorem Od (f:α->Bool) (x:α) (a:List α) (j:Nat) (o:j<=a.length) (d:∀i,j<=i->(c:i<a.length)->f a[i]=true) (g:∀p:0<j,f a[j-1]=false):nk f x a=a.take j++x::a.drop j:=by
 have e:(a.reverse.takeWhile f)=(a.drop j).reverse:=by
  have k:a.reverse=(a.drop j).reverse++(a.take j).reverse:=by rw[<-Eu,oq]
  rw[k,List.takeWhile_append_of_pos (λq m=>?_)]
  .have:((a.take j).reverse.takeWhile f)=[]:=by
     rcases vM j with b|b
     .subst b;simp
     .have n:a.take j=a.take (j-1)++[a[j-1]]:=by
        have:=cR (l:=a) (i:=j-1) om
        rw[show j-1+1=j by omega]at this;exact this
      rw[n,Eu,RF,RG,xC,ai (by rw[g b];decide)]
   rw[this,iO]
  .obtain⟨i,c,rfl⟩:=List.mem_iff_getElem.1 (List.mem_reverse.1 m)
   rw[yW]
   rw[fq]at c
   exact d _ om om
 unfold nk
 simp only[e,Ev,fq]
 rw[show a.length-(a.length-j)=j by omega]
theorem Oe (f:α->Bool) (x:α) (a:List α):(nk f x a).length=a.length+1:=by unfold nk;simp;omega
theorem aan {f:α->Bool} {q:α} {out:List α} (h:q∈nk f x out):q=x\/q∈out:=by
 unfold nk at h
 rcases List.mem_append.1 h with h|h
 .exact .inr (mj h)
 .rcases List.mem_cons.1 h with h|h
  .exact .inl h
  .exact .inr (Jc h)
theorem aaq (a:List Pc) (p:Pc):(l7 a p).length=a.length+1:=Oe _ _ _
theorem aar {out:List Pc} {p q:Pc} (h:q∈l7 out p):q=p\/q∈out:=aan h
theorem Df:∀(l:List Pc) (a:List Pc),(l.foldl l7 a).length=a.length+l.length/\∀q∈l.foldl l7 a,q∈a\/q∈l
 |[],a=>⟨rfl,λq h=>.inl h⟩
 |p::l,a=>by
  obtain⟨b,c⟩:=Df l (l7 a p)
  refine⟨by rw[kV,b,aaq,db];omega,λq d=>?_⟩
  rcases c q d with h|h
  .rcases aar h with h|h
   .exact .inr (h▸eo)
   .exact .inl h
  .exact .inr (dH _ h)
theorem wh (hv:kY vs) (t:Int):fs (cK vs t):=by
 have e:=hv.len
 unfold cK
 split
 .obtain⟨c,d⟩:=Df ((vs.filter λv=>ey (iL v) t).map (·.2.2)) []
  refine⟨?_,λq a=>?_⟩
  .rw[c,bW]
   have:=gV (λv=>ey (iL v) t) vs
   simp;omega
  .rcases d q a with h|h
   .cases h
   .obtain⟨v,b,rfl⟩:=List.mem_map.1 h
    exact hv.row v (List.mem_filter.1 b).1
 .exact⟨jt _,λq a=>by cases a⟩
theorem Cp {k:Sl->Pr} (h:ab E w (ae F::L)) (hs:jv F s vs) (hv:kY vs) (hk:∀G s' w',F.le G->eV G s' (cK vs t)->ab E w' (ae G::L)->k s' w'):CL 75 #[sv s,iv t] aE k w:=by
 refine agr ?_
 have hn:=hv.len
 refine bx h λt3 w h=>?_
 refine xW (h.pick pK) hs hv λF1 w N h=>?_
 refine ax (λu=>?_) (λu=>?_)
 .refine hk F1 _ _ N ?_ (h.sub sS)
  unfold cK;rw[nT u];exact .nil
 have Q:cK vs t=((vs.filter λv=>ey (iL v) t).map (·.2.2)).foldl l7 []:=by unfold cK;rw[nF u];rfl
 rw[Q]at hk
 clear Q u
 refine F0 (h.bF pK pK) (hs.up gw N) hv (ahe (b:=t3) (t:=t)) λF2 t14 w XU R h=>?_
 have CS:=gV (λv=>ey (iL v) t) vs
 have hrw:∀v∈vs.filter (λv=>ey (iL v) t),dk v.2.2.2.2:=λv Ao=>hv.row v (List.mem_filter.1 Ao).1
 generalize vs.filter (λv=>ey (iL v) t)=D at*
 refine cy (S:=Sl×Int) (cf:=λs=>s.2) D.length (by rw[R.len]) (λi s w=>∃G,F2.le G/\eV G s.1 (((D.take i).map (·.2.2)).foldl l7 [])/\ab E w (ae G::L)) rfl ⟨F2,.refl _,.nil,h.sub sS⟩ ?_ ?_
 .rintro next ⟨o,_⟩ w i hi rfl ⟨G,hG,U,h⟩ f
  have e:((D.take (i+1)).map (·.2.2)).foldl l7 []=l7 (((D.take i).map (·.2.2)).foldl l7 []) D[i].2.2:=by rw[cR hi,fe,qy];rfl
  rw[e]at f
  have oY:=(Df ((D.take i).map (·.2.2)) []).1
  rw[bW,cn,mO]at oY
  generalize ((D.take i).map (·.2.2)).foldl l7 []=d at*
  have O:=U.len
  refine fx (R.up gw hG) hi λa r _ hr=>?_
  refine fJ h ?_
  refine al h λt7 w h=>?_
  refine bU h λw h=>?_
  obtain⟨sa,sc,V⟩:=hr
  have Zl:r.2.2.1=D[i].2.2.1:=V.1
  obtain⟨rs,n,C⟩:=U
  have jl:=C.len
  generalize D[i].2.2=p at*
  refine uD (λ(x:Int) w=>∃j:Nat,j<=d.length/\x=(j:Int)/\(∀i,j<=i->(hi:i<d.length)->d[i].1>p.1)/\ab E w (lc t7 172 (ay bg r)::ae G::L)) (λx _=>x.toNat) ⟨d.length,cV _,by show(o.len:Int)=_;simp only at O;omega,λi h1 h2=>by omega,h⟩ ?_
  rintro w8 _ w ⟨j,hj,rfl,W,h⟩ g
  refine ao λ_=>?_
  refine br (λ(c:Bool) w=>(c=true↔∃hp:0<j,d[j-1].1>p.1)/\ab E w (lc t7 172 (ay bg r)::ae G::L)) (λc w h=>?_) λJ hJ=>?_
  .obtain⟨u,h⟩:=h
   refine ao λ_=>?_
   refine ax (λX=>?_) (λX=>?_)
   .obtain⟨hp,Y⟩:=u.1 X
    refine g _ _ ⟨j-1,om,by rw[bQ om];omega,λi h1 h2=>?_,h⟩ (by rw[bQ om];omega)
    rcases kj i j with h3|h3
    .have:i=j-1:=om
     subst this;exact Y
    .exact W i h3 h2
   have I:l7 d p=d.take j++p::d.drop j:=Od _ p d j hj (λi h1 h2=>eu (W i h1 h2)) λhp=>eM λY=>by rw[u.2 ⟨hp,Y⟩]at X;cases X
   rw[I]at f
   clear I u X g
   simp only at n O
   have wK:=n.cap
   refine dr h λw h=>?_
   refine Ii (i:=j) (z:=3) (by show j<=o.cap;omega) ?_
   repeat (first|refine gA ?_|(refine gB ?_;clear h;intro w h)|(refine gC ?_;clear h;intro b0 w h))
   refine AU (i:=j) (z:=3) (by show j<=o.len;omega) ?_
   have K:=n.sub (l:=0) (h:=j) (m:=j) (jt _) om (cV _)
   have M:=n.sub (l:=j) (h:=o.len) (m:=o.cap) om (by rw[O,jl];exact cV _) om
   simp only[mi,pz]at K
   rw[iP (by rw[fq];omega)]at M
   refine bJ (ls:=av) (y:=(r.2.2.1,r.2.2.2.1,r.2.2.2.2.1,())) h λt46 w _ h=>?_
   refine ap (T:=45) (ls:=av) (xs:=[(r.2.2.1,r.2.2.2.1,r.2.2.2.2.1,())]) (ys:=rs.drop j) h (λw h=>M.reads (h.pick pK)) (by simp;omega) λt50 w h=>?_
   obtain⟨G2,H,h,GD⟩:=dT (T:=45) (ls:=av) (s:=t50) (F:=G) h
   refine JR (T:=45) (ls:=av) h (K.up H) GD (by simp;omega) rfl sI λt51 w h=>?_
   obtain⟨G3,P,h,GF⟩:=dT (T:=45) (ls:=av) (s:=t51) (F:=G2) h
   refine f _ _ (bV hi om) ⟨G3,(hG.trans H).trans P,⟨_,GF,?_⟩,h.sub sS⟩
   have hu:=C.imp λr p=>eK _ _ r p (H.trans P)
   exact(hu.take j).app (.cons (eK _ _ _ _ (H.trans P) V) (hu.drop j))
  .refine dr h λw h=>?_
   refine ax (λu=>?_) (λu=>?_)
   .have Z:0<j:=by have:=cT u;omega
    have dU:j-1<rs.length:=om
    simp only at n
    refine ix (i:=j-1) n dU (λa _=>?_) (by rw[bQ om];omega)
    have Y:=C.get (j-1) dU om
    repeat (first|refine gA ?_|(refine gB ?_;clear h;intro w h)|(refine gC ?_;clear h;intro b0 w h))
    refine hJ _ _ ⟨?_,h⟩
    rw[vR,Y.1,Zl]
    exact⟨λh=>⟨Z,h⟩,λ⟨_,h⟩=>h⟩
   .refine hJ _ _ ⟨⟨λh=>(by cases h),λ⟨h,_⟩=>absurd (by omega:(j:Int)>0) (cF u)⟩,h⟩
 .rintro⟨o,_⟩ w ⟨G,hG,U,h⟩
  rw[cB]at U
  exact hk G _ _ ((N.trans XU).trans hG) U h
def tF (a:List Vn) (v:Vn):List Vn:=nk (oO v) v a
def AM (vs:List Vn):List Vn:=vs.foldl tF []
def kF (a:List Pc) (v:Vn):Bool:=a.any λg=>kc v&&decide (v.2.2=g)
theorem Oh:∀(l a:List Vn),(l.foldl tF a).length=a.length+l.length
 |[],a=>rfl
 |v::l,a=>by rw[kV,Oh,db];unfold tF;rw[Oe];omega
theorem Cq {k:Int->Pr} (h:ab E w (ae F::L)) (hs:jv F s vs) (hv:kY vs) (g:∀G t,F.le G->ab E t (ae G::L)->k (qe vs) t):CL 79 #[sv s] ah k w:=by
 refine agv ?_
 have v:=hv.len
 refine xW h hs hv λG w j h=>?_
 refine ax (λb=>?_) (λb=>?_)
 .refine fin (g G _ j h) ?_
  unfold qe;rw[nT b];rfl
 have e:qe vs=vs.foldl tJ 0:=by unfold qe;rw[nF b];rfl
 rw[e]at g
 have hs:=hs.up gw j
 refine cy (S:=Int×Int) (cf:=λs=>s.2) vs.length (by rw[hs.len]) (λi s w=>s.1=(vs.take i).foldl tJ 0/\ab E w (ae G::L)) rfl ⟨rfl,h⟩ ?_ ?_
 .rintro next ⟨m,_⟩ w i l rfl ⟨f,h⟩ c
  simp only at f
  refine br (λm w=>m=(vs.take (i+1)).foldl tJ 0/\ab E w (ae G::L)) (λm w h=>?_) λJ d=>?_
  .exact .go λ_=>c _ _ (bV l om) h
  rw[cR l,qy,<-f]at d
  refine fx hs l λa r _ u=>?_
  obtain⟨n,o,_⟩:=u
  repeat (first|refine gA ?_|(refine gB ?_;clear h;intro w h)|(refine gC ?_;clear h;intro b0 w h)|(refine LM h ?_;clear h;intro w h))
  have p:[vs[i]].foldl tJ m=if(r.2.1:Int)==1099511627776 then(if(r.1:Int)>m then(r.1:Int)else m)else(if(r.2.1:Int)>(if(r.1:Int)>m then(r.1:Int)else m)then(r.2.1:Int)else(if(r.1:Int)>m then(r.1:Int)else m)):=by
   simp only[kV,Bs,tJ,kc,<-n,<-o]
  rw[p]at d
  refine ax (λb=>?_) (λb=>?_)
  .rw[nT b,ai dE]at d
   repeat (first|refine gA ?_|(refine gB ?_;clear h;intro w h)|(refine gC ?_;clear h;intro b0 w h))
   exact d _ _ ⟨rfl,h.sub sS⟩
  .rw[nF b,ak rfl]at d
   exact d _ _ ⟨rfl,h.sub sS⟩
 .rintro⟨m,_⟩ w ⟨f,h⟩
  rw[cB]at f
  exact fin (g G _ j h) f
theorem Qs (C:eV F g gs) (y:fs gs):wc E (lc b 45 [sv g]) F (.func (.func 81) #[] #[pa ⟨b,0,none⟩]) (kF gs):=by
 intro G w r v k M K N n h D
 refine lH ?_
 have R:=y.len
 refine agy ?_
 refine bx h λH w h=>?_
 refine ld (x:=g) h ?_
 refine cy (cf:=λs=>s) gs.length (by rw[C.len]) (λi _ w=>∃f,G.le f/\(gs.take i).any (λg=>kc v&&decide (v.2.2=g))=false/\ab E w (ae f::lc b 45 [sv g]::lc H 172 (ay bg r)::M)) rfl ⟨G,.refl _,rfl,h.sub sS⟩ ?_ ?_
 .rintro next _ w i o rfl ⟨f,d,t,h⟩ j
  refine fx (C.up eK (K.trans d)) o λa q _ O=>?_
  refine fJ h ?_
  refine al h λS w h=>?_
  repeat (first|refine gA ?_|(refine gB ?_;clear h;intro w h)|(refine gC ?_;clear h;intro b0 w h)|(refine LM h ?_;clear h;intro w h))
  obtain⟨P,z,A⟩:=N
  have Q:((r.2.1:Int)==1099511627776)=kc v:=by unfold kc;rw[z]
  rw[Q]
  refine br (λ(c:Bool) w=>c=(kc v&&decide (v.2.2=gs[i]))/\∃l,f.le l/\ab E w (ae l::lc b 45 [sv g]::lc H 172 (ay bg r)::M)) (λc w h=>?_) λJ I=>?_
  .obtain⟨rfl,l,e,h⟩:=h
   refine ao λ_=>?_
   refine ax (λm=>?_) (λm=>?_)
   .refine fin (D l _ (d.trans e) (h.sub sS)) ?_
    exact(List.any_eq_true.2 ⟨_,cp o,m⟩).symm
   .refine j _ _ (bV o om) ⟨l,d.trans e,?_,h⟩
    rw[cR o,Jf,t];simpa using m
  .refine ax (λm=>?_) (λm=>?_)
   .repeat (first|refine gA ?_|(refine gB ?_;clear h;intro w h)|(refine gC ?_;clear h;intro b0 w h))
    refine VI (p:=v.2.2) (u:=gs[i]) (h.pick pK) (eK _ _ _ _ d A) O n λl w e h=>?_
    exact I _ _ ⟨by rw[m,hI],l,e,h.sub sS⟩
   .exact I _ _ ⟨by rw[m,rD],f,.refl _,h.sub sS⟩
 .rintro _ w ⟨f,d,t,h⟩
  rw[cB]at t
  exact fin (D f _ d (h.sub sS)) t.symm
theorem ahh {c1:Nat} (m:eV F g gs) (d:fs gs):
  wc E (dg (lc c0 174 [.func (.func 81) #[] #[pa ⟨b,0,none⟩]]) (dg (lc c1 3 [iv t]) (lc b 45 [sv g]))) F (.func (.func 85) #[] #[pa ⟨c0,0,none⟩,pa ⟨c1,0,none⟩]) (λv=>!kF gs v||decide (v.1<t)):=by
 intro G w r v k M n j c h o
 refine lH ?_
 have h:=h.swap.yH
 refine agC ?_
 refine bx h λp w h=>?_
 refine ld (l:=.raw) (x:=.func (.func 81) #[] #[pa ⟨b,0,none⟩]) h ?_
 refine bN h ?_
 refine Qs m d G _ r v _ _ n j c (h.bF pK pK) λe w f h=>?_
 have a:∀{w:World} {x:Bool},x=(!kF gs v||decide (v.1<t))->ab E w (ae e::lc b 45 [sv g]::lc p 172 (ay bg r)::lc c0 174 [.func (.func 81) #[] #[pa ⟨b,0,none⟩]]::lc c1 3 [iv t]::M)->k x w:=by
  rintro w _ rfl h
  refine o e _ f ?_
  have h:ab E w (lc c0 174 [.func (.func 81) #[] #[pa ⟨b,0,none⟩]]::lc c1 3 [iv t]::lc b 45 [sv g]::ae e::M):=h.sub sS
  exact h.yG.swap
 refine aL ?_
 refine ax (λi=>?_) (λi=>?_)
 .refine ao λ_=>?_
  exact a (by rw[i,Bool.true_or]) (h.sub sS)
 .refine ld (x:=r.1) h ?_
  refine ld (x:=t) h ?_
  refine ao λ_=>?_
  exact a (by rw[i,Jg,j.1]) (h.sub sS)
theorem VJ {k:Unit->Pr} (h:ab E w (OS 109 bg s rs::L)) (hs:cw (jB F) rs vs) (hn:vs.length<=268435456) (hk:∀A U,cw (jB F) A (AM vs)->ab E U (OS 109 bg s A::L)->k () U):CL 86 #[sv s] (.aG []) k w:=by
 refine agD ?_
 have hl:=hs.len
 have M:=fR h dE
 refine cy (cf:=λs=>s) vs.length (by rw[M,hl]) (λi _ w=>∃rs,cw (jB F) rs ((vs.take i).foldl tF []++vs.drop i)/\ab E w (OS 109 bg s rs::L)) rfl ⟨rs,hs,h⟩ ?_ ?_
 .rintro next _ w i N rfl ⟨rs,d,h⟩ f
  have e:(vs.take (i+1)).foldl tF []=tF ((vs.take i).foldl tF []) vs[i]:=by rw[cR N,qy];rfl
  rw[e]at f
  have C:=Oh (vs.take i) []
  rw[cn,mO]at C
  have u:=iB N
  have tw:(vs.drop (i+1)).length=vs.length-(i+1):=fq
  rw[u]at d
  generalize (vs.take i).foldl tF []=a at*
  generalize vs.drop (i+1)=b at*
  generalize vs[i]=v at*
  refine uD (λ(x:Int) w=>∃(j:Nat) (rs:List (bK bg)),j<=a.length/\x=(j:Int)/\(∀m,j<=m->(hm:m<a.length)->oO v a[m]=true)/\cw (jB F) rs (a.take j++v::a.drop j++b)/\ab E w (OS 109 bg s rs::L)) (λx _=>x.toNat)
   ⟨a.length,rs,cV _,om,λm O V=>by omega,by simpa using d,h⟩ ?_
  clear h d rs
  rintro P _ w ⟨j,rs,W,rfl,D,d,h⟩ n
  have Q:=d.len
  simp only[aU,cn,db,fq]at Q
  refine ao λ_=>?_
  have hv:(a.take j++v::a.drop j++b)[j]?=some v:=by
   rw[cP,gZ (by rw[cn];omega),cn]
   simp[rC W]
  have hu:∀g:0<j,(a.take j++v::a.drop j++b)[j-1]?=some a[j-1]:=λg=>by
   rw[cP,g0 (by rw[cn];omega),pC om,fA om]
  have G:jB F rs[j] v:=by
   have:=d.get j om (by simp;omega)
   have o:=fA (l:=a.take j++v::a.drop j++b) (i:=j) (by simp;omega)
   rw[hv]at o
   rw[<-ja o]at this;exact this
  have H:∀g:0<j,jB F rs[j-1] a[j-1]:=λg=>by
   have:=d.get (j-1) om (by simp;omega)
   have o:=fA (l:=a.take j++v::a.drop j++b) (i:=j-1) (by simp;omega)
   rw[hu g]at o
   rw[<-ja o]at this;exact this
  refine br (λ(c:Bool) w=>(c=true↔∃g:0<j,oO v a[j-1]=true)/\ab E w (OS 109 bg s rs::L)) (λc w h=>?_) λJ X=>?_
  .obtain⟨z,h⟩:=h
   refine ao λ_=>?_
   refine ax (λu=>?_) (λu=>?_)
   .obtain⟨g,hq⟩:=z.1 u
    have w1:w6 ((j:Int)-1)=((j-1:Nat):Int):=by rw[bQ om];omega
    rw[w1]
    refine dr h λw h=>?_
    refine eO (T:=109) (ls:=bg) (xs:=rs) (i:=j-1) h pK om λa1 r=>?_
    refine oV (T:=109) (xs:=rs) h pK r om ?_
    refine eO (T:=109) (ls:=bg) (xs:=rs) (i:=j) h pK om λa2 t=>?_
    refine oV (T:=109) (xs:=rs) h pK t om ?_
    refine eO (T:=109) (ls:=bg) (xs:=rs) (i:=j) h pK om λa3 R=>?_
    refine Iq (T:=109) (xs:=rs) h pK R om λw h=>?_
    refine eO (T:=109) (ls:=bg) (i:=j-1) h pK (by simp;omega) λa4 S=>?_
    refine Iq (T:=109) h pK S (by simp;omega) λw h=>?_
    refine n _ _ ⟨j-1,_,om,rfl,λm O V=>?_,?_,h⟩ om
    .rcases kj m j with Y|Y
     .have:m=j-1:=om
      subst this;exact hq
     .exact D m Y V
    .have e1:a.take (j-1)++v::a.drop (j-1)++b=a.take (j-1)++v::a[j-1]::(a.drop j++b):=by
         rw[iB (i:=j-1) om,show j-1+1=j by omega];simp
     have o:a.take j++v::a.drop j++b=a.take (j-1)++a[j-1]::v::(a.drop j++b):=by
      have:=cR (l:=a) (i:=j-1) om
      rw[show j-1+1=j by omega]at this
      rw[this,cP,cP];rfl
     rw[o]at d
     rw[e1]
     have e3:(rs.set j rs[j-1]).set (j-1) rs[j]=rs.take (j-1)++rs[j]::rs[j-1]::rs.drop (j+1):=by
      have O:rs=rs.take (j-1)++rs[j-1]::rs[j]::rs.drop (j+1):=by
       rw[<-iB (i:=j) om]
       have:=iB (l:=rs) (i:=j-1) om
       rw[show j-1+1=j by omega]at this
       rw[<-this,oq]
      have I:(rs.take (j-1)).length=j-1:=by rw[cn];omega
      generalize rs[j]=x at*
      generalize rs[j-1]=y at*
      generalize rs.take (j-1)=p at*
      generalize rs.drop (j+1)=q at*
      rw[O,vL _ _ om,I,show j-(j-1)=1 by omega,vL _ _ om,I,xz];rfl
     rw[e3]
     have Z:=d.take (j-1)
     have t2:=d.drop (j+1)
     rw[Ew (by rw[cn];omega)]at Z
     have t3:(a.take (j-1)++a[j-1]::v::(a.drop j++b)).drop (j+1)=a.drop j++b:=by
      rw[List.drop_append,cn,rC om,show j+1-(j-1)=2 by omega]
      simp;omega
     rw[t3]at t2
     exact Z.app (.cons G (.cons (H g) t2))
   .have K:tF a v=a.take j++v::a.drop j:=Od _ v a j W D λg=>by
      cases hx:oO v a[j-1]with
      |false=>rfl
      |true=>rw[z.2 ⟨g,hx⟩]at u;cases u
    rw[K]at f
    exact f _ _ (bV N om) ⟨rs,d,h⟩
  .refine dr h λw h=>?_
   refine ax (λz=>?_) (λz=>?_)
   .have g:0<j:=by have:=cT z;omega
    refine eO (T:=109) (ls:=bg) (xs:=rs) (i:=j) h pK om λa1 r=>?_
    refine oV (T:=109) (xs:=rs) h pK r om ?_
    refine eO (T:=109) (ls:=bg) (xs:=rs) (i:=j-1) h pK om (λa2 t=>?_) (by rw[bQ om];omega)
    refine oV (T:=109) (xs:=rs) h pK t om ?_
    refine Kl (F:=F) h G (H g) λw h=>?_
    exact X _ _ ⟨⟨λh=>⟨g,h⟩,λ⟨_,h⟩=>h⟩,h⟩
   .exact X _ _ ⟨⟨λh=>(by cases h),λ⟨g,_⟩=>absurd (by omega:(j:Int)>0) (cF z)⟩,h⟩
 .rintro _ w ⟨rs,d,h⟩
  rw[cB,qv,iO]at d
  exact hk _ _ d h
def oW (l:List Vn) (p:List Pc):List Pc:=if eG 0 (cK l 1099511627775)&&eG 0 p then iZ (cK l 1099511627775) p else[]
def oT (l:List Vn) (p:List Pc):List Pc:=if eG 0 (cK l 1099511627775)&&eG 0 p then iZ p (cK l 1099511627775)else[]
def kE (a:List Pc) (t:Int) (v:Vn):Vn:=if kF a v then(v.1,t,v.2.2)else v
def m6 (l:List Vn) (t:Int) (p:List Pc):Bool:=gL l&&eG 0 p&&!decide (t<qe l)&&!decide (t>=1099511627776)
def n9 (l:List Vn) (t:Int) (p:List Pc):List Vn:=AM ((l.filter λv=>!kF (oW l p) v||decide (v.1<t)).map (kE (oW l p) t)++(oT l p).map λc=>(t,1099511627776,c))
def og (l:List Vn) (t:Int):List Vn:=if gL l then l.filter λv=>decide (v.2.1>t)else l
theorem aiX {a b:List Pc} (h:fs a):fs (iZ a b):=⟨by have:=h.len;unfold iZ;exact qw (gV _ _) this,λp c=>h.row p (List.mem_filter.1 c).1⟩
theorem aiW (a b:List Pc):(iZ a b).length<=a.length:=gV _ _
theorem XF (a:kY l) (p:List Pc):fs (oW l p):=by
 unfold oW
 split
 .exact aiX (wh a _)
 .exact⟨jt _,λ_ h=>by cases h⟩
theorem Wg (l:List Vn) (p:List Pc):(oT l p).length<=p.length:=by
 unfold oT
 split
 .exact aiW _ _
 .exact jt _
theorem JQ {α β:Type} {R:α->β->Prop}:∀{d:List α} {e:List β} {x:β} {f:List β} {i:Nat},cw R d (e++x::f)->e.length=i->
  ∃k:i<d.length,R d[i] x/\∀(S:α->β->Prop) (y:α) (c:β),(∀a b,R a b->S a b)->S y c->cw S (d.set i y) (e++c::f)
 |_,[],x,f,_,.cons h t,rfl=>⟨sI,h,λS y c g j=>.cons j (t.imp g)⟩
 |_,z::e,x,f,_,.cons h t,rfl=>by
  obtain⟨n,l,m⟩:=JQ t rfl
  exact⟨by simp only[db];omega,by simpa using l,λS y c g j=>by
   simp only[db,En,nA]
   exact .cons (g _ _ h) (m S y c g j)⟩
theorem ai5:(gq 174).size=1:=kK
theorem Uh {k:Sl->Pr} (h:ab E w (ae F::L)) (hs:jv F s vs) (hv:kY vs) (i:∀G j l,F.le G->jv G j (og vs t)->ab E l (ae G::L)->k j l):CL 186 #[sv s,iv t] aE k w:=by
 refine adC ?_
 refine bx h λm w h=>?_
 refine xW (h.pick pK) hs hv λG w c h=>?_
 refine ax (λf=>?_) (λf=>?_)
 .refine F0 (A:=jk) h.Gm.swap (hs.up gw c) hv ahf λg n w a d h=>?_
  refine i g _ _ (c.trans a) ?_ (h.sub sS)
  have e:vs.filter (λ_=>true)=vs:=List.filter_eq_self.2 λ_ _=>rfl
  rw[e]at d
  unfold og;rw[nT f];exact d
 .refine F0 (h.bF pK pK) (hs.up gw c) hv (ahg (b:=m) (t:=t)) λg n w a d h=>?_
  refine i g _ _ (c.trans a) ?_ (h.sub sS)
  unfold og;rw[nF f];exact d
theorem wy {t:Sl} {k:Sl×Int×Unit->Pr} (h:ab E w (ae F::L)) (hs:jv F s l) (ht:eV F t p) (R:kY l) (hp:fs p) (CZ:l.length<=100000000) (C5:p.length<=100000000)
  (pU:m6 l tm p=false->∀G w',F.le G->ab E w' (ae G::L)->k (au,1,()) w')
  (I:m6 l tm p=true->∀G s' w',F.le G->jv G s' (n9 l tm p)->ab E w' (ae G::L)->k (s',0,()) w'):CL 39 #[sv s,iv tm,sv t] (.aG [.leaf .slice,.leaf (.int .i64)]) k w:=by
 refine afX ?_
 refine bx h λU w h=>?_
 refine br (λ(c:Bool) w=>c=!m6 l tm p/\∃G,F.le G/\ab E w (ae G::lc U 3 [iv tm]::L)) (λc w h=>?_) λJ V=>?_
 .obtain⟨rfl,F1,e,h⟩:=h
  refine ao λ_=>?_
  refine ax (λn=>?_) (λn=>?_)
  .exact pU (nT n) F1 _ e (h.sub sS)
  replace I:=I (nF n)
  clear pU n
  refine Cp h (hs.up gw e) R λF2 t36 w z XN h=>?_
  have qQ:=wh R 1099511627775
  refine VH h XN (ht.up eK (e.trans z)) qQ hp λF3 g c w Ni hg n h=>?_
  have eg:(if(eG 0 (cK l 1099511627775)&&eG 0 p)=true then iZ (cK l 1099511627775) p else[])=oW l p:=rfl
  have ec:(if(eG 0 (cK l 1099511627775)&&eG 0 p)=true then iZ p (cK l 1099511627775)else[])=oT l p:=rfl
  rw[eg]at hg
  rw[ec]at n
  have N:=XF R p
  have iH:=Wg l p
  unfold n9 at I
  generalize oT l p=cs at*
  generalize oW l p=O at*
  refine al h λC w h=>?_
  refine nu h (λw h=>?_) (dy:=by kernel_rfl)
  refine al h λD w h=>?_
  refine nu h (λw h=>?_) (dy:=ai5)
  have h:ab E w (ae F3::dg (lc D 174 [.func (.func 81) #[] #[pa ⟨C,0,none⟩]]) (dg (lc U 3 [iv tm]) (lc C 45 [sv g]))::L):=by
   have h:ab E w (lc D 174 [.func (.func 81) #[] #[pa ⟨C,0,none⟩]]::lc U 3 [iv tm]::lc C 45 [sv g]::ae F3::L):=h.sub sS
   exact h.yG.swap
  refine LN h (hs.up gw ((e.trans z).trans Ni)) R (ahh hg N) λF4 W d w X b h=>?_
  have CS:=gV (λv=>!kF O v||decide (v.1<tm)) l
  have tz:∀v∈l.filter (λv=>!kF O v||decide (v.1<tm)),dk v.2.2.2.2:=λv hv=>R.row v (List.mem_filter.1 hv).1
  generalize l.filter (λv=>!kF O v||decide (v.1<tm))=H at*
  have h:=(h.pick (A:=dg (lc D 174 [.func (.func 81) #[] #[pa ⟨C,0,none⟩]]) (dg (lc U 3 [iv tm]) (lc C 45 [sv g]))) pK).yH
  have m:=b.len
  have Y:=fR (h.pick (A:=OS 109 bg W d) pK) dE
  refine cy (cf:=λs=>s) H.length (by rw[Y,m]) (λi _ w=>∃G d,F4.le G/\cw (jB G) d ((H.take i).map (kE O tm)++H.drop i)/\ab E w (ae G::OS 109 bg W d::lc D 174 [.func (.func 81) #[] #[pa ⟨C,0,none⟩]]::lc U 3 [iv tm]::lc C 45 [sv g]::L)) rfl ⟨F4,d,.refl _,b,h.sub sS⟩ ?_ ?_
  .clear b m Y
   rintro next _ w i P rfl ⟨G,d,Z,b,h⟩ u
   have m:=b.len
   simp only[aU,bW,cn,fq]at m
   have hd:=iB P
   refine br (λ_ w=>∃G d,F4.le G/\cw (jB G) d ((H.take (i+1)).map (kE O tm)++H.drop (i+1))/\ab E w (ae G::OS 109 bg W d::lc D 174 [.func (.func 81) #[] #[pa ⟨C,0,none⟩]]::lc U 3 [iv tm]::lc C 45 [sv g]::L)) (λ_ w h=>?_) λJ V=>?_
   .exact .go λ_=>u _ _ (bV P om) h
   rw[hd]at b
   obtain⟨dy,K,ZK⟩:=JQ (i:=i) b (by simp;omega)
   have Q:∀{M:bh} {y:bK bg},G.le M->jB M y (kE O tm H[i])->cw (jB M) (d.set i y) ((H.take (i+1)).map (kE O tm)++H.drop (i+1)):=by
    intro M y f hy
    rw[cR P,fe,cP]
    exact ZK _ _ _ (λr p=>gw _ _ r p f) hy
   refine eO (T:=109) (ls:=bg) (xs:=d) (i:=i) h pK om λa1 Yf=>?_
   refine oV (T:=109) (xs:=d) h pK Yf om ?_
   refine al h λt13 w h=>?_
   refine bU h λw h=>?_
   refine ld (l:=.raw) (x:=.func (.func 81) #[] #[pa ⟨C,0,none⟩]) h ?_
   refine bN h ?_
   refine Qs (hg.up eK (X.trans Z)) N G _ d[i] H[i] _ _ (.refl _) K (tz _ (cp P)) (h.bF pK pK) λM w f h=>?_
   refine ax (λn=>?_) (λn=>?_)
   .refine ld (x:=tm) h ?_
    refine eO (T:=109) (ls:=bg) (xs:=d) (i:=i) h pK om λa2 r7=>?_
    refine D1 (T:=109) (ls:=bg) (i:=i) (j:=1) (y:=(d[i].1,tm,d[i].2.2.1,d[i].2.2.2.1,d[i].2.2.2.2.1,())) h pK ((r7.add 0).add 1) om (by rfl) λw h=>?_
    refine V () _ ⟨M,_,Z.trans f,Q f ?_,h.sub sS⟩
    unfold kE;rw[ak n]
    exact⟨K.1,rfl,eK _ _ _ _ f K.2.2⟩
   .refine V () _ ⟨M,d,Z.trans f,?_,h.sub sS⟩
    have:=Q (y:=d[i]) f (by unfold kE;rw[ai (by rw[n];decide)];exact gw _ _ _ _ f K)
    rw[List.set_getElem_self]at this;exact this
  .clear b m Y
   rintro _ w ⟨G,d,Z,b,h⟩
   rw[cB,qv,iO]at b
   have m:=b.len
   rw[bW]at m
   have n:=n.up eK (X.trans Z)
   refine cy (S:=Sl×Int) (cf:=λs=>s.2) cs.length (by show((c.len:Nat):Int)=_;rw[n.len]) (λi s w=>∃d,cw (jB G) d (H.map (kE O tm)++(cs.take i).map λc=>(tm,1099511627776,c))/\ab E w (ae G::OS 109 bg s.1 d::lc U 3 [iv tm]::L)) rfl ⟨d,by simpa using b,h.sub sS⟩ ?_ ?_
   .clear b m
    rintro next ⟨o,_⟩ w i P rfl ⟨d,b,h⟩ u
    have m:=b.len
    simp only[aU,bW,cn]at m
    refine fx n P λa r _ hr=>?_
    refine fJ h ?_
    refine al h λt15 w h=>?_
    refine bU h λw h=>?_
    refine ld (x:=tm) h ?_
    refine bN h ?_
    refine bJ (ls:=bg) (y:=(tm,1099511627776,r.1,r.2.1,r.2.2.1,())) h λt73 w _ h=>?_
    refine eA (xs:=d) h om λt74 w h=>?_
    refine u _ _ (bV P om) ⟨_,?_,h.sub sS⟩
    rw[cR P,fe,<-cP]
    exact b.app (.one ⟨rfl,rfl,hr⟩)
   .rintro⟨o,_⟩ w ⟨d,b,h⟩
    rw[cB]at b
    refine VJ (F:=G) (h.pick (A:=OS 109 bg o d) pK) b (by simp;omega) λH7 w ZB h=>?_
    obtain⟨M,f,h,h2⟩:=dT (T:=109) (ls:=bg) (s:=o) (F:=G) h
    exact I M _ _ ((((e.trans z).trans Ni).trans X).trans (Z.trans f)) ⟨H7,h2,ZB.imp λr p=>gw _ _ r p f⟩ (h.sub sS)
 .refine dr h λw h=>?_
  refine xW (h.pick pK) hs R λF1 w e h=>?_
  refine ax (λn=>?_) (λn=>?_)
  .refine aR rfl ?_
   refine aR rfl ?_
   exact V _ _ ⟨by unfold m6;rw[nT n];rfl,F1,e,h⟩
  .refine wx h (ht.up eK e) hp λw h=>?_
   refine ax (λhd=>?_) (λhd=>?_)
   .refine aR rfl ?_
    exact V _ _ ⟨by unfold m6;rw[nT hd,vS];rfl,F1,e,h⟩
   .refine ld (x:=tm) h ?_
    refine Cq h (hs.up gw e) R λF2 w z h=>?_
    refine lk h ?_
    refine ax (λhe=>?_) (λhe=>?_)
    .exact V _ _ ⟨by unfold m6;rw[he];simp,F2,e.trans z,h⟩
    .refine ld (x:=tm) h ?_
     refine V _ _ ⟨?_,F2,e.trans z,h⟩
     unfold m6;rw[nF n,nF hd,he];simp
abbrev St:=Int×Int×List Pc
def AI (F:bh) (r:bK av) (s:St):Prop:=r.1=s.1/\r.2.1=s.2.1/\eV F r.2.2.1 s.2.2
theorem PX:uM AI:=λF G r a b ⟨c,d,e⟩=>⟨c,d,e.up eK b⟩
abbrev EX (F:bh) (s:Sl) (l:List St):Prop:=NL F av AI s l
def nx (t m a:Int):Int:=if a>t then(if a<m then a else m)else m
def ga (l:List Vn) (t m:Int):Int:=l.foldl (λm v=>nx t (nx t m v.1) v.2.1) m
def yk (a:List St) (t:Int) (p:List Pc):Bool:=match a.getLast? with
 |some q=>decide (q.2.1=t)&&decide (q.2.2=p)
 |none=>false
def jE (a:List St) (t n:Int) (p:List Pc):List St:=if p.length=0 then a else if yk a t p then(match a.getLast? with|some q=>a.dropLast++[(q.1,n,q.2.2)]|none=>[])else a++[(t,n,p)]
def lY (l:List Vn) (to:Int):Nat->Int->List St->List St
 |0,_,a=>a
 |f+1,t,a=>if t<to then lY l to f (ga l t to) (jE a t (ga l t to) (fw (cK l t)))else a
def oR (l:List Vn) (s:Sp):List St:=if gL l&&cA s then lY l s.2.1 (s.2.1-s.1).toNat s.1 []else[]
theorem Az (t m a:Int):nx t m a<=m:=by
 unfold nx
 split
 .split<;>omega
 .omega
theorem O1 (h:t<m):t<nx t m a:=by
 unfold nx
 split
 .split<;>omega
 .omega
theorem O0 (t m a:Int):nx t m a=m\/(nx t m a=a/\t<a):=by
 unfold nx
 split
 .split
  .right;exact⟨rfl,om⟩
  .left;rfl
 .left;rfl
def wB (l:List Vn) (t:Int):Nat:=(l.filter λv=>decide (v.1<=t)).length+(l.filter λv=>decide (v.2.1<=t)).length
theorem Du (t:Int):∀(l:List Vn) (m:Int),t<m->t<ga l t m/\ga l t m<=m/\(ga l t m=m\/∃v∈l,ga l t m=v.1\/ga l t m=v.2.1)
 |[],m,h=>⟨h,mP _,.inl rfl⟩
 |v::l,m,h=>by
  have d:t<nx t (nx t m v.1) v.2.1:=O1 (O1 h)
  have e:nx t (nx t m v.1) v.2.1<=m:=Jh (Az _ _ _) (Az _ _ _)
  obtain⟨f,g,a⟩:=Du t l _ d
  refine⟨f,Jh g e,?_⟩
  rcases a with a|⟨u,i,a⟩
  .show ga l t (nx t (nx t m v.1) v.2.1)=m\/_
   rw[a]
   rcases O0 t (nx t m v.1) v.2.1 with b|⟨b,_⟩
   .rw[b]
    rcases O0 t m v.1 with c|⟨c,_⟩
    .exact .inl c
    .exact .inr ⟨v,eo,.inl (a.trans (b.trans c))⟩
   .exact .inr ⟨v,eo,.inr (a.trans b)⟩
  .exact .inr ⟨u,dH _ i,a⟩
theorem zR {α:Type} {p q:α->Bool} (h:∀a,p a=true->q a=true):∀l:List α,(l.filter p).length<=(l.filter q).length
 |[]=>cV _
 |a::l=>by
  have c:=zR h l
  simp only[jr]
  by_cases b:p a=true
  .rw[ak b,ak (h a b)];simpa using c
  .rw[ai b]
   split
   .simp;omega
   .exact c
theorem Gs {α:Type} {p q:α->Bool} (h:∀a,p a=true->q a=true) {x:α} (d:p x=false) (e:q x=true):∀l:List α,x∈l->(l.filter p).length<(l.filter q).length
 |a::l,b=>by
  simp only[jr]
  rcases List.mem_cons.1 b with rfl|b
  .rw[ai (by rw[d];decide),ak e]
   have:=zR h l
   simp;omega
  .have f:=Gs h d e l b
   by_cases c:p a=true
   .rw[ak c,ak (h a c)];simpa using f
   .rw[ai c]
    split
    .simp;omega
    .exact f
theorem Wa (h:t<n) (hv:∃v∈l,n=v.1\/n=v.2.1):wB l t<wB l n:=by
 obtain⟨v,hv,he⟩:=hv
 have c:∀a:Vn,decide (a.1<=t)=true->decide (a.1<=n)=true:=λa b=>by have:=cT b;simp;omega
 have d:∀a:Vn,decide (a.2.1<=t)=true->decide (a.2.1<=n)=true:=λa b=>by have:=cT b;simp;omega
 unfold wB
 rcases he with he|he
 .have:=Gs (p:=λa:Vn=>decide (a.1<=t)) (q:=λa:Vn=>decide (a.1<=n)) c (x:=v) (by simp;omega) (by simp;omega) l hv
  have:=zR (p:=λa:Vn=>decide (a.2.1<=t)) (q:=λa:Vn=>decide (a.2.1<=n)) d l
  omega
 .have:=Gs (p:=λa:Vn=>decide (a.2.1<=t)) (q:=λa:Vn=>decide (a.2.1<=n)) d (x:=v) (by simp;omega) (by simp;omega) l hv
  have:=zR (p:=λa:Vn=>decide (a.1<=t)) (q:=λa:Vn=>decide (a.1<=n)) c l
  omega
theorem V9 (l:List Vn) (t:Int):wB l t<=2*l.length:=by
 unfold wB
 have:=gV (λv:Vn=>decide (v.1<=t)) l
 have:=gV (λv:Vn=>decide (v.2.1<=t)) l
 omega
theorem ahj (a:List St) (t n:Int) (p:List Pc):(jE a t n p).length<=a.length+1:=by
 unfold jE
 split
 .omega
 .split
  .cases a.getLast? with
   |none=>simp
   |some q=>simp
  .simp
theorem aau {b:Int} {k:Int->Pr} (hi:i<2) (c:i=0->k a w) (d:i=1->k b w):fU prog (vN (Instr.index 303 (.agg #[iv a,iv b]) (iv (i:Int)))) ah k w:=by
 match i,hi with
 |0,_=>exact jF (x:=a) kK (c rfl)
 |1,_=>exact jF (x:=b) kK (d rfl)
theorem Um {k:Int->Pr} (h:ab E w (ae F::L)) (hs:jv F s vs) (hn:vs.length<=268435456) (A:∀p,ab E p (ae F::L)->k (ga vs t m) p):CL 196 #[sv s,iv t,iv m] ah k w:=by
 refine adJ ?_
 refine cy (S:=Int×Int) (cf:=λs=>s.2) vs.length (by rw[hs.len]) (λi s w=>s.1=ga (vs.take i) t m/\ab E w (ae F::L)) rfl ⟨rfl,h⟩ ?_ ?_
 .rintro next ⟨x,_⟩ w i l rfl ⟨f,h⟩ b
  simp only at f
  subst f
  have e:ga (vs.take (i+1)) t m=nx t (nx t (ga (vs.take i) t m) vs[i].1) vs[i].2.1:=by unfold ga;rw[cR l,qy];rfl
  rw[e]at b
  generalize ga (vs.take i) t m=x at*
  refine fx hs l λa r _ u=>?_
  rw[<-u.1,<-u.2.1]at b
  repeat (first|refine gA ?_|(refine gB ?_;clear h;intro w h)|(refine gC ?_;clear h;intro b0 w h))
  refine cy (S:=Int×Int) (cf:=λs=>s.2) 2 rfl (λj s w=>s.1=([r.1,r.2.1].take j).foldl (nx t) x/\ab E w (ae F::L)) rfl ⟨rfl,h.sub sS⟩ ?_ ?_
  .rintro n ⟨y,_⟩ w j v rfl ⟨g,h⟩ c
   simp only at g
   subst g
   refine br (λy w=>y=([r.1,r.2.1].take (j+1)).foldl (nx t) x/\ab E w (ae F::L)) (λy w h=>?_) λJ d=>?_
   .exact .go λ_=>c _ _ (bV v dE) h
   have step:∀(z:Int),([r.1,r.2.1].take (j+1)).foldl (nx t) x=nx t (([r.1,r.2.1].take j).foldl (nx t) x) z->af (decide (z>t)) (J (if z<([r.1,r.2.1].take j).foldl (nx t) x then z else([r.1,r.2.1].take j).foldl (nx t) x)) (J (([r.1,r.2.1].take j).foldl (nx t) x)) w:=by
    intro z C
    rw[C]at d
    unfold nx at d
    refine ax (λo=>?_) (λo=>?_)
    .rw[ak (cT o)]at d;exact d _ _ ⟨rfl,h⟩
    .rw[ai (cF o)]at d;exact d _ _ ⟨rfl,h⟩
   refine aau v (λD=>?_) (λG=>?_)
   .subst D;exact step r.1 rfl
   .subst G;exact step r.2.1 rfl
  .rintro⟨y,_⟩ w ⟨g,h⟩
   exact b _ _ (bV l om) ⟨g,h⟩
 .rintro⟨x,_⟩ w ⟨f,h⟩
  rw[cB]at f
  exact fin (A _ h) f
theorem ai6:gq 208=⟨[sv au]⟩:=kK
variable {out:List St}
theorem Ul {rs:List (bK av)} (h:ab E w (ae F::lc b 208 [sv o]::OS 208 av o rs::L)) (z:cw (AI F) rs out) (M:eV F g p) (P:fs p) (m:∀q∈out,fs q.2.2) (hn:out.length<=268435456)
  (f:∀C,ab E C (ae F::lc b 208 [sv o]::OS 208 av o rs::L)->k (yk out t p) C):CL 195 #[iv t,sv g,pa ⟨b,0,none⟩] aw k w:=by
 refine adI ?_
 have D:=z.len
 have r:=fR (h.pick (A:=OS 208 av o rs) pK) dE
 refine ld (x:=o) h ?_
 rcases vM out.length with G|H
 .refine aL ?_
  refine ar (by rw[r,D,G];rfl) ?_
  refine ao λ_=>?_
  refine aL ?_
  refine ar rfl ?_
  refine ao λ_=>?_
  refine fin (f _ h) ?_
  rw[List.length_eq_zero_iff.1 G];rfl
 have u:out.length-1<rs.length:=om
 have d:out.getLast?=some out[out.length-1]:=by rw[Bq,fA]
 have I:=z.get (out.length-1) u om
 have e:yk out t p=(decide (out[out.length-1].2.1=t)&&decide (out[out.length-1].2.2=p)):=by unfold yk;rw[d]
 have N:=m _ (cp (l:=out) (n:=out.length-1) om)
 have K:w6 ((o.len:Int)-1)=((out.length-1:Nat):Int):=by rw[bQ om];omega
 rw[e]at f
 refine br (λ(c:Bool) w=>c=decide (out[out.length-1].2.1=t)/\ab E w (ae F::lc b 208 [sv o]::OS 208 av o rs::L)) (λc w h=>?_) λJ O=>?_
 .obtain⟨rfl,h⟩:=h
  refine ao λ_=>?_
  refine aL ?_
  refine ax (λv=>?_) (λv=>?_)
  .rw[v,hI]at f
   refine ld (x:=o) h ?_
   refine eO (T:=208) (ls:=av) (xs:=rs) (i:=out.length-1) h pK u (λa y=>?_) K
   refine kH (T:=208) (ls:=av) (xs:=rs) (j:=2) (x:=rs[out.length-1].2.2.1) h pK (y.add 2) u ?_
   refine Kn h I.2.2 M N λw h=>?_
   refine ao λ_=>?_
   exact f _ h
  .rw[v,rD]at f
   refine ao λ_=>?_
   exact f _ h
 .refine aR (by rw[r,D];exact eu om) ?_
  refine ld (x:=o) h ?_
  refine eO (T:=208) (ls:=av) (xs:=rs) (i:=out.length-1) h pK u (λa y=>?_) K
  refine kH (T:=208) (ls:=av) (xs:=rs) (j:=1) (x:=rs[out.length-1].2.1) h pK ((y.add 0).add 1) u ?_
  refine O _ _ ⟨?_,h⟩
  rw[I.2.1,gb];simp
theorem ahm (b:fs p) (h:∀q∈out,fs q.2.2):∀q∈jE out t n p,fs q.2.2:=by
 intro q a
 unfold jE at a
 split at a
 .exact h q a
 split at a
 .split at a
  .rename_i x c
   rcases List.mem_append.1 a with a|a
   .exact h q (xD _ a)
   .simp at a;subst a;exact h x (ux c)
  .cases a
 .rcases List.mem_append.1 a with a|a
  .exact h q a
  .simp at a;subst a;exact b
theorem L0:∀(l a:List Pc),(∀q∈a,dk q.2.2)->(∀q∈l,dk q.2.2)->(l.foldl iS a).length<=a.length+l.length/\∀q∈l.foldl iS a,dk q.2.2
 |[],a,h,_=>⟨cV _,h⟩
 |p::l,a,h,b=>by
  obtain⟨e,c⟩:=L0 l (iS a p) (Mb (P:=dk) (b p eo) h) λq d=>b q (dH _ d)
  refine⟨?_,c⟩
  have:=F9 p a
  rw[kV,db];omega
theorem L9 (h:fs ps):fs (fw ps):=by
 unfold fw
 split
 .obtain⟨a,b⟩:=L0 ps [] (λq c=>by cases c) h.row
  exact⟨by have:=h.len;simp at a;omega,b⟩
 .exact h
theorem TU {k:Sl->Pr} (h:ab E w (ae F::L)) (hs:jv F s vs) (hv:kY vs) (Ho:vs.length<=100000000) (hk:∀G s' w',F.le G->EX G s' (oR vs d)->ab E w' (ae G::L)->k s' w'):CL 164 #[sv s,ag aC d] aE k w:=by
 refine adh ?_
 refine bx h λt3 w h=>?_
 refine xW (h.pick pK) hs hv λS w C h=>?_
 refine br (λ(c:Bool) w=>c=!(gL vs&&cA d)/\ab E w (ae S::lc t3 39 (ay aC d)::L)) (λc w h=>?_) λJ R=>?_
 .obtain⟨rfl,h⟩:=h
  refine ao λ_=>?_
  refine ax (λu=>?_) (λu=>?_)
  .refine hk S _ _ C ?_ (h.sub sS)
   unfold oR;rw[nT u];exact .nil
  have I:oR vs d=lY vs d.2.1 (d.2.1-d.1).toNat d.1 []:=by unfold oR;rw[nF u];rfl
  rw[I]at hk
  clear I u
  refine al h λt5 w h=>?_
  rw[ai6]at h
  refine ld (x:=d.1) h ?_
  refine uD (λ(t:Int) w=>∃(G:bh) (o:Sl) (l:List (bK av)) (b:List St) (f:Nat),S.le G/\cw (AI G) l b/\(∀q∈b,fs q.2.2)/\(t<d.2.1->b.length<=wB vs t)/\(d.2.1-t).toNat<=f/\lY vs d.2.1 f t b=lY vs d.2.1 (d.2.1-d.1).toNat d.1 []/\ab E w (ae G::lc t5 208 [sv o]::OS 208 av o l::lc t3 39 (ay aC d)::L)) (λt _=>(d.2.1-t).toNat)
   ⟨S,au,[],[],_,.refl _,.nil,λq hq=>(by cases hq),λ_=>jt _,cV _,rfl,?_⟩ ?_
  .exact(fm (T:=208) (ls:=av) h).sub sS
  rintro next t w ⟨G,o,l,b,f,z,e,K,U,hf,I,h⟩ N
  refine ao λ_=>?_
  refine ld (x:=d.2.1) h ?_
  refine ax (λu=>?_) (λu=>?_)
  .have O:=cT u
   obtain⟨h1,h2,h3⟩:=Du t vs d.2.1 O
   obtain⟨f,rfl⟩:∃g,f=g+1:=⟨f-1,om⟩
   have D:lY vs d.2.1 (f+1) t b=lY vs d.2.1 f (ga vs t d.2.1) (jE b t (ga vs t d.2.1) (fw (cK vs t))):=by show(if t<d.2.1 then _ else _)=_;rw[ak O]
   rw[D]at I
   clear D
   have oY:=U O
   have iH:=V9 vs t
   have hn:(n:Int)->n=ga vs t d.2.1->n<d.2.1->b.length+1<=wB vs n:=by
    rintro n rfl hn
    have:=Wa h1 (h3.resolve_left om)
    omega
   have V:=wh hv t
   generalize Y6:ga vs t d.2.1=n at h1 h2 h3 hn I
   clear h3
   have u9:(d.2.1-n).toNat<=f:=om
   have wN:(d.2.1-n).toNat<(d.2.1-t).toNat:=om
   have W:=L9 V
   refine br (λ(m:Int) w=>m=n/\∃(G:bh) (o:Sl) (l:List (bK av)),S.le G/\cw (AI G) l (jE b t n (fw (cK vs t)))/\ab E w (ae G::lc t5 208 [sv o]::OS 208 av o l::lc t3 39 (ay aC d)::L)) (λm w h=>?_) λJ R=>?_
   .obtain⟨rfl,G,o,l,z,e,h⟩:=h
    refine ao λ_=>?_
    refine N _ _ ⟨G,o,l,_,f,z,e,ahm W K,λhm=>?_,u9,I,h⟩ wN
    exact qw (ahj _ _ _ _) (hn _ rfl hm)
   refine ld (x:=d.2.1) h ?_
   refine Um (h.pick pK) (hs.up gw (C.trans z)) hv.len λw h=>?_
   rw[Y6]
   refine Cp h (hs.up gw (C.trans z)) hv λG1 t33 w X XM h=>?_
   refine Kk h XM V λY t34 w v P h=>?_
   have ajy:=P.len
   generalize fw (cK vs t)=p at*
   have e:=e.imp λr p=>PX _ _ r p (X.trans v)
   have z:=(z.trans X).trans v
   have hl:=e.len
   refine ax (λu=>?_) (λu=>?_)
   .have M:p.length=0:=by have:=ek u;omega
    refine R _ _ ⟨rfl,Y,o,l,z,?_,h.sub sS⟩
    unfold jE;rw[ak M];exact e
   have M:¬p.length=0:=by have:=ei u;omega
   refine lH ?_
   refine Ul (h.lj pK pK pK) e P W K om λw h=>?_
   refine ax (λZ=>?_) (λZ=>?_)
   .have Hd:0<b.length:=by
       rcases vM b.length with M|M
       .rw[List.length_eq_zero_iff.1 M]at Z;cases Z
       .exact M
    have H:b.length-1<l.length:=om
    have aj9:=fR (h.pick (A:=OS 208 av o l) pK) dE
    have Q:b.getLast?=some b[b.length-1]:=by rw[Bq,fA]
    have hq:=e.get (b.length-1) H om
    refine ld (x:=o) h ?_
    refine ld (x:=o) h ?_
    refine eO (T:=208) (ls:=av) (xs:=l) (i:=b.length-1) h pK H (λa ha=>?_) (by rw[bQ om];omega)
    refine D1 (T:=208) (ls:=av) (i:=b.length-1) (j:=1) (y:=(l[b.length-1].1,n,l[b.length-1].2.2.1,())) h pK ((ha.add 0).add 1) H (by rfl) λw h=>?_
    refine R _ _ ⟨rfl,Y,o,_,z,?_,h.sub sS⟩
    unfold jE;rw[ai M,ak Z,Q]
    simp only
    have e1:b.dropLast=b.take (b.length-1):=RD
    have e2:l.set (b.length-1) (l[b.length-1].1,n,l[b.length-1].2.2.1,())=l.take (b.length-1)++[(l[b.length-1].1,n,l[b.length-1].2.2.1,())]:=by
     rw[RE,ak H,Br om]
    rw[e1,e2]
    exact(e.take _).app (.one ⟨hq.1,rfl,hq.2.2⟩)
   .refine ld (x:=o) h ?_
    refine bJ (ls:=av) (y:=(t,n,t34,())) h λs2 w _ h=>?_
    refine eA (xs:=l) h om λs3 w h=>?_
    refine nu h λw h=>?_
    refine R _ _ ⟨rfl,Y,s3,_,z,?_,h.sub sS⟩
    unfold jE;rw[ai M,Z,ai dE]
    exact e.app (.one ⟨rfl,rfl,P⟩)
  .refine ld (x:=o) h ?_
   have D:lY vs d.2.1 f t b=b:=by
    cases f with
    |zero=>rfl
    |succ f=>show(if t<d.2.1 then _ else _)=_;rw[ai (cF u)]
   rw[D]at I
   rw[<-I]at hk
   obtain⟨Y,v,h,h2⟩:=dT (T:=208) (ls:=av) (s:=o) (F:=G) h
   exact hk Y _ _ ((C.trans z).trans v) ⟨l,h2,e.imp λr p=>PX _ _ r p v⟩ (h.sub sS)
 .refine ax (λu=>?_) (λu=>?_)
  .exact R _ _ ⟨by rw[nT u];rfl,h⟩
  .repeat (first|refine gA ?_|(refine gB ?_;clear h;intro w h)|(refine gC ?_;clear h;intro b0 w h)|(refine qM h ?_;clear h;intro w h))
   exact R _ _ ⟨by rw[nF u];rfl,h.sub sS⟩
end Go.Proofs.YtelhccfmfnaegaaGreat
namespace Go.Sh
variable {P:Program} {E w:World} {L L':List aK} {T1 T2 R Te:TypeId} {sz mu n:Nat} {s:Sl} {x:Value} {cs ds:List Value} {k:Sl->Pr}
theorem WC
  (h:ab E w L) (p:b6 L (dV Te sz s cs) L') (Q:aQ P (underlying T1)=some (.slice Te)) (S:aQ P (underlying T2)=some .string) (U:uF P Te sz mu)
  (t:Builtin.lenOf x=pure n) (V:∀w,ab E w L->(Builtin.firstCells sz n x).run P w=.ok ds.toArray w) (d:ds.length=n*sz) (W:∀v∈ds,j9 v=true) (X:s.len+n<=2^40) (N:(2*(s.len+n)+192)*mu<=2^48)
  (Y:∀Z F,Z.len=s.len+n->ab E F (dV Te sz Z (cs++ds)::L')->k Z F):
  eT P (vN (Builtin.append_ #[T1,T2] R #[.slice s.a s.len s.cap,x])) aE k w:=by
 have G:=h.pick p
 have f:=λw=>cd _ Q w
 have g:=λw=>cd _ S w
 have y:=λw=>cd _ U.size w
 obtain⟨A,H,Yp⟩:=U.info
 obtain⟨z,hz,Ht⟩:=U.IL
 have C:=λw=>cd _ H w
 have vo:=λw=>cd _ hz w
 have iH:=G.Pd
 have Zv:=G.iJ
 by_cases k7:s.len+n<=s.cap
 ·
  rcases G.tL with⟨rfl,rfl,hh⟩|⟨b,pre,spare,ha,hl,I,Hj,hh⟩
  .have l:n=0:=by simpa using k7
   have z6:ds=[]:=by
    rw[l]at d
    simpa using d
   subst z6
   have O:=V w h
   rw[l]at O
   refine⟨⟨none,0,0⟩,w,eE ?_,Y _ _ (by simp[l]) (by simpa using G)⟩
   simp[Builtin.append_,f,y,g,t,l,O,Ty.val,cE.val,bD.val]
  .have O:=V w h
   obtain⟨c',h1,h2,h3⟩:=xj (P:=P) (T:=Te) (b:=b) ds pre.length (s.len*sz) ⟨pre++(cs++spare)⟩ w hh.own
    (by simp[hl,d]
        have:n*sz<=(s.cap-s.len)*sz:=lR _ om
        omega) W
   have z4:c'=⟨pre++((cs++ds)++(spare.drop ds.length))⟩:=by
    apply Bh
    intro j
    rw[h3 j]
    simp only[oo,cP,<-hl]
    by_cases J:j<pre.length
    .rw[ai om,g0 J,g0 J]
    .rw[gZ (l₁:=pre) om,gZ (l₁:=pre) om]
     by_cases hj:j-pre.length<cs.length
     .rw[ai om,g0 hj,g0 hj]
     .rw[gZ (l₁:=cs) om,gZ (l₁:=cs) om]
      by_cases YO:j-pre.length<cs.length+ds.length
      .rw[ak om,g0 om]
       congr 1;omega
      .rw[ai om,gZ (l₁:=ds) om,nB]
       congr 1;omega
   refine⟨⟨s.a,s.len+n,s.cap⟩,{w with heap:=w.heap.setIfInBounds b (.cells c' Te (0,0))},eE ?_,Y _ _ rfl ?_⟩
   .have wS:(storeCells ((⟨b,pre.length,none⟩:Addr).add (s.len*sz)) ds).run P w=.ok () {w with heap:=w.heap.setIfInBounds b (.cells c' Te (0,0))}:=by
      have:∀(K:List Value) (i n:Nat) (w:World),(storeCells ((⟨b,pre.length,none⟩:Addr).add n) K i).run P w=(storeCells ⟨b,pre.length,none⟩ K (n+i)).run P w:=by
       intro K
       induction K with
       |nil=>intro i n w;rfl
       |cons v K ih=>
        intro i n w
        simp only[storeCells]
        rw[run_bind,run_bind,EP _ _ _ rfl]
        cases(store ((⟨b,pre.length,none⟩:Addr).add (n+i)) v).run P w with
        |ok u F=>simpa[m7]using ih (i+1) n F
        |halt x F=>rfl
      rw[this ds 0 (s.len*sz) w];exact h1
    simp[Builtin.append_,f,y,g,t,k7,O,ha,wS,Ty.val,cE.val,bD.val]
   .rw[z4]
    have M:(s.cap-(s.len+n))*sz<=(spare.drop ds.length).length:=by
     have e:s.cap-(s.len+n)=(s.cap-s.len)-n:=om
     rw[fq,d,e,Bi];omega
    refine uE (pre:=pre) (spare:=spare.drop ds.length) (b:=b) ?_ ha (by simp[hl,d,km]) k7 M
    exact hh.set
 ·
  have wK:¬((s.len+n:Nat):Int)>IntKind.i64.max:=by
   have:IntKind.i64.max=9223372036854775807:=by rfl
   rw[this]
   have:(2:Nat)^40=1099511627776:=dE
   omega
  have Ai:¬Builtin.nextslicecap (s.len+n) s.cap*A.bytes>2^48:=by
   have h1:=nextslicecap_le (s.len+n) s.cap om
   have h2:Builtin.nextslicecap (s.len+n) s.cap*A.bytes<=(2*(s.len+n)+192)*mu:=by rw[Yp];exact lR _ h1
   omega
  have hL:ab E {w with drawn:=w.drawn+1} (dV Te sz s cs::L'):=G.drew
  obtain⟨c,GZ,I⟩:∃nc,(Question.appendCap (s.len+n) s.cap Te).cut (w.tape w.drawn (.appendCap (s.len+n) s.cap Te))=nc/\s.len+n<=nc:=⟨_,rfl,IS _ _⟩
  have u9:(Builtin.firstCells sz s.len (.slice s.a s.len s.cap)).run P w.drew=.ok cs.toArray w.drew:=sF hL.iJ
  have wN:(Builtin.firstCells sz n (x)).run P w.drew=.ok ds.toArray w.drew:=V _ h.drew
  refine⟨⟨some ⟨w.heap.size,0,none⟩,s.len+n,c⟩,
   {w with drawn:=w.drawn+1,heap:=w.heap.push (.cells (cs.toArray++ds.toArray++Builtin.zeroCells z.cells (c-(s.len+n))) Te (0,0))},eE ?_,Y _ _ rfl ?_⟩
  .have D:¬(9223372036854775807<((s.len:Int)+(n:Int))):=om
   have m:¬(281474976710656<Builtin.nextslicecap (s.len+n) s.cap*A.bytes):=om
   simp[Builtin.append_,f,y,g,t,k7,C,D,m,Question.forced,GZ,u9,wN,vo,newRow,Ty.val,cE.val,bD.val]
   rw[<-IT,show cs.toArray++ds.toArray=(cs++ds).toArray from by simp]
   rfl
  .have r:=(hL.drop).new (o:=.cells (cs.toArray++ds.toArray++Builtin.zeroCells z.cells (c-(s.len+n))) Te (0,0))
   have e:cs.toArray++ds.toArray++Builtin.zeroCells z.cells (c-(s.len+n))=⟨(cs++ds)++(Builtin.zeroCells z.cells (c-(s.len+n))).toList⟩:=by
    apply lr
    simp
   rw[e]at r⊢
   refine uE (pre:=[]) r rfl (by simp[iH.1,d,km]) I ?_
   simp only[Bj]
   rw[size_zeroCells,Ht]
   exact cV _
end Go.Sh
namespace Go.Proofs.YtelhccfmfnaegaaGreat
open Go Go.Sh Tryz
attribute [local irreducible] aT jC gk dV kO dg hex iT jk ae
def B (l:List UInt8):ByteArray:=⟨l.toArray⟩
theorem ET (a b:List UInt8):B a++B b=B (a++b):=by
 apply Ji
 simp[B,ByteArray.data_append]
theorem cJ (a:List UInt8):(B a).size=a.length:=rfl
theorem Sm:B []=⟨#[]⟩:=rfl
theorem rI (s:ByteArray):B s.data.toList=s:=by cases s;rfl
def u8 (n:Int):UInt8:=UInt8.ofNat (n%256).toNat
theorem ny (n:Int):IntKind.u8.wrap n=((u8 n).toNat:Int):=by
 have h:IntKind.u8.wrap n=n%256:=by rfl
 rw[h]
 unfold u8
 rw[RH]
 have:=Int.emod_nonneg n (b:=256) dE
 have:=Int.emod_lt_of_pos n (b:=256) dE
 omega
abbrev dW:List bD:=[.int .u8]
def eh (l:List UInt8):List (bK dW):=l.map λb=>((b.toNat:Int),())
theorem pN (l:List UInt8):(eh l).flatMap (ay dW)=l.map λb=>.int .u8 b.toNat:=by
 unfold eh
 induction l with
 |nil=>rfl
 |cons b l a=>simp only[eZ,fc,a];rfl
theorem D0 (x y:Operand) (n c:Nat) (a:IntKind) (hc:c<=64):aQ prog (cL .shr 25 x y (.int .u64 (n:Int)) (.int a (c:Int)))=some (.value (.int .u64 ((n/2^c:Nat):Int))):=by
 have b:¬((c:Int)<0):=om
 have d:min (c:Int).toNat IntKind.u64.bits=c:=by
  have:IntKind.u64.bits=64:=rfl
  rw[this];omega
 have e:aQ prog (cL .shr 25 x y (.int .u64 (n:Int)) (.int a (c:Int)))=aQ prog (do let v<-Op.shift .shr .u64 (n:Int) a (c:Int);pure (Next.value v)):=kK
 rw[e,eJ]
 unfold Op.shift
 rw[ai b]
 simp only[d]
 show some (Next.value (.int .u64 ((n:Int).fdiv (2^c))))=_
 rw[yX _ (by exact_mod_cast jt _)]
 congr 3
def aH (n:Nat):List UInt8:=if h:n<128 then[u8 n]else u8 ((n%128+128:Nat):Int)::aH (n/128)
 termination_by n
 decreasing_by omega
def cz (s:List UInt8):List UInt8:=aH s.length++s
variable {E w:World} {L:List aK} {F:bh} {t:Sl} {l:List UInt8} {k:ByteArray->Pr} {L':List aK} {x y:Operand} {a b:List UInt8} {n:Int} {o:Option TypeInfo} {z:Value} {m:Nat} {v:jf} {s:Sl} {i:Nat} {r:Row}
theorem oU (h:ab E w L) (p:b6 L (OS 143 dW t (eh l)) L') (c:k (B l) w):dQ prog (vN (Go.convert 143 9 (.slice t.a t.len t.cap))) an k w:=by
 have b:=(h.pick p).iJ
 rw[pN]at b
 exact tr (e:=5) kK kK kK b c
theorem cc (d:a.length+b.length<=9000000000000000000) (c:k (B (a++b)) w):fU prog (cL .add 9 x y (.string (B a)) (.string (B b))) an k w:=
 Q7 (by rw[cJ,cJ];omega) (by rw[ET];exact c)
theorem zI (h:ab E w L) (b:∀a,ab E a L->k (B [u8 n]) a):CL 300 #[.int .u64 n] an k w:=by
 refine aft ?_
 refine bJ (ls:=dW) (y:=(((u8 n).toNat:Int),())) h (λt w _ h=>?_) (by rw[<-ny];rfl)
 refine oU (l:=[u8 n]) h pK ?_
 exact b _ (h.sub sS)
theorem QY:∀(f n:Nat),n<128^(f+1)->(aH n).length<=f+1
 |0,n,h=>by unfold aH;rw[Bt (by simpa using h)];simp
 |f+1,n,h=>by
  unfold aH
  split
  .simp
  .have:n/128<128^(f+1):=by rw[I6 om,<-vQ];exact h
   have:=QY f _ this
   simp;omega
theorem cD {n:Nat} (h:n<18446744073709551616):(aH n).length<=10:=QY 9 n om
theorem nf {n:Nat} (h:ab E w L) (hn:n<18446744073709551616) (g:∀f,ab E f L->k (B (aH n)) f):CL 257 #[.int .u64 (n:Int)] an k w:=by
 refine aeI ?_
 refine uD (S:=Int×ByteArray) (λs w=>∃(m:Nat) (pre:List UInt8),s=((m:Int),B pre)/\m<=n/\pre++aH m=aH n/\ab E w L) (λs _=>s.1.toNat) ⟨n,[],rfl,cV _,rfl,h⟩ ?_
 rintro next _ w ⟨m,pre,rfl,o,b,h⟩ a
 have p:pre.length<=10:=by
  have i:=cD hn
  rw[<-b,aU]at i;omega
 refine ao λ_=>?_
 refine ax (λc=>?_) (λc=>?_)
 .have j:128<=m:=by have:=cT c;simp only at this;omega
  have d:aH m=u8 ((m%128+128:Nat):Int)::aH (m/128):=by
   conv=>lhs;unfold aH
   rw[dif_neg om]
  have l:IntKind.u64.wrap (Int.tmod (m:Int) 128+128)=((m%128+128:Nat):Int):=by
   have:Int.tmod (m:Int) 128=((m%128:Nat):Int):=rfl
   rw[this,yY _ om];rfl
  rw[l]
  refine zI h λw h=>?_
  refine cc (by simp only[m8];omega) ?_
  refine jF (x:=((m/2^7:Nat):Int)) (D0 _ _ m 7 .u64 om) ?_
  refine a _ _ ⟨m/128,_,rfl,om,by rw[<-b,d];simp,h⟩ (by simp;omega)
 .have e:m<128:=by have:=cF c;simp only at this;omega
  have d:aH m=[u8 (m:Int)]:=by unfold aH;rw[Bt e]
  refine zI h λw h=>?_
  refine cc (by simp only[m8];omega) ?_
  rw[<-d,b]
  exact g _ h
theorem ug {n:Nat} (h:n<18446744073709551616):IntKind.u64.wrap (n:Int)=(n:Int):=yY _ om
theorem th (h:ab E w L) (c:l.length<=8000000000000000000) (b:∀a,ab E a L->k (B (cz l)) a):CL 258 #[.string (B l)] an k w:=by
 refine aeJ ?_
 rw[cJ,ug om]
 refine nf h om λw h=>?_
 have:=cD (n:=l.length) om
 exact cc om (b _ h)
def zz (n:Int):Nat:=if 0<=n then 2*n.toNat else 2*(-n).toNat-1
def dR:Nat->Nat->List UInt8
 |0,_=>[]
 |f+1,n=>u8 ((n/2^(8*f):Nat):Int)::dR f n
def fP (v:jf):List UInt8:=if dM v then u8 v.1::(if v.1=1 then[u8 v.2.1]else if v.1=2 then aH (zz v.2.1)else if v.1=3 then dR 8 v.2.2.1.toNat else if v.1=4\/v.1=5 then cz v.2.2.2.1.data.toList else[])else[]
theorem Iz (n:Int):u8 (IntKind.u64.wrap n)=u8 n:=by
 have h:IntKind.u64.wrap n=n%18446744073709551616:=by rfl
 unfold u8;rw[h];congr 2;omega
theorem vY (h:-9223372036854775808<=n/\n<=9223372036854775807):zz n<18446744073709551616:=by unfold zz;split<;>omega
theorem ajf (h:-9223372036854775808<=n/\n<=9223372036854775807):IntKind.u64.wrap ((BitVec.ofInt IntKind.u64.bits (IntKind.u64.wrap (IntKind.u64.wrap n*2^1))^^^BitVec.ofInt IntKind.u64.bits (IntKind.u64.wrap (n.fdiv (2^63)))).toNat:Int)=(zz n:Int):=by
 have a:∀m:Int,IntKind.u64.wrap m=m%18446744073709551616:=λm=>rfl
 by_cases b:0<=n
 .have c:n.fdiv (2^63)=0:=by
    rw[yX _ dE]
    exact Int.ediv_eq_zero_of_lt b om
  have d:IntKind.u64.wrap (IntKind.u64.wrap n*2^1)=((2*n.toNat:Nat):Int):=by rw[a,a];omega
  rw[c,d]
  have e:BitVec.ofInt IntKind.u64.bits (IntKind.u64.wrap 0)=0#64:=by rfl
  rw[e]
  show IntKind.u64.wrap ((BitVec.ofInt 64 ((2*n.toNat:Nat):Int)^^^0#64).toNat:Int)=_
  rw[Jj,iQ,gW]
  unfold zz;rw[ak b,a];omega
 .have c:n.fdiv (2^63)=-1:=by
    rw[yX _ dE]
    omega
  have d:IntKind.u64.wrap (IntKind.u64.wrap n*2^1)=((18446744073709551616-2*(-n).toNat:Nat):Int):=by rw[a,a];omega
  rw[c,d]
  have e:BitVec.ofInt IntKind.u64.bits (IntKind.u64.wrap (-1))=BitVec.allOnes 64:=by rfl
  rw[e]
  show IntKind.u64.wrap ((BitVec.ofInt 64 ((18446744073709551616-2*(-n).toNat:Nat):Int)^^^BitVec.allOnes 64).toNat:Int)=_
  rw[RI,iQ,Ex,gW]
  unfold zz;rw[ai b,a];omega
theorem If (x y:Operand) (n:Int) (c:Nat) (hc:c<=64):aQ prog (cL .shl 25 x y (.int .u64 n) (.int .u64 (c:Int)))=some (.value (.int .u64 (IntKind.u64.wrap (n*2^c)))):=by
 have a:¬((c:Int)<0):=om
 have b:min (c:Int).toNat IntKind.u64.bits=c:=by
  have:IntKind.u64.bits=64:=rfl
  rw[this];omega
 have d:aQ prog (cL .shl 25 x y (.int .u64 n) (.int .u64 (c:Int)))=aQ prog (do let v<-Op.shift .shl .u64 n .u64 (c:Int);pure (Next.value v)):=kK
 rw[d,eJ]
 unfold Op.shift
 rw[ai a]
 simp only[b]
 rfl
theorem ag8 (x y:Operand) (n:Int) (c:Nat) (hc:c<=64):aQ prog (cL .shr 3 x y (iv n) (.int .u64 (c:Int)))=some (.value (iv (n.fdiv (2^c)))):=by
 have a:¬((c:Int)<0):=om
 have b:min (c:Int).toNat IntKind.i64.bits=c:=by
  have:IntKind.i64.bits=64:=rfl
  rw[this];omega
 have d:aQ prog (cL .shr 3 x y (iv n) (.int .u64 (c:Int)))=aQ prog (do let v<-Op.shift .shr .i64 n .u64 (c:Int);pure (Next.value v)):=kK
 rw[d,eJ]
 unfold Op.shift
 rw[ai a]
 simp only[b]
 rfl
theorem Vo (h:ab E w L) (hn:-9223372036854775808<=n/\n<=9223372036854775807) (b:∀a,ab E a L->k (B (aH (zz n))) a):CL 321 #[iv n] an k w:=by
 refine afL ?_
 refine jF (x:=IntKind.u64.wrap (IntKind.u64.wrap n*2^1)) (If _ _ _ 1 om) ?_
 refine jF (x:=n.fdiv (2^63)) (ag8 _ _ _ 63 om) ?_
 rw[ajf hn]
 exact nf h (vY hn) b
def jD (r:Row):List UInt8:=if r.all dM then aH r.length++r.flatMap fP else[]
def rY (s:List UInt8):List UInt8:=(s.flatMap λb=>if b=0 then[0,255]else[b])++[0,1]
def rn (n:Int):Nat:=(n+9223372036854775808).toNat
def m4 (v:jf):List UInt8:=u8 (v.1+1)::(if v.1=1 then[u8 v.2.1]else if v.1=2 then dR 8 (rn v.2.1)else if v.1=3 then dR 8 (pv v.2.2.1.toNat)else if v.1=4\/v.1=5 then rY v.2.2.2.1.data.toList else[])
def n8 (l:Row):Bool:=l.all dM&&decide (l.length<=8)
def keyOf (l:Row):List UInt8:=if n8 l then l.flatMap m4++[0]else[]
theorem aam {n:Nat} (a:o.bind (·.zero)=some z) (b:o.map (·.size)=some n) (c:o.map (·.bytes)=some m):∃i,o=some i/\i.zero=some z/\i.size=n/\i.bytes=m:=by
 cases o with
 |none=>cases a
 |some i=>exact⟨i,rfl,a,ja b,ja c⟩
theorem Kd:∃i,prog.info? 5=some i/\i.zero=some (.int .u8 0)/\i.size=1/\i.bytes=1:=aam kK kK kK
theorem zP:k6 143=5:=kK
theorem jL:∀(f n:Nat),(dR f n).length=f
 |0,_=>rfl
 |f+1,n=>by simp[dR,jL f n]
theorem zx:∀(f n i:Nat),i<f->(dR f n)[i]?=some (u8 ((n/2^(8*(f-1-i)):Nat):Int))
 |f+1,n,0,_=>by simp[dR]
 |f+1,n,i+1,h=>by
  have:=zx f n i om
  rw[dR,yU,this,show f+1-1-(i+1)=f-1-i by omega]
theorem Bc (hv:WV v):(fP v).length<=5000:=by
 unfold fP
 split
 .rename_i a
  rw[db]
  split
  .simp
  split
  .have:=cD (vY hv.n1);omega
  split
  .rw[jL];omega
  split
  .unfold dM at a
   have c:(v.2.2.2.1.size:Int)<=4096:=by
    split at a
    .simp only[bp]at a;exact cT a.2
    .cases a
   have b:v.2.2.2.1.data.toList.length<=4096:=by
    have:v.2.2.2.1.data.toList.length=v.2.2.2.1.size:=Bj
    omega
   unfold cz
   have:=cD (n:=v.2.2.2.1.data.toList.length) om
   rw[aU];omega
  .simp
 .simp
theorem E6 {m:List UInt8} {k:Sl->Pr} (h:ab E w L) (p:b6 L (OS 143 dW s (eh l)) L') (o:l.length+m.length<=1073741824) (g:∀c d,ab E d (OS 143 dW c (eh (l++m))::L')->k c d):
  eT prog (vN (Builtin.append_ #[143,9] 143 #[.slice s.a s.len s.cap,.string (B m)])) aE k w:=by
 have e:JN 143 1:=ti kK
 have i:=fR (h.pick p) dE
 have r:s.len=l.length:=by rw[i];simp[eh]
 unfold OS at p
 refine WC (n:=m.length) (ds:=m.map λb=>.int .u8 b.toNat) h p (u4 e.el) kK e.ok rfl (λw h=>?_) sI (λv j=>?_) om ?_ λc d _ f=>g c d ?_
 .show Sem.run _ (pure _) w=_
  rw[Sem.run_pure]
  congr 1
  have:(B m).extract 0 m.length=B m:=by
   apply Ji
   simp[B]
  rw[this]
  apply lr
  simp[B]
 .obtain⟨b,_,rfl⟩:=List.mem_map.1 j;rfl
 .have:(2*(s.len+m.length)+192)*tf 143<=(2*1073741824+192)*256:=xA om e.le
  omega
 .unfold OS
  rw[pN]at f⊢
  rw[fe];exact f
theorem mk8 {k:Sl->Pr} (h:ab E w L) (c:∀a b,ab E b (OS 143 dW a (eh (List.replicate 8 0))::L)->k a b):eT prog (vN (Instr.makeSlice 143 (iv 8) (iv 8))) aE k w:=by
 obtain⟨i,d,e,f,g⟩:=Kd
 refine WG (Te:=5) h kK d e f rfl om (by rw[g];omega) om λa b _ j=>c a b ?_
 unfold OS
 rw[zP,pN]
 exact j
theorem mk0 {k:Sl->Pr} (h:ab E w L) (d:0<=n) (hn:n<=1000000000) (e:∀b c,ab E c (OS 143 dW b (eh [])::L)->k b c):eT prog (vN (Instr.makeSlice 143 (iv 0) (iv n))) aE k w:=by
 obtain⟨i,f,g,j,l⟩:=Kd
 have m:=run_make (P:=prog) w 143 5 i (.int .u8 0) kK f g .i64 .i64 0 n om d (by rw[l];omega) om
 refine⟨⟨some ⟨w.heap.size,0,none⟩,0,n.toNat⟩,_,eE m,e _ _ ?_⟩
 have p:(madeCells (Value.int .u8 0).cells (n.toNat*i.size)).toList.length=n.toNat:=by rw[j];simp[madeCells]
 have a:=h.new (o:=.cells (madeCells (Value.int .u8 0).cells (n.toNat*i.size)) 5 (0,0))
 unfold OS
 rw[zP]
 refine uE (pre:=[]) (cs:=[]) (spare:=(madeCells (Value.int .u8 0).cells (n.toNat*i.size)).toList) ?_ rfl rfl (jt _) (by rw[p];simp)
 exact a
theorem ag3 {x:UInt8} {k:Pr} (h:ab E w (OS 143 dW s (eh l)::L)) (hi:i<m) (g:l.length=m) (b:∀c,ab E c (OS 143 dW s (eh (l.set i x))::L)->k c):
  (IX 143 s (i:Int) λa=>ST 5 a (i8 (x.toNat:Int)) k) w:=by
 have d:(eh l).length=l.length:=by simp[eh]
 have e:(eh l).set i ((x.toNat:Int),())=eh (l.set i x):=by unfold eh;rw[List.map_set]
 rw[<-e]at b
 refine eO (T:=143) (ls:=dW) (i:=i) h .head om λa f=>?_
 exact D1 (T:=143) (ls:=dW) (i:=i) (j:=0) (y:=((x.toNat:Int),())) h .head f om rfl b
theorem LH {n:Nat} (h:ab E w L) (hn:n<18446744073709551616) (j:∀f,ab E f L->k (B (dR 8 n)) f):CL 59 #[.int .u64 (n:Int)] an k w:=by
 refine agb ?_
 refine mk8 h λg w h=>?_
 have e:=fR h dE
 have m:g.len=8:=by rw[e];rfl
 refine cy (cf:=λs=>s) 8 om (λi _ w=>ab E w (OS 143 dW g (eh ((dR 8 n).take i++List.replicate (8-i) 0))::L)) rfl h ?_ ?_
 .rintro next _ w i b rfl h a
  have o:w6 (8*w6 (7-(i:Int)))=((8*(7-i):Nat):Int):=by
   have p:w6 (7-(i:Int))=((7-i:Nat):Int):=by rw[bQ om];omega
   rw[p,bQ om];omega
  rw[o]
  refine jF (x:=((n/2^(8*(7-i)):Nat):Int)) (D0 _ _ n (8*(7-i)) .i64 om) ?_
  have r:(dR 8 n)[i]'(by rw[jL];exact b)=u8 ((n/2^(8*(7-i)):Nat):Int):=by
   have:=zx 8 n i b
   rw[fA (by rw[jL];exact b)]at this
   exact ja this
  rw[ny]
  generalize u8 ((n/2^(8*(7-i)):Nat):Int)=x at*
  have t:((dR 8 n).take i++List.replicate (8-i) 0).set i x=(dR 8 n).take (i+1)++List.replicate (8-(i+1)) 0:=by
   rw[cR (by rw[jL];exact b),r]
   have u:List.replicate (8-i) (0:UInt8)=0::List.replicate (8-(i+1)) 0:=by rw[show 8-i=(8-(i+1))+1 by omega];rfl
   have c:((dR 8 n).take i).length=i:=by rw[cn,jL];omega
   rw[u,vL _ _ (by rw[c];exact cV _),c,xz,Em,cP]
   rfl
  have d:((dR 8 n).take i++List.replicate (8-i) 0).length=8:=by simp[jL];omega
  rw[<-t]at a
  generalize (dR 8 n).take i++List.replicate (8-i) 0=v at*
  refine ag3 h b d λw h=>?_
  exact a _ _ (by rw[bQ om];omega) h
 .rintro _ w h
  rw[iP (by rw[jL];omega),xz,List.replicate_zero,iO]at h
  refine oU (l:=dR 8 n) h pK ?_
  exact j _ (h.sub sS)
theorem QT (b:Nat) (g:b<18446744073709551616):decide (IntKind.u64.wrap ((BitVec.ofInt IntKind.u64.bits (b:Int)&&&BitVec.ofInt IntKind.u64.bits 9223372036854775808).toNat:Int)>0)=decide (9223372036854775808<=b):=by
 have e:(BitVec.ofInt IntKind.u64.bits (b:Int)&&&BitVec.ofInt IntKind.u64.bits 9223372036854775808).toNat=if 9223372036854775808<=b then 9223372036854775808 else 0:=by
  have d:(BitVec.ofInt IntKind.u64.bits (b:Int)).toNat=b:=by
   simp[IntKind.bits];omega
  have f:(BitVec.ofInt IntKind.u64.bits 9223372036854775808).toNat=2^63:=dE
  rw[vT,d,f]
  by_cases h:9223372036854775808<=b
  .rw[ak h]
   have c:b.testBit 63=true:=by
    rw[RJ]
    simp;omega
   show b&&&2^63=2^63
   refine Bu λi=>?_
   rw[Jk,yZ]
   by_cases a:63=i
   .subst a;simp[c]
   .simp[a]
  .rw[ai h]
   have c:b.testBit 63=false:=by
    rw[RJ]
    simp;omega
   refine Bu λi=>?_
   rw[Jk,yZ]
   by_cases a:63=i
   .subst a;simp[c]
   .simp[a]
 rw[e]
 by_cases h:9223372036854775808<=b
 .rw[ak h];simp[h];decide
 .rw[ai h];simp[h];decide
theorem QU (b:Nat) (a:b<18446744073709551616):IntKind.u64.wrap ((BitVec.ofInt IntKind.u64.bits (if IntKind.u64.signed then-1 else IntKind.u64.max)^^^BitVec.ofInt IntKind.u64.bits (b:Int)).toNat:Int)=((18446744073709551615-b:Nat):Int):=by
 have c:(BitVec.ofInt 64 (b:Int))=BitVec.ofNat 64 b:=sI
 have d:(BitVec.ofInt IntKind.u64.bits (if IntKind.u64.signed then-1 else IntKind.u64.max))=BitVec.allOnes 64:=by rfl
 rw[d]
 show IntKind.u64.wrap ((BitVec.allOnes 64^^^BitVec.ofInt 64 (b:Int)).toNat:Int)=_
 rw[c,<-BitVec.not_def,Ex,gW,hU a]
 rw[yY _ om]
theorem aij (b:Nat) (d:b<9223372036854775808):IntKind.u64.wrap ((BitVec.ofInt IntKind.u64.bits (b:Int)|||BitVec.ofInt IntKind.u64.bits 9223372036854775808).toNat:Int)=((b+9223372036854775808:Nat):Int):=by
 have a:(BitVec.ofInt IntKind.u64.bits (b:Int)).toNat=b:=by
  simp[IntKind.bits];omega
 have c:(BitVec.ofInt IntKind.u64.bits 9223372036854775808).toNat=2^63*1:=dE
 rw[Ey,a,c,Jl,<-RK om 1]
 rw[yY _ om]
 omega
theorem Rj (h:-9223372036854775808<=n/\n<=9223372036854775807):IntKind.u64.wrap ((BitVec.ofInt IntKind.u64.bits (IntKind.u64.wrap n)^^^BitVec.ofInt IntKind.u64.bits 9223372036854775808).toNat:Int)=(rn n:Int):=by
 have b:∀m:Int,IntKind.u64.wrap m=m%18446744073709551616:=λm=>rfl
 have d:∀a:Nat,a<2^63->a^^^2^63=a+2^63:=λa f=>by
  have j:a^^^2^63=a|||2^63:=Bu λi=>by
   rw[Jm,Nat.testBit_or,yZ]
   by_cases g:63=i
   .subst g;rw[Nat.testBit_lt_two_pow f];rfl
   .simp[g]
  have:=RK f 1
  rw[py]at this
  rw[j,Jl,<-this,Eg]
 have k:(BitVec.ofInt IntKind.u64.bits 9223372036854775808).toNat=2^63:=dE
 have l:(2:Nat)^63=9223372036854775808:=dE
 rw[Bv,k]
 unfold rn
 by_cases o:0<=n
 .have e:(BitVec.ofInt IntKind.u64.bits (IntKind.u64.wrap n)).toNat=n.toNat:=by
    rw[b,show n%18446744073709551616=((n.toNat:Nat):Int)by omega]
    show(BitVec.ofInt 64 ((n.toNat:Nat):Int)).toNat=_
    rw[iQ,gW];omega
  rw[e,d _ om,b];omega
 .have e:(BitVec.ofInt IntKind.u64.bits (IntKind.u64.wrap n)).toNat=(n+9223372036854775808).toNat+2^63:=by
    rw[b,show n%18446744073709551616=(((n+9223372036854775808).toNat+2^63:Nat):Int)by omega]
    show(BitVec.ofInt 64 (((n+9223372036854775808).toNat+2^63:Nat):Int)).toNat=_
    rw[iQ,gW];omega
  have c:(n+9223372036854775808).toNat<2^63:=om
  rw[e,<-d _ c,y0,Nat.xor_self,Nat.xor_zero,b];omega
theorem QP (h:-9223372036854775808<=n/\n<=9223372036854775807):rn n<18446744073709551616:=by unfold rn;omega
theorem mJ {k:Int->Pr} (hi:i<l.length) (b:k ((l[i].toNat:Nat):Int) w):fU prog (vN (Instr.index 9 (.string (B l)) (iv (i:Int)))) (.one (.leaf (.int .u8))) k w:=by
 refine⟨_,λw=>eE ?_,b⟩
 unfold Instr.index
 rw[da (a:=(IntKind.i64,(i:Int))) (w':=w) rfl]
 simp only
 rw[ke (show aQ prog (underlying 9)=some .string from by kernel_rfl)]
 simp only
 have e:(if(0:Int)<=(i:Int)then(B l)[(i:Int).toNat]? else none)=some l[i]:=by
  rw[ak om,kW]
  have c:(B l)[i]?=if h:i<(B l).size then some ((B l)[i]'h)else none:=rfl
  rw[c,Bt (by rw[cJ];exact hi)]
  rfl
 rw[e]
 rfl
theorem FX {b:Nat} {k:Int->Pr} (h:ab E w L) (d:b<18446744073709551616) (e:∀f,ab E f L->k ((pv b:Nat):Int) f):CL 60 #[.int .u64 (b:Int)] (.one (.leaf (.int .u64))) k w:=by
 refine age ?_
 rw[QT b d]
 refine ax (λa=>?_) (λa=>?_)
 .rw[QU b d]
  refine fin (e _ h) ?_
  unfold pv;rw[ak (lS a)]
 .have c:=pB a
  rw[aij b om]
  refine fin (e _ h) ?_
  unfold pv;rw[ai c]
theorem FY (h:ab E w L) (z:l.length<=100000000) (r:∀p,ab E p L->k (B (rY l)) p):CL 61 #[.string (B l)] an k w:=by
 refine agf ?_
 rw[cJ,bQ om]
 refine mk0 h om om λA w h=>?_
 have c:∀m:List UInt8,(m.flatMap λb=>if b=0 then[0,255]else[b]).length<=2*m.length:=by
  intro m
  induction m with
  |nil=>exact cV _
  |cons b m C=>
   rw[fc,aU,db]
   have:(if b=0 then[(0:UInt8),255]else[b]).length<=2:=by split<;>simp
   omega
 refine cy (S:=Sl×Int) (cf:=λs=>s.2) l.length rfl (λi s w=>ab E w (OS 143 dW s.1 (eh ((l.take i).flatMap λb=>if b=0 then[0,255]else[b]))::L)) rfl h ?_ ?_
 .rintro next ⟨o,_⟩ w i g rfl h a
  rw[cR g,gM]at a
  have d:=c (l.take i)
  rw[cn]at d
  generalize (l.take i).flatMap (λb=>if b=0 then[0,255]else[b])=pre at*
  have t:[l[i]].flatMap (λb=>if b=0 then[(0:UInt8),255]else[b])=if l[i]=0 then[0,255]else[l[i]]:=sI
  rw[t]at a
  refine br (λo w=>ab E w (OS 143 dW o (eh (pre++if l[i]=0 then[0,255]else[l[i]]))::L)) (λo w h=>?_) λJ f=>?_
  .exact .go λ_=>a _ _ (bV g om) h
  refine mJ g ?_
  refine ax (λj=>?_) (λj=>?_)
  .have n:l[i]=0:=UInt8.toNat_inj.1 (by have:=ek j;simpa using this)
   rw[ak n]at f
   exact E6 (m:=[0,255]) h pK (by simp;omega) λu w h=>f _ _ h
  .have n:¬l[i]=0:=λe=>ei j (by rw[e];rfl)
   rw[ai n]at f
   refine mJ g ?_
   refine bJ (ls:=dW) (y:=(((l[i].toNat:Nat):Int),())) h λv w _ h=>?_
   refine eA (xs:=eh pre) h (by simp[eh];omega) λD w h=>?_
   have x:eh (pre++[l[i]])=eh pre++[(((l[i].toNat:Nat):Int),())]:=by unfold eh;rw[fe];rfl
   rw[x]at f
   exact f _ _ h
 .rintro⟨o,_⟩ w h
  rw[cB]at h
  have d:=c l
  refine E6 (m:=[0,1]) h pK (by simp only[db,mO];omega) λu w h=>?_
  refine oU h pK ?_
  exact r _ (h.sub sS)
theorem UC {k:Bool->Pr} (h:ab E w (ae F::L)) (hs:FL F aP s r) (hr:dk r) (f:∀g,ab E g (ae F::L)->k (n8 r) g):CL 23 #[sv s] aw k w:=by
 refine aeh ?_
 refine cy (cf:=λs=>s) r.length (by rw[hs.2]) (λi _ w=>ab E w (ae F::L)/\(r.take i).all dM=true) rfl ⟨h,rfl⟩ ?_ ?_
 .rintro next _ w i c rfl ⟨h,d⟩ b
  have j:=(hr.wv _ (cp c)).b1.1
  have l:=hr.len
  refine ix hs c λa _=>?_
  repeat (first|refine gA ?_|(refine gB ?_;clear h;intro w h)|(refine gC ?_;clear h;intro b0 w h))
  refine rR h (λw h=>?_) j
  refine ax (λe=>?_) (λe=>?_)
  .refine fin (f _ dD) ?_
   have:r.all dM=false:=List.all_eq_false.2 ⟨_,cp c,by simpa using e⟩
   unfold n8;rw[this];rfl
  .refine b _ _ (bV c om) ⟨dD,?_⟩
   rw[cR c,ou,d];simpa using e
 .rintro _ w ⟨h,d⟩
  refine fin (f _ h) ?_
  rw[cB]at d
  unfold n8;rw[d,hI,hs.2,gb];simp only[bX];omega
theorem zJ {b:Nat} (h:ab E w (lc b 27 (ay aP v)::L)) (hv:WV v) (f:l.length<=1000000000) (c:∀a,ab E a (lc b 27 (ay aP v)::L)->k (B (u8 (v.1+1)::l)) a):
  CL 58 #[.string (B l),pa ⟨b,0,none⟩] an k w:=by
 refine aga ?_
 refine ld (x:=v.1) h ?_
 have e:u8 (w6 (v.1+1))=u8 (v.1+1):=by
  have d:w6 (v.1+1)=(v.1+1+9223372036854775808)%18446744073709551616-9223372036854775808:=IntKind.wrap_i64 _
  unfold u8;rw[d];congr 2;omega
 refine bJ (ls:=dW) (y:=(((u8 (v.1+1)).toNat:Int),())) h (λt w _ h=>?_) (by rw[ny,e];rfl)
 refine oU (l:=[u8 (v.1+1)]) h pK ?_
 refine cc (by simp only[m8];omega) ?_
 exact c _ (h.sub sS)
theorem AK (h:dM v=true):v.2.2.2.1.data.toList.length<=4096:=by
 unfold dM at h
 have a:v.2.2.2.1.data.toList.length=v.2.2.2.1.size:=Bj
 split at h
 .simp only[bp]at h
  have:=cT h.2
  omega
 .cases h
theorem UM (h:ab E w L) (hv:WV v) (hr:dM v=true) (a:∀o,ab E o L->k (B (m4 v)) o):CL 24 #[ag aP v] an k w:=by
 refine aeq ?_
 refine bx h λr w h=>?_
 refine ld (x:=v.1) h ?_
 unfold m4 at a
 refine ax (λf=>?_) (λf=>?_)
 .rw[ak (ek f)]at a
  refine ld (x:=v.2.1) h ?_
  refine bJ (ls:=dW) (y:=(((u8 v.2.1).toNat:Int),())) h (λt w _ h=>?_) (by rw[ny];rfl)
  refine oU (l:=[u8 v.2.1]) h pK ?_
  refine lH ?_
  exact zJ (h.pick pK) hv sI λw h=>a _ (h.sub sS)
 rw[ai (ei f)]at a
 refine ax (λg=>?_) (λg=>?_)
 .rw[ak (ek g)]at a
  refine ld (x:=v.2.1) h ?_
  rw[Rj hv.n1]
  refine LH h (QP hv.n1) λw h=>?_
  refine lH ?_
  exact zJ (h.pick pK) hv (by rw[jL];omega) λw h=>a _ (h.sub sS)
 rw[ai (ei g)]at a
 refine ax (λi=>?_) (λi=>?_)
 .rw[ak (ek i)]at a
  refine ld (x:=v.2.2.1) h ?_
  obtain⟨b,u⟩:=Bn hv.b1.1
  have e:b<18446744073709551616:=by have:=hv.b1.2;omega
  have j:v.2.2.1.toNat=b:=om
  rw[j]at a
  rw[u]
  refine FX h e λw h=>?_
  refine LH h (D5 e) λw h=>?_
  refine lH ?_
  exact zJ (h.pick pK) hv (by rw[jL];omega) λw h=>a _ (h.sub sS)
 rw[ai (ei i)]at a
 refine br (λ(c:Bool) w=>c=decide (v.1=4\/v.1=5)/\ab E w (lc r 27 (ay aP v)::L)) (λc w h=>?_) λJ p=>?_
 .obtain⟨rfl,h⟩:=h
  refine ao λ_=>?_
  refine ax (λd=>?_) (λd=>?_)
  .rw[ak (cT d)]at a
   refine ld (x:=v.2.2.2.1) h ?_
   have z:=AK hr
   rw[<-rI v.2.2.2.1]
   refine FY h om λw h=>?_
   refine lH ?_
   refine zJ (h.pick pK) hv ?_ λw h=>a _ (h.sub sS)
   unfold rY
   have n:∀m:List UInt8,(m.flatMap λb=>if b=0 then[0,255]else[b]).length<=2*m.length:=by
    intro m
    induction m with
    |nil=>exact cV _
    |cons b m A=>
     rw[fc,aU,db]
     have:(if b=0 then[(0:UInt8),255]else[b]).length<=2:=by split<;>simp
     omega
   have:=n v.2.2.2.1.data.toList
   rw[aU]
   simp only[db,mO];omega
  .rw[ai (cF d)]at a
   refine lH ?_
   rw[<-Sm]
   exact zJ h hv sI λw h=>a _ (h.sub sS)
 .refine ax (λd=>?_) (λd=>?_)
  .exact p _ _ ⟨by have:=ek d;simp[this],h⟩
  .exact p _ _ ⟨by have:=ei d;rw[gb];simp[this],h⟩
theorem lB {α β:Type} {f:α->List β} {m:Nat}:∀{l:List α},(∀x∈l,(f x).length<=m)->(l.flatMap f).length<=m*l.length
 |[],_=>by simp
 |x::l,h=>by
  rw[fc,aU,db,Jn]
  have:=h x eo
  have:=lB (l:=l) (f:=f) (m:=m) λy a=>h y (dH _ a)
  omega
theorem HM (hr:dM v=true):(m4 v).length<=9000:=by
 have a:=AK hr
 unfold m4
 rw[db]
 split
 .simp
 split
 .rw[jL];omega
 split
 .rw[jL];omega
 split
 .unfold rY
  have:=lB (f:=λb:UInt8=>if b=0 then[(0:UInt8),255]else[b]) (m:=2) (l:=v.2.2.2.1.data.toList) λb _=>by
   split<;>simp
  rw[aU]
  simp only[db,mO];omega
 .simp
theorem c6 (h:ab E w (ae F::L)) (hs:FL F aP s r) (hr:dk r) (n:∀t,ab E t (ae F::L)->k (B (keyOf r)) t):CL 6 #[sv s] an k w:=by
 refine rd6 ?_
 have z:=hr.len
 refine UC h hs hr λw h=>?_
 unfold keyOf at n
 refine ax (λp=>?_) (λp=>?_)
 .rw[nT p]at n
  exact n _ h
 have d:=nF p
 rw[d,ak rfl]at n
 have g:∀v∈r,dM v=true:=by
  unfold n8 at d
  simp only[bp,pD]at d
  exact d.1
 have e:∀i,((r.take i).flatMap m4).length<=9000*268435456:=λi=>by
  have:=lB (f:=m4) (m:=9000) (l:=r.take i) λv y=>HM (g v (mj y))
  rw[cn]at this
  omega
 refine cy (S:=ByteArray×Int) (cf:=λs=>s.2) r.length (by rw[hs.2]) (λi s w=>s.1=B ((r.take i).flatMap m4)/\ab E w (ae F::L)) rfl ⟨rfl,h⟩ ?_ ?_
 .rintro next ⟨x,_⟩ w i j rfl ⟨o,h⟩ c
  simp only at o
  subst o
  have u:=e i
  have A:=HM (g _ (cp j))
  rw[cR j,gM]at c
  refine ix hs j λa _=>?_
  repeat (first|refine gA ?_|(refine gB ?_;clear h;intro w h)|(refine gC ?_;clear h;intro b0 w h))
  refine UM h (hr.wv _ (cp j)) (g _ (cp j)) λw h=>?_
  refine cc om ?_
  refine c _ _ (bV j om) ⟨?_,dD⟩
  simp
 .rintro⟨x,_⟩ w ⟨o,h⟩
  simp only at o
  subst o
  have u:=e r.length
  rw[cB]at u⊢
  refine cc (b:=[0]) (by simp only[m8];omega) ?_
  exact n _ h
theorem Vj (h:ab E w L) (hv:WV v) (g:∀t,ab E t L->k (B (fP v)) t):CL 315 #[ag aP v] an k w:=by
 refine afG ?_
 refine bx h λl w h=>?_
 refine bN h ?_
 have u:=hv.b1
 refine rR h (λw h=>?_) u.1
 unfold fP at g
 refine ax (λe=>?_) (λe=>?_)
 .rw[nT e]at g
  exact g _ (h.sub sS)
 have z:=nF e
 have H:=AK z
 rw[z,ak rfl]at g
 clear e
 refine ld (x:=v.1) h ?_
 refine zI h λw h=>?_
 rw[Iz]
 refine br (λ(s:ByteArray) w=>s=B (u8 v.1::(if v.1=1 then[u8 v.2.1]else if v.1=2 then aH (zz v.2.1)else if v.1=3 then dR 8 v.2.2.1.toNat else if v.1=4\/v.1=5 then cz v.2.2.2.1.data.toList else[]))/\ab E w (lc l 27 (ay aP v)::L)) (λs w h=>?_) λJ a=>?_
 .obtain⟨rfl,h⟩:=h
  refine ao λ_=>?_
  exact g _ (h.sub sS)
 refine ld (x:=v.1) h ?_
 refine ax (λe=>?_) (λe=>?_)
 .rw[ak (ek e)]at a
  refine ld (x:=v.2.1) h ?_
  refine zI h λw h=>?_
  rw[Iz]
  refine cc sI ?_
  exact a _ _ ⟨rfl,h⟩
 rw[ai (ei e)]at a
 refine ax (λm=>?_) (λm=>?_)
 .rw[ak (ek m)]at a
  refine ld (x:=v.2.1) h ?_
  refine Vo h hv.n1 λw h=>?_
  have:=cD (vY hv.n1)
  refine cc (by simp only[m8];omega) ?_
  exact a _ _ ⟨rfl,h⟩
 rw[ai (ei m)]at a
 refine ax (λo=>?_) (λo=>?_)
 .rw[ak (ek o)]at a
  obtain⟨b,p⟩:=Bn u.1
  have r:v.2.2.1.toNat=b:=om
  rw[r]at a
  refine gD (S:=ByteArray×Int) 8 (λi s w=>s.1=B (u8 v.1::(dR 8 b).take i)/\s.2=7-(i:Int)/\ab E w (lc l 27 (ay aP v)::L)) ⟨rfl,rfl,h⟩ ?_
  rintro next ⟨x,y⟩ w i I ⟨A,C,h⟩ f
  simp only at A C
  subst A;subst C
  refine ao λ_=>?_
  refine ax (λd=>?_) (λd=>?_)
  .have cH:i<8:=by have:=cT d;simp only at this;omega
   refine ld (x:=v.2.2.1) h ?_
   rw[p]
   have D:w6 (8*(7-(i:Int)))=((8*(7-i):Nat):Int):=by rw[bQ om];omega
   show(VL (cL .shr 25 (.tmp 37) (.tmp 39) (.int .u64 (b:Int)) (iv (w6 (8*(7-(i:Int)))))) (.one (.leaf (.int .u64))) _) w
   rw[D]
   refine jF (x:=((b/2^(8*(7-i)):Nat):Int)) (D0 _ _ b (8*(7-i)) .i64 om) ?_
   refine zI h λw h=>?_
   refine cc (by simp[jL];omega) ?_
   refine f cH _ _ ⟨?_,?_,h⟩
   .have G:=zx 8 b i cH
    rw[RB,G];rfl
   .simp only;rw[bQ om];omega
  .have cH:i=8:=by have:=cF d;simp only at this;omega
   subst cH
   refine a _ _ ⟨?_,h⟩
   rw[iP (by rw[jL];omega)]
 rw[ai (ei o)]at a
 refine br (λ(c:Bool) w=>c=decide (v.1=4\/v.1=5)/\ab E w (lc l 27 (ay aP v)::L)) (λc w h=>?_) λK j=>?_
 .obtain⟨rfl,h⟩:=h
  refine ao λ_=>?_
  refine ax (λd=>?_) (λd=>?_)
  .rw[ak (cT d)]at a
   refine ld (x:=v.2.2.2.1) h ?_
   rw[<-rI v.2.2.2.1]
   refine th h om λw h=>?_
   have:=cD (n:=v.2.2.2.1.data.toList.length) om
   refine cc (by unfold cz;rw[aU,m8];omega) ?_
   exact a _ _ ⟨rfl,h⟩
  .rw[ai (cF d)]at a
   exact a _ _ ⟨rfl,h⟩
 .refine ax (λd=>?_) (λd=>?_)
  .exact j _ _ ⟨by have:=ek d;simp[this],h⟩
  .exact j _ _ ⟨by have:=ei d;rw[gb];simp[this],h⟩
theorem Lq (h:ab E w (ae F::L)) (hs:FL F aP s r) (hr:dk r) (p:∀t,ab E t (ae F::L)->k (B (jD r)) t):CL 293 #[sv s] an k w:=by
 refine afl ?_
 have z:=hr.len
 have u:=hs.2
 rw[u,ug om]
 refine nf h om λw h=>?_
 have y:=cD (n:=r.length) om
 have d:∀i,((r.take i).flatMap fP).length<=5000*268435456:=λi=>by
  have:=lB (f:=fP) (m:=5000) (l:=r.take i) λv e=>Bc (hr.wv v (mj e))
  rw[cn]at this
  omega
 refine cy (S:=ByteArray×Int) (cf:=λs=>s.2) r.length rfl (λi s w=>s.1=B (aH r.length++(r.take i).flatMap fP)/\(r.take i).all dM=true/\ab E w (ae F::L)) rfl ⟨sI,rfl,h⟩ ?_ ?_
 .rintro next ⟨x,_⟩ w i c rfl ⟨g,j,h⟩ b
  simp only at g
  subst g
  have A:=d i
  have e:=hr.wv _ (cp c)
  have C:=Bc e
  refine ix hs c λa _=>?_
  repeat (first|refine gA ?_|(refine gB ?_;clear h;intro w h)|(refine gC ?_;clear h;intro b0 w h))
  refine rR h (λw h=>?_) e.b1.1
  refine ax (λo=>?_) (λo=>?_)
  .refine fin (p _ dD) ?_
   have:r.all dM=false:=List.all_eq_false.2 ⟨_,cp c,by simpa using o⟩
   unfold jD;rw[this];rfl
  .repeat (first|refine gA ?_|(refine gB ?_;clear h;intro w h)|(refine gC ?_;clear h;intro b0 w h))
   refine Vj h e λw h=>?_
   refine cc (by rw[aU];omega) ?_
   refine b _ _ (bV c om) ⟨?_,?_,dD⟩
   .rw[cR c,gM];simp
   .rw[cR c,ou,j];simpa using o
 .rintro⟨x,_⟩ w ⟨g,j,h⟩
  simp only at g
  subst g
  refine fin (p _ h) ?_
  rw[cB]at j⊢
  unfold jD;rw[j,ak rfl]
end Go.Proofs.YtelhccfmfnaegaaGreat
