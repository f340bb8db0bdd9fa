/- Lemmas for topAudits_holds. No conditions. -/
import Derived.Test.YtelhccfmfnaegaaGreatAk
set_option linter.unusedSectionVars false
set_option linter.unusedVariables false
set_option linter.unusedSimpArgs false
set_option linter.defProp false
set_option maxRecDepth 10000
namespace Go.Proofs.YtelhccfmfnaegaaGreat
open Go Go.Sh
variable {α:Type} {R:α->α->Prop} {f:α->Bool} {x:α} {out:List α} {s:Sp} {ps:List Pc} {e:Int} {a b:Sp} {p q:Pc} {r:Row} {u v:Vn} {pre l:List Vn} {t h:Int} {A C:di} {i:Nat} {D S:di} {c:qF}
theorem Of (f:α->Bool) (x:α) (c:List α):∃A C,c=A++C/\nk f x c=A++x::C/\(∀b∈C,f b=true)/\(∀a,A.getLast?=some a->f a=false):=by
 have e:c=(c.reverse.dropWhile f).reverse++(c.reverse.takeWhile f).reverse:=by
  rw[<-Eu,R9,List.reverse_reverse]
 refine⟨(c.reverse.dropWhile f).reverse,(c.reverse.takeWhile f).reverse,e,?_,?_,?_⟩
 .have i:c.length-(c.reverse.takeWhile f).length=(c.reverse.dropWhile f).reverse.length:=by
    have:=gU List.length e
    rw[aU,Ev,Ev]at this
    rw[Ev]
    omega
  unfold nk
  simp only
  rw[i]
  conv=>lhs;rw[e]
  rw[Ew sI,Jz sI]
 .intro b d
  rw[List.mem_reverse]at d
  have:=Sa (p:=f) (l:=c.reverse)
  exact List.all_eq_true.1 this b d
 .intro a g
  rw[List.getLast?_reverse]at g
  have:=Sb f c.reverse
  rw[g]at this
  simpa using this
theorem aao (f:α->Bool) (x:α) (a:List α):(nk f x a).Perm (x::a):=by
 obtain⟨A,C,b,c,_⟩:=Of f x a
 rw[c,b]
 exact JA
theorem aap (k:∀a b c,R a b->R b c->R a c) (o:∀y,f y=true->R x y) (p:∀y,f y=false->R y x) (m:out.Pairwise R):(nk f x out).Pairwise R:=by
 obtain⟨A,C,r,t,u,v⟩:=Of f x out
 rw[t]
 rw[r]at m
 obtain⟨l,D,F⟩:=List.pairwise_append.1 m
 have G:∀a∈A,R a x:=by
  intro a d
  cases j:A.getLast? with
  |none=>rw[List.getLast?_eq_none_iff.1 j]at d;cases d
  |some z=>
   have n:=p z (v z j)
   have g:A≠[]:=λe=>by rw[e]at d;cases d
   have H:A=A.dropLast++[z]:=by
    rw[y6 g]at j
    conv=>lhs;rw[<-Bx g]
    rw[ja j]
   rw[H]at d l
   rcases List.mem_append.1 d with d|d
   .exact k _ _ _ ((List.pairwise_append.1 l).2.2 a d z sI) n
   .rw[fE]at d;rw[d];exact n
 refine List.pairwise_append.2 ⟨l,List.pairwise_cons.2 ⟨λb i=>o b (u b i),D⟩,λa d b i=>?_⟩
 rcases List.mem_cons.1 i with rfl|i
 .exact G a d
 .exact F a d b i
theorem Hu {α:Type} (g:α->α->Bool):∀(l a:List α),(l.foldl (λo v=>nk (g v) v o) a).Perm (a++l)
 |[],a=>by simp
 |v::l,a=>by
  rw[kV]
  refine(Hu g l _).trans<|((aao (g v) v a).append_right l).trans ?_
  rw[nA]
  exact List.perm_middle.symm
theorem Hv {α:Type} {R:α->α->Prop} {g:α->α->Bool} (e:∀a b c,R a b->R b c->R a c) (f:∀x y,g x y=true->R x y) (i:∀x y,g x y=false->R y x):∀(l d:List α),d.Pairwise R->(l.foldl (λo v=>nk (g v) v o) d).Pairwise R
 |[],d,h=>h
 |v::l,d,h=>by
  rw[kV]
  exact Hv e f i l _ (aap e (f v) (i v) h)
abbrev xt (p:Pc):Sp:=(p.1,p.2.1,())
def apart (a b:Pc):Prop:=a.2.1<=b.1\/b.2.1<=a.1
theorem sy:∀{ps:List Pc} {e:Int},eG e ps=true↔(∀p∈ps,cA (xt p)=true/\iW p.2.2=true/\e<=p.1)/\ps.Pairwise (λa b=>a.2.1<=b.1)
 |[],e=>by simp[eG]
 |p::ps,e=>by
  have l:=sy (ps:=ps) (e:=p.2.1)
  rw[show eG e (p::ps)=(cA (p.1,p.2.1,())&&iW p.2.2&&decide (e<=p.1)&&eG p.2.1 ps)from rfl]
  simp only[bp,bX,l,nz,Sd,Se]
  constructor
  .rintro⟨⟨⟨f,g⟩,i⟩,d,j⟩
   refine⟨⟨⟨f,g,i⟩,λq c=>⟨(d q c).1,(d q c).2.1,?_⟩⟩,λq c=>(d q c).2.2,j⟩
   have k:=(d q c).2.2
   unfold cA at f
   simp only[bp,bX]at f
   omega
  .rintro⟨⟨⟨f,g,i⟩,d⟩,j,k⟩
   exact⟨⟨⟨f,g⟩,i⟩,λq c=>⟨(d q c).1,(d q c).2.1,j q c⟩,k⟩
theorem fO:cA s=true↔0<=s.1/\s.1<s.2.1/\s.2.1<=1099511627776:=by
 unfold cA
 simp only[bp,bX]
 constructor
 .rintro⟨⟨a,b⟩,c⟩;exact⟨a,b,c⟩
 .rintro⟨a,b,c⟩;exact⟨⟨a,b⟩,c⟩
theorem abU (h:eG e ps=true):ps.Nodup:=by
 obtain⟨c,d⟩:=sy.1 h
 refine(d.imp_of_mem λ{a b} f i g=>?_)
 rintro rfl
 have:=fO.1 (c a f).1
 simp only at this
 omega
theorem PD {α:Type} {R:α->α->Prop}:∀{l:List α},l.Pairwise R->∀a∈l,∀b∈l,a=b\/R a b\/R b a
 |[],_,a,c,_,_=>by cases c
 |x::l,h,a,c,b,d=>by
  obtain⟨f,g⟩:=List.pairwise_cons.1 h
  rcases List.mem_cons.1 c with rfl|c
  .rcases List.mem_cons.1 d with rfl|d
   .exact .inl rfl
   .exact .inr (.inl (f b d))
  .rcases List.mem_cons.1 d with e|d
   .exact .inr (.inr (by rw[e];exact f a c))
   .exact PD g a c b d
theorem qj:pr a b=true↔cA a=true/\cA b=true/\a.1<b.2.1/\b.1<a.2.1:=by
 unfold pr
 simp only[bp]
 constructor
 .rintro⟨⟨d,e⟩,i⟩
  have f:=fO.1 d
  have g:=fO.1 e
  have c:=fO.1 i
  unfold nt at c
  simp only at c
  refine⟨d,e,?_,?_⟩
  .have:=c.2.1;split at this<;>split at this<;>omega
  .have:=c.2.1;split at this<;>split at this<;>omega
 .rintro⟨d,e,i,j⟩
  have f:=fO.1 d
  have g:=fO.1 e
  refine⟨⟨d,e⟩,fO.2 ?_⟩
  unfold nt
  simp only
  refine⟨?_,?_,?_⟩<;>split<;>(try split)<;>omega
theorem Cy (i:cA (xt p)=true) (hs:cA s=true) (h:q∈lA s p):cA (xt q)=true/\p.1<=q.1/\q.2.1<=p.2.1/\(q.2.1<=s.1\/s.2.1<=q.1)/\q.2.2=p.2.2:=by
 obtain⟨c,a,rfl⟩:=List.mem_map.1 h
 have f:=fO.1 i
 have j:=fO.1 hs
 simp only at f
 unfold rh at a
 split at a
 .rename_i d
  obtain⟨_,_,k,l⟩:=qj.1 d
  simp only at k l
  obtain⟨a,e⟩:=List.mem_filter.1 a
  have b:=fO.1 e
  refine⟨e,?_⟩
  unfold nt at a
  simp only[nz,sU,BA]at a
  rcases a with rfl|rfl
  .simp only at b⊢
   split at b<;>rename_i g<;>simp only[g,gr,fF]<;>(refine⟨om,om,om,trivial⟩)
  .simp only at b⊢
   split at b<;>rename_i g<;>simp only[g,gr,fF]<;>(refine⟨om,om,om,trivial⟩)
 .rename_i d
  obtain⟨a,e⟩:=List.mem_filter.1 a
  rw[fE]at a
  subst a
  refine⟨e,mP _,mP _,?_,rfl⟩
  simp only
  rw[qj]at d
  simp only[i,hs,sT]at d
  omega
theorem Wu (d:cA (xt p)=true) (hs:cA s=true):(lA s p).Pairwise λa b=>a.2.1<=b.1:=by
 have c:=fO.1 d
 have e:=fO.1 hs
 simp only at c
 unfold lA rh
 split
 .rename_i f
  obtain⟨_,_,g,i⟩:=qj.1 f
  simp only at g i
  rw[BB]
  refine Sf _ ?_
  unfold nt
  simp only[Se,fE,forall_eq,sU,false_implies,implies_true,ze,sR]
  split<;>split<;>omega
 .rw[BB]
  exact Sf _ sI
theorem Wt (d:cA (xt p)=true) (hs:cA s=true):(lA s p).length<=2/\(¬(p.1<s.1/\s.2.1<p.2.1)->(lA s p).length<=1):=by
 have a:=fO.1 d
 have f:=fO.1 hs
 simp only at a
 unfold lA rh
 split
 .rename_i g
  obtain⟨_,_,i,j⟩:=qj.1 g
  simp only at i j
  rw[bW]
  refine⟨gV _ _,λk=>?_⟩
  have:cA (p.1,(nt (p.1,p.2.1,()) s).1,())=false\/cA ((nt (p.1,p.2.1,()) s).2.1,p.2.1,())=false:=by
   by_cases l:p.1<s.1
   .right
    rw[y7]
    intro b
    have:=fO.1 b
    unfold nt at this
    simp only at this
    have c:=this.2.1
    split at c<;>omega
   .left
    rw[y7]
    intro b
    have:=fO.1 b
    unfold nt at this
    simp only at this
    have c:=this.2.1
    split at c<;>omega
  simp only[jr,Bm]
  rcases this with e|e<;>rw[e]<;>simp only[kk,fF]<;>split<;>simp
 .rw[bW]
  refine⟨qw (gV _ _) sI,λ_=>gV _ _⟩
theorem Ml {s:Sp} (hs:cA s=true):∀{ps:List Pc},(∀p∈ps,cA (xt p)=true)->ps.Pairwise (λa b=>a.2.1<=b.1)->
  (ps.flatMap (lA s)).length<=ps.length+1/\((∀p∈ps,¬(p.1<s.1/\s.2.1<p.2.1))->(ps.flatMap (lA s)).length<=ps.length)
 |[],_,_=>by simp
 |p::ps,d,g=>by
  obtain⟨i,j⟩:=List.pairwise_cons.1 g
  obtain⟨m,e⟩:=Ml hs (λq c=>d q (dH _ c)) j
  obtain⟨c1,c2⟩:=Wt (d p eo) hs
  rw[fc,aU,db]
  have k:=fO.1 hs
  refine⟨?_,λf=>?_⟩
  .by_cases l:p.1<s.1/\s.2.1<p.2.1
   .have:=e λq c n=>by
      have:=i q c
      omega
    omega
   .have:=c2 l;omega
  .have:=c2 (f p eo)
   have:=e λq c=>f q (dH _ c)
   omega
theorem Mv (h:eG 0 ps=true):eG 0 (gG ps s)=true/\(gG ps s).length<=ps.length+1/\(cA s=true->∀q∈gG ps s,q.2.1<=s.1\/s.2.1<=q.1):=by
 obtain⟨e,g⟩:=sy.1 h
 unfold gG
 rw[h,hI]
 by_cases c:cA s=true
 .rw[ak c]
  refine⟨sy.2 ⟨λq f=>?_,?_⟩,(Ml c (λp d=>(e p d).1) g).1,λ_ q f=>?_⟩
  .obtain⟨p,d,f⟩:=List.mem_flatMap.1 f
   obtain⟨c1,c2,c3,o,c5⟩:=Cy (e p d).1 c f
   exact⟨c1,by rw[c5];exact(e p d).2.1,by have:=(fO.1 c1).1;exact this⟩
  .rw[List.pairwise_flatMap]
   refine⟨λp d=>Wu (e p d).1 c,g.imp_of_mem λ{a b} i j k x l y m=>?_⟩
   have r:=Cy (e a i).1 c l
   have t:=Cy (e b j).1 c m
   omega
  .obtain⟨p,d,f⟩:=List.mem_flatMap.1 f
   exact(Cy (e p d).1 c f).2.2.2.1
 .rw[ai c]
  exact⟨h,om,λn=>absurd n c⟩
theorem Iy {α:Type} (q:α->Bool):∀l:List α,l.take (l.takeWhile q).length=l.takeWhile q/\l.drop (l.takeWhile q).length=l.dropWhile q
 |[]=>⟨rfl,rfl⟩
 |a::l=>by
  rw[xC,RY]
  cases q a with
  |true=>exact⟨gU (a::·) (Iy q l).1,(Iy q l).2⟩
  |false=>exact⟨rfl,rfl⟩
theorem ab7 (h:eG 0 ps=true):eG 0 (ma ps s r)=true/\(ma ps s r).length<=ps.length+2:=by
 obtain⟨t,u,i⟩:=Mv h
 unfold ma
 rw[h,hI]
 by_cases e:(cA s&&iW r)=true
 .rw[ak e]
  rw[bp]at e
  obtain⟨e,v⟩:=e
  have i:=i e
  generalize gG ps s=D at*
  unfold gH
  obtain⟨x,y⟩:=Iy (λp:Pc=>decide (p.1<s.1)) D
  rw[x,y]
  have z:D=D.takeWhile (λp:Pc=>decide (p.1<s.1))++D.dropWhile (λp:Pc=>decide (p.1<s.1)):=(R9).symm
  have F:∀p∈D.takeWhile (λp:Pc=>decide (p.1<s.1)),p.1<s.1:=λp hp=>by
   have:=List.all_eq_true.1 (Sa) p hp
   simpa using this
  have G:∀a,(D.dropWhile (λp:Pc=>decide (p.1<s.1))).head?=some a->¬a.1<s.1:=λa f=>by
   have:=Sb (λp:Pc=>decide (p.1<s.1)) D
   rw[f]at this
   simpa using this
  generalize D.takeWhile (λp:Pc=>decide (p.1<s.1))=A at*
  generalize D.dropWhile (λp:Pc=>decide (p.1<s.1))=C at*
  subst z
  obtain⟨g,H⟩:=sy.1 t
  obtain⟨I,o,J⟩:=List.pairwise_append.1 H
  have j:=fO.1 e
  have k:∀a∈A,a.2.1<=s.1:=λa f=>by
   have K:=i a (uz _ f)
   have M:=F a f
   have l:=fO.1 (g a (uz _ f)).1
   simp only at l
   omega
  have m:∀b∈C,s.2.1<=b.1:=λb d=>by
   have K:=i b (BC _ d)
   have l:=fO.1 (g b (BC _ d)).1
   simp only at l
   have M:¬b.1<s.1:=by
    cases C with
    |nil=>cases d
    |cons c C=>
     have N:=G c rfl
     rcases List.mem_cons.1 d with rfl|n
     .exact N
     .have:=(List.pairwise_cons.1 o).1 b n
      have O:=fO.1 (g c (BC _ eo)).1
      simp only at O
      omega
   omega
  refine⟨sy.2 ⟨λp hp=>?_,List.pairwise_append.2 ⟨I,List.pairwise_cons.2 ⟨λb d=>m b d,o⟩,λa f b d=>?_⟩⟩,?_⟩
  .rcases List.mem_append.1 hp with hp|hp
   .exact g p (uz _ hp)
   .rcases List.mem_cons.1 hp with rfl|hp
    .exact⟨e,v,j.1⟩
    .exact g p (BC _ hp)
  .rcases List.mem_cons.1 d with rfl|d
   .exact k a f
   .exact J a f b d
  .rw[aU]at u⊢
   rw[db]
   omega
 .rw[ai e]
  exact⟨h,om⟩
def n0 (u v:Vn):Prop:=oO v u=false
theorem Oy:n0 u v↔u.1<v.1\/(u.1=v.1/\u.2.2.1<=v.2.2.1):=by
 unfold n0 oO
 by_cases h:v.1=u.1
 .rw[ak h,ml];omega
 .rw[ai h,ml];omega
theorem Oz (a b c:Vn) (d:n0 a b) (e:n0 b c):n0 a c:=by
 rw[Oy]at*;omega
theorem aaP (x y:Vn) (h:oO x y=true):n0 x y:=by
 rw[Oy]
 unfold oO at h
 by_cases e:x.1=y.1
 .rw[ak e,bX]at h;omega
 .rw[ai e,bX]at h;omega
def wI (v:Vn):Prop:=cA (iL v)=true/\cA (yP v)=true/\iW v.2.2.2.2=true
def qg (u v:Vn):Prop:=pP v u=false
theorem Ax:qg u v↔¬(pr (iL v) (iL u)=true/\pr (yP v) (yP u)=true):=by
 unfold qg pP
 rw[y7]
 simp only[uo,bp]
theorem Qu (h:pr a b=true):pr b a=true:=by
 rw[qj]at*
 exact⟨h.2.1,h.1,h.2.2.2,h.2.2.1⟩
theorem aa8 (h:qg u v):qg v u:=by
 rw[Ax]at*
 exact λa=>h ⟨Qu a.1,Qu a.2⟩
theorem XG:(cA (iL v)&&eG 0 [v.2.2])=true↔wI v:=by
 rw[bp,sy]
 simp only[fE,forall_eq,List.pairwise_singleton,sR]
 unfold wI
 constructor
 .rintro⟨a,b,c,_⟩;exact⟨a,b,c⟩
 .rintro⟨a,b,c⟩;exact⟨a,b,c,(fO.1 b).1⟩
theorem PC (g:∀a b c,R a b->R b c->R a c) {l:List α} {v:α} (i:l.Pairwise R):(l++[v]).Pairwise R↔∀u,l.getLast?=some u->R u v:=by
 rw[List.pairwise_append]
 constructor
 .rintro⟨_,_,h⟩ u m
  exact h u (ux m) v sI
 .refine λh=>⟨i,sI,λa d b j=>?_⟩
  rw[fE]at j
  subst j
  cases e:l.getLast? with
  |none=>rw[List.getLast?_eq_none_iff.1 e]at d;cases d
  |some z=>
   have k:=h z e
   have f:l≠[]:=λe=>by rw[e]at d;cases d
   have n:l=l.dropLast++[z]:=by
    rw[y6 f]at e
    conv=>lhs;rw[<-Bx f]
    rw[ja e]
   rw[n]at d i
   rcases List.mem_append.1 d with d|d
   .exact g _ _ _ ((List.pairwise_append.1 i).2.2 a d z sI) k
   .rw[fE]at d;rw[d];exact k
theorem abf (f:pre.Pairwise n0):qU pre v=true↔wI v/\(pre++[v]).Pairwise n0/\∀u∈pre,qg u v:=by
 rw[PC Oz f]
 unfold qU
 rw[bp,bp,XG]
 constructor
 .rintro⟨⟨e,b⟩,c⟩
  refine⟨e,λu a=>?_,λu a=>?_⟩
  .rw[a]at b
   simpa[n0]using b
  .unfold qg
   cases d:pP v u with
   |false=>rfl
   |true=>
    have:(pre.any λu=>pP v u)=true:=List.any_eq_true.2 ⟨u,a,d⟩
    rw[this]at c;cases c
 .rintro⟨e,b,c⟩
  refine⟨⟨e,?_⟩,?_⟩
  .cases g:pre.getLast? with
   |none=>rfl
   |some u=>
    have:=b u g
    unfold n0 at this
    simp only[this,Jb]
  .have:(pre.any λu=>pP v u)=false:=by
     rw[y7]
     intro i
     obtain⟨u,a,d⟩:=List.any_eq_true.1 i
     have:=c u a
     unfold qg at this
     rw[this]at d;cases d
   rw[this];rfl
theorem IC:∀{l pre:List Vn},pre.Pairwise n0->(ry pre l=true↔(∀v∈l,wI v)/\(pre++l).Pairwise n0/\l.Pairwise qg/\∀u∈pre,∀v∈l,qg u v)
 |[],pre,g=>by simp[ry,g]
 |v::l,pre,g=>by
  rw[show ry pre (v::l)=(qU pre v&&ry (pre++[v]) l)from rfl,bp,abf g]
  constructor
  .rintro⟨⟨j,d,k⟩,m⟩
   obtain⟨f,a,i,c⟩:=(IC d).1 m
   rw[cP]at a
   refine⟨λu hu=>?_,a,List.pairwise_cons.2 ⟨λu hu=>c v sI u hu,i⟩,λu hu x b=>?_⟩
   .rcases List.mem_cons.1 hu with rfl|hu
    .exact j
    .exact f u hu
   .rcases List.mem_cons.1 b with rfl|b
    .exact k u hu
    .exact c u (by simp[hu]) x b
  .rintro⟨f,a,i,c⟩
   have d:(pre++[v]).Pairwise n0:=by
    have e:pre++v::l=(pre++[v])++l:=sI
    rw[e]at a
    exact(List.pairwise_append.1 a).1
   obtain⟨n,o⟩:=List.pairwise_cons.1 i
   refine⟨⟨f v eo,d,λu hu=>c u hu v eo⟩,(IC d).2 ⟨λu hu=>f u (dH _ hu),by rw[cP];exact a,o,λu hu x b=>?_⟩⟩
   rcases List.mem_append.1 hu with hu|hu
   .exact c u hu x (dH _ b)
   .rw[fE]at hu;rw[hu];exact n x b
theorem uj:gL l=true↔(∀v∈l,wI v)/\l.Pairwise n0/\l.Pairwise qg:=by
 unfold gL
 rw[IC ze]
 simp
theorem H6 (l:List Vn):(AM l).Perm l:=Hu oO l []
theorem agU (c:∀v∈l,wI v) (d:l.Pairwise qg):gL (AM l)=true:=
 uj.2 ⟨λv e=>c v ((H6 l).mem_iff.1 e),Hv Oz aaP (λx y h=>h) l [] ze,((H6 l).pairwise_iff (λ{a b} h=>aa8 h)).2 d⟩
theorem E9 (h:gL l=true) (t:Int):(cK l t).Perm ((l.filter λv=>ey (iL v) t).map (·.2.2)):=by
 unfold cK
 rw[ak h]
 exact Hu (λ(p q:Pc)=>decide (q.1>p.1)) _ []
theorem xn:ey s t=true↔cA s=true/\s.1<=t/\t<s.2.1:=by
 unfold ey
 simp only[bp,bX]
 constructor
 .rintro⟨⟨a,b⟩,c⟩;exact⟨a,b,c⟩
 .rintro⟨a,b,c⟩;exact⟨⟨a,b⟩,c⟩
theorem zu (l:List Vn) (t:Int):eG 0 (cK l t)=true:=by
 by_cases h:gL l=true
 .have r:=E9 h t
  obtain⟨j,P,C⟩:=uj.1 h
  have f:∀p∈cK l t,cA (xt p)=true/\iW p.2.2=true:=λp d=>by
   obtain⟨v,g,rfl⟩:=List.mem_map.1 (r.mem_iff.1 d)
   have:=j v (List.mem_filter.1 g).1
   exact⟨this.2.1,this.2.2⟩
  have D:(cK l t).Pairwise λa b:Pc=>a.1<=b.1:=by
   unfold cK
   rw[ak h]
   exact Hv (R:=λa b:Pc=>a.1<=b.1) (λa b c=>Jh) (λx y i=>by rw[bX]at i;omega) (λx y i=>by rw[ml]at i;omega) _ [] ze
  have F:(cK l t).Pairwise apart:=by
   rw[r.pairwise_iff (λ{a b} i=>i.symm),BB]
   refine(C.filter _).imp_of_mem λ{u v} k g e=>?_
   obtain⟨k,m⟩:=List.mem_filter.1 k
   obtain⟨g,n⟩:=List.mem_filter.1 g
   rw[Ax,qj,qj]at e
   have z:=j u k
   have A:=j v g
   obtain⟨_,G,H⟩:=xn.1 m
   obtain⟨_,I,J⟩:=xn.1 n
   simp only[z.1,z.2.1,A.1,A.2.1,sT]at e
   unfold apart
   simp only at G H I J e⊢
   omega
  refine sy.2 ⟨λp d=>⟨(f p d).1,(f p d).2,(fO.1 (f p d).1).1⟩,?_⟩
  refine(D.and F).imp_of_mem λ{a b} K M o=>?_
  have N:=fO.1 (f a K).1
  have O:=fO.1 (f b M).1
  unfold apart at o
  simp only at N O
  omega
 .unfold cK
  rw[ai h];rfl
theorem zv (h:gL l=true):q∈cK l t↔∃v∈l,ey (iL v) t=true/\v.2.2=q:=by
 rw[(E9 h t).mem_iff,Be]
 simp only[Bf,and_assoc]
def wA (l:List Vn):Nat:=(l.filter kc).length
theorem vt:kc v=true↔v.2.1=1099511627776:=by
 unfold kc
 rw[qq]
theorem JT (h:gL l=true):(cK l 1099511627775).length=wA l:=by
 rw[(E9 h _).length_eq,bW]
 unfold wA
 rw[RO λv a=>?_]
 have g:=(uj.1 h).1 v a
 rw[gb,xn,vt]
 have:=fO.1 g.1
 simp only[g.1,sT]at this⊢
 omega
theorem Ox {t:Int}:∀(l:List Vn) (m:Int),l.foldl tJ m<=t↔m<=t/\∀v∈l,v.1<=t/\(kc v=false->v.2.1<=t)
 |[],m=>by simp
 |v::l,m=>by
  rw[kV,Ox l]
  simp only[nz,Sd]
  have:tJ m v<=t↔m<=t/\v.1<=t/\(kc v=false->v.2.1<=t):=by
   unfold tJ
   simp only
   cases kc v with
   |true=>simp only[gr];split<;>simp<;>omega
   |false=>
    simp only[kk,fF,true_implies]
    split<;>split<;>omega
  rw[this]
  constructor
  .rintro⟨⟨a,b,c⟩,d⟩;exact⟨a,⟨b,c⟩,d⟩
  .rintro⟨a,⟨b,c⟩,d⟩;exact⟨⟨a,b,c⟩,d⟩
theorem Au (h:gL l=true):qe l<=t↔0<=t/\∀v∈l,v.1<=t/\(kc v=false->v.2.1<=t):=by
 unfold qe
 rw[ak h]
 exact Ox l 0
theorem Qk {p:List Pc} (h:m6 l t p=true):gL (n9 l t p)=true/\qe (n9 l t p)<=t/\wA (n9 l t p)<=p.length/\(n9 l t p).length<=l.length+p.length/\
  ∀v∈n9 l t p,(∃u∈l,v.1=u.1/\(v.2.1=u.2.1\/v.2.1=t)/\v.2.2=u.2.2)\/(∃c∈p,v=(t,1099511627776,c)):=by
 unfold m6 at h
 simp only[bp,mR,ml]at h
 obtain⟨⟨⟨V,hp⟩,h3⟩,h4⟩:=h
 obtain⟨H,l2,l3⟩:=uj.1 V
 obtain⟨p1,p2⟩:=sy.1 hp
 have d:=(Au (t:=t) V).1 om
 have YG:oW l p=iZ (cK l 1099511627775) p:=by unfold oW;rw[zu,hp];rfl
 have M:oT l p=iZ p (cK l 1099511627775):=by unfold oT;rw[zu,hp];rfl
 have N:∀{v},v∈l->kc v=true->kF (oW l p) v=false->v.2.2∈p:=λ{v} hv k I=>by
  by_cases hm:v.2.2∈p
  .exact hm
  .have O:v.2.2∈cK l 1099511627775:=(zv V).2 ⟨v,hv,xn.2 ⟨(H v hv).1,by
      have z:=fO.1 (H v hv).1
      have:=vt.1 k
      simp only at z⊢;omega⟩,rfl⟩
   have W:kF (oW l p) v=true:=by
    unfold kF
    refine List.any_eq_true.2 ⟨v.2.2,?_,by rw[k];simp⟩
    rw[YG]
    unfold iZ
    refine List.mem_filter.2 ⟨O,?_⟩
    rw[mR,y7]
    intro D
    obtain⟨q,J,P⟩:=List.any_eq_true.1 D
    rw[bX]at P
    exact hm (P▸J)
   rw[W]at I;cases I
 have F:∀{c},c∈oT l p->c∈p/\c∉cK l 1099511627775:=λ{c} m=>by
  rw[M]at m
  unfold iZ at m
  obtain⟨O,W⟩:=List.mem_filter.1 m
  refine⟨O,λD=>?_⟩
  have:((cK l 1099511627775).any λq=>decide (c=q))=true:=List.any_eq_true.2 ⟨c,D,sI⟩
  rw[this]at W;cases W
 have C:(oT l p).Sublist p:=by rw[M];exact List.filter_sublist
 have eS:n9 l t p=AM ((l.filter λv=>!kF (oW l p) v||decide (v.1<t)).map (kE (oW l p) t)++(oT l p).map λc=>(t,1099511627776,c)):=rfl
 have iH:=C.length_le
 generalize n9 l t p=Z at*
 generalize oW l p=f at*
 generalize oT l p=cs at*
 have n:∀v,v∈l.filter (λv=>!kF f v||decide (v.1<t))->(kF f v=true/\kc v=true/\v.1<t/\kE f t v=(v.1,t,v.2.2))\/(kF f v=false/\kE f t v=v):=λv hv=>by
  obtain⟨_,J⟩:=List.mem_filter.1 hv
  unfold kE
  cases I:kF f v with
  |true=>
   left
   rw[I]at J
   refine⟨rfl,?_,by simpa using J,by rw[ak rfl]⟩
   unfold kF at I
   obtain⟨g,_,X⟩:=List.any_eq_true.1 I
   rw[bp]at X
   exact X.1
  |false=>right;exact⟨rfl,by rw[ai sI]⟩
 have X:∀v∈(l.filter λv=>!kF f v||decide (v.1<t)).map (kE f t)++cs.map (λc=>((t,1099511627776,c):Vn)),wI v:=by
  intro v hv
  rcases List.mem_append.1 hv with hv|hv
  .obtain⟨u,i,rfl⟩:=List.mem_map.1 hv
   have Q:=H u (List.mem_filter.1 i).1
   rcases n u i with⟨r,j,R,S⟩|⟨r,j⟩
   .rw[S]
    refine⟨fO.2 ⟨(fO.1 Q.1).1,R,by simp only;omega⟩,Q.2⟩
   .rw[j];exact Q
  .obtain⟨c,m,rfl⟩:=List.mem_map.1 hv
   have:=p1 c (F m).1
   exact⟨fO.2 ⟨d.1,by simp only;omega,mP _⟩,this.1,this.2.1⟩
 have hn:((l.filter λv=>!kF f v||decide (v.1<t)).map (kE f t)++cs.map (λc=>((t,1099511627776,c):Vn))).Pairwise qg:=by
  refine List.pairwise_append.2 ⟨?_,?_,?_⟩
  .rw[BB]
   refine(l3.filter _).imp_of_mem λ{u v} i hv T=>?_
   have Q:=H u (List.mem_filter.1 i).1
   have gv:=H v (List.mem_filter.1 hv).1
   have ku:=n u i
   have kv:=n v hv
   have su:(kE f t u).1=u.1/\(kE f t u).2.1<=u.2.1/\(kE f t u).2.2=u.2.2:=by
    rcases ku with⟨_,o,_,e⟩|⟨_,e⟩
    .rw[e];have:=vt.1 o;refine⟨rfl,by simp only;omega,rfl⟩
    .rw[e];exact⟨rfl,mP _,rfl⟩
   have sv:(kE f t v).1=v.1/\(kE f t v).2.1<=v.2.1/\(kE f t v).2.2=v.2.2:=by
    rcases kv with⟨_,o,_,e⟩|⟨_,e⟩
    .rw[e];have:=vt.1 o;refine⟨rfl,by simp only;omega,rfl⟩
    .rw[e];exact⟨rfl,mP _,rfl⟩
   rw[Ax]at T⊢
   refine λD=>T ⟨?_,?_⟩
   .rw[qj]at*
    refine⟨gv.1,Q.1,?_,?_⟩
    .have:=D.1.2.2.1;simp only at this⊢;omega
    .have:=D.1.2.2.2;simp only at this⊢;omega
   .have z:=D.2
    unfold yP at z⊢
    rw[su.2.2,sv.2.2]at z;exact z
  .rw[BB]
   refine(p2.sublist C).imp_of_mem λ{a b} _ _ hab=>?_
   rw[Ax,qj,qj]
   rintro⟨_,_,_,K,Y⟩
   simp only at K Y
   omega
  .intro u i v hv
   obtain⟨x,hx,rfl⟩:=List.mem_map.1 i
   obtain⟨c,m,rfl⟩:=List.mem_map.1 hv
   have A:=(List.mem_filter.1 hx).1
   have gx:=H x A
   rw[Ax,qj,qj]
   rintro⟨⟨_,_,K,Y⟩,_,_,q3,q4⟩
   simp only at K Y q3 q4
   rcases n x hx with⟨r,j,R,S⟩|⟨r,j⟩
   .rw[S]at K;simp only at K;omega
   .rw[j]at K Y q3 q4
    cases k:kc x with
    |false=>have:=(d.2 x A).2 k;omega
    |true=>
     have m1:=N A k r
     obtain⟨m2,m3⟩:=F m
     rcases PD p2 _ m1 _ m2 with e|e|e
     .rw[<-e]at m3
      exact m3 ((zv V).2 ⟨x,A,xn.2 ⟨gx.1,by
       have z:=fO.1 gx.1
       have:=vt.1 k
       simp only at z⊢;omega⟩,rfl⟩)
     .omega
     .omega
 have U:=agU X hn
 have hP:=H6 ((l.filter λv=>!kF f v||decide (v.1<t)).map (kE f t)++cs.map (λc=>((t,1099511627776,c):Vn)))
 rw[<-eS]at U hP
 have y:∀v∈Z,(∃u∈l,v.1=u.1/\(v.2.1=u.2.1\/v.2.1=t)/\v.2.2=u.2.2/\(kc v=true->v.2.2∈p))\/(∃c∈p,v=(t,1099511627776,c)):=by
  intro v hv
  rcases List.mem_append.1 (hP.mem_iff.1 hv)with hv|hv
  .obtain⟨u,i,rfl⟩:=List.mem_map.1 hv
   have G:=(List.mem_filter.1 i).1
   rcases n u i with⟨r,j,R,S⟩|⟨r,j⟩
   .rw[S]
    exact .inl ⟨u,G,rfl,.inr rfl,rfl,λk=>by have:=vt.1 k;simp only at this;omega⟩
   .rw[j]
    exact .inl ⟨u,G,rfl,.inl rfl,rfl,λk=>N G k r⟩
  .obtain⟨c,m,rfl⟩:=List.mem_map.1 hv
   exact .inr ⟨c,(F m).1,rfl⟩
 refine⟨U,(Au U).2 ⟨d.1,λv hv=>?_⟩,?_,?_,λv hv=>?_⟩
 .rcases y v hv with⟨u,i,r,j,_,_⟩|⟨c,_,rfl⟩
  .refine⟨by rw[r];exact(d.2 u i).1,λk=>?_⟩
   rcases j with j|j
   .rw[j]
    refine(d.2 u i).2 ?_
    unfold kc at k⊢
    rw[<-j];exact k
   .omega
  .exact⟨mP _,λk=>by cases k⟩
 .rw[<-JT U]
  refine lL (abU (zu Z 1099511627775)) λq J=>?_
  obtain⟨v,hv,O,rfl⟩:=(zv U).1 J
  obtain⟨z,_,h6⟩:=xn.1 O
  have h7:=fO.1 z
  simp only at h6 h7
  rcases y v hv with⟨u,i,_,_,_,e⟩|⟨c,m,rfl⟩
  .exact e (vt.2 om)
  .exact m
 .have:=hP.length_eq
  rw[aU,bW,bW]at this
  have:=gV (λv=>!kF f v||decide (v.1<t)) l
  omega
 .rcases y v hv with⟨u,i,r,j,R,_⟩|h
  .exact .inl ⟨u,i,r,j,R⟩
  .exact .inr h
theorem Q4 (b:gL l=true) (f:qe l<=t):gL (og l h)=true/\qe (og l h)<=t/\wA (og l h)<=wA l/\(og l h).length<=l.length/\∀v∈og l h,v∈l:=by
 have e:og l h=l.filter λv=>decide (v.2.1>h):=by unfold og;rw[ak b]
 obtain⟨g,i,j⟩:=uj.1 b
 have c:∀v∈l.filter (λv=>decide (v.2.1>h)),v∈l:=λv a=>(List.mem_filter.1 a).1
 have d:gL (l.filter λv=>decide (v.2.1>h))=true:=uj.2 ⟨λv a=>g v (c v a),i.filter _,j.filter _⟩
 rw[e]
 have:=(Au b).1 f
 refine⟨d,(Au d).2 ⟨this.1,λv a=>this.2 v (c v a)⟩,?_,gV _ _,c⟩
 unfold wA
 exact(List.filter_sublist.filter _).length_le
theorem yf:j5 A C=true↔dK A=true/\dK C=true/\A.2.1.length<=C.2.1.length/\(∀c∈C.2.1.drop A.2.1.length,c.2.2.1=false)/\A.1=C.1/\A.2.2=C.2.2/\A.2.1=C.2.1.take A.2.1.length:=by
 unfold j5 lO
 simp only[bp,bX,pD,mR]
theorem ext_get (h:A.2.1=C.2.1.take A.2.1.length) (hi:i<A.2.1.length) (a:i<C.2.1.length):A.2.1[i]=C.2.1[i]:=by
 have:A.2.1[i]=(C.2.1.take A.2.1.length)[i]'(by rw[cn];omega):=List.getElem_of_eq h hi
 rw[this,y9]
theorem MN (d:j5 A C=true) (f:j5 C D=true):j5 A D=true:=by
 obtain⟨g,x,j,k,l,m,n⟩:=yf.1 d
 obtain⟨y,o,z,p,r,t,b⟩:=yf.1 f
 refine yf.2 ⟨g,o,om,λc u=>?_,l.trans r,m.trans t,?_⟩
 .obtain⟨i,v,rfl⟩:=sQ u
  rw[fq]at v
  rw[yW]
  by_cases a:A.2.1.length+i<C.2.1.length
  .rw[<-ext_get b a om]
   refine k _ ?_
   rw[<-yW (h:=by rw[fq];omega)]
   exact cp _
  .have e:D.2.1[A.2.1.length+i]'om=(D.2.1.drop C.2.1.length)[A.2.1.length+i-C.2.1.length]'(by rw[fq];omega):=by
     rw[yW]
     congr 1;omega
   rw[e]
   exact p _ (cp _)
 .rw[n]
  have a:(C.2.1.take A.2.1.length).length=A.2.1.length:=by rw[cn];omega
  rw[a]
  conv=>lhs;rw[b]
  rw[List.take_take,rC j]
theorem II (h:i<(iN S r).length):(iN S r)[i]=(r[i]?).getD zV:=by
 have b:i<(r++List.replicate (S.2.1.length-r.length) zV).length:=h
 have e:(iN S r)[i]=(r++List.replicate (S.2.1.length-r.length) zV)[i]:=rfl
 refine e.trans ?_
 by_cases a:i<r.length
 .rw[ur a,fA a];rfl
 .rw[Ek om,List.getElem_replicate,pA om];rfl
theorem zS:im S r=0↔dK S=true/\r.length=S.2.1.length/\∀i (a:i<S.2.1.length) (b:i<r.length),nY S.2.1[i] r[i]=true:=by
 refine⟨Gt,λ⟨a,b,c⟩=>?_⟩
 unfold im
 rw[ak a,ak b,ak]
 rw[pD]
 intro q d
 obtain⟨i,e,rfl⟩:=sQ d
 rw[vU]at e
 rw[xE]
 exact c i om om
theorem xu:(jq S r).2=0↔dK S=true/\r.length<=S.2.1.length/\im S (iN S r)=0:=by
 unfold jq
 by_cases a:dK S=true
 .rw[ak a]
  by_cases b:r.length<=S.2.1.length
  .rw[ak b]
   by_cases c:im S (iN S r)=0
   .rw[ak c];simp[a,b,c]
   .rw[ai c];simp[c]
  .rw[ai b];simp[b]
 .rw[ai a];simp[a]
theorem Ea (h:(jq S r).2=0):gy S r=iN S r:=by
 obtain⟨a,b,c⟩:=xu.1 h
 unfold gy jq
 rw[ak a,ak b,ak c]
theorem ai2:dM zV=true:=dE
theorem aiU (h:j5 A C=true) (hr:(jq A r).2=0):(jq C r).2=0:=by
 obtain⟨n,b,o,f,p,t,g⟩:=yf.1 h
 obtain⟨u,v,j⟩:=xu.1 hr
 obtain⟨_,c,k⟩:=zS.1 j
 refine xu.2 ⟨b,om,zS.2 ⟨b,by unfold iN;rw[aU,rE];omega,λi l x=>?_⟩⟩
 by_cases a:i<A.2.1.length
 .have d:=k i a (by rw[c];exact a)
  rw[ext_get g a l]at d
  have e:(iN C r)[i]=(iN A r)[i]'(by rw[c];exact a):=by rw[II,II]
  rw[e];exact d
 .have e:(iN C r)[i]=zV:=by
      rw[II,pA om];rfl
  rw[e]
  have m:C.2.1[i].2.2.1=false:=f _ (by
   have:C.2.1[i]=(C.2.1.drop A.2.1.length)[i-A.2.1.length]'(by rw[fq];omega):=by
    rw[yW]
    congr 1;omega
   rw[this];exact cp _)
  unfold nY
  rw[ak rfl,m,ai2];rfl
theorem MS (h:im S r=0):(jq S r).2=0:=by
 obtain⟨a,b,_⟩:=zS.1 h
 have e:iN S r=r:=by unfold iN;rw[b,xz];simp
 exact xu.2 ⟨a,om,by rw[e];exact h⟩
theorem NM {v:jf} (h:nY c v=true):dM v=true:=by
 unfold nY at h
 split at h<;>simp only[bp]at h<;>exact h.2
theorem Rg (h:(jq S r).2=0):iW (gy S r)=true/\(gy S r).length=S.2.1.length:=by
 rw[Ea h]
 obtain⟨_,f,a⟩:=xu.1 h
 obtain⟨_,b,c⟩:=zS.1 a
 refine⟨?_,b⟩
 unfold iW
 rw[pD]
 intro v d
 obtain⟨i,e,rfl⟩:=sQ d
 exact NM (c i om e)
theorem aaB (h:j5 A C=true) (a:nZ A r=true):nZ C r=true:=by
 obtain⟨e,m,n,o,p,f,g⟩:=yf.1 h
 have t:=mb e
 unfold nZ at a⊢
 rw[bp,bX]at a⊢
 refine⟨by rw[<-f];exact a.1,?_⟩
 have c:=a.2
 rw[pD]at c⊢
 intro q j
 obtain⟨i,k,rfl⟩:=sQ j
 rw[vU]at k
 have l:i<r.length:=om
 have b:i<A.2.1.length:=by have:=a.1;omega
 have d:=c ((r.zip A.2.1)[i]'(by rw[vU];omega)) (cp _)
 rw[xE]at d⊢
 rw[<-ext_get g b om]
 exact d
theorem ab9 (h:im S r=0):nZ S (mY S r)=true/\n8 (mY S r)=true:=by
 obtain⟨f,m,g⟩:=zS.1 h
 have n:=mb f
 have e:mY S r=r.take S.2.2.toNat:=by unfold mY;rw[ak h]
 have c:(r.take S.2.2.toNat).length=S.2.2.toNat:=by rw[cn];omega
 rw[e]
 refine⟨?_,?_⟩
 .unfold nZ
  rw[bp,bX]
  refine⟨by rw[c];omega,?_⟩
  rw[pD]
  intro q j
  obtain⟨i,d,rfl⟩:=sQ j
  rw[vU,c]at d
  rw[xE,y9]
  rw[bX]
  have a:=g i om om
  have b:lZ S i=true:=by
   have:=f
   unfold dK at this
   rw[bp]at this
   exact List.all_eq_true.1 this.2 i (List.mem_range.2 om)
  unfold lZ at b
  rw[fA om]at b
  simp only[bp,rz,mR,ml]at b
  have k:S.2.1[i].2.2.1=true:=by
   rcases b.2 with h|h
   .exact absurd (show(i:Int)<S.2.2 by omega) h
   .exact h
  unfold nY at a
  split at a
  .rw[k]at a;cases a
  .rw[bp,bX]at a
   exact a.1
 .unfold n8
  rw[bp,bX,c]
  refine⟨?_,om⟩
  rw[pD]
  intro v l
  obtain⟨i,d,rfl⟩:=sQ (mj l)
  exact NM (g i om d)
end Go.Proofs.YtelhccfmfnaegaaGreat
