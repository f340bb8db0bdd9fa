/- Lemmas for topAudits_holds. No conditions. -/
import Derived.Test.YtelhccfmfnaegaaGreatRa
import Derived.Test.YtelhccfmfnaegaaGreatRb
import Derived.Test.YtelhccfmfnaegaaGreatRc
import Derived.Test.YtelhccfmfnaegaaGreatRd
set_option linter.unusedSectionVars false
set_option linter.unusedVariables false
set_option linter.unusedSimpArgs false
set_option linter.defProp false
set_option maxRecDepth 10000
namespace Go.Proofs.YtelhccfmfnaegaaGreat
open Go Go.Sh Tryz
attribute [local irreducible] aT jC gk dV kO dg hex iT jk ae
noncomputable def jK (t:TypeId):Option Bool:=aQ prog (isAgg t)
noncomputable def jW (t:TypeId):Option Nat:=aQ prog (sizeOf t)
noncomputable def rX (T:TypeId):Option TypeId:=match aQ prog (underlying T)with|some (.slice e)=>some e|_=>none
noncomputable def u5 (T:TypeId):Option Nat:=match rX T with|some e=>jW e|_=>none
variable {T e:TypeId} {cs:List Value} {F G:bh} {a:Addr} {A R:Type} {s:Sl} {ms:List A} {S:Type} {cf:S->Int} {body:(S->Pr)->S->Pr} {ex:S->Pr} {n:Int} {i m:Nat} {f:FuncId} {zL args pL:Array Value} {t:TypeId} {b off:Nat} {c:Array Value} {fr:Nat×Nat} {v:Value} {vs:List Value} {j:Nat} {Te:TypeId} {w:World} {L1 L2:List aK} {u:Value} {sz mu:Nat} {ds:List Value} {h z:Nat}
theorem u4 (h:rX T=some e):aQ prog (underlying T)=some (.slice e):=by
 unfold rX at h
 split at h
 .rename_i b a;cases h;exact a
 .cases h
theorem zQ {n:Nat} (h:u5 T=some n):∃e,aQ prog (underlying T)=some (.slice e)/\aQ prog (sizeOf e)=some n:=by
 unfold u5 at h
 split at h
 .rename_i e a;exact⟨e,u4 a,h⟩
 .cases h
def Ds (cs:List Value):Bool:=cs.all j9
theorem HK (h:Ds cs=true):∀v∈cs,j9 v=true:=List.all_eq_true.1 h
theorem bD.na:∀(l:bD) (x:l.den),l≠.raw->j9 (l.val x)=true
 |.int _,_,_|.bool,_,_|.float,_,_|.str,_,_|.ptr,_,_|.addr,_,_|.slice,_,_|.map,_,_=>rfl
 |.raw,_,h=>absurd rfl h
def tp (ls:List bD):Bool:=ls.all λl=>match l with|.raw=>false|_=>true
theorem F6:∀(a:List bD) (x:bK a),tp a=true->∀v∈ay a x,j9 v=true
 |[],_,_,v,hv=>by cases hv
 |l::a,x,h,v,hv=>by
  simp only[tp,uu,bp]at h
  rcases List.mem_cons.1 hv with rfl|hv
  .exact bD.na l _ (by rintro rfl;simp at h)
  .exact F6 a x.2 h.2 v hv
theorem du:∀(a:List bD) (x:bK a),(ay a x).length=a.length
 |[],_=>rfl
 |l::a,x=>by simp[ay,du a x.2]
variable {ls:List bD} {xs:List (bK ls)} {rel:bh->bK ls->A->Prop} {l:bD} {k:bK ls->Pr} {x r:bK ls} {ys:List (bK ls)} {y:bK ls}
theorem MY (a:tp ls=true) (xs:List (bK ls)):∀v∈xs.flatMap (ay ls),j9 v=true:=λv b=>by
 obtain⟨x,_,c⟩:=List.mem_flatMap.1 b
 exact F6 ls x a v c
abbrev lc (b:Nat) (T:TypeId) (cs:List Value):aK:=aT b (.cells ⟨cs⟩ T (0,0))
def mn (F:bh) (a:Addr) (cs:List Value):Prop:=a.spot=none/\∃c T b,F a.block=some (.cells c T b)/\∀j,j<cs.length->c[a.off+j]?=cs[j]?
theorem mn.up (h:mn F a cs) (b:F.le G):mn G a cs:=by
 obtain⟨d,c,T,e,f,g⟩:=h
 exact⟨d,c,T,e,b _ _ f,g⟩
theorem mn.add (h:mn F a cs) (j:Nat):mn F (Addr.add a j) (cs.drop j):=by
 obtain⟨d,c,T,e,f,g⟩:=h
 obtain⟨b,k,s⟩:=a
 simp only at d;subst d
 rw[iC]
 refine⟨rfl,c,T,e,f,λi l=>?_⟩
 rw[fq]at l
 rw[nB,<-g (j+i) om]
 simp only[m7]
def FL (F:bh) (ls:List bD) (s:Sl) (xs:List (bK ls)):Prop:=mS F ls.length s (xs.flatMap (ay ls))/\s.len=xs.length
def NL (F:bh) (ls:List bD) (a:bh->bK ls->A->Prop) (s:Sl) (ms:List A):Prop:=∃b,FL F ls s b/\cw (a F) b ms
abbrev uM (b:bh->R->A->Prop):Prop:=∀(F G:bh) r a,F.le G->b F r a->b G r a
theorem FL.up (h:FL F ls s xs) (a:F.le G):FL G ls s xs:=⟨h.1.up a,h.2⟩
theorem NL.up (h:NL F ls rel s ms) (hm:uM rel) (b:F.le G):NL G ls rel s ms:=
 let⟨c,d,e⟩:=h;⟨c,d.up b,e.imp λr a=>hm F G r a b⟩
theorem NL.len (h:NL F ls rel s ms):s.len=ms.length:=
 let⟨_,a,b⟩:=h;a.2.trans b.len
theorem FL.nil:FL F ls au []:=⟨.nil,rfl⟩
theorem NL.nil:NL F ls rel au ([]:List A):=⟨[],.nil,.nil⟩
variable {E:World} {L L':List aK}
theorem vn {k:Addr->Pr} (h:k a w):fU prog (Dv (.pointer (some a))) dB k w:=aq h
theorem aV.count {B:(S->Pr)->S->Pr} {s:S} (n:Nat) (I:Nat->S->World->Prop) (c:I 0 s w)
  (d:∀(next:S->Pr) (s:S) (w:World) (i:Nat),i<=n->I i s w->(i<n->∀s' a,I (i+1) s' a->next s' a)->B next s w):aV B s w:=
 sX (λm s w=>∃i,i<=n/\m=n-i/\I i s w) n ⟨0,om,om,c⟩ λm next s w ⟨i,e,k,f⟩ g=>
  d next s w i e f λj s' a b=>g (n-(i+1)) s' a om ⟨i+1,om,rfl,b⟩
def gD:=@aV.count
theorem cy {m:Int} {s:S} (n:Nat) (hm:m=(n:Int)) (I:Nat->S->World->Prop) (d:cf s=0) (e:I 0 s w)
  (f:∀(next:S->Pr) (s:S) (w:World) (i:Nat),i<n->cf s=(i:Int)->I i s w->(∀s' a,cf s'=((i+1:Nat):Int)->I (i+1) s' a->next s' a)->body next s w)
  (g:∀s w,I n s w->ex s w):aV (λnext s=>ba λ_=>af (decide (cf s<m)) (body next s) (ex s)) s w:=by
 subst hm
 refine gD n (λi s w=>cf s=(i:Int)/\I i s w) ⟨d,e⟩ λnext s w i p ⟨j,b⟩ k=>.go λ_=>.mk' ?_ ?_<;>intro c
 .have:i<n:=by have:=cT c;omega
  exact f next s w i this j b λs' a l o=>k this s' a ⟨l,o⟩
 .have:i=n:=by have:=cF c;omega
  subst this
  exact g s w b
theorem bQ (h:-9223372036854775808<=n/\n<=9223372036854775807):w6 n=n:=IntWalk.i64_in _ h
theorem bV {n:Nat} (h:i<n) (hn:n<=1073741824):w6 ((i:Int)+1)=((i+1:Nat):Int):=by rw[bQ om];omega
theorem aiR (h:n=(m:Int)) (a:m<=9223372036854775807):w6 n=(m:Int):=by subst h;exact bQ om
theorem lH {t:Ty} {k:t.den->Pr} (h:kq prog f pL t k w) (hr:∀w,(eW (.func (.func f) #[] zL) args).run prog w=.ok (.enter f pL) w:=by intro w;rfl):oD prog (eW (.func (.func f) #[] zL) args) t k w:=
 ⟨.inr ⟨f,pL,hr w,h⟩⟩
theorem ld {k:l.den->Pr} {x:l.den} (h:ab E w L)
 (d:k x w) (ha:a=⟨b,off,none⟩:=by rfl) (p:b6 L (aT b (.cells c T fr)) L':=by exact pK) (hc:(c[off]?).bind l.parse=some x:=by rfl) (e:jK t=some false:=by kernel_rfl):
 dQ prog (vN (Instr.loadAt t (.pointer (some a)))) (.one (.leaf l)) k w:=XB h ha p e hc d
theorem fK (h:ab E w L)
  (d:k x w) (ha:a=⟨b,off,none⟩:=by rfl) (p:b6 L (aT b (.cells ⟨cs⟩ T fr)) L':=by exact pK) (hc:qN ls ((cs.drop off).take ls.length)=some x:=by rfl)
  (e:jK t=some true:=by kernel_rfl) (hn:jW t=some ls.length:=by kernel_rfl):
  dQ prog (vN (Instr.loadAt t (.pointer (some a)))) (.one (.agg ls)) k w:=by
 have f:=xZ _ _ _ hc
 have g:=du ls x
 refine CM x (h.pick p).own e (by rw[g];exact hn) ha (λj i=>?_) d
 have c:((cs.drop off).take ls.length)[j]?=some (ay ls x)[j]:=by rw[f,fA i]
 rw[pC om,nB]at c
 simpa using c
theorem bN (h:ab E w L)
  (c:k x w) (ha:a=⟨b,0,none⟩:=by rfl) (p:b6 L (aT b (.cells ⟨cs⟩ T fr)) L':=by exact pK) (hc:cs=ay ls x:=by rfl)
  (d:jK t=some true:=by kernel_rfl) (hn:jW t=some ls.length:=by kernel_rfl):
  dQ prog (vN (Instr.loadAt t (.pointer (some a)))) (.one (.agg ls)) k w:=by
 subst hc
 exact XD x h ha p d (by rw[du];exact hn) c
theorem pf (h:ab E w L) (a:k x w)
  (p:b6 L (aT b (.cells ⟨cs⟩ T fr)) L':=by exact pK) (hc:cs=ay ls x:=by rfl) (c:jK t=some true:=by kernel_rfl) (hn:jW t=some ls.length:=by kernel_rfl):
  dQ prog (vN (gl [.cell (.pointer (some ⟨b,0,none⟩)) t])) (.one (.agg ls)) k w:=by
 subst hc
 exact Nc x h p c (by rw[du];exact hn) a
theorem nr {y:l.den} {k:bK ls×l.den×Unit->Pr} (h:ab E w L) (a:k (x,y,()) w)
  (p:b6 L (aT b (.cells ⟨cs⟩ T fr)) L':=by exact pK) (hc:cs=ay ls x:=by rfl) (hv:v=l.val y:=by rfl) (c:jK t=some true:=by kernel_rfl) (hn:jW t=some ls.length:=by kernel_rfl):
  dQ prog (vN (gl [.cell (.pointer (some ⟨b,0,none⟩)) t,.val v])) (.aG [.agg ls,.leaf l]) k w:=by
 subst hc;subst hv
 refine⟨(x,y,()),eE ?_,a⟩
 have d:=H9 (h.pick p).own c (by rw[du];exact hn)
 unfold gl
 simp[AJ,asAddr,d,Ty.val,cE.val,xq]
theorem ace (h:ab E w L) (a:k x w)
  (p:b6 L (aT b (.cells ⟨cs⟩ T fr)) L':=by exact pK) (c:qN ls cs=some x:=by rfl) (d:jK t=some true:=by kernel_rfl) (hn:jW t=some ls.length:=by kernel_rfl):
  dQ prog (vN (gl [.cell (.pointer (some ⟨b,0,none⟩)) t])) (.one (.agg ls)) k w:=by
 have e:=xZ _ _ _ c
 subst e
 exact Nc x h p d (by rw[du];exact hn) a
theorem acf {y:l.den} {k:bK ls×l.den×Unit->Pr} (h:ab E w L) (a:k (x,y,()) w)
  (p:b6 L (aT b (.cells ⟨cs⟩ T fr)) L':=by exact pK) (c:qN ls cs=some x:=by rfl) (hv:v=l.val y:=by rfl) (d:jK t=some true:=by kernel_rfl) (hn:jW t=some ls.length:=by kernel_rfl):
  dQ prog (vN (gl [.cell (.pointer (some ⟨b,0,none⟩)) t,.val v])) (.aG [.agg ls,.leaf l]) k w:=by
 have e:=xZ _ _ _ c
 subst e;subst hv
 refine⟨(x,y,()),eE ?_,a⟩
 have f:=H9 (h.pick p).own d (by rw[du];exact hn)
 unfold gl
 simp[AJ,asAddr,f,Ty.val,cE.val,xq]
theorem lk {k:Pr} (h:ab E w L)
 (d:k w) (ha:a=⟨b,off,none⟩:=by rfl) (p:b6 L (aT b (.cells c T fr)) L':=by exact pK) (hc:c[off]?=some v:=by rfl) (e:jK t=some false:=by kernel_rfl):
 oz prog (vN (Instr.loadAt t (.pointer (some a)))) v k w:=V4 h ha p e hc d
theorem j8 {k:Pr} (h:ab E w L)
  (d:k w) (ha:a=⟨b,off,none⟩:=by rfl) (p:b6 L (aT b (.cells ⟨cs⟩ T fr)) L':=by exact pK) (hc:(cs.drop off).take vs.length=vs:=by rfl)
  (e:jK t=some true:=by kernel_rfl) (hn:jW t=some vs.length:=by rfl):
  oz prog (vN (Instr.loadAt t (.pointer (some a)))) (.agg ⟨vs⟩) k w:=by
 refine LS (h.pick p).own e hn ha (λj f=>?_) d
 have c:((cs.drop off).take vs.length)[j]?=some vs[j]:=by rw[hc,fA f]
 rw[pC om,nB]at c
 simpa using c
theorem st {k:Pr} (h:ab E w L)
 (d:∀c,ab E c (aT b (.cells ⟨cs.set off v⟩ T (0,0))::L')->k c)
 (ha:a=⟨b,off,none⟩:=by rfl) (p:b6 L (aT b (.cells ⟨cs⟩ T (0,0))) L':=by exact pK) (dy:Nat.blt off cs.length=true:=by rfl) (hv:j9 v=true:=by rfl) (hn:jW t=some 1:=by kernel_rfl):
 lv prog (uN (Instr.storeAt t (.pointer (some a)) v)) k w:=Gj h p hn ha (by simpa using dy) hv λc e=>d c (by simpa using e)
theorem nu {k:Pr} (h:ab E w L)
 (g:∀d,ab E d (aT b (.cells ⟨[v]⟩ T (0,0))::L')->k d)
 (ha:a=⟨b,0,none⟩:=by rfl) (p:b6 L (aT b (.cells c T (0,0))) L':=by exact pK) (dy:c.size=1:=by rfl) (hv:j9 v=true:=by rfl) (hn:jW t=some 1:=by kernel_rfl):
 lv prog (uN (Instr.storeAt t (.pointer (some a)) v)) k w:=Gj h p hn ha (by simp[dy]) hv λd f=>g d (by
  have e:c.setIfInBounds 0 v=⟨[v]⟩:=by
   apply lr
   obtain⟨l⟩:=c
   match l,dy with|[x],_=>rfl
  rw[e]at f;exact f)
theorem bU {k:Pr} (h:ab E w L)
 (e:∀d,ab E d (aT b (.cells ⟨vs⟩ T (0,0))::L')->k d)
 (ha:a=⟨b,0,none⟩:=by rfl) (p:b6 L (aT b (.cells c T (0,0))) L':=by exact pK) (hs:c.size=vs.length:=by rfl) (hv:Ds vs=true:=by rfl) (hn:jW t=some vs.length:=by rfl):
 lv prog (uN (Instr.storeAt t (.pointer (some a)) (.agg ⟨vs⟩))) k w:=WL h ha p hn sI hs (HK hv) e
noncomputable def gq (t:TypeId):Array Value:=((aQ prog (zeroValue t)).map (·.cells)).getD #[]
theorem al {k:Addr->Pr} (h:ab E w L) (c:∀b d,ab E d (aT b (.cells (gq t) t (0,0))::L)->k ⟨b,0,none⟩ d) (a:(aQ prog (zeroValue t)).isSome=true:=by kernel_rfl):
  eT prog (vN (Instr.alloc t true (.tuple #[]))) dB k w:=by
 obtain⟨z,a⟩:=Option.isSome_iff_exists.1 a
 exact WA h a (by unfold gq at c;rw[a]at c;exact c)
theorem bx {k:Addr->Pr} (h:ab E w L) (d:∀b a,ab E a (aT b (.cells ⟨cs⟩ t (0,0))::L)->k ⟨b,0,none⟩ a) (hc:v.cells=⟨cs⟩:=by rfl):
 eT prog (vN (Instr.box t v)) dB k w:=WD h λb a c=>d b a (by rw[hc]at c;exact c)
theorem dr {k:Pr} (h:ab E w L) (b:∀a,ab E a L->k a):aY k w:=aY.go h b
theorem ix {k:Addr->Pr} (hs:FL F ls s xs) (hi:i<xs.length) (o:∀a,mn F a (ay ls xs[i])->k a w)
  (hn:n=(i:Int):=by rfl) (f:Nat.blt 0 ls.length=true:=by rfl) (p:u5 T=some ls.length:=by kernel_rfl):fU prog (vN (Instr.indexAt T (.slice s.a s.len s.cap) (.int .i64 n))) dB k w:=by
 subst hn
 obtain⟨e,r,t⟩:=zQ p
 have f:0<ls.length:=by simpa using f
 have d:(xs.flatMap (ay ls)).length=xs.length*ls.length:=nS _ _ (du ls) xs
 have l:0<xs.length*ls.length:=I5 om f
 obtain⟨b,u,c,v,x,y,z,A⟩:=hs.1.2.2 (by intro C;rw[C]at d;simp at d;omega)
 refine ui r t y om (by rw[hs.2];omega) (o _ ?_)
 rw[iC]
 refine⟨rfl,c,v,x,z,λj m=>?_⟩
 rw[du]at m
 have g:i*ls.length+j<(xs.flatMap (ay ls)).length:=by
  rw[d]
  have:(i+1)*ls.length<=xs.length*ls.length:=lR _ hi
  rw[km]at this;omega
 simp only[kW]
 rw[m7,A _ g,CF _ _ (du ls) xs i j m,fA hi];rfl
theorem fx {k:Addr->Pr} (hs:NL F ls rel s ms) (hi:i<ms.length)
  (c:∀a r,mn F a (ay ls r)->rel F r ms[i]->k a w) (hn:n=(i:Int):=by rfl) (d:Nat.blt 0 ls.length=true:=by rfl) (e:u5 T=some ls.length:=by kernel_rfl):
  fU prog (vN (Instr.indexAt T (.slice s.a s.len s.cap) (.int .i64 n))) dB k w:=by
 obtain⟨j,f,b⟩:=hs
 have l:=b.len
 exact ix f om (λa g=>c a _ g (b.get i om hi)) hn d e
theorem nU {k:l.den->Pr} {x:l.den} (h:ab E w L) (e:k x w) (ha:mn F a cs:=by assumption) (p:b6 L (ae F) L':=by exact pK) (hc:(cs[0]?).bind l.parse=some x:=by rfl) (f:jK t=some false:=by kernel_rfl):
  dQ prog (vN (Instr.loadAt t (.pointer (some a)))) (.one (.leaf l)) k w:=by
 obtain⟨d,c,T,m,g,i⟩:=ha
 obtain⟨b,j,s⟩:=a
 simp only at d;subst d
 cases cs with
 |nil=>simp at hc
 |cons v cs=>
  have:=i 0 sI
  exact Nb ((h.pick p).yi g) f rfl (by simp only[sO]at this;rw[this];exact hc) e
theorem Xj (h:ab E w L) (f:k x w) (ha:mn F a cs:=by assumption) (p:b6 L (ae F) L':=by exact pK) (hc:qN ls (cs.take ls.length)=some x:=by rfl)
  (g:jK t=some true:=by kernel_rfl) (hn:jW t=some ls.length:=by kernel_rfl):dQ prog (vN (Instr.loadAt t (.pointer (some a)))) (.one (.agg ls)) k w:=by
 obtain⟨e,c,T,u,i,l⟩:=ha
 obtain⟨b,m,s⟩:=a
 simp only at e;subst e
 have n:=xZ _ _ _ hc
 have o:=du ls x
 refine CM x ((h.pick p).yi i) g (by rw[o];exact hn) rfl (λj r=>?_) f
 have d:(cs.take ls.length)[j]?=some (ay ls x)[j]:=by rw[n,fA r]
 rw[pC om]at d
 rw[l j (by rcases kj j cs.length with h|h;·exact h
            .rw[pA h]at d;cases d),d]
theorem fJ (h:ab E w L) (f:k r w) (ha:mn F a (ay ls r):=by assumption) (p:b6 L (ae F) L':=by exact pK)
  (g:jK t=some true:=by kernel_rfl) (hn:jW t=some ls.length:=by kernel_rfl):dQ prog (vN (Instr.loadAt t (.pointer (some a)))) (.one (.agg ls)) k w:=by
 obtain⟨d,c,T,n,i,l⟩:=ha
 obtain⟨b,m,s⟩:=a
 simp only at d;subst d
 refine CM r ((h.pick p).yi i) g (by rw[du];exact hn) rfl (λj e=>?_) f
 rw[l j e,fA e]
theorem Xe {k:Pr} (h:ab E w L) (e:k w) (ha:mn F a cs:=by assumption) (p:b6 L (ae F) L':=by exact pK) (hc:cs[0]?=some v:=by rfl) (f:jK t=some false:=by kernel_rfl):
  oz prog (vN (Instr.loadAt t (.pointer (some a)))) v k w:=by
 obtain⟨d,c,T,l,g,i⟩:=ha
 obtain⟨b,j,s⟩:=a
 simp only at d;subst d
 cases cs with
 |nil=>simp at hc
 |cons v cs=>
  have:=i 0 sI
  exact LU ((h.pick p).yi g) f rfl (by simp only[sO]at this;rw[this];exact hc) e
theorem nV {k:l.den->Pr} {x:l.den} (h:ab E w L) (b:k x w) (ha:mn F a cs:=by assumption) (p:b6 L (ae F) L':=by exact pK) (hc:(cs[j]?).bind l.parse=some x:=by rfl) (c:jK t=some false:=by kernel_rfl):
 dQ prog (vN (Instr.loadAt t (.pointer (some (Addr.add a j))))) (.one (.leaf l)) k w:=nU h b (ha.add j) p (by rw[nB];exact hc) c
theorem Xk {k:l.den->Pr} {x:l.den} (h:ab E w L) (b:k x w) (ha:mn F a cs:=by assumption) (p:b6 L (ae F) L':=by exact pK) (hc:(cs[i+j]?).bind l.parse=some x:=by rfl) (c:jK t=some false:=by kernel_rfl):
 dQ prog (vN (Instr.loadAt t (.pointer (some (Addr.add (Addr.add a i) j))))) (.one (.leaf l)) k w:=nU h b ((ha.add i).add j) p (by rw[uv,nB];exact hc) c
theorem tn (h:ab E w L) (b:k x w) (ha:mn F a cs:=by assumption) (p:b6 L (ae F) L':=by exact pK) (hc:qN ls ((cs.drop j).take ls.length)=some x:=by rfl)
 (c:jK t=some true:=by kernel_rfl) (hn:jW t=some ls.length:=by kernel_rfl):dQ prog (vN (Instr.loadAt t (.pointer (some (Addr.add a j))))) (.one (.agg ls)) k w:=Xj h b (ha.add j) p hc c hn
theorem CE {k:Pr} (h:ab E w L) (b:k w) (ha:mn F a cs:=by assumption) (p:b6 L (ae F) L':=by exact pK) (hc:cs[j]?=some v:=by rfl) (c:jK t=some false:=by kernel_rfl):
 oz prog (vN (Instr.loadAt t (.pointer (some (Addr.add a j))))) v k w:=Xe h b (ha.add j) p (by rw[nB];exact hc) c
theorem tj {k:Pr} (h:ab E w L) (f:k w) (ha:mn F a cs:=by assumption) (p:b6 L (ae F) L':=by exact pK) (hc:(cs.drop j).take vs.length=vs:=by rfl)
  (g:jK t=some true:=by kernel_rfl) (hn:jW t=some vs.length:=by rfl):oz prog (vN (Instr.loadAt t (.pointer (some (Addr.add a j))))) (.agg ⟨vs⟩) k w:=by
 obtain⟨e,c,T,r,l,m⟩:=ha.add j
 generalize Addr.add a j=a at*
 obtain⟨b,n,s⟩:=a
 simp only at e;subst e
 refine LS ((h.pick p).yi l) g hn rfl (λi o=>?_) f
 have d:((cs.drop j).take vs.length)[i]?=some vs[i]:=by rw[hc,fA o]
 rw[pC om]at d
 rw[m i (by rcases kj i (cs.drop j).length with h|h;·exact h
            .rw[pA h]at d;cases d),d]
noncomputable def k6 (T:TypeId):TypeId:=(rX T).getD 0
noncomputable def tf (T:TypeId):Nat:=((aQ prog (typeInfo (k6 T))).map (·.bytes)).getD 0
noncomputable def qP (T:TypeId) (n:Nat):Bool:=(rX T).isSome&&jW (k6 T)==some n&&(aQ prog (typeInfo (k6 T))).isSome&&(aQ prog (zeroValue (k6 T))).isSome&&((aQ prog (zeroValue (k6 T))).map (·.cells.size))==some n&&Nat.ble (tf T) 256
structure JN (T:TypeId) (n:Nat):Prop where
 el:rX T=some (k6 T)
 ok:uF prog (k6 T) n (tf T)
 le:tf T<=256
 zs:(aQ prog (zeroValue (k6 T))).isSome=true
 zn:(gq (k6 T)).size=n
theorem ti {n:Nat} (h:qP T n=true):JN T n:=by
 simp only[qP,bp,qq,El]at h
 obtain⟨⟨⟨⟨⟨d,f⟩,g⟩,b⟩,a⟩,j⟩:=h
 obtain⟨e,k⟩:=Option.isSome_iff_exists.1 d
 obtain⟨i,l⟩:=Option.isSome_iff_exists.1 g
 obtain⟨z,c⟩:=Option.isSome_iff_exists.1 b
 refine⟨by simp[k6,k],⟨f,by simp[tf,l],a⟩,j,b,?_⟩
 rw[c]at a
 simp only[rB,I7]at a
 simp[gq,c,a]
abbrev OS (T:TypeId) (ls:List bD) (s:Sl) (xs:List (bK ls)):aK:=dV (k6 T) ls.length s (xs.flatMap (ay ls))
theorem OS.len (h:ab E w (OS T ls s xs::L)) (a:0<ls.length):s.len=xs.length:=h.iJ.Av (du ls) a
def fR:=@OS.len
theorem ap {t:Sl} {k:Sl->Pr} (h:ab E w L) (g:∀w,ab E w L->Reads w t ls.length (ys.flatMap (ay ls)))
  (n:xs.length+ys.length<=1073741824) (i:∀c d,ab E d (OS T ls c (xs++ys)::L')->k c d)
  (p:b6 L (OS T ls s xs) L':=by exact pK) (b:qP T ls.length=true:=by kernel_rfl) (j:tp ls=true:=by rfl) (e:Nat.blt 0 ls.length=true:=by rfl):
  eT prog (vN (Builtin.append_ #[T,T] T #[.slice s.a s.len s.cap,.slice t.a t.len t.cap])) aE k w:=by
 have e:0<ls.length:=by simpa using e
 have f:=g w h
 have o:=fR (h.pick p) e
 have r:=f.Av (du ls) e
 have b:=ti b
 refine WB h p (u4 b.el) (u4 b.el) b.ok f (MY j ys) om ?_ λc d l m=>i c d ?_
 .have:(2*(s.len+t.len)+192)*tf T<=(2*1073741824+192)*256:=xA om b.le
  omega
 .unfold OS;rw[gM];exact m
theorem MO:∀(l:List Value) (b k:Nat) (pre a:List Value),pre.length=b+k->l.length<=a.length->
  (l.zipIdx k).foldl (λd p=>d.setIfInBounds (b+p.2) p.1) (⟨pre++a⟩:Array Value)=⟨pre++l++a.drop l.length⟩
 |[],b,k,pre,a,_,_=>by simp
 |v::l,b,k,pre,a,f,c=>by
  cases a with
  |nil=>simp at c
  |cons x a=>
   simp only[Rx,kV]
   have e:(⟨pre++x::a⟩:Array Value).setIfInBounds (b+k) v=⟨(pre++[v])++a⟩:=by
    apply lr
    simp[<-f]
   rw[e,MO l b (k+1) (pre++[v]) a (by simp;omega) (by simpa using c)]
   simp
theorem MP (n:Nat):∀(b:List (Value×List Value)) (m:Nat) (pre a:List Value),(∀p∈b,p.1.cells=⟨p.2⟩/\p.2.length=n)->pre.length=m*n->a.length=b.length*n->
  Instr.fill (λi=>some (i*n,n)) ⟨pre++a⟩ ((b.zipIdx m).map λp=>(p.2,p.1.1))=some ⟨pre++b.flatMap (·.2)⟩
 |[],m,pre,a,_,_,c=>by
  have:a=[]:=by simpa using c
  subst this;simp[Instr.fill]
 |p::b,m,pre,a,g,l,c=>by
  obtain⟨j,d⟩:=g p eo
  simp only[Rx,eZ,Instr.fill]
  rw[db,km]at c
  have f:p.1.cells.size=n:=by rw[j];exact d
  rw[ai (by simp[f];omega)]
  have e:(p.1.cells.zipIdx.foldl (λo x=>o.setIfInBounds (m*n+x.2) x.1) (⟨pre++a⟩:Array Value))=⟨(pre++p.2)++a.drop n⟩:=by
   rw[j,<-Array.foldl_toList,Array.toList_zipIdx,MO p.2 (m*n) 0 pre a om om,d]
  have k:=MP n b (m+1) (pre++p.2) (a.drop n) (λq r=>g q (dH _ r)) (by rw[aU,d,l,km];omega) (by rw[fq];omega)
  rw[<-e]at k
  simpa using k
theorem run_build {n:Nat} (a:List (Value×List Value)) (k:rX T=some Te) (hn:jW Te=some n) (l:0<n) (d:(gq Te).size=n) (f:(aQ prog (zeroValue Te)).isSome=true) (j:a.length*n<=1000) (g:a≠[])
  (hv:∀p∈a,p.1.cells=⟨p.2⟩/\p.2.length=n):
  (Instr.buildSlice T a.length (⟨(a.zipIdx 0).map λp=>(p.2,p.1.1)⟩:Array (Nat×Value))).run prog w=.ok (.slice (some ⟨w.heap.size,0,none⟩) a.length a.length) {w with heap:=w.heap.push (.cells ⟨a.flatMap (·.2)⟩ Te (0,0))}:=by
 obtain⟨z,b⟩:=Option.isSome_iff_exists.1 f
 have m:z.cells.size=n:=by unfold gq at d;rw[b]at d;exact d
 have o:0<a.length:=List.length_pos_iff.2 g
 have c:¬(a.length*n=0):=by have:=I5 o l;omega
 unfold Instr.buildSlice
 rw[ke (u4 k)]
 simp only
 rw[ke hn,ai om,ai c]
 rw[ke b]
 have e:Instr.fill (λi=>some (i*n,n)) ((Array.range (a.length*n)).map (z.cells[·%z.cells.size]!)) ((a.zipIdx 0).map λp=>(p.2,p.1.1))=some ⟨a.flatMap (·.2)⟩:=by
  have:=MP n a 0 [] ((Array.range (a.length*n)).map (z.cells[·%z.cells.size]!)).toList hv sI sI
  have r:(Array.range (a.length*n)).map (z.cells[·%z.cells.size]!)=⟨[]++((Array.range (a.length*n)).map (z.cells[·%z.cells.size]!)).toList⟩:=by apply lr;simp
  rw[r]
  simpa only[mQ]using this
 simp only[pure_bind]
 rw[show(Instr.fill (λi=>some (i*n,n)) ((Array.range (a.length*n)).map (z.cells[·%z.cells.size]!)) (⟨(a.zipIdx 0).map λp=>(p.2,p.1.1)⟩:Array (Nat×Value)).toList)=_ from e]
 rfl
theorem eA {t:Sl} {k:Sl->Pr} (h:ab E w L) (d:xs.length<1073741824) (e:∀b c,ab E c (OS T ls b (xs++[y])::L2)->k b c)
  (f:b6 L (OS T ls t [y]) L1:=by exact pK) (p2:b6 L1 (OS T ls s xs) L2:=by exact pK)
  (g:qP T ls.length=true:=by kernel_rfl) (i:tp ls=true:=by rfl) (j:Nat.blt 0 ls.length=true:=by rfl):
  eT prog (vN (Builtin.append_ #[T,T] T #[.slice s.a s.len s.cap,.slice t.a t.len t.cap])) aE k w:=
 ap (h.pick f) (λw h=>h.iJ) d (λb c l=>e b c (l.sub (.take .head (.skip .done)))) (.tail p2) g i j
theorem bJ {k:Sl->Pr} (h:ab E w L) (f:∀b c,b.len=1->ab E c (OS T ls b [y]::L)->k b c) (hc:v.cells=⟨ay ls y⟩:=by rfl)
  (a:qP T ls.length=true:=by kernel_rfl) (e:Nat.blt 0 ls.length=true:=by rfl) (d:Nat.ble ls.length 1000=true:=by rfl):eT prog (vN (Instr.buildSlice T 1 #[(0,v)])) aE k w:=by
 have a:=ti a
 simp only[I8,El]at e d
 have g:=run_build (w:=w) [(v,ay ls y)] a.el a.ok.size e a.zn a.zs (by simpa using d) sI (by simp[hc,du])
 exact wD ([y].flatMap (ay ls)) h g (by simp[du]) λb c d i=>f b c d i
theorem B9 {z:bK ls} {k:Sl->Pr} (h:ab E w L) (f:∀b c,b.len=2->ab E c (OS T ls b [y,z]::L)->k b c) (hc:v.cells=⟨ay ls y⟩:=by rfl) (hd:u.cells=⟨ay ls z⟩:=by rfl)
  (a:qP T ls.length=true:=by kernel_rfl) (e:Nat.blt 0 ls.length=true:=by rfl) (d:Nat.ble ls.length 500=true:=by rfl):eT prog (vN (Instr.buildSlice T 2 #[(0,v),(1,u)])) aE k w:=by
 have a:=ti a
 simp only[I8,El]at e d
 have g:=run_build (w:=w) [(v,ay ls y),(u,ay ls z)] a.el a.ok.size e a.zn a.zs (by simp;omega) sI (by simp[hc,hd,du])
 exact wD ([y,z].flatMap (ay ls)) h g (by simp[du];omega) λb c d i=>f b c d i
theorem fm {T:TypeId} {ls:List bD} (h:ab E w L):ab E w (OS T ls au ([]:List (bK ls))::L):=h.fm
theorem dT (h:ab E w L) (a:b6 L (OS T ls s xs) L1:=by exact pK) (p2:b6 L1 (ae F) L2:=by exact pK) (b:Nat.blt 0 ls.length=true:=by rfl):
  ∃G:bh,F.le G/\ab E w (ae G::L2)/\FL G ls s xs:=by
 have h:=(h.pick a).pick (.tail p2)
 have c:=fR h.swap (by simpa using b)
 obtain⟨G,d,e,f⟩:=h.Xt
 exact⟨G,d,e,f,c⟩
theorem FL.reads (hs:FL F ls s xs) (h:ab E w (ae F::L)):Reads w s ls.length (xs.flatMap (ay ls)):=h.rdF hs.1
theorem ta {t:Sl} {k:Sl->Pr} (h:ab E w L) (d:FL F ls t ys) (e:ys.length<=1073741824)
  (f:∀b c,ab E c (OS T ls b ys::L)->k b c) (p:b6 L (ae F) L':=by exact pK) (g:qP T ls.length=true:=by kernel_rfl) (i:tp ls=true:=by rfl) (j:Nat.blt 0 ls.length=true:=by rfl):
  eT prog (vN (Builtin.append_ #[T,T] T #[.slice au.a au.len au.cap,.slice t.a t.len t.cap])) aE k w:=
 ap (xs:=[]) (fm (T:=T) (ls:=ls) h) (λw h=>d.reads (h.drop.pick p)) (by simpa using e) f .head g i j
theorem Mr {t:Sl} {k:Sl->Pr}
  (h:ab E w L) (hs:∀w,ab E w L->Reads w s sz cs) (M:∀w,ab E w L->Reads w t sz ds) (O:aQ prog (underlying T)=some (.slice Te)) (r:uF prog Te sz mu)
  (P:s.len<=s.cap) (k7:s.cap<s.len+t.len) (u:s.len+t.len<=2^40) (p:(2*(s.len+t.len)+192)*mu<=2^48)
  (Q:∀v N,v.len=s.len+t.len->ab E N (dV Te sz v (cs++ds)::L)->k v N):
  eT prog (vN (Builtin.append_ #[T,T] T #[.slice s.a s.len s.cap,.slice t.a t.len t.cap])) aE k w:=by
 have x:=λw=>cd _ O w
 have y:=λw=>cd _ r.size w
 obtain⟨f,l,A⟩:=r.info
 obtain⟨z,R,C⟩:=r.IL
 have g:=λw=>cd _ l w
 have D:=λw=>cd _ R w
 have G:¬Builtin.nextslicecap (s.len+t.len) s.cap*f.bytes>2^48:=by
  have S:=Go.Sh.nextslicecap_le (s.len+t.len) s.cap om
  have U:Builtin.nextslicecap (s.len+t.len) s.cap*f.bytes<=(2*(s.len+t.len)+192)*mu:=by rw[A];exact lR _ S
  omega
 have H:ab E {w with drawn:=w.drawn+1} L:=h.drew
 obtain⟨b,I,m⟩:∃n,(Question.appendCap (s.len+t.len) s.cap Te).cut (w.tape w.drawn (.appendCap (s.len+t.len) s.cap Te))=n/\s.len+t.len<=n:=⟨_,rfl,IS _ _⟩
 have J:(Builtin.firstCells sz s.len (.slice s.a s.len s.cap)).run prog w.drew=.ok cs.toArray w.drew:=sF (hs _ H)
 have K:(Builtin.firstCells sz t.len (.slice t.a t.len t.cap)).run prog w.drew=.ok ds.toArray w.drew:=sF (M _ H)
 refine⟨⟨some ⟨w.heap.size,0,none⟩,s.len+t.len,b⟩,
  {w with drawn:=w.drawn+1,heap:=w.heap.push (.cells (cs.toArray++ds.toArray++Builtin.zeroCells z.cells (b-(s.len+t.len))) Te (0,0))},eE ?_,Q _ _ rfl ?_⟩
 .have i:¬(9223372036854775807<((s.len:Int)+(t.len:Int))):=om
  have c:¬(281474976710656<Builtin.nextslicecap (s.len+t.len) s.cap*f.bytes):=om
  have j:¬(s.len+t.len<=s.cap):=om
  simp[Builtin.append_,x,y,Builtin.lenOf,j,g,i,c,Question.forced,I,J,K,D,newRow,Ty.val,cE.val,bD.val]
  rw[<-IT,show cs.toArray++ds.toArray=(cs++ds).toArray from by simp]
  rfl
 .have d:=H.new (o:=.cells (cs.toArray++ds.toArray++Builtin.zeroCells z.cells (b-(s.len+t.len))) Te (0,0))
  have e:cs.toArray++ds.toArray++Builtin.zeroCells z.cells (b-(s.len+t.len))=⟨(cs++ds)++(Builtin.zeroCells z.cells (b-(s.len+t.len))).toList⟩:=by
   apply lr
   simp
  rw[e]at d⊢
  refine uE (pre:=[]) d rfl (by simp[(hs _ h).1,(M _ h).1,km]) m ?_
  simp only[Bj]
  rw[size_zeroCells,C]
  exact cV _
theorem JR {t:Sl} {k:Sl->Pr} (h:ab E w L) (hs:FL F ls s xs) (e:FL F ls t ys) (m:xs.length+ys.length<=1073741824) (hc:s.cap=s.len) (g:ys≠[])
  (i:∀c d,ab E d (OS T ls c (xs++ys)::L)->k c d) (p:b6 L (ae F) L':=by exact pK) (b:qP T ls.length=true:=by kernel_rfl) (n:tp ls=true:=by rfl) (f:Nat.blt 0 ls.length=true:=by rfl):
  eT prog (vN (Builtin.append_ #[T,T] T #[.slice s.a s.len s.cap,.slice t.a t.len t.cap])) aE k w:=by
 have f:0<ls.length:=by simpa using f
 have b:=ti b
 have o:=hs.2
 have r:=e.2
 have u:0<ys.length:=List.length_pos_iff.2 g
 refine Mr h (λw h=>hs.reads (h.pick p)) (λw h=>e.reads (h.pick p)) (u4 b.el) b.ok om om om ?_ λc d j l=>i c d ?_
 .have:(2*(s.len+t.len)+192)*tf T<=(2*1073741824+192)*256:=xA om b.le
  omega
 .unfold OS;rw[gM];exact l
theorem FL.sub (hs:FL F ls s xs) {l:Nat} (a:l<=h) (b:h<=xs.length) (c:h<=m):FL F ls (gJ s l h m ls.length) ((xs.drop l).take (h-l)):=
 ⟨hs.1.part (du ls) a b hs.2 c,by simp only[gJ,cn,fq];omega⟩
theorem NL.sub (hs:NL F ls rel s ms) {l:Nat} (b:l<=h) (c:h<=ms.length) (d:h<=m):NL F ls rel (gJ s l h m ls.length) ((ms.drop l).take (h-l)):=by
 obtain⟨f,e,a⟩:=hs
 exact⟨_,e.sub b (by rw[a.len];exact c) d,(a.drop l).take (h-l)⟩
theorem FL.cap (hs:FL F ls s xs):xs.length<=s.cap:=by have:=hs.1.2.1;rw[hs.2]at this;exact this
theorem NL.cap (hs:NL F ls rel s ms):ms.length<=s.cap:=by
 obtain⟨c,a,b⟩:=hs
 have:=a.cap;rw[b.len]at this;exact this
theorem AV {k:Sl->Pr} (hi:i<=s.cap) (b:k (gJ s 0 i s.cap z) w) (hn:n=(i:Int):=by rfl) (c:u5 T=some z:=by kernel_rfl):fU prog (vN (Instr.sliceAt T (.slice s.a s.len s.cap) none (some (.int .i64 n)) none)) aE k w:=by
 subst hn
 obtain⟨e,d,f⟩:=zQ c
 exact aiN d f om om (by simpa using b)
theorem AU {k:Sl->Pr} (hi:i<=s.len) (b:k (gJ s i s.len s.cap z) w) (hn:n=(i:Int):=by rfl) (c:u5 T=some z:=by kernel_rfl):fU prog (vN (Instr.sliceAt T (.slice s.a s.len s.cap) (some (.int .i64 n)) none none)) aE k w:=by
 subst hn
 obtain⟨e,d,f⟩:=zQ c
 exact aiL d f om om (by simpa using b)
theorem Ii {k:Sl->Pr} (hi:i<=s.cap) (b:k (gJ s 0 i i z) w) (hn:n=(i:Int):=by rfl) (c:u5 T=some z:=by kernel_rfl):fU prog (vN (Instr.sliceAt T (.slice s.a s.len s.cap) none (some (.int .i64 n)) (some (.int .i64 n)))) aE k w:=by
 subst hn
 obtain⟨e,d,f⟩:=zQ c
 exact aiM d f om om om (by simpa using b)
def qE (s:Sl) (n:Nat) (a:Addr):Prop:=∃b,s.a=some b/\b.spot=none/\a=b.add n
theorem qE.add {n:Nat} (h:qE s n a) (j:Nat):qE s (n+j) (Addr.add a j):=by
 obtain⟨c,d,b,rfl⟩:=h
 exact⟨c,d,b,EP _ _ _ b⟩
theorem eO {k:Addr->Pr} (h:ab E w L) (p:b6 L (OS T ls s xs) L') (hi:i<xs.length) (b:∀a,qE s (i*ls.length) a->k a w)
  (hn:n=(i:Int):=by rfl) (c:Nat.blt 0 ls.length=true:=by rfl) (d:u5 T=some ls.length:=by kernel_rfl):fU prog (vN (Instr.indexAt T (.slice s.a s.len s.cap) (.int .i64 n))) dB k w:=by
 subst hn
 obtain⟨e,f,g⟩:=zQ d
 exact aiK (h.pick p).iJ (du ls) (by simpa using c) hi f g λj l m=>b _ ⟨j,l,m,rfl⟩
theorem kH {k:l.den->Pr} {x:l.den} (h:ab E w L) (p:b6 L (OS T ls s xs) L') (ha:qE s (i*ls.length+j) a) (hi:i<xs.length) (c:k x w)
  (d:Nat.blt j ls.length=true:=by rfl) (hc:(ay ls xs[i])[j]?=some (l.val x):=by rfl) (e:jK t=some false:=by kernel_rfl):dQ prog (vN (Instr.loadAt t (.pointer (some a)))) (.one (.leaf l)) k w:=by
 obtain⟨g,f,m,rfl⟩:=ha
 have b:=(h.pick p).iJ
 exact zX x b f rfl e (by rw[Gw b (du ls) hi (by simpa using d)];exact hc) c
theorem oV (h:ab E w L) (p:b6 L (OS T ls s xs) L') (ha:qE s (i*ls.length) a) (hi:i<xs.length) (d:k xs[i] w)
  (e:jK t=some true:=by kernel_rfl) (hn:jW t=some ls.length:=by kernel_rfl):dQ prog (vN (Instr.loadAt t (.pointer (some a)))) (.one (.agg ls)) k w:=by
 obtain⟨g,f,l,rfl⟩:=ha
 have b:=(h.pick p).iJ
 exact Na xs[i] b f rfl e (by rw[du];exact hn) (λj c=>by rw[Gw b (du ls) hi (by rw[du]at c;exact c)]) d
theorem D1 {k:Pr} (h:ab E w L) (p:b6 L (OS T ls s xs) L') (ha:qE s (i*ls.length+j) a) (hi:i<xs.length)
  (d:(ay ls xs[i]).set j v=ay ls y) (m:∀f,ab E f (OS T ls s (xs.set i y)::L')->k f)
  (g:Nat.blt j ls.length=true:=by rfl) (hv:j9 v=true:=by rfl) (hn:jW t=some 1:=by kernel_rfl):lv prog (uN (Instr.storeAt t (.pointer (some a)) v)) k w:=by
 obtain⟨r,n,u,rfl⟩:=ha
 have g:j<ls.length:=by simpa using g
 have b:(xs.flatMap (ay ls)).length=xs.length*ls.length:=nS _ _ (du ls) xs
 have c:i*ls.length+j<(xs.flatMap (ay ls)).length:=by
  rw[b]
  have:(i+1)*ls.length<=xs.length*ls.length:=lR _ hi
  rw[km]at this;omega
 refine WJ h p n rfl c hn hv λf l=>m f ?_
 have e:(xs.flatMap (ay ls)).set (i*ls.length+j) v=(xs.set i y).flatMap (ay ls):=by
  clear l m c b h p n
  induction xs generalizing i with
  |nil=>simp at hi
  |cons x xs o=>
   cases i with
   |zero=>
    simp only[fc,Em,uq,qt,Bk]at d⊢
    rw[IZ _ _ (by rw[du];exact g),d]
   |succ i=>
    simp only[fc,En,List.getElem_cons_succ]at d⊢
    rw[vL _ _ (by rw[du,km];omega),du,show(i+1)*ls.length+j-ls.length=i*ls.length+j by rw[km];omega,o (by simpa using hi) d]
 rw[e]at l;exact l
theorem MV {ls:List bD} (y:bK ls):∀(a:List (bK ls)) (i:Nat),i<a.length->
  (a.flatMap (ay ls)).take (i*ls.length)++ay ls y++(a.flatMap (ay ls)).drop (i*ls.length+(ay ls y).length)=(a.set i y).flatMap (ay ls)
 |[],i,h=>by simp at h
 |x::a,0,_=>by
  simp only[fc,Em,uq,uw,mQ,qt]
  rw[du,<-du ls x,vP]
 |x::a,i+1,h=>by
  have b:=MV y a i (by simpa using h)
  simp only[fc,En]
  rw[du]at b⊢
  have e:(i+1)*ls.length=(ay ls x).length+i*ls.length:=by rw[du,km];omega
  rw[e,m7,I4,I3,cP,cP,<-b,cP]
theorem Iq {k:Pr} (h:ab E w L) (p:b6 L (OS T ls s xs) L') (ha:qE s (i*ls.length) a) (hi:i<xs.length)
  (g:∀c,ab E c (OS T ls s (xs.set i y)::L')->k c) (e:Nat.blt 0 ls.length=true:=by rfl) (j:tp ls=true:=by rfl) (hn:jW t=some ls.length:=by kernel_rfl):lv prog (uN (Instr.storeAt t (.pointer (some a)) (.agg ⟨ay ls y⟩))) k w:=by
 obtain⟨m,l,n,rfl⟩:=ha
 have e:0<ls.length:=by simpa using e
 have b:(xs.flatMap (ay ls)).length=xs.length*ls.length:=nS _ _ (du ls) xs
 have d:i*ls.length+ls.length<=xs.length*ls.length:=by
  have:(i+1)*ls.length<=xs.length*ls.length:=lR _ hi
  rw[km]at this;omega
 refine Mu h p l rfl (by rw[du,b];exact d) (by rw[b];omega) (by rw[du];exact hn) (F6 ls y j) λc f=>g c ?_
 rw[MV y xs i hi]at f;exact f
end Go.Proofs.YtelhccfmfnaegaaGreat
namespace Go.Sh
def n6 (b:Nat):Bool:=decide (9218868437227405312<b%9223372036854775808)
def o7 (b:Nat):Bool:=b/9223372036854775808%2==1
def md (r:Nat):Nat:=if r<4503599627370496 then r else(4503599627370496+r%4503599627370496)*2^(r/4503599627370496-1)
def oh (b:Nat):Int:=if o7 b then-(md (b%9223372036854775808):Int)else md (b%9223372036854775808)
theorem Qm (r:Nat):md r<md (r+1):=by
 unfold md
 by_cases h:r+1<4503599627370496
 .rw[ak om,ak h];omega
 by_cases c:r<4503599627370496
 .rw[ak c,ai h]
  have:r+1=4503599627370496:=om
  rw[this];simp;omega
 rw[ai c,ai h]
 by_cases d:r%4503599627370496+1<4503599627370496
 .have a:(r+1)%4503599627370496=r%4503599627370496+1:=om
  have b:(r+1)/4503599627370496=r/4503599627370496:=om
  rw[a,b]
  exact Ry om (I9 _)
 .have a:(r+1)%4503599627370496=0:=om
  have b:(r+1)/4503599627370496-1=(r/4503599627370496-1)+1:=om
  rw[a,b,vQ,<-Eo,Nat.mul_right_comm]
  exact Ry om (I9 _)
variable {r s b:Nat} {x y:Int} {k a:Nat}
theorem Ih (h:r<s):md r<md s:=by
 induction s with
 |zero=>omega
 |succ n b=>
  rcases kj r n with a|a
  .exact Nat.lt_trans (b a) (Qm n)
  .have:r=n:=om
   subst this;exact Qm r
theorem aha (h:md r=0):r=0:=by
 rcases vM r with a|a
 .exact a
 .have:=Ih a;omega
theorem ag9:md 0=0:=by unfold md;simp
def vv (r:Nat):Nat×Nat:=if r<4503599627370496 then(r,0)else(4503599627370496+r%4503599627370496,r/4503599627370496-1)
theorem Pj (r:Nat):(vv r).1*2^(vv r).2=md r:=by
 unfold vv md;split<;>simp
theorem DJ (h:b%9223372036854775808<9218868437227405312):Ieee.double.read b=.number (o7 b) (vv (b%9223372036854775808)).1 (-1074+((vv (b%9223372036854775808)).2:Int)):=by
 have a:Ieee.double.signWeight=9223372036854775808:=dE
 have c:Ieee.double.binade=4503599627370496:=dE
 have d:Ieee.double.infRung=9218868437227405312:=dE
 have e:Ieee.double.leastPlace=-1074:=dE
 unfold Ieee.Format.read vv o7
 simp only[a,c,d,e]
 split
 .simp
 .rfl
theorem DI (h:b%9223372036854775808=9218868437227405312):Ieee.double.read b=.infinity (o7 b):=by
 have a:Ieee.double.signWeight=9223372036854775808:=dE
 have c:Ieee.double.binade=4503599627370496:=dE
 have d:Ieee.double.infRung=9218868437227405312:=dE
 unfold Ieee.Format.read o7
 simp only[a,c,d]
 rw[ai om,ai om,ak h]
theorem agN (h:n6 b=true):∃n t,Ieee.double.read b=.nan n t:=by
 have a:Ieee.double.signWeight=9223372036854775808:=dE
 have c:Ieee.double.binade=4503599627370496:=dE
 have d:Ieee.double.infRung=9218868437227405312:=dE
 have h:=lS h
 unfold Ieee.Format.read
 simp only[a,c,d]
 rw[ai om,ai om,ai om]
 exact⟨_,_,rfl⟩
theorem uW (h:x<y):compare x y=.lt:=by simp[compare,compareOfLessAndEq,h]
theorem x8 (h:x=y):compare x y=.eq:=by subst h;simp[compare,compareOfLessAndEq]
theorem uV (h:y<x):compare x y=.gt:=by
 have a:¬x<y:=om
 have b:¬x=y:=om
 simp[compare,compareOfLessAndEq,a,b]
theorem Ql (s:Bool) (m e k:Nat) (h:k<=e):Ieee.signed s m (e-k)*(2^k:Nat)=if s then-((m*2^e:Nat):Int)else((m*2^e:Nat):Int):=by
 have a:m<<<(e-k)*2^k=m*2^e:=by
  rw[Ep,Eo,<-Er]
  congr 2;omega
 unfold Ieee.signed
 cases s
 .simp only[kk,fF];rw[<-a];push_cast;rfl
 .simp only[gr];rw[<-a,Int.neg_mul];push_cast;rfl
theorem V7 (h:0<k):compare x y=compare (x*(k:Int)) (y*(k:Int)):=by
 have b:(0:Int)<k:=by exact_mod_cast h
 rcases Rz x y with a|a|a
 .rw[uW a,uW (RA a b)]
 .subst a;rw[x8 rfl,x8 rfl]
 .rw[uV a,uV (RA a b)]
theorem Qn (h:r<9218868437227405312):md r<md 9218868437227405312:=Ih h
theorem aal:0<md 9218868437227405312:=by have:=Ih (r:=0) (s:=9218868437227405312) om;omega
theorem Pa (ha:n6 a=false) (c:n6 b=false):Ieee.double.order a b=some (compare (oh a) (oh b)):=by
 have ha:=pB ha
 have c:=pB c
 unfold Ieee.Format.order
 rcases kj (a%9223372036854775808) 9218868437227405312 with d|d<;>rcases kj (b%9223372036854775808) 9218868437227405312 with e|e
 .rw[DJ d,DJ e]
  simp only[Ieee.Datum.order]
  generalize l:vv (a%9223372036854775808)=p
  generalize m:vv (b%9223372036854775808)=q
  congr 1
  have f:oh a=if o7 a then-((p.1*2^p.2:Nat):Int)else((p.1*2^p.2:Nat):Int):=by unfold oh;rw[<-l,Pj]
  have g:oh b=if o7 b then-((q.1*2^q.2:Nat):Int)else((q.1*2^q.2:Nat):Int):=by unfold oh;rw[<-m,Pj]
  have n:((-1074+(p.2:Int))-min (-1074+(p.2:Int)) (-1074+(q.2:Int))).toNat=p.2-min p.2 q.2:=om
  have o:((-1074+(q.2:Int))-min (-1074+(p.2:Int)) (-1074+(q.2:Int))).toNat=q.2-min p.2 q.2:=om
  rw[n,o,V7 (k:=2^min p.2 q.2) (I9 _),Ql _ _ _ _ om,Ql _ _ _ _ om,f,g]
 .rw[DJ d,DI om]
  simp only[Ieee.Datum.order]
  have:=Qn d
  have c:b%9223372036854775808=9218868437227405312:=om
  unfold oh
  rw[c]
  generalize md 9218868437227405312=S at*
  cases i:o7 b<;>cases j:o7 a<;>simp only[gr,fF,kk]<;>congr 1
  .exact(uW om).symm
  .exact(uW om).symm
  .exact(uV om).symm
  .exact(uV om).symm
 .rw[DI om,DJ e]
  simp only[Ieee.Datum.order]
  have:=Qn e
  have ha:a%9223372036854775808=9218868437227405312:=om
  unfold oh
  rw[ha]
  generalize md 9218868437227405312=S at*
  cases i:o7 a<;>cases j:o7 b<;>simp only[gr,fF,kk]<;>congr 1
  .exact(uV om).symm
  .exact(uV om).symm
  .exact(uW om).symm
  .exact(uW om).symm
 .rw[DI om,DI om]
  simp only[Ieee.Datum.order]
  have ha:a%9223372036854775808=9218868437227405312:=om
  have c:b%9223372036854775808=9218868437227405312:=om
  have:=aal
  unfold oh
  rw[ha,c]
  generalize md 9218868437227405312=S at*
  cases i:o7 a<;>cases j:o7 b<;>simp only[gr,fF,kk]<;>congr 1
  .exact(x8 rfl).symm
  .exact(uV om).symm
  .exact(uW om).symm
  .exact(x8 rfl).symm
theorem O9 (ha:n6 a=true):Ieee.double.order a b=none:=by
 obtain⟨n,t,h⟩:=agN ha
 unfold Ieee.Format.order;rw[h];rfl
theorem aby (a:Nat):(Ieee.double.order a a==some .eq)=!n6 a:=by
 cases h:n6 a with
 |true=>rw[O9 h];rfl
 |false=>rw[Pa h h,x8 rfl];rfl
theorem Q6:oh a=0↔a%9223372036854775808=0:=by
 unfold oh
 constructor
 .intro h
  apply aha
  split at h<;>omega
 .intro h
  rw[h,ag9];simp
theorem abz (a:Nat):(Ieee.double.order a 0==some .eq)=(!n6 a&&decide (a%9223372036854775808=0)):=by
 cases h:n6 a with
 |true=>rw[O9 h];rfl
 |false=>
  have d:oh 0=0:=dE
  rw[Pa h dE,d]
  by_cases b:a%9223372036854775808=0
  .rw[x8 (Q6.2 b)];simp[b]
  .have e:oh a≠0:=λf=>b (Q6.1 f)
   rcases Rz (oh a) 0 with c|c|c
   .rw[uW c];simp[b]
   .exact absurd c e
   .rw[uV c];simp[b]
def uT (b:Nat):Nat:=if n6 b then 9221120237041090560 else if b%9223372036854775808=0 then 0 else b
def pv (b:Nat):Nat:=if 9223372036854775808<=b then 18446744073709551615-b else b+9223372036854775808
theorem D5 (h:b<18446744073709551616):pv b<18446744073709551616:=by unfold pv;split<;>omega
end Go.Sh
namespace Go.Proofs.YtelhccfmfnaegaaGreat
open Go Go.Sh Tryz
attribute [local irreducible] aT jC gk dV kO dg hex iT jk ae
theorem eJ {P:Program} {α β:Type} (f:α->Sem β):∀(s:Sem α),aQ P (s>>=f)=(aQ P s).bind λa=>aQ P (f a)
 |.pure a=>rfl
 |.program k=>by
  show aQ P (k P>>=f)=_
  rw[eJ f (k P)];rfl
 |.mark m k=>by
  show aQ P (k>>=f)=_
  rw[eJ f k];rfl
 |.load ..|.store ..|.new ..|.shape ..|.freeze ..|.frozen ..|.getObj ..|.setObj ..|.choose ..|.sys ..|.halt ..=>rfl
variable {P:Program} {f:Field} {i:Nat} {l:bD} {xs:Array Value} {t:TypeId} {ls:List bD} {x y:Operand} {a b:bK ls} {k:Bool->Pr} {α:Type} {w:World} {s:Sl} {p:Nat}
theorem yz (t:TypeId):aQ P (underlying t)=P.underlying t:=by
 simp only[underlying,program,bind,Sem.bind,aQ]
 cases P.underlying t<;>rfl
theorem pj {α β γ:Type} (f:α->Sem β) (g:β->Sem γ):∀(s:Sem α),(s>>=f)>>=g=s>>=λa=>f a>>=g
 |.pure a=>rfl
 |.load m a k=>by show Sem.load m a (λv=>(k v>>=f)>>=g)=Sem.load m a (λv=>k v>>=λa=>f a>>=g);congr;funext v;exact pj f g (k v)
 |.store m a v k=>gU (Sem.store m a v) (pj f g k)
 |.new o k=>by show Sem.new o (λv=>(k v>>=f)>>=g)=Sem.new o (λv=>k v>>=λa=>f a>>=g);congr;funext v;exact pj f g (k v)
 |.shape r k=>by show Sem.shape r (λv=>(k v>>=f)>>=g)=Sem.shape r (λv=>k v>>=λa=>f a>>=g);congr;funext v;exact pj f g (k v)
 |.freeze a n k=>gU (Sem.freeze a n) (pj f g k)
 |.frozen a k=>by show Sem.frozen a (λv=>(k v>>=f)>>=g)=Sem.frozen a (λv=>k v>>=λa=>f a>>=g);congr;funext v;exact pj f g (k v)
 |.getObj r k=>by show Sem.getObj r (λv=>(k v>>=f)>>=g)=Sem.getObj r (λv=>k v>>=λa=>f a>>=g);congr;funext v;exact pj f g (k v)
 |.setObj r o k=>gU (Sem.setObj r o) (pj f g k)
 |.choose q k=>by show Sem.choose q (λv=>(k v>>=f)>>=g)=Sem.choose q (λv=>k v>>=λa=>f a>>=g);congr;funext v;exact pj f g (k v)
 |.sys c k=>by show Sem.sys c (λv=>(k v>>=f)>>=g)=Sem.sys c (λv=>k v>>=λa=>f a>>=g);congr;funext v;exact pj f g (k v)
 |.program k=>by show Sem.program (λv=>(k v>>=f)>>=g)=Sem.program (λv=>k v>>=λa=>f a>>=g);congr;funext v;exact pj f g (k v)
 |.mark m k=>gU (Sem.mark m) (pj f g k)
 |.halt h=>rfl
theorem po {α:Type}:∀(s:Sem α),(s>>=λa=>pure a)=s
 |.pure a=>rfl
 |.load m a k=>by show Sem.load m a (λv=>k v>>=λa=>pure a)=_;congr;funext v;exact po (k v)
 |.store m a v k=>by show Sem.store m a v (k>>=λa=>pure a)=_;congr;exact po k
 |.new o k=>by show Sem.new o (λv=>k v>>=λa=>pure a)=_;congr;funext v;exact po (k v)
 |.shape r k=>by show Sem.shape r (λv=>k v>>=λa=>pure a)=_;congr;funext v;exact po (k v)
 |.freeze a n k=>by show Sem.freeze a n (k>>=λa=>pure a)=_;congr;exact po k
 |.frozen a k=>by show Sem.frozen a (λv=>k v>>=λa=>pure a)=_;congr;funext v;exact po (k v)
 |.getObj r k=>by show Sem.getObj r (λv=>k v>>=λa=>pure a)=_;congr;funext v;exact po (k v)
 |.setObj r o k=>by show Sem.setObj r o (k>>=λa=>pure a)=_;congr;exact po k
 |.choose q k=>by show Sem.choose q (λv=>k v>>=λa=>pure a)=_;congr;funext v;exact po (k v)
 |.sys c k=>by show Sem.sys c (λv=>k v>>=λa=>pure a)=_;congr;funext v;exact po (k v)
 |.program k=>by show Sem.program (λv=>k v>>=λa=>pure a)=_;congr;funext v;exact po (k v)
 |.mark m k=>by show Sem.mark m (k>>=λa=>pure a)=_;congr;exact po k
 |.halt h=>rfl
theorem Ie:LawfulMonad Sem:=LawfulMonad.mk' Sem (λx=>po x) (λ_ _=>rfl) (λx f g=>pj f g x)
def o6:(l:bD)->l.den->l.den->Bool
 |.int _,a,b=>a==b
 |.bool,a,b=>a==b
 |.str,a,b=>a==b
 |_,_,_=>false
def ik:(c:List bD)->bK c->bK c->Bool
 |[],_,_=>true
 |l::c,a,b=>o6 l a.1 b.1&&ik c a.2 b.2
noncomputable def yh (f:Field) (i:Nat) (l:bD):Bool:=!(f.name== "_")&&(f.offset==i)&&(jK f.type==some false)&&(match l,prog.underlying f.type with|.int _,some (.int _)=>true|.bool,some .bool=>true|.str,some .string=>true|_,_=>false)
noncomputable def zT:List Field->Nat->List bD->Bool
 |[],_,[]=>true
 |f::a,i,l::b=>yh f i l&&zT a (i+1) b
 |_,_,_=>false
noncomputable def u6 (t:TypeId) (ls:List bD):Bool:=(match prog.underlying t with|some (.struct a)=>zT a.toList 0 ls|_=>false)&&!(prog.stoodInHeld t)&&!(prog.eqGuardType prog.depth t)
theorem abZ {d:Nat} (h:yh f i l=true) (a b:l.den):aQ prog (Op.equalIn (d+1) f.type (l.val a) (l.val b))=some (o6 l a b):=by
 simp only[yh,bp]at h
 have c:=h.2
 unfold Op.equalIn
 rw[eJ,yz]
 cases e:prog.underlying f.type with
 |none=>rw[e]at c;cases l<;>cases c
 |some x=>
  rw[e]at c
  cases l<;>cases x<;>first|(cases c;done)|skip
  .simp[bD.val,o6]
   rfl
  all_goals rfl
theorem Pz {x:Value} (h:yh f i l=true) (a:xs[i]?=some x):aQ prog (part f.type xs f.offset)=some x:=by
 simp only[yh,bp,qq]at h
 unfold part
 rw[eJ,show aQ prog (isAgg f.type)=some false from h.1.2]
 simp only[jZ,kk,fF,h.1.1.2,a]
 rfl
theorem MJ:∀(l:List Field) (c:List bD) (a b:bK c) (i:Nat) (xs e:Array Value),zT l i c=true->(∀j,xs[i+j]?=(ay c a)[j]?)->(∀j,e[i+j]?=(ay c b)[j]?)->
  aQ prog (forIn l ((none,()):Option Bool×PUnit) λf _=>
     if f.name≠ "_"then do
      let u<-part f.type xs f.offset
      let v<-part f.type e f.offset
      let r<-Op.equalIn 9999 f.type u v
      if(!r)=true then pure (ForInStep.done (some false,()))else pure (ForInStep.yield (none,()))
     else pure (ForInStep.yield (none,())))=some (if ik c a b then(none,())else(some false,()))
 |[],[],_,_,_,_,_,_,_,_=>rfl
 |[],_::_,_,_,_,_,_,h,_,_=>by cases h
 |_::_,[],_,_,_,_,_,h,_,_=>by cases h
 |f::l,g::c,a,b,i,xs,e,h,k,m=>by
  have:=Ie
  simp only[zT,bp]at h
  have o:¬(f.name= "_"):=by
   have:=h.1
   simp only[yh,bp,mR,Es]at this
   exact this.1.1.1
  have p:=Pz (xs:=xs) (x:=g.val a.1) h.1 (by have:=k 0;simpa[ay]using this)
  have t:=Pz (xs:=e) (x:=g.val b.1) h.1 (by have:=m 0;simpa[ay]using this)
  have y:=abZ (d:=9998) h.1 a.1 b.1
  rw[Ja]
  simp only[uo,o,not_false_eq_true,gr,bind_assoc]
  rw[eJ,p,jZ,eJ,t,jZ,eJ,y,jZ]
  cases n:o6 g a.1 b.1
  .simp only[Jb,gr,pure_bind,ik,n,rD,kk,fF];rfl
  .simp only[Bl,kk,fF,pure_bind,ik,n,hI]
   refine MJ l c a.2 b.2 (i+1) xs e h.2 (λj=>?_) (λj=>?_)
   .have:=k (j+1)
    rw[show i+1+j=i+(j+1)by omega,this];simp[ay]
   .have:=m (j+1)
    rw[show i+1+j=i+(j+1)by omega,this];simp[ay]
theorem MK (h:u6 t ls=true) (a b:bK ls):aQ prog (Op.equal t (ag ls a) (ag ls b))=some (ik ls a b):=by
 simp only[u6,bp,mR]at h
 obtain⟨⟨c,f⟩,i⟩:=h
 show aQ prog (Op.equalIn (9998+1+1) t (.agg ⟨ay ls a⟩) (.agg ⟨ay ls b⟩))=_
 unfold Op.equalIn
 rw[eJ,yz]
 cases d:prog.underlying t with
 |none=>rw[d]at c;cases c
 |some x=>
  rw[d]at c
  cases x<;>first|(cases c;done)|skip
  rename_i e
  simp only[jZ]
  rw[eJ,show aQ prog program=some prog from rfl]
  simp only[jZ,f,kk,fF]
  rw[<-Array.forIn_toList]
  replace c:zT e.toList 0 ls=true:=c
  generalize e.toList=l at c⊢
  have g:=MJ l ls a b 0 ⟨ay ls a⟩ ⟨ay ls b⟩ c (λj=>by simp) (λj=>by simp)
  refine(eJ _ _).trans ((gU (λx=>Option.bind x _) g).trans ?_)
  cases ik ls a b<;>rfl
theorem W7 (h:u6 t ls=true):aQ prog (eqGuard .eql t x y (ag ls a) (ag ls b))=some ():=by
 simp only[u6,bp,mR]at h
 unfold eqGuard
 rw[ai dE]
 simp only
 rw[eJ,show aQ prog program=some prog from rfl,jZ,eJ,show aQ prog program=some prog from rfl,jZ,ak (by rw[h.2];rfl)]
 rfl
theorem aaZ (h:u6 t ls=true):aQ prog (eqGuard .neq t x y (ag ls a) (ag ls b))=some ():=by
 simp only[u6,bp,mR]at h
 unfold eqGuard
 rw[ai dE]
 simp only
 rw[eJ,show aQ prog program=some prog from rfl,jZ,eJ,show aQ prog program=some prog from rfl,jZ,ak (by rw[h.2];rfl)]
 rfl
variable {E:World} {L:List aK}
theorem yd (c:k (ik ls a b) w) (h:u6 t ls=true:=by kernel_rfl):fU prog (cL .eql t x y (ag ls a) (ag ls b)) aw k w:=by
 refine jF (x:=ik ls a b) ?_ c
 unfold cL vN
 rw[eJ,eJ,W7 h,jZ]
 have d:aQ prog (Go.binOp .eql t (ag ls a) (ag ls b))=some (.bool (ik ls a b)):=by
  show aQ prog (do pure (.bool (<-Op.equal t (ag ls a) (ag ls b))):Sem Value)=_
  rw[eJ,MK h];rfl
 rw[d];rfl
theorem eP (c:k (!ik ls a b) w) (h:u6 t ls=true:=by kernel_rfl):fU prog (cL .neq t x y (ag ls a) (ag ls b)) aw k w:=by
 refine jF (x:=!ik ls a b) ?_ c
 unfold cL vN
 rw[eJ,eJ,aaZ h,jZ]
 have d:aQ prog (Go.binOp .neq t (ag ls a) (ag ls b))=some (.bool (!ik ls a b)):=by
  show aQ prog (do pure (.bool (!(<-Op.equal t (ag ls a) (ag ls b)))):Sem Value)=_
  rw[eJ,MK h];rfl
 rw[d];rfl
abbrev Sp:=Int×Int×Unit
abbrev jf:=Int×Int×Int×ByteArray×Unit
theorem nT {b:Bool} (h:(!b)=true):b=false:=by cases b<;>first|rfl|cases h
theorem nF {b:Bool} (h:(!b)=false):b=true:=by cases b<;>first|rfl|cases h
theorem fin {k:α->Pr} {x y:α} (h:k y w) (e:x=y):k x w:=e▸h
def cA (s:Sp):Bool:=decide (0<=s.1)&&decide (s.1<s.2.1)&&decide (s.2.1<=1099511627776)
def ey (s:Sp) (t:Int):Bool:=cA s&&decide (s.1<=t)&&decide (t<s.2.1)
def nt (a b:Sp):Sp:=(if a.1<b.1 then b.1 else a.1,if b.2.1<a.2.1 then b.2.1 else a.2.1,())
def pr (a b:Sp):Bool:=cA a&&cA b&&cA (nt a b)
def rh (a b:Sp):List Sp:=if pr a b then[(a.1,(nt a b).1,()),((nt a b).2.1,a.2.1,())].filter cA else[a].filter cA
variable {F:bh} {v:jf} {d:Sp}
theorem qM {p:Sp} (h:ab E w L) (b:∀a,ab E a L->k (cA p) a):CL 66 #[ag aC p] aw k w:=by
 refine agi ?_
 repeat' (first|refine gA ?_|(refine gB ?_;clear h;intro w h)|(refine gC ?_;clear h;intro b0 w h)|refine aL ?_|refine ax (λc=>?_) (λc=>?_))
 all_goals refine fin (b _ dD) ?_
 all_goals (simp_all[cA]<;>intros<;>omega)
theorem Tx {p:Sp} {t:Int} (h:ab E w L) (b:∀a,ab E a L->k (ey p t) a):CL 118 #[ag aC p,iv t] aw k w:=by
 refine acx ?_
 repeat (first|refine gA ?_|(refine gB ?_;clear h;intro w h)|(refine gC ?_;clear h;intro b0 w h))
 refine qM h λw h=>?_
 repeat' (first|refine gA ?_|(refine gB ?_;clear h;intro w h)|(refine gC ?_;clear h;intro b0 w h)|refine aL ?_|refine ax (λc=>?_) (λc=>?_))
 all_goals refine fin (b _ dD) ?_
 all_goals (simp_all[ey]<;>intros<;>omega)
theorem Kz {a b:Sp} {k:Sp×Bool×Unit->Pr} (h:ab E w L) (d:∀c,ab E c L->k (if pr a b then nt a b else(0,0,()),pr a b,()) c):CL 158 #[ag aC a,ag aC b] (.aG [.agg aC,.leaf .bool]) k w:=by
 refine ac9 ?_
 repeat' (first|refine gA ?_|(refine gB ?_;clear h;intro w h)|(refine gC ?_;clear h;intro b0 w h)|(refine qM h ?_;clear h;intro w h)|refine aL ?_|refine ax (λe=>?_) (λe=>?_))
 all_goals refine fin (d _ dD) ?_
 all_goals simp_all[pr,nt]
theorem cR {l:List α} (h:i<l.length):l.take (i+1)=l.take i++[l[i]]:=by rw[RB,fA h];rfl
theorem KA {ps:List Sp} {k:Sl->Pr} (h:ab E w (ae F::L)) (hs:FL F aC s ps) (hn:ps.length<=1073741824) (g:∀G d e,F.le G->FL G aC d (ps.filter cA)->ab E e (ae G::L)->k d e):CL 159 #[sv s] aE k w:=by
 refine ada ?_
 refine gD (S:=Sl×Int) ps.length (λi s w=>s.2=i/\ab E w (OS 196 aC s.1 ((ps.take i).filter cA)::ae F::L)) ⟨rfl,fm h⟩ ?_
 rintro next ⟨o,_⟩ w i p ⟨rfl,h⟩ b
 refine ao λ_=>?_
 refine ax (λc=>?_) (λc=>?_)
 .have cH:i<ps.length:=by have:=cT c;simp only[hs.2]at this;omega
  refine br (λo w=>ab E w (OS 196 aC o ((ps.take (i+1)).filter cA)::ae F::L)) (λo w h=>?_) λJ f=>?_
  .exact .go λ_=>b cH _ _ ⟨bV cH hn,h⟩
  refine ix hs cH λa r=>?_
  repeat (first|refine gA ?_|(refine gB ?_;clear h;intro w h)|(refine gC ?_;clear h;intro b0 w h)|(refine qM h ?_;clear h;intro w h))
  refine ax (λc=>?_) (λc=>?_)
  .repeat (first|refine gA ?_|(refine gB ?_;clear h;intro w h)|(refine gC ?_;clear h;intro b0 w h))
   refine bJ h λt w _ h=>?_
   have j:((ps.take i).filter cA).length<1073741824:=by have:=gV cA (ps.take i);rw[cn]at this;omega
   refine eA h j λd w h=>f _ _ ?_
   rw[cR cH,nC,jr,ak c]
   exact h.sub sS
  .refine f _ _ ?_
   rw[cR cH,nC,jr,ai (by simp[c]),Bm,iO]
   exact h.sub sS
 .have cH:i=ps.length:=by have:=cF c;simp only[hs.2]at this;omega
  subst cH
  rw[cB]at h
  obtain⟨G,l,m,n⟩:=dT (T:=196) (ls:=aC) (F:=F) h
  exact g G _ _ l n m
theorem Tz {a b:Sp} {k:Sl->Pr} (h:ab E w (ae F::L)) (l:∀G c m,F.le G->FL G aC c (rh a b)->ab E m (ae G::L)->k c m):CL 119 #[ag aC a,ag aC b] aE k w:=by
 refine acy ?_
 repeat (first|refine gA ?_|(refine gB ?_;clear h;intro w h)|(refine gC ?_;clear h;intro b0 w h)|(refine Kz h ?_;clear h;intro w h))
 refine ax (λd=>?_) (λd=>?_)
 .repeat (first|refine gA ?_|(refine gB ?_;clear h;intro w h)|(refine gC ?_;clear h;intro b0 w h))
  refine bJ h λc w _ h=>?_
  obtain⟨G,e,h,f⟩:=dT (T:=196) (ls:=aC) (F:=F) h
  refine KA h f (xx rfl) λg o w i j h=>?_
  refine l g _ _ (e.trans i) ?_ (h.sub sS)
  unfold rh;rw[ai (by simpa using d)];exact j
 .have n:pr a b=true:=by simpa using d
  simp only[n,gr]at h⊢
  repeat (first|refine gA ?_|(refine gB ?_;clear h;intro w h)|(refine gC ?_;clear h;intro b0 w h))
  refine B9 (ls:=aC) (y:=(a.1,(nt a b).1,())) (z:=((nt a b).2.1,a.2.1,())) h λc w _ h=>?_
  obtain⟨G,e,h,f⟩:=dT (T:=196) (ls:=aC) (F:=F) h
  refine KA h f (xx rfl) λg o w i j h=>?_
  refine l g _ _ (e.trans i) ?_ (h.sub sS)
  unfold rh;rw[ak n];exact j
abbrev eB:ByteArray:=⟨#[]⟩
def wi (v:jf):Option jf:=
 if v.1=0 then some (v.1,0,0,eB,())
 else if v.1=1 then some (v.1,w6 ((BitVec.ofInt IntKind.i64.bits v.2.1&&&BitVec.ofInt IntKind.i64.bits 1).toNat:Int),0,eB,())
 else if v.1=2 then some (v.1,v.2.1,0,eB,())
 else if v.1=3 then some (v.1,0,(uT v.2.2.1.toNat:Nat),eB,())
 else if v.1=4\/v.1=5 then some (v.1,0,0,v.2.2.2.1,())else none
def dM (v:jf):Bool:=match wi v with|some b=>ik aP v b&&decide ((v.2.2.2.1.size:Int)<=4096)|none=>false
structure WV (v:jf):Prop where
 k1:-9223372036854775808<=v.1/\v.1<=9223372036854775807
 n1:-9223372036854775808<=v.2.1/\v.2.1<=9223372036854775807
 b1:0<=v.2.2.1/\v.2.2.1<=18446744073709551615
theorem p69 (p:Nat):aQ prog (callFunc 69 #[.float .f64 p])=some (.value (.int .u64 (Int.ofNat p))):=kK
theorem p15 (p:Nat):aQ prog (callFunc 15 #[.int .u64 (Int.ofNat p)])=some (.value (.float .f64 p)):=kK
theorem Xd (i j a b:Nat):aQ prog (cL .neq 70 (.tmp i) (.tmp j) (.float .f64 a) (.float .f64 b))=some (.value (.bool (Ieee.double.order a b !=some .eq))):=kK
theorem Xc (i a:Nat):aQ prog (cL .eql 70 (.tmp i) (.const (.float .f64 0)) (.float .f64 a) (.float .f64 0))=some (.value (.bool (Ieee.double.order a 0==some .eq))):=kK
theorem zK (h:ab E w L) (b:∀a,ab E a L->k (n6 p) a):CL 68 #[.float .f64 p] aw k w:=by
 refine agk ?_
 refine jF (x:=n6 p) ?_ (b w h)
 have e:(Ieee.double.order p p !=some .eq)=n6 p:=by
  have:=aby p
  unfold bne;rw[this];simp
 rw[Xd,e];rfl
theorem Vt {k:Int->Pr} (h:ab E w L) (c:∀d,ab E d L->k (uT p:Nat) d):CL 35 #[.float .f64 p] (.one (.leaf (.int .u64))) k w:=by
 refine afT ?_
 refine zK h λw h=>?_
 refine ax (λb=>?_) (λb=>?_)
 .refine fin (c w h) ?_
  unfold uT;rw[b];rfl
 .refine jF (x:=(!n6 p&&decide (p%9223372036854775808=0))) ?_ ?_
  .rw[Xc,abz];rfl
  .refine ax (λa=>?_) (λa=>?_)
   .refine fin (c w h) ?_
    rw[b]at a
    unfold uT;rw[b];simp at a;simp[a]
   .refine jF (x:=(p:Int)) (p69 p) ?_
    refine fin (c w h) ?_
    rw[b]at a
    unfold uT;rw[b];simp at a;simp[a]
theorem f15 {b:Int} {k:Nat->Pr} (a:0<=b) (c:k b.toNat w):fU prog (callFunc 15 #[.int .u64 b]) (.one (.leaf .float)) k w:=by
 obtain⟨p,rfl⟩:=Bn a
 exact jF (x:=p) (p15 p) c
theorem rR (h:ab E w L) (m:∀o,ab E o L->k (dM v) o) (hv:0<=v.2.2.1:=by assumption):CL 46 #[ag aP v] aw k w:=by
 obtain⟨a,n,b,s,⟨⟩⟩:=v
 refine af4 ?_
 refine bx h λp w h=>?_
 refine ld h ?_
 refine al h λr w h=>?_
 refine bU h λw h=>?_
 refine br (λ_ w=>∃x,wi (a,n,b,s,())=some x/\ab E w (lc r 27 (ay aP x)::lc p 27 (ay aP (a,n,b,s,()))::L)) (λ_ w h=>?_) λJ j=>?_
 .obtain⟨x,u,h⟩:=h
  repeat' (first|refine gA ?_|(refine gB ?_;clear h;intro w h)|(refine gC ?_;clear h;intro b0 w h)|refine aL ?_|refine ax (λt=>?_) (λt=>?_))
  all_goals refine fin (m _ dD) ?_
  all_goals simp_all[dM]
 refine ld h ?_
 refine ax (λe=>?_) (λe=>?_)
 .obtain rfl:=ek e
  exact j _ _ ⟨_,rfl,h⟩
 replace e:=ei e
 refine ax (λf=>?_) (λf=>?_)
 .obtain rfl:=ek f
  repeat (first|refine gA ?_|(refine gB ?_;clear h;intro w h)|(refine gC ?_;clear h;intro b0 w h))
  exact j _ _ ⟨_,rfl,h⟩
 replace f:=ei f
 refine ax (λg=>?_) (λg=>?_)
 .obtain rfl:=ek g
  repeat (first|refine gA ?_|(refine gB ?_;clear h;intro w h)|(refine gC ?_;clear h;intro b0 w h))
  exact j _ _ ⟨_,rfl,h⟩
 replace g:=ei g
 refine ax (λi=>?_) (λi=>?_)
 .obtain rfl:=ek i
  repeat (first|refine gA ?_|(refine gB ?_;clear h;intro w h)|(refine gC ?_;clear h;intro b0 w h))
  refine f15 hv ?_
  refine Vt h λw h=>?_
  repeat (first|refine gA ?_|(refine gB ?_;clear h;intro w h)|(refine gC ?_;clear h;intro b0 w h))
  exact j _ _ ⟨_,rfl,h⟩
 replace i:=ei i
 refine br (λ(c:Bool) w=>c=decide (a=4\/a=5)/\ab E w (lc r 27 [iv a,iv 0,.int .u64 0,.string eB]::lc p 27 (ay aP (a,n,b,s,()))::L)) (λc w h=>?_) λy l=>?_
 .obtain⟨rfl,h⟩:=h
  refine ao λ_=>?_
  refine ax (λd=>?_) (λd=>?_)
  .repeat (first|refine gA ?_|(refine gB ?_;clear h;intro w h)|(refine gC ?_;clear h;intro b0 w h))
   exact j _ _ ⟨(a,0,0,s,()),by simp only[wi,e,f,g,i,fF,cT d,gr],h⟩
  .refine fin (m _ dD) ?_
   simp only[dM,wi,e,f,g,i,fF,cF d]
 refine ax (λd=>?_) (λd=>?_)
 .exact l _ _ ⟨by have:a=4:=ek d;subst this;rfl,h⟩
 .exact l _ _ ⟨by have:a≠4:=ei d;show(a==5)=_;rw[gb];simp[this],h⟩
abbrev Row:=List jf
abbrev Pc:=Int×Int×Row
def iu (F:bh) (r:bK av) (p:Pc):Prop:=r.1=p.1/\r.2.1=p.2.1/\FL F aP r.2.2.1 p.2.2
theorem eK:uM iu:=λF G r a b ⟨c,d,e⟩=>⟨c,d,e.up b⟩
abbrev eV (F:bh) (s:Sl) (ps:List Pc):Prop:=NL F av iu s ps
structure dk (r:Row):Prop where
 len:r.length<=268435456
 wv:∀v∈r,WV v
structure fs (ps:List Pc):Prop where
 len:ps.length<=268435456
 row:∀p∈ps,dk p.2.2
def iW (r:Row):Bool:=r.all dM
def eG:Int->List Pc->Bool
 |_,[]=>true
 |e,p::a=>cA (p.1,p.2.1,())&&iW p.2.2&&decide (e<=p.1)&&eG p.2.1 a
def AR (a b:Row):Bool:=decide (a.length=b.length)&&(a.zip b).all λp=>ik aP p.1 p.2
theorem tc (a b:ByteArray):(a==b)=true↔a=b:=by
 obtain⟨x⟩:=a
 obtain⟨y⟩:=b
 show(x==y)=true↔_
 rw[qq]
 exact⟨λh=>by rw[h],λh=>by cases h;rfl⟩
theorem aaQ:∀{l:bD} {a b:l.den},o6 l a b=true->a=b
 |.int _,a,b,h=>by simpa[o6]using h
 |.bool,a,b,h=>by simpa[o6]using h
 |.str,a,b,h=>(tc a b).1 h
theorem MH:∀{c:List bD} {a b:bK c},ik c a b=true->a=b
 |[],_,_,_=>rfl
 |l::c,(a,x),(b,y),h=>by
  simp only[ik,bp]at h
  rw[aaQ h.1,MH h.2]
theorem MI (v:jf):ik aP v v=true:=by simp[ik,o6,(tc v.2.2.2.1 v.2.2.2.1).2 rfl]
theorem Gn {a b:jf}:ik aP a b=decide (a=b):=by
 rw[gb,vR]
 exact⟨λh=>MH h,λh=>h▸MI a⟩
theorem ag0 {a b:Row}:AR a b=decide (a=b):=by
 rw[gb,vR]
 simp only[AR,bp,bX,Gn]
 constructor
 .rintro⟨c,d⟩
  induction a generalizing b with
  |nil=>cases b with
   |nil=>rfl
   |cons y b=>simp at c
  |cons x a e=>cases b with
   |nil=>simp at c
   |cons y b=>
    simp only[Bo,uu,bp,bX]at d
    rw[d.1,e (by simpa using c) d.2]
 .rintro rfl
  refine⟨rfl,?_⟩
  induction a with
  |nil=>rfl
  |cons x a e=>simp only[Bo,uu,bp,bX];exact⟨trivial,e⟩
variable {r:Row} {ps:List Pc} {q:Pc}
theorem LI (h:ab E w (ae F::L)) (hs:FL F aP s r) (hr:dk r) (f:∀g,ab E g (ae F::L)->k (iW r) g):CL 67 #[sv s] aw k w:=by
 refine agj ?_
 refine cy (cf:=λs=>s) r.length (by rw[hs.2]) (λi _ w=>ab E w (ae F::L)/\(r.take i).all dM=true) rfl ⟨h,rfl⟩ ?_ ?_
 .rintro next _ w i c rfl ⟨h,d⟩ b
  have j:=(hr.wv _ (cp c)).b1.1
  have l:=hr.len
  refine ix hs c λa _=>?_
  repeat (first|refine gA ?_|(refine gB ?_;clear h;intro w h)|(refine gC ?_;clear h;intro b0 w h))
  refine rR h (λw h=>?_) j
  refine ax (λe=>?_) (λe=>?_)
  .refine fin (f _ dD) ?_
   have:r.all dM=false:=List.all_eq_false.2 ⟨_,cp c,by simpa using e⟩
   exact this.symm
  .refine b _ _ (bV c om) ⟨dD,?_⟩
   rw[cR c,ou,d];simpa using e
 .rintro _ w ⟨h,d⟩
  refine fin (f _ h) ?_
  rw[cB]at d;exact d.symm
theorem FV {t:Sl} {a b:Row} (h:ab E w (ae F::L)) (hs:FL F aP s a) (m:FL F aP t b) (hn:a.length<=268435456) (f:∀o,ab E o (ae F::L)->k (decide (a=b)) o):CL 34 #[sv s,sv t] aw k w:=by
 rw[<-ag0]at f
 refine afS ?_
 refine ax (λc=>?_) (λc=>?_)
 .refine fin (f _ h) ?_
  have:a.length≠b.length:=λe=>OV c (by rw[hs.2,m.2,e])
  simp[AR,this]
 have n:a.length=b.length:=by have:=OU c;rw[hs.2,m.2]at this;omega
 refine cy (cf:=λs=>s) a.length (by rw[hs.2]) (λi _ w=>ab E w (ae F::L)/\((a.take i).zip (b.take i)).all (λp=>ik aP p.1 p.2)=true) rfl ⟨h,rfl⟩ ?_ ?_
 .rintro next _ w i g rfl ⟨h,j⟩ d
  refine dr h λw h=>?_
  refine ix hs g λr _=>?_
  refine fJ h ?_
  refine ix m (n▸g) λu _=>?_
  repeat (first|refine gA ?_|(refine gB ?_;clear h;intro w h)|(refine gC ?_;clear h;intro b0 w h))
  refine ax (λc=>?_) (λc=>?_)
  .refine fin (f _ h) ?_
   have:(a.zip b).all (λp=>ik aP p.1 p.2)=false:=List.all_eq_false.2 ⟨(a[i],b[i]),List.mem_iff_getElem.2 ⟨i,by simp;omega,sI⟩,by simpa using c⟩
   simp[AR,this]
  .refine d _ _ (bV g om) ⟨h,?_⟩
   rw[cR g,cR (l:=b) om,Et (by simp;omega),ou,j]
   simpa using c
 .rintro _ w ⟨h,j⟩
  refine fin (f _ h) ?_
  rw[cB,n,cB]at j
  simp[AR,n,j]
theorem Lz {k:Sl->Pr} (h:ab E w (ae F::L)) (hs:eV F s ps) (l:fs ps) (u:∀G m d n,F.le G->cw (iu G) d ps->ab E n (OS 45 av m d::ae G::L)->k m n):CL 31 #[sv s] aE k w:=by
 refine afC ?_
 have A:=l.len
 refine cy (S:=Sl×Int) (cf:=λs=>s.2) ps.length (by rw[hs.len]) (λi s w=>∃G d,F.le G/\cw (iu G) d (ps.take i)/\ab E w (OS 45 av s.1 d::ae G::L)) rfl ⟨F,[],.refl _,.nil,fm h⟩ ?_ ?_
 .rintro next ⟨o,_⟩ w i f rfl ⟨G,d,c,b,h⟩ e
  have g:=b.len
  rw[cn]at g
  refine fx (hs.up eK c) f λa r _ j=>?_
  repeat (first|refine gA ?_|(refine gB ?_;clear h;intro w h)|(refine gC ?_;clear h;intro b0 w h))
  refine ta h j.2.2 (by have:=(l.row _ (cp f)).len;omega) λv w h=>?_
  repeat (first|refine gA ?_|(refine gB ?_;clear h;intro w h)|(refine gC ?_;clear h;intro b0 w h))
  refine bJ (ls:=av) (y:=(r.1,r.2.1,v,())) h λC w _ h=>?_
  repeat (first|refine gA ?_|(refine gB ?_;clear h;intro w h)|(refine gC ?_;clear h;intro b0 w h))
  refine eA (xs:=d) h om λD w h=>?_
  repeat (first|refine gA ?_|(refine gB ?_;clear h;intro w h)|(refine gC ?_;clear h;intro b0 w h))
  obtain⟨x,t,h,z⟩:=dT (T:=28) (ls:=aP) (F:=G) h
  refine e _ _ (bV f om) ⟨x,_,c.trans t,?_,h.sub sS⟩
  rw[cR f]
  exact(b.imp λr p=>eK _ _ r p t).app (.one ⟨j.1,j.2.1,z⟩)
 .rintro⟨o,_⟩ w ⟨G,d,c,b,h⟩
  rw[cB]at b
  exact u G _ _ _ c b h
theorem xS {k:Sl->Pr} (h:ab E w (ae F::L)) (hs:eV F s ps) (e:fs ps) (f:∀G a c,F.le G->eV G a ps->ab E c (ae G::L)->k a c):CL 31 #[sv s] aE k w:=
 Lz h hs e λG a g w i b h=>by
  obtain⟨j,d,h,l⟩:=dT (T:=45) (ls:=av) (F:=G) h
  exact f j _ _ (i.trans d) ⟨g,l,b.imp λr p=>eK _ _ r p d⟩ h
theorem wx (h:ab E w (ae F::L)) (hs:eV F s ps) (p:fs ps) (t:∀u,ab E u (ae F::L)->k (eG 0 ps) u):CL 32 #[sv s] aw k w:=by
 refine afJ ?_
 have y:=p.len
 refine cy (S:=Int×Int) (cf:=λs=>s.2) ps.length (by rw[hs.len]) (λi s w=>eG 0 ps=eG s.1 (ps.drop i)/\ab E w (ae F::L)) rfl ⟨rfl,h⟩ ?_ ?_
 .rintro next ⟨e,_⟩ w i l rfl ⟨d,h⟩ f
  have g:=p.row _ (cp l)
  rw[iB l]at d
  simp only[eG]at d
  refine fx hs l λa r _ x=>?_
  obtain⟨m,n,o⟩:=x
  rw[<-m,<-n]at d
  refine fJ h ?_
  refine al h λv w h=>?_
  repeat (first|refine gA ?_|(refine gB ?_;clear h;intro w h)|(refine gC ?_;clear h;intro b0 w h)|(refine qM h ?_;clear h;intro w h))
  refine br (λ(c:Bool) w=>c=!(cA (r.1,r.2.1,())&&iW ps[i].2.2)/\ab E w (lc v 50 (ay av r)::ae F::L)) (λc w h=>?_) λJ j=>?_
  .obtain⟨rfl,h⟩:=h
   refine ao λ_=>?_
   refine br (λ(c:Bool) w=>c=!(cA (r.1,r.2.1,())&&iW ps[i].2.2&&decide (e<=r.1))/\ab E w (lc v 50 (ay av r)::ae F::L)) (λc w h=>?_) λJ j=>?_
   .obtain⟨rfl,h⟩:=h
    repeat' (first|refine gA ?_|(refine gB ?_;clear h;intro w h)|(refine gC ?_;clear h;intro b0 w h)|refine aL ?_|refine ax (λb=>?_) (λb=>?_))
    .refine fin (t _ dD) ?_
     rw[d,show(cA (r.1,r.2.1,())&&iW ps[i].2.2&&decide (e<=r.1))=false from nT b];rfl
    .refine f _ _ (bV l om) ⟨?_,dD⟩
     rw[d,show(cA (r.1,r.2.1,())&&iW ps[i].2.2&&decide (e<=r.1))=true from nF b];rfl
   .repeat' (first|refine gA ?_|(refine gB ?_;clear h;intro w h)|(refine gC ?_;clear h;intro b0 w h)|refine aL ?_|refine ax (λb=>?_) (λb=>?_))
    .refine j _ _ ⟨?_,h⟩
     rw[nT b];rfl
    .refine j _ _ ⟨?_,h⟩
     rw[nF b,hI,gb]
     simp
  .repeat' (first|refine gA ?_|(refine gB ?_;clear h;intro w h)|(refine gC ?_;clear h;intro b0 w h)|refine aL ?_|refine ax (λb=>?_) (λb=>?_))
   .refine j _ _ ⟨?_,h⟩
    rw[nT b];rfl
   .refine LI (h.pick pK) o g λw h=>?_
    refine j _ _ ⟨?_,h.sub sS⟩
    rw[nF b];rfl
 .rintro⟨e,_⟩ w ⟨d,h⟩
  refine fin (t _ h) ?_
  rw[d,qv];rfl
def lA (s:Sp) (p:Pc):List Pc:=(rh (p.1,p.2.1,()) s).map λc=>(c.1,c.2.1,p.2.2)
def gG (ps:List Pc) (s:Sp):List Pc:=if eG 0 ps&&cA s then ps.flatMap (lA s)else ps
def gH (s:Sp) (l:List Pc):Nat:=(l.takeWhile λp=>decide (p.1<s.1)).length
def ma (ps:List Pc) (s:Sp) (r:Row):List Pc:=if eG 0 ps&&cA s&&iW r then(gG ps s).take (gH s (gG ps s))++(s.1,s.2.1,r)::(gG ps s).drop (gH s (gG ps s))else ps
theorem Mk (s:Sp) (p:Pc):(lA s p).length<=2:=by
 unfold lA rh
 rw[bW]
 split
 .exact gV _ _
 .exact qw (gV _ _) sI
theorem Ws {s:Sp} {p:Pc} (h:q∈lA s p):q.2.2=p.2.2:=by
 obtain⟨c,_,rfl⟩:=List.mem_map.1 h;rfl
theorem Ge (s:Sp):∀a:List Pc,(a.flatMap (lA s)).length<=2*a.length
 |[]=>cV _
 |p::a=>by
  rw[fc,aU,db]
  have:=Mk s p
  have:=Ge s a
  omega
theorem WU (ps:List Pc) (s:Sp):(gG ps s).length<=2*ps.length:=by
 unfold gG;split
 .exact Ge s ps
 .omega
theorem Mx {s:Sp} (h:q∈gG ps s):∃p∈ps,q.2.2=p.2.2:=by
 unfold gG at h;split at h
 .obtain⟨p,a,b⟩:=List.mem_flatMap.1 h
  exact⟨p,a,Ws b⟩
 .exact⟨q,h,rfl⟩
theorem Mw {s:Sp} (h:fs ps) (c:ps.length<=100000000):fs (gG ps s):=
 ⟨by have:=WU ps s;omega,λq a=>by obtain⟨p,b,e⟩:=Mx a;rw[e];exact h.row p b⟩
theorem LL {k:Sl->Pr} (h:ab E w (ae F::L)) (hs:eV F s ps) (I:fs ps) (hl:ps.length<=100000000) (K:∀G s' w',F.le G->eV G s' (gG ps d)->ab E w' (ae G::L)->k s' w'):CL 77 #[sv s,ag aC d] aE k w:=by
 refine agt ?_
 refine bx h λM w h=>?_
 refine xS (h.pick pK) hs I λH s1 w z g h=>?_
 refine wx h g I λw h=>?_
 refine br (λ(c:Bool) w=>c=!(eG 0 ps&&cA d)/\ab E w (ae H::lc M 39 (ay aC d)::L)) (λc w h=>?_) λJ hJ=>?_
 .obtain⟨rfl,h⟩:=h
  refine ao λ_=>?_
  refine ax (λn=>?_) (λn=>?_)
  .refine K H _ _ z ?_ (h.sub sS)
   unfold gG;rw[nT n];exact g
  have hd:gG ps d=ps.flatMap (lA d):=by unfold gG;rw[nF n];rfl
  rw[hd]at K
  clear n
  refine cy (S:=Sl×Int) (cf:=λs=>s.2) ps.length (by rw[g.len]) (λi s w=>∃G x,H.le G/\cw (iu G) x ((ps.take i).flatMap (lA d))/\ab E w (OS 45 av s.1 x::ae G::lc M 39 (ay aC d)::L)) rfl ⟨H,[],.refl _,.nil,fm h⟩ ?_ ?_
  .rintro next ⟨o,_⟩ w i N rfl ⟨G,x,l,f,h⟩ t
   have jl:=f.len
   have O:=Ge d (ps.take i)
   rw[cn]at O
   refine fx (g.up eK l) N λa r _ P=>?_
   refine fJ h ?_
   refine al h λt7 w h=>?_
   repeat (first|refine gA ?_|(refine gB ?_;clear h;intro w h)|(refine gC ?_;clear h;intro b0 w h))
   refine Tz (h.pick pK) λQ t30 w u v h=>?_
   have R:rh (r.1,r.2.1,()) d=rh (ps[i].1,ps[i].2.1,()) d:=by rw[P.1,P.2.1]
   have A:=Mk d ps[i]
   unfold lA at A;rw[bW]at A
   rw[R]at v
   generalize U:rh (ps[i].1,ps[i].2.1,()) d=C at*
   refine cy (S:=Sl×Int) (cf:=λs=>s.2) C.length (by rw[v.2]) (λj s w=>∃e,cw (iu Q) e ((ps.take i).flatMap (lA d)++(C.take j).map λc=>(c.1,c.2.1,ps[i].2.2))/\ab E w (OS 45 av s.1 e::ae Q::lc t7 50 (ay av r)::lc M 39 (ay aC d)::L)) rfl
    ⟨x,by rw[uw,ki,iO];exact f.imp λr p=>eK _ _ r p u,h.sub sS⟩ ?_ ?_
   .rintro V ⟨o2,_⟩ w j W rfl ⟨e,b,h⟩ m
    have X:=b.len
    rw[aU,bW,cn]at X
    refine ix v W λa _=>?_
    repeat (first|refine gA ?_|(refine gB ?_;clear h;intro w h)|(refine gC ?_;clear h;intro b0 w h))
    refine bJ (ls:=av) (y:=(C[j].1,C[j].2.1,r.2.2.1,())) h λs2 w _ h=>?_
    refine eA (xs:=e) h om λs3 w h=>?_
    refine m _ _ (bV W om) ⟨_,?_,h.sub sS⟩
    rw[cR W,fe,<-cP]
    exact b.app (.one ⟨rfl,rfl,P.2.2.up u⟩)
   .rintro⟨o2,_⟩ w ⟨e,b,h⟩
    rw[cB]at b
    refine t _ _ (bV N om) ⟨Q,e,l.trans u,?_,h.sub sS⟩
    rw[cR N,gM]
    have:[ps[i]].flatMap (lA d)=C.map λc=>(c.1,c.2.1,ps[i].2.2):=by rw[fc,xB,iO];unfold lA;rw[U]
    rw[this];exact b
  .rintro⟨o,_⟩ w ⟨G,x,l,f,h⟩
   rw[cB]at f
   obtain⟨G2,h1,h,h3⟩:=dT (T:=45) (ls:=av) (F:=G) h
   have D:=Mw (s:=d) I hl
   rw[hd]at D
   refine xS h ⟨x,h3,f.imp λr p=>eK _ _ r p h1⟩ D λG3 s3 w Y Z h=>?_
   exact K G3 _ _ (((z.trans l).trans h1).trans Y) Z (h.sub sS)
 .refine ax (λn=>?_) (λn=>?_)
  .exact hJ _ _ ⟨by rw[nT n];rfl,h⟩
  .repeat (first|refine gA ?_|(refine gB ?_;clear h;intro w h)|(refine gC ?_;clear h;intro b0 w h)|(refine qM h ?_;clear h;intro w h))
   exact hJ _ _ ⟨by rw[nF n];rfl,h⟩
theorem M3 (s:Sp):∀(l:List Pc) (i:Nat),i<gH s l->∃h:i<l.length,l[i].1<s.1
 |[],i,h=>by simp[gH]at h
 |p::l,i,h=>by
  unfold gH at h
  rw[xC]at h
  split at h
  .rename_i a
   cases i with
   |zero=>exact⟨sI,lS a⟩
   |succ i=>
    obtain⟨b,c⟩:=M3 s l i (by simpa[gH]using h)
    exact⟨by simpa using b,by simpa using c⟩
  .simp at h
theorem M0 (s:Sp):∀(l:List Pc) (h:gH s l<l.length),¬(l[gH s l].1<s.1)
 |[],h=>by simp at h
 |p::l,h=>by
  by_cases a:p.1<s.1
  .have e:gH s (p::l)=gH s l+1:=by unfold gH;rw[xC,ak (by simpa using a)];rfl
   have b:gH s l<l.length:=by rw[e]at h;simpa using h
   have:=M0 s l b
   simpa[e]using this
  .have e:gH s (p::l)=0:=by unfold gH;rw[xC,ai (by simpa using a)];rfl
   simpa[e]using a
theorem Xl (s:Sp) (l:List Pc):gH s l<=l.length:=(List.takeWhile_sublist _).length_le
theorem fs.take (h:fs ps) (n:Nat):fs (ps.take n):=⟨by have:=h.len;rw[cn];omega,λp a=>h.row p (mj a)⟩
theorem fs.drop (h:fs ps) (n:Nat):fs (ps.drop n):=⟨by have:=h.len;rw[fq];omega,λp a=>h.row p (Jc a)⟩
theorem VG {t:Sl} {k:Sl->Pr} (h:ab E w (ae F::L)) (hs:eV F s ps) (ht:FL F aP t r) (R:fs ps) (hr:dk r) (hl:ps.length<=100000000) (U:∀G V w',F.le G->eV G V (ma ps d r)->ab E w' (ae G::L)->k V w'):CL 76 #[sv s,ag aC d,sv t] aE k w:=by
 refine ags ?_
 refine bx h λS w h=>?_
 refine wx (h.pick pK) hs R λw h=>?_
 refine br (λ(c:Bool) w=>c=!(eG 0 ps&&cA d)/\ab E w (ae F::lc S 39 (ay aC d)::L)) (λc w h=>?_) λJ n=>?_
 .obtain⟨rfl,h⟩:=h
  refine ao λ_=>?_
  refine br (λ(c:Bool) w=>c=!(eG 0 ps&&cA d&&iW r)/\ab E w (ae F::lc S 39 (ay aC d)::L)) (λc w h=>?_) λJ n=>?_
  .obtain⟨rfl,h⟩:=h
   refine ao λ_=>?_
   refine ax (λf=>?_) (λf=>?_)
   .refine xS h hs R λG V w h1 I h=>?_
    refine U G _ _ h1 ?_ (h.sub sS)
    unfold ma;rw[nT f];exact I
   have hd:ma ps d r=(gG ps d).take (gH d (gG ps d))++(d.1,d.2.1,r)::(gG ps d).drop (gH d (gG ps d)):=by unfold ma;rw[nF f];rfl
   rw[hd]at U
   clear f hd
   repeat (first|refine gA ?_|(refine gB ?_;clear h;intro w h)|(refine gC ?_;clear h;intro b0 w h))
   refine LL (h.pick pK) hs R hl λF1 K w M b h=>?_
   have x:=Mw (s:=d) R hl
   generalize gG ps d=l at*
   have NH:=x.len
   have W:=ht.up M
   have A:=Xl d l
   refine gD (gH d l) (λi s w=>s=(i:Int)/\ab E w (ae F1::lc S 39 (ay aC d)::L)) ⟨rfl,h⟩ ?_
   rintro next _ w i hi ⟨rfl,h⟩ g
   refine ao λ_=>?_
   refine br (λ(c:Bool) w=>c=decide (i<gH d l)/\ab E w (ae F1::lc S 39 (ay aC d)::L)) (λc w h=>?_) λJ n=>?_
   .obtain⟨rfl,h⟩:=h
    refine ao λ_=>?_
    refine ax (λf=>?_) (λf=>?_)
    .have dy:=cT f
     exact g dy _ _ ⟨bV dy om,h⟩
    have hi:i=gH d l:=by have:=cF f;omega
    clear f g
    refine dr h λw h=>?_
    subst hi
    have wK:=b.cap
    refine AV (i:=gH d l) (z:=3) om ?_
    repeat (first|refine gA ?_|(refine gB ?_;clear h;intro w h)|(refine gC ?_;clear h;intro b0 w h))
    refine Lz (h.pick pK) (b.sub (l:=0) (jt _) A om) (x.take _) λF2 t47 rs w C N h=>?_
    have X:=N.len
    simp only[mi,pz,cn]at X
    repeat (first|refine gA ?_|(refine gB ?_;clear h;intro w h)|(refine gC ?_;clear h;intro b0 w h))
    refine ta h (W.up C) (by have:=hr.len;omega) λO w h=>?_
    repeat (first|refine gA ?_|(refine gB ?_;clear h;intro w h)|(refine gC ?_;clear h;intro b0 w h))
    refine bJ (ls:=av) (y:=(d.1,d.2.1,O,())) h λt52 w _ h=>?_
    repeat (first|refine gA ?_|(refine gB ?_;clear h;intro w h)|(refine gC ?_;clear h;intro b0 w h))
    refine eA (xs:=rs) h om λt53 w h=>?_
    repeat (first|refine gA ?_|(refine gB ?_;clear h;intro w h)|(refine gC ?_;clear h;intro b0 w h))
    obtain⟨F3,D,h,Y⟩:=dT (T:=28) (ls:=aP) (F:=F2) h
    have o:=b.up eK (C.trans D)
    refine AU (i:=gH d l) (z:=3) (by rw[o.len];exact A) ?_
    have u:=o.sub (l:=gH d l) (h:=K.len) (m:=K.cap) (by rw[b.len];exact A) (by rw[b.len];exact cV _) (by have:=b.cap;rw[b.len];exact this)
    rw[iP (by rw[fq,b.len];omega)]at u
    refine xS h u (x.drop _) λF4 t58 w H Z h=>?_
    obtain⟨H7,XP,v⟩:=Z
    have P:=v.len
    rw[fq]at P
    refine ap (T:=45) (ls:=av) (xs:=rs++[(d.1,d.2.1,O,())]) (ys:=H7) h (λw h=>XP.reads (h.pick pK)) (by rw[aU];simp;omega) λt60 w h=>?_
    obtain⟨F5,j,h,h5⟩:=dT (T:=45) (ls:=av) (F:=F4) h
    refine U F5 _ _ ((((M.trans C).trans D).trans H).trans j) ⟨_,h5,?_⟩ (h.sub sS)
    have e:l.take (gH d l)++(d.1,d.2.1,r)::l.drop (gH d l)=(l.take (gH d l)++[(d.1,d.2.1,r)])++l.drop (gH d l):=sI
    rw[e]
    refine(cw.app ?_ (.one ⟨rfl,rfl,(Y.up H).up j⟩)).app (v.imp λr p=>eK _ _ r p j)
    have:=N.imp λr p=>eK _ _ r p ((D.trans H).trans j)
    simpa using this
   .refine dr h λw h=>?_
    refine ax (λf=>?_) (λf=>?_)
    .have Q:i<l.length:=by have:=cT f;rw[b.len]at this;omega
     refine fx b Q λa q _ hq=>?_
     repeat (first|refine gA ?_|(refine gB ?_;clear h;intro w h)|(refine gC ?_;clear h;intro b0 w h))
     refine n _ _ ⟨?_,h⟩
     rw[hq.1]
     rcases kj i (gH d l)with I|I
     .obtain⟨h3,h4⟩:=M3 d l i I
      simp only[h4,I]
     .have:i=gH d l:=om
      subst this
      simp only[M0 d l Q,Nat.lt_irrefl]
    .refine n _ _ ⟨?_,h⟩
     have he:¬i<gH d l:=by have:=cF f;rw[b.len]at this;omega
     simp only[he,Jd]
  .refine ax (λf=>?_) (λf=>?_)
   .exact n _ _ ⟨by rw[nT f];rfl,h⟩
   .refine LI h ht hr λw h=>?_
    exact n _ _ ⟨by rw[nF f];rfl,h⟩
 .refine ax (λf=>?_) (λf=>?_)
  .exact n _ _ ⟨by rw[nT f];rfl,h⟩
  .repeat (first|refine gA ?_|(refine gB ?_;clear h;intro w h)|(refine gC ?_;clear h;intro b0 w h)|(refine qM h ?_;clear h;intro w h))
   exact n _ _ ⟨by rw[nF f];rfl,h⟩
end Go.Proofs.YtelhccfmfnaegaaGreat
namespace Go.Sh
structure BL (P:Program) (K:TypeId) (kl:cE) (bj:kl.den->kl.den->Bool):Prop where
 iff:∀x y,bj x y=true↔x=y
 eq:∃d,aQ P (underlying K)=some d/\∀x,(∀y,Instr.sameNow d (kl.val x) (kl.val y)=none)/\∀y,aQ P (Op.equal K (kl.val x) (kl.val y))=some (bj x y)
 gX:∀x e,aQ P (Instr.checkKey e 10000 K (kl.val x))=some ()
 bits:∀x,Instr.sameBits 10000 (kl.val x) (kl.val x)=true
variable {P:Program} {E w:World} {L L':List aK} {kl vl:cE} {bj:kl.den->kl.den->Bool} {K M V:TypeId} {r:Nat} {es:List (dd kl.den vl.den)} {clock:Nat} {x:kl.den} {z v:vl.den} {t:TypeId} {m:Nat} {ty:TypeId} {kn:Pr} {ks:(kl.den×vl.den×Unit)->Pr} {e:dd kl.den vl.den} {k:(kl.den×vl.den×Unit)->Pr} {α:Type} {i:Nat} {y:α} {L1 L2:List aK} {A:aK}
def jX (kl:cE) (vl:cE) (e:dd kl.den vl.den):MapEntry:={key:=kl.val e.key,val:=vl.val e.val,born:=e.born}
def fL (kl:cE) (vl:cE) (r:Nat) (es:List (dd kl.den vl.den)) (a:Nat):aK:=aT r (.map ⟨es.map (jX kl vl)⟩ a)
theorem P8 {K:TypeId} {x:kl.den} (hs:∀y,aQ P (Op.equal K (kl.val x) (kl.val y))=some (bj x y)):∀(a:List (dd kl.den vl.den)) (i:Nat),
  (Instr.findAsking K (kl.val x) (a.map (jX kl vl)) i).run P w=.ok ((jy bj x a i).map λp=>(p.1,vl.val p.2)) w
 |[],_=>rfl
 |e::a,i=>by
  simp only[eZ,Instr.findAsking,jy]
  rw[show(jX kl vl e).key=kl.val e.key from rfl,ke (hs e.key)]
  cases bj x e.key with
  |true=>simp[jX]
  |false=>simpa using P8 hs a (i+1)
theorem P9 (a:BL P K kl bj) (x:kl.den) (es:List (dd kl.den vl.den)):
  (Instr.findKey K (kl.val x) (es.map (jX kl vl))).run P w=.ok ((jy bj x es 0).map λp=>(p.1,vl.val p.2)) w:=by
 obtain⟨d,b,h⟩:=a.eq
 obtain⟨c,g⟩:=h x
 unfold Instr.findKey
 rw[da (cd _ b w)]
 cases es with
 |nil=>rfl
 |cons e es=>
  have:Instr.findNow d (kl.val x) ((e::es).map (jX kl vl)) 0=none:=by
   simp only[eZ,Instr.findNow]
   rw[show(jX kl vl e).key=kl.val e.key from rfl,c e.key]
  rw[this]
  exact P8 g (e::es) 0
theorem XE {k:(vl.den×Bool×Unit)->Pr}
  (e:aQ P (underlying M)=some (.map K V)) (c:BL P K kl bj) (g:aQ P (zeroValue V)=some (vl.val z)) (h:ab E w L) (p:b6 L (fL kl vl r es clock) L')
  (i:k (match dz bj x es with|some v=>(v,true,())|none=>(z,false,())) w):dQ P (vN (Instr.lookup M (.map (some r)) (kl.val x) true)) (.aG [vl,.leaf .bool]) k w:=by
 have j:=(h.pick p).own
 refine⟨_,eE ?_,i⟩
 unfold Instr.lookup
 rw[da (cd _ e w)]
 simp only[]
 rw[da (xi j)]
 simp only[]
 rw[da (a:=(⟨es.map (jX kl vl)⟩:Array MapEntry)) (w':=w) rfl]
 rw[da (cd _ (c.gX x _) w)]
 rw[da (P9 c x es)]
 have b:=yx bj x es 0
 cases d:jy bj x es 0 with
 |none=>
  rw[d]at b
  rw[<-b]
  simp only[sP]
  rw[da (cd _ g w)]
  rfl
 |some p=>
  rw[d]at b
  rw[<-b]
  rfl
theorem OO (x:kl.den) (v:vl.den):∀(d:List (dd kl.den vl.den)) (c i:Nat),(∀a b,bj a b=true↔a=b)->
  match jy bj x d i with
  |some (j,_)=>i<=j/\(d.map (jX kl vl)).modify (j-i) (λe=>{e with key:=kl.val x,val:=vl.val v})=(fk bj x v d c).map (jX kl vl)/\
    ((d.map (jX kl vl))[j-i]?).map (·.key)=some (kl.val x)
  |none=>fk bj x v d c=d++[⟨x,v,c⟩]
 |[],c,i,_=>rfl
 |e::d,c,i,g=>by
  simp only[jy,fk]
  by_cases l:bj x e.key=true
  .rw[ak l,ak l]
   have:=(g _ _).1 l
   subst this
   refine⟨cV _,?_,?_⟩<;>simp[jX]
  .rw[ai l,ai l]
   have k:=OO x v d c (i+1) g
   cases m:jy bj x d (i+1)with
   |none=>rw[m]at k;simp only at k⊢;rw[k];rfl
   |some q=>
    obtain⟨j,u⟩:=q
    rw[m]at k
    simp only at k⊢
    obtain⟨p,n,o⟩:=k
    have e:j-i=(j-(i+1))+1:=om
    refine⟨om,?_,?_⟩
    .rw[e,eZ,Rq,n];rfl
    .rw[e,eZ,yU,o]
theorem Mt {k:Pr}
  (n:aQ P (underlying M)=some (.map K V)) (d:BL P K kl bj) (h:ab E w L) (p:b6 L (fL kl vl r es clock) L')
  (o:∀w',ab E w' (fL kl vl r (fk bj x v es clock) (iU bj x es clock)::L')->k w'):lv P (uN (Instr.mapUpdate M (.map (some r)) (kl.val x) (vl.val v))) k w:=by
 have l:=h.pick p
 have g:=l.own
 have b:=OO (vl:=vl) x v es clock 0 d.iff
 have e:=yx bj x es 0
 refine⟨{w with heap:=w.heap.setIfInBounds r (.map ⟨(fk bj x v es clock).map (jX kl vl)⟩ (iU bj x es clock))},xk ?_,o _ l.set⟩
 unfold Instr.mapUpdate
 rw[da (cd _ n w)]
 simp only[]
 rw[da (xi g)]
 simp only[]
 rw[da (cd _ (d.gX x _) w),da (P9 d x es)]
 cases m:jy bj x es 0 with
 |none=>
  rw[m]at b e
  simp only at b
  simp only[sP]
  rw[yC g]
  have i:iU bj x es clock=clock+1:=by simp[iU,<-e]
  rw[i,b]
  congr 3
  simp[jX]
 |some q=>
  obtain⟨j,u⟩:=q
  rw[m]at b e
  simp only[pz]at b
  obtain⟨_,t,y⟩:=b
  simp only[rB]
  have c:(((⟨es.map (jX kl vl)⟩:Array MapEntry)[j]?).map (·.key)).getD (kl.val x)=kl.val x:=by
   simp only[oo]
   rw[y];rfl
  rw[c]
  rw[da (a:=kl.val x) (w':=w) (by unfold Instr.keyThatStays;rw[d.bits x];rfl)]
  rw[yC g]
  have i:iU bj x es clock=clock:=by simp[iU,<-e]
  rw[i,<-t]
  congr 4
  apply lr
  simp
theorem WH {k:Addr->Pr} (h:ab E w L) (p:b6 L (fL kl vl m es clock) L') (b:P.underlying t=some (.map K V))
  (c:∀r a,ab E a (aT r (.mapIter (some m) clock #[] clock)::L)->k ⟨r,0,none⟩ a):eT P (vN (Instr.range t (.map (some m)))) dB k w:=
 wE (l:=.addr) (x:=⟨w.heap.size,0,none⟩) (o:=.mapIter (some m) clock #[] clock) h (run_range_map w t K V m _ clock b (h.pick p).own) rfl (c _)
theorem aa7 {seen:Array Nat}
  (h:ab E w (aT r (.mapIter (some m) clock seen clock)::fL kl vl m es clock::L)) (l:Stamped es clock)
  (hn:(∀e∈es,e.born∈seen)->kn w)
  (hs:∀e∈es,e.born∉seen->∀j,ab E j (aT r (.mapIter (some m) clock (seen.push e.born) clock)::fL kl vl m es clock::L)->ks (e.key,e.val,()) j):
  zp P (vN (Instr.next (.pointer (some ⟨r,0,none⟩)) false ty)) [kl,vl] kn ks w:=by
 have n:=h.swap.own
 rcases run_next_at (P:=P) w ty r m clock clock seen ⟨es.map (jX kl vl)⟩ clock h.own n (by
  intro x o
  obtain⟨e,a,rfl⟩:=List.mem_map.1 o
  exact l.lt e a) (cV _)with⟨k,c⟩|⟨e,a,p,d,c⟩
 .refine⟨.inl ⟨w,eE c,hn λe a=>?_⟩⟩
  unfold leftOf at k
  have:(⟨es.map (jX kl vl)⟩:Array MapEntry).filter (λe=>!seen.contains e.born)=#[]:=I0 k
  rw[Rs]at this
  have:=this (jX kl vl e) (by simp;exact⟨e,a,rfl⟩)
  simpa[jX]using this
 .have b:e∈es.map (jX kl vl)/\e.born∉seen:=by
    have:e∈(leftOf ⟨es.map (jX kl vl)⟩ seen):=by simpa using a
    unfold leftOf at this
    rw[Rt]at this
    exact⟨by simpa using this.1,by simpa using this.2⟩
  obtain⟨g,i,rfl⟩:=List.mem_map.1 b.1
  refine⟨.inr ⟨(g.key,g.val,()),_,eE c,hs g i b.2 _ ?_⟩⟩
  rcases d with rfl|rfl
  .exact h.set
  .exact h.drew.set
theorem XA {seen:Array Nat}
  (h:ab E w (aT r (.mapIter (some m) clock (seen.push e.born) clock)::fL kl vl m es clock::L)) (a:Stamped es clock) (b:e∈es) (c:k (e.key,e.val,()) w):
  dQ P (vN (Instr.entry (.pointer (some ⟨r,0,none⟩)))) (.aG [kl,vl]) k w:=by
 refine⟨(e.key,e.val,()),eE (run_entry_at (P:=P) w r m clock seen ⟨es.map (jX kl vl)⟩ clock (jX kl vl e) h.own h.swap.own (List.mem_map.2 ⟨e,b,rfl⟩) ?_),c⟩
 simp only[rA]
 exact a.nodup
def bO (f:α->aK) (xs:List α):aK:=nv (xs.map f)
variable {f:α->aK} {xs:List α}
theorem Il:∀{xs:List α} {i:Nat} (a:i<xs.length),b6 (xs.map f) (f xs[i]) ((xs.eraseIdx i).map f)
 |x::xs,0,_=>.head
 |x::xs,i+1,a=>.tail (Il (xs:=xs) (i:=i) (by simpa using a))
theorem ab.ri (hi:i<xs.length) (h:ab E w (bO f xs::L)):ab E w (f xs[i]::bO f (xs.eraseIdx i)::L):=
 (h.mono (B:=dg (f xs[i]) (bO f (xs.eraseIdx i))) λ_ a=>tY (Il hi) a).AY
theorem ab.Qv (hi:i<xs.length) (h:ab E w (f xs[i]::bO f (xs.eraseIdx i)::L)):ab E w (bO f xs::L):=
 h.AX.mono λ_ a=>Ip (Il hi) a
def sY:=@ab.Qv
theorem ab.Ik (h:ab E w L):ab E w (bO f []::L):=h.Gm
theorem ab.Io {x:α} (h:ab E w (f x::bO f xs::L)):ab E w (bO f (xs++[x])::L):=by
 have e:(xs++[x]).eraseIdx xs.length=xs:=by
  rw[List.eraseIdx_append_of_length_le (cV _)];simp
 have a:xs.length<(xs++[x]).length:=sI
 refine sY a ?_
 rw[e]
 have:(xs++[x])[xs.length]=x:=sI
 rw[this];exact h
theorem ab.Im (hi:i<xs.length) (h:ab E w (f y::bO f (xs.eraseIdx i)::L)):ab E w (bO f (xs.set i y)::L):=by
 have a:i<(xs.set i y).length:=by simpa using hi
 refine sY a ?_
 have b:(xs.set i y)[i]=y:=sI
 have c:(xs.set i y).eraseIdx i=xs.eraseIdx i:=by
  apply Bp
  intro j
  rw[RC,RC]
  split
  .rw[Je om]
  .rw[Je om]
 rw[b,c];exact h
variable {A1 A2 A3 A4 A5 A6 A7:aK} {L3 L4 L5 L6 L7:List aK}
theorem b6.sJ {B:aK} (p:b6 L A L1) (h:∀x,nv L1 x->nv (B::L2) x):∀x,nv L x->nv (A::B::L2) x:=
 λ_ a=>wT (λ_ h=>h) (λy b=>h y b) (tY p a)
theorem ab.bF (h:ab E w L) (a:b6 L A1 L1) (p2:b6 L1 A2 L2):ab E w (A1::A2::L2):=h.imp (a.sJ λ_=>tY p2)
theorem ab.lj (h:ab E w L) (a:b6 L A1 L1) (p2:b6 L1 A2 L2) (b:b6 L2 A3 L3):ab E w (A1::A2::A3::L3):=h.imp (a.sJ (p2.sJ λ_=>tY b))
theorem ab.DG (h:ab E w L) (a:b6 L A1 L1) (p2:b6 L1 A2 L2) (b:b6 L2 A3 L3) (c:b6 L3 A4 L4):ab E w (A1::A2::A3::A4::L4):=h.imp (a.sJ (p2.sJ (b.sJ λ_=>tY c)))
theorem ab.Pq (h:ab E w L) (a:b6 L A1 L1) (p2:b6 L1 A2 L2) (b:b6 L2 A3 L3) (c:b6 L3 A4 L4) (d:b6 L4 A5 L5):ab E w (A1::A2::A3::A4::A5::L5):=h.imp (a.sJ (p2.sJ (b.sJ (c.sJ λ_=>tY d))))
theorem OF (kl vl:cE) (r:Nat):fL kl vl r [] 0=aT r (.map ⟨[]⟩ 0):=rfl
end Go.Sh
namespace Go.Proofs.YtelhccfmfnaegaaGreat
open Go Go.Sh
attribute [local irreducible] aT jC gk dV kO dg hex iT jk ae
instance ajp:DecidableEq Pc:=λa b=>decidable_of_iff (a.1=b.1/\a.2.1=b.2.1/\a.2.2=b.2.2) ⟨λ⟨h1,h2,h3⟩=>qx h1 (qx h2 h3),λh=>by rw[h];exact⟨rfl,rfl,rfl⟩⟩
def iZ (a b:List Pc):List Pc:=a.filter λp=>!(b.any λq=>decide (p=q))
def iS (a:List Pc) (p:Pc):List Pc:=match a.getLast? with
 |some q=>if q.2.1=p.1/\q.2.2=p.2.2 then a.dropLast++[(q.1,p.2.1,q.2.2)]else a++[p]
 |none=>a++[p]
def fw (ps:List Pc):List Pc:=if eG 0 ps then ps.foldl iS []else ps
variable {F:bh} {r q:bK av} {p p2:Pc} {out:List Pc} {P:Row->Prop} {b:Nat} {t:Sl} {qs:List Pc} {k:Bool->Pr} {s:Sl} {ic:List Pc} {o:Sl} {rs:List (bK av)} {ps:List Pc}
theorem Pl (a:iu F r p) (b:iu F q p2):decide (p=p2)=(ik aC (r.1,r.2.1,()) (q.1,q.2.1,())&&decide (p.2.2=p2.2.2)):=by
 obtain⟨c,d,_⟩:=a
 obtain⟨e,f,_⟩:=b
 rw[gb]
 simp only[bX,bp,ik,o6,qq,c,d,e,f,sR]
 constructor
 .rintro rfl;exact⟨⟨rfl,rfl⟩,rfl⟩
 .rintro⟨⟨g,i⟩,j⟩;exact qx g (qx i j)
theorem F9 (p:Pc) (a:List Pc):(iS a p).length<=a.length+1:=by
 unfold iS
 cases h:a.getLast? with
 |none=>simp
 |some q=>
  simp only
  split
  .simp
  .simp
theorem Mb (c:P p.2.2) (h:∀q∈out,P q.2.2):∀q∈iS out p,P q.2.2:=by
 intro q a
 unfold iS at a
 cases b:out.getLast? with
 |none=>rw[b]at a;simp only at a;rcases List.mem_append.1 a with a|a
        .exact h q a
        .simp at a;subst a;exact c
 |some x=>
  rw[b]at a
  simp only at a
  split at a
  .rcases List.mem_append.1 a with a|a
   .exact h q (xD _ a)
   .simp at a;subst a;exact h x (ux b)
  .rcases List.mem_append.1 a with a|a
   .exact h q a
   .simp at a;subst a;exact c
variable {E w:World} {L:List aK}
theorem TT (h:ab E w (ae F::lc b 45 [sv t]::L)) (hr:iu F r p) (m:eV F t qs) (g:fs qs) (f:dk p.2.2)
  (n:∀o,ab E o (ae F::lc b 45 [sv t]::L)->k (qs.any λq=>decide (p=q)) o):CL 160 #[ag av r,pa ⟨b,0,none⟩] aw k w:=by
 refine ade ?_
 have z:=g.len
 refine bx h λu w h=>?_
 refine ld (x:=t) h ?_
 refine cy (cf:=λs=>s) qs.length (by rw[m.len]) (λi _ w=>(qs.take i).any (λq=>decide (p=q))=false/\ab E w (ae F::lc u 50 (ay av r)::lc b 45 [sv t]::L)) rfl ⟨rfl,h.sub sS⟩ ?_ ?_
 .rintro next _ w i j rfl ⟨l,h⟩ d
  refine fx m j λa q _ g=>?_
  have v:=Pl hr g
  refine fJ h ?_
  refine al h λA w h=>?_
  refine bU h λw h=>?_
  refine fK h ?_
  refine fK h ?_
  refine yd ?_
  refine br (λ(c:Bool) w=>c=decide (p=qs[i])/\ab E w (ae F::lc u 50 (ay av r)::lc b 45 [sv t]::L)) (λc w h=>?_) λJ y=>?_
  .obtain⟨rfl,h⟩:=h
   refine ao λ_=>?_
   refine ax (λe=>?_) (λe=>?_)
   .refine fin (n _ (h.sub sS)) ?_
    exact(List.any_eq_true.2 ⟨_,cp j,e⟩).symm
   .refine d _ _ (bV j om) ⟨?_,h⟩
    rw[cR j,Jf,l];simpa using e
  .refine ax (λe=>?_) (λe=>?_)
   .repeat (first|refine gA ?_|(refine gB ?_;clear h;intro w h)|(refine gC ?_;clear h;intro b0 w h))
    refine FV (h.pick pK) hr.2.2 g.2.2 f.len λw h=>?_
    exact y _ _ ⟨by rw[v,e,hI],h.sub sS⟩
   .exact y _ _ ⟨by rw[v,e,rD],h.sub sS⟩
 .rintro _ w ⟨l,h⟩
  rw[cB]at l
  refine fin (n _ (h.sub sS)) l.symm
theorem Km {bJ:List Pc} {k:Sl->Pr} (h:ab E w (ae F::L)) (hs:eV F s ic) (C:eV F t bJ) (ha:fs ic) (D:fs bJ) (H:∀G u v,F.le G->eV G u (iZ ic bJ)->ab E v (ae G::L)->k u v):CL 122 #[sv s,sv t] aE k w:=by
 refine acC ?_
 have I:=ha.len
 refine bx h λx w h=>?_
 refine cy (S:=Sl×Int) (cf:=λs=>s.2) ic.length (by rw[hs.len]) (λi s w=>∃c,cw (iu F) c (iZ (ic.take i) bJ)/\ab E w (OS 45 av s.1 c::ae F::lc x 45 [sv t]::L)) rfl ⟨[],.nil,fm (h.sub sS)⟩ ?_ ?_
 .rintro next ⟨o,_⟩ w i f rfl ⟨c,b,h⟩ d
  have K:=b.len
  have M:(iZ (ic.take i) bJ).length<=i:=by
   unfold iZ
   exact qw (gV _ _) (by rw[cn];omega)
  refine br (λo w=>∃c,cw (iu F) c (iZ (ic.take (i+1)) bJ)/\ab E w (OS 45 av o c::ae F::lc x 45 [sv t]::L)) (λo w h=>?_) λJ g=>?_
  .exact .go λ_=>d _ _ (bV f om) h
  refine fx hs f λa r _ z=>?_
  repeat (first|refine gA ?_|(refine gB ?_;clear h;intro w h)|(refine gC ?_;clear h;intro b0 w h))
  refine lH ?_
  refine TT (h.bF pK pK) z C D (ha.row _ (cp f)) λw h=>?_
  have e:iZ (ic.take (i+1)) bJ=iZ (ic.take i) bJ++iZ [ic[i]] bJ:=by unfold iZ;rw[cR f,nC]
  rw[e]at g
  refine ax (λj=>?_) (λj=>?_)
  .repeat (first|refine gA ?_|(refine gB ?_;clear h;intro w h)|(refine gC ?_;clear h;intro b0 w h))
   refine Go.Proofs.YtelhccfmfnaegaaGreat.bJ (ls:=av) (y:=r) h λR w _ h=>?_
   refine eA (xs:=c) h om λN w h=>?_
   refine g _ _ ⟨_,b.app ?_,h.sub sS⟩
   unfold iZ;rw[jr,ak j];exact .one z
  .refine g _ _ ⟨c,?_,h.sub sS⟩
   unfold iZ;rw[jr,ai (by simp[j]),Bm,iO];exact b
 .rintro⟨o,_⟩ w ⟨c,b,h⟩
  rw[cB]at b
  obtain⟨U,A,h,O⟩:=dT (T:=45) (ls:=av) (F:=F) h
  have l:fs (iZ ic bJ):=⟨by unfold iZ;exact qw (gV _ _) I,λp P=>ha.row p (List.mem_filter.1 P).1⟩
  refine xS h ⟨c,O,b.imp λr p=>eK _ _ r p A⟩ l λQ N w m n h=>?_
  exact H Q _ _ (A.trans m) n (h.sub sS)
theorem VH {bJ:List Pc} {k:Sl×Sl×Unit->Pr} (h:ab E w (ae F::L)) (hs:eV F s ic) (d:eV F t bJ) (ha:fs ic) (e:fs bJ)
  (b:∀G g i j,F.le G->eV G g (if eG 0 ic&&eG 0 bJ then iZ ic bJ else[])->eV G i (if eG 0 ic&&eG 0 bJ then iZ bJ ic else[])->ab E j (ae G::L)->k (g,i,()) j):CL 80 #[sv s,sv t] (.aG [.leaf .slice,.leaf .slice]) k w:=by
 refine agx ?_
 refine wx h hs ha λw h=>?_
 refine br (λ(c:Bool) w=>c=!(eG 0 ic&&eG 0 bJ)/\ab E w (ae F::L)) (λc w h=>?_) λJ l=>?_
 .obtain⟨rfl,h⟩:=h
  refine ao λ_=>?_
  refine ax (λa=>?_) (λa=>?_)
  .rw[nT a]at b
   exact b F _ _ _ (.refl _) .nil .nil h
  .rw[nF a]at b
   refine Km h hs d ha e λr u w f n h=>?_
   refine Km h (d.up eK f) (hs.up eK f) e ha λo v w m p h=>?_
   exact b o _ _ _ (f.trans m) (n.up eK m) p h
 .refine ax (λa=>?_) (λa=>?_)
  .exact l _ _ ⟨by rw[nT a];rfl,h⟩
  .refine wx h d e λw h=>?_
   exact l _ _ ⟨by rw[nF a];rfl,h⟩
theorem Kn {bJ:List Pc} (h:ab E w (ae F::L)) (hs:eV F s ic) (j:eV F t bJ) (ha:fs ic) (m:∀u,ab E u (ae F::L)->k (decide (ic=bJ)) u):CL 123 #[sv s,sv t] aw k w:=by
 refine acD ?_
 have D:=ha.len
 refine ax (λa=>?_) (λa=>?_)
 .refine fin (m _ h) ?_
  have:ic.length≠bJ.length:=λe=>OV a (by rw[hs.len,j.len,e])
  exact(eM λe=>this (by rw[e])).symm
 have v:ic.length=bJ.length:=by have:=OU a;rw[hs.len,j.len]at this;omega
 refine cy (cf:=λs=>s) ic.length (by rw[hs.len]) (λi _ w=>ab E w (ae F::L)/\ic.take i=bJ.take i) rfl ⟨h,rfl⟩ ?_ ?_
 .rintro next _ w i f rfl ⟨h,b⟩ c
  have g:ic[i]≠bJ[i]->ic≠bJ:=by rintro x rfl;exact x rfl
  refine dr h λw h=>?_
  refine fx hs f λG H y n=>?_
  refine tn h ?_
  refine fx (i:=i) j om λI J z o=>?_
  have d:=Pl n o
  refine tn h ?_
  refine eP ?_
  refine ax (λa=>?_) (λa=>?_)
  .refine aR rfl ?_
   refine fin (m _ h) ?_
   rw[nT a,rD]at d
   exact(eM (g (pB d))).symm
  .rw[nF a,hI]at d
   refine fx hs f λK M A p=>?_
   refine nV h ?_
   refine fx (i:=i) j om λN O C r=>?_
   refine nV h ?_
   refine FV h p.2.2 r.2.2 (ha.row _ (cp f)).len λw h=>?_
   refine tj h ?_
   refine tj h ?_
   refine ax (λa=>?_) (λa=>?_)
   .refine fin (m _ h) ?_
    rw[nT a]at d
    exact(eM (g (pB d))).symm
   .rw[nF a]at d
    refine c _ _ (bV f om) ⟨h,?_⟩
    rw[cR f,cR (l:=bJ) om,b,lS d]
 .rintro _ w ⟨h,b⟩
  refine fin (m _ h) ?_
  rw[cB,v,cB]at b
  exact(eu b).symm
def zY (a:List Pc) (p:Pc):Bool:=match a.getLast? with
 |some q=>decide (q.2.1=p.1)&&decide (q.2.2=p.2.2)
 |none=>false
theorem Wd (a:List Pc) (p:Pc):iS a p=if zY a p then(match a.getLast? with|some q=>a.dropLast++[(q.1,p.2.1,q.2.2)]|none=>[])else a++[p]:=by
 unfold iS zY
 cases a.getLast? with
 |none=>rfl
 |some q=>simp only[bp,bX]
theorem Vs (h:ab E w (ae F::lc b 45 [sv o]::OS 45 av o rs::L)) (hr:iu F r p) (y:cw (iu F) rs out) (g:∀q∈out,dk q.2.2) (hn:out.length<=268435456)
  (f:∀z,ab E z (ae F::lc b 45 [sv o]::OS 45 av o rs::L)->k (zY out p) z):CL 33 #[ag av r,pa ⟨b,0,none⟩] aw k w:=by
 refine afR ?_
 have N:=y.len
 have D:=fR (h.pick (A:=OS 45 av o rs) pK) dE
 refine bx h λO w h=>?_
 refine ld (x:=o) h ?_
 refine ax (λd=>?_) (λd=>?_)
 .have G:=ek d
  refine fin (f _ h.drop) ?_
  have:out=[]:=List.length_eq_zero_iff.1 om
  rw[this];rfl
 have G:=ei d
 have C:0<out.length:=om
 refine ld (x:=o) h ?_
 refine ld (x:=o) h ?_
 have m:out.length-1<rs.length:=om
 refine eO (T:=45) (ls:=av) (xs:=rs) (i:=out.length-1) h pK m (λa H=>?_) (by rw[bQ om];omega)
 refine oV (T:=45) h pK H m ?_
 have I:=y.get (out.length-1) m om
 have c:out.getLast?=some out[out.length-1]:=by rw[Bq,fA]
 generalize rs[out.length-1]=q at*
 generalize out[out.length-1]=u at*
 have J:dk u.2.2:=g u (ux c)
 repeat (first|refine gA ?_|(refine gB ?_;clear h;intro w h)|(refine gC ?_;clear h;intro b0 w h))
 have e:zY out p=(decide (u.2.1=p.1)&&decide (u.2.2=p.2.2)):=by unfold zY;rw[c]
 rw[e]at f
 obtain⟨K,j,n⟩:=I
 obtain⟨l,M,t⟩:=hr
 refine aL ?_
 refine ax (λd=>?_) (λd=>?_)
 .have v:decide (u.2.1=p.1)=true:=by rw[<-j,<-l];exact eu (ek d)
  rw[v,hI]at f
  repeat (first|refine gA ?_|(refine gB ?_;clear h;intro w h)|(refine gC ?_;clear h;intro b0 w h))
  refine FV (h.pick pK) n t J.len λw h=>?_
  refine ao λ_=>?_
  exact f _ (h.sub sS)
 .have v:decide (u.2.1=p.1)=false:=by rw[<-j,<-l];exact eM (ei d)
  rw[v,rD]at f
  refine ao λ_=>?_
  exact f _ (h.sub sS)
theorem aja:gq 45=⟨[sv au]⟩:=kK
theorem Kk {k:Sl->Pr} (h:ab E w (ae F::L)) (hs:eV F s ps) (z:fs ps) (I:∀G O Q,F.le G->eV G O (fw ps)->ab E Q (ae G::L)->k O Q):CL 12 #[sv s] aE k w:=by
 refine acz ?_
 have hn:=z.len
 refine xS h hs z λn t8 w t C h=>?_
 refine wx h C z λw h=>?_
 refine ax (λg=>?_) (λg=>?_)
 .refine I n _ _ t ?_ h
  unfold fw;rw[nT g];exact C
 have R:fw ps=ps.foldl iS []:=by unfold fw;rw[nF g];rfl
 rw[R]at I
 clear R g
 refine al h λS w h=>?_
 rw[aja]at h
 have V:∀i,i<=ps.length->((ps.take i).foldl iS []).length<=i/\∀q∈(ps.take i).foldl iS [],dk q.2.2:=by
  intro i
  induction i with
  |zero=>intro _;exact⟨cV _,λq D=>by cases D⟩
  |succ i W=>
   intro H
   obtain⟨K,X⟩:=W om
   rw[cR om,qy]
   exact⟨qw (F9 _ _) om,Mb (P:=dk) (z.row _ (cp _)) X⟩
 refine cy (cf:=λs=>s) ps.length (by rw[C.len]) (λi _ w=>∃o c,cw (iu n) c ((ps.take i).foldl iS [])/\ab E w (ae n::lc S 45 [sv o]::OS 45 av o c::L)) rfl ⟨au,[],.nil,?_⟩ ?_ ?_
 .exact(fm (T:=45) (ls:=av) h).sub sS
 .rintro next _ w i H rfl ⟨o,c,d,h⟩ f
  obtain⟨hl,u⟩:=V i om
  have e:(ps.take (i+1)).foldl iS []=iS ((ps.take i).foldl iS []) ps[i]:=by rw[cR H,qy];rfl
  rw[e]at f
  generalize (ps.take i).foldl iS []=b at*
  have Y:=d.len
  refine br (λ_ w=>∃o c,cw (iu n) c (iS b ps[i])/\ab E w (ae n::lc S 45 [sv o]::OS 45 av o c::L)) (λ_ w h=>?_) λJ v=>?_
  .exact .go λ_=>f _ _ (bV H om) h
  refine fx C H λa r _ M=>?_
  refine fJ h ?_
  refine al h λt6 w h=>?_
  refine bU h λw h=>?_
  refine bN h ?_
  refine lH ?_
  refine Vs (h.lj pK pK pK) M d u om λw h=>?_
  rw[Wd]at v
  refine ax (λg=>?_) (λg=>?_)
  .refine ld (x:=o) h ?_
   refine ld (x:=o) h ?_
   refine ld (x:=r.2.1) h ?_
   have Z:=fR (h.pick (A:=OS 45 av o c) pK) dE
   rw[g,ak rfl]at v
   have U:0<b.length:=by
    rcases vM b.length with N|N
    .rw[List.length_eq_zero_iff.1 N]at g;cases g
    .exact N
   have l:b.length-1<c.length:=om
   refine eO (T:=45) (ls:=av) (xs:=c) (i:=b.length-1) h pK l (λa ha=>?_) (by rw[bQ om];omega)
   have m:b.getLast?=some b[b.length-1]:=by rw[Bq,fA]
   have D:=d.get (b.length-1) l om
   refine D1 (T:=45) (ls:=av) (i:=b.length-1) (j:=1) (y:=(c[b.length-1].1,r.2.1,c[b.length-1].2.2.1,())) h pK ((ha.add 0).add 1) l (by rfl) λw h=>?_
   refine v () _ ⟨o,_,?_,h.sub sS⟩
   rw[m]
   simp only
   have e1:b.dropLast=b.take (b.length-1):=RD
   have e2:c.set (b.length-1) (c[b.length-1].1,r.2.1,c[b.length-1].2.2.1,())=c.take (b.length-1)++[(c[b.length-1].1,r.2.1,c[b.length-1].2.2.1,())]:=by
    rw[RE,ak l,Br om]
   rw[e1,e2]
   exact(d.take _).app (.one ⟨D.1,M.2.1,D.2.2⟩)
  .rw[g,ai dE]at v
   refine ld (x:=o) h ?_
   refine bN h ?_
   refine bJ (ls:=av) (y:=r) h λs2 w _ h=>?_
   refine eA (xs:=c) h om λs3 w h=>?_
   refine nu h λw h=>?_
   exact v () _ ⟨s3,_,d.app (.one M),h.sub sS⟩
 .rintro _ w ⟨o,c,d,h⟩
  rw[cB]at d
  refine ld (x:=o) h ?_
  obtain⟨G2,K,h,h3⟩:=dT (T:=45) (ls:=av) (F:=n) h
  exact I G2 _ _ (t.trans K) ⟨c,h3,d.imp λr p=>eK _ _ r p K⟩ (h.sub sS)
end Go.Proofs.YtelhccfmfnaegaaGreat
