/- Lemmas for topAudits_holds. No conditions. -/
import Derived.Test.YtelhccfmfnaegaaGreatAc
set_option linter.unusedSectionVars false
set_option linter.unusedVariables false
set_option linter.unusedSimpArgs false
set_option linter.defProp false
set_option maxRecDepth 10000
namespace Go.Proofs.YtelhccfmfnaegaaGreat
open Go Go.Sh Tryz
attribute [local irreducible] aT jC gk dV kO dg hex iT jk ae
variable {L:List aK} {ty:TypeId} {pos:Nat} {kn:Pr} {ks:(Int×Int×Unit)->Pr} {f i:Nat} {k:Bool->Pr} {P:Program} {L':List aK} {kl:bD} {vl:cE} {bj:kl.den->kl.den->Bool} {M K V:TypeId} {es:List (dd kl.den vl.den)} {clock:Nat} {z:vl.den} {F G:bh} {r:Row} {s:Sl} {T1 T2 R Te:TypeId} {sz:Nat} {d:Sl} {ds:List Value} {T:TypeId} {ls:List bD} {xs ys:List (bK ls)} {e:TypeId} {l:List UInt8} {b off:Nat} {v:Value} {fr:Nat×Nat} {w':World} {y:UInt8} {a:List UInt8} {m j:Nat} {err:Int} {ms:List bD} {x:bK ms} {u t0:Int} {ps:List Pc}
theorem aa5 {E w:World} {r:Nat} {s:ByteArray}
  (h:ab E w (aT r (.stringIter s pos)::L)) (hn:s.size<=pos->kn w)
  (hs:pos<s.size->∀b,ab E b (aT r (.stringIter s (pos+(Utf8.decode s pos).2))::L)->ks ((pos:Int),((Utf8.decode s pos).1:Int),()) b):
  zp prog (vN (Instr.next (.pointer (some ⟨r,0,none⟩)) true ty)) [.leaf (.int .i64),.leaf (.int .i32)] kn ks w:=by
 have c:=h.own
 by_cases a:pos<s.size
 .refine⟨.inr ⟨((pos:Int),((Utf8.decode s pos).1:Int),()),_,eE ?_,hs a _ h.set⟩⟩
  simp only[Instr.next,getObj,setObj,Ee,Sem.run,c,Result.andThen,a,gr]
  rfl
 .refine⟨.inl ⟨w,eE ?_,hn om⟩⟩
  simp[Instr.next,getObj,Sem.run,c,a]
theorem WI {E w:World} {t:TypeId} {s:ByteArray} {k:Addr->Pr} (h:ab E w L) (b:prog.underlying t=some .string)
  (c:∀r a,ab E a (aT r (.stringIter s 0)::L)->k ⟨r,0,none⟩ a):eT prog (vN (Instr.range t (.string s))) dB k w:=
 wE (l:=.addr) (x:=⟨w.heap.size,0,none⟩) (o:=.stringIter s 0) h (run_range_string w t s b) rfl (c _)
theorem aiV (s:ByteArray) (i:Nat):1<=(Utf8.decode s i).2:=by
 unfold Utf8.decode
 simp only
 repeat' split
 all_goals exact xx rfl
def tR (i:Nat) (r:Int):Bool:=(decide (97<=r)&&decide (r<=122))||decide (r=95)||((decide (48<=r)&&decide (r<=57))&&decide (i≠0))
def qX (s:ByteArray):Nat->Nat->Bool
 |0,_=>true
 |f+1,i=>if i<s.size then tR i (Utf8.decode s i).1&&qX s f (i+(Utf8.decode s i).2)else true
theorem Qh {s:ByteArray} (h:i<s.size):qX s (f+1) i=(tR i (Utf8.decode s i).1&&qX s f (i+(Utf8.decode s i).2)):=by rw[qX,ak h]
theorem Qg {s:ByteArray} (h:s.size<=i):qX s f i=true:=by
 cases f with
 |zero=>rfl
 |succ f=>unfold qX;rw[ai om]
def fD (s:ByteArray):Bool:=qX s s.size 0&&(!(s.toList==(⟨#[]⟩:ByteArray).toList)&&decide ((s.size:Int)<=32))
section
variable {E w:World} {L:List aK} {F:bh}
theorem Fw {s:ByteArray} (h:ab E w L) (g:∀n,ab E n L->k (fD s) n):CL 153 #[.string s] aw k w:=by
 refine ac4 ?_
 refine br (λ_ w=>qX s s.size 0=true/\ab E w L) (λ_ w h=>?_) λJ hJ=>?_
 .obtain⟨o,h⟩:=h
  have e:fD s=(!(s.toList==(⟨#[]⟩:ByteArray).toList)&&decide ((s.size:Int)<=32)):=by unfold fD;rw[o];rfl
  rw[e]at g
  repeat' (first|refine gA ?_|(refine gB ?_;clear h;intro w h)|(refine gC ?_;clear h;intro b0 w h)|refine aL ?_|refine ax (λb=>?_) (λb=>?_))
  all_goals refine fin (g _ dD) ?_
  all_goals simp_all
 .refine WI h kK λr w h=>?_
  refine sX (λm _ w=>∃i,s.size-i<=m/\qX s s.size 0=qX s m i/\ab E w (aT r (.stringIter s i)::L)) s.size ⟨0,om,rfl,h⟩ ?_
  rintro m next _ w ⟨i,p,f,h⟩ a
  refine ao λ_=>?_
  refine aa5 h (λj=>?_) (λj w h=>?_)
  .refine ax (λb=>by cases b) (λ_=>hJ _ _ ⟨by rw[f,Qg j],dD⟩)
  .refine ax (λ_=>?_) (λb=>by cases b)
   obtain⟨m,rfl⟩:∃t,m=t+1:=⟨m-1,om⟩
   have u:=aiV s i
   rw[Qh j]at f
   have c:tR i (Utf8.decode s i).1=true->∀w,ab E w (aT r (.stringIter s (i+(Utf8.decode s i).2))::L)->next () w:=λl w h=>
    a m _ _ (IP m) ⟨i+(Utf8.decode s i).2,om,by rw[f,l];rfl,h⟩
   have d:tR i (Utf8.decode s i).1=false->∀w,ab E w L->k false w:=λl w h=>by
    refine fin (g _ h) ?_
    unfold fD
    rw[f,l];rfl
   generalize (Utf8.decode s i).1=v at*
   unfold tR at c d
   clear f a hJ g
   repeat' (first|refine gA ?_|(refine gB ?_;clear h;intro w h)|(refine gC ?_;clear h;intro b0 w h)|refine aL ?_|refine ax (λb=>?_) (λb=>?_))
   all_goals first|refine d ?_ _ dD|refine c ?_ _ h
   all_goals clear c d
   all_goals clear j p u
   all_goals grind
end
theorem kL {E w:World} {r:Nat} {x:kl.den} {k:vl.den->Pr}
  (e:aQ P (underlying M)=some (.map K V)) (c:uK P K kl bj) (f:aQ P (zeroValue V)=some (vl.val z)) (h:ab E w L) (p:b6 L (bG kl vl r es clock) L')
  (g:k ((dz bj x es).getD z) w):dQ P (vN (Instr.lookup M (.map (some r)) (kl.val x) false)) (.one vl) k w:=by
 have i:=(h.pick p).own
 refine⟨_,eE ?_,g⟩
 unfold Instr.lookup
 rw[da (cd _ e w)]
 simp only[]
 rw[da (xi i)]
 simp only[]
 rw[da (a:=(⟨es.map (iM kl vl)⟩:Array MapEntry)) (w':=w) rfl]
 rw[da (cd _ (c.gX x _) w)]
 rw[da (run_findKey c x es)]
 have b:=yx bj x es 0
 cases d:jy bj x es 0 with
 |none=>
  rw[d]at b
  rw[<-b]
  simp only[sP]
  rw[da (cd _ f w)]
  rfl
 |some p=>
  rw[d]at b
  rw[<-b]
  rfl
def fB:ByteArray->ByteArray->Bool:=λa b=>a==b
theorem gi:uK prog 9 .str fB where
 iff:=λx y=>tc x y
 find:=λx=>⟨.string,kK,λy=>rfl⟩
 gX:=λx e=>by cases e<;>kernel_rfl
 bits:=λx=>by
  show(x==x)=true
  exact(tc x x).2 rfl
instance ajo:DecidableEq ByteArray:=λa b=>decidable_of_iff _ (tc a b)
instance akt:LawfulBEq ByteArray where
 eq_of_beq h:=(tc _ _).1 h
 rfl:=(tc _ _).2 rfl
abbrev qF:=ByteArray×Int×Bool×Unit
abbrev di:=ByteArray×List qF×Int
abbrev nG:=ByteArray×Sl×Int×Unit
def ft (F:bh) (p:nG) (S:di):Prop:=p.1=S.1/\FL F dj p.2.1 S.2.1/\p.2.2.1=S.2.2
variable {p:nG} {S:di} {q:nG} {A:di}
theorem ft.up (h:ft F p S) (a:F.le G):ft G p S:=⟨h.1,h.2.1.up a,h.2.2⟩
def names (S:di) (i:Nat):List ByteArray:=(S.2.1.take i).map λc:qF=>c.1
def mA (S:di):Bool:=fD S.1&&(decide (S.2.1.length<=16)&&(decide (1<=S.2.2)&&decide (S.2.2<=if(S.2.1.length:Int)<8 then(S.2.1.length:Int)else 8)))
def lZ (S:di) (i:Nat):Bool:=match S.2.1[i]? with
 |none=>true
 |some c=>fD c.1&&!decide (c.1∈names S i)&&decide (1<=c.2.1)&&decide (c.2.1<=5)&&(!decide ((i:Int)<S.2.2)||c.2.2.1)
def dK (S:di):Bool:=mA S&&(List.range S.2.1.length).all (lZ S)
theorem P0 (h:mA S=false):dK S=false:=by unfold dK;rw[h];rfl
theorem PZ (hi:i<S.2.1.length) (h:lZ S i=false):dK S=false:=by
 have:(List.range S.2.1.length).all (lZ S)=false:=List.all_eq_false.2 ⟨i,List.mem_range.2 hi,by simp[h]⟩
 unfold dK;rw[this,vS]
theorem P1 (h:mA S=true):S.2.1.length<=16:=by
 unfold mA at h
 simp only[bp,bX]at h
 exact h.2.1
section
variable {E w:World} {L:List aK} {F:bh}
set_option maxHeartbeats 1000000 in
theorem wj (h:ab E w (ae F::L)) (hp:ft F p S) (r:∀w',ab E w' (ae F::L)->k (dK S) w'):CL 152 #[ag aD p] aw k w:=by
 obtain⟨nm,u,Q,⟨⟩⟩:=p
 obtain⟨h1,R,h3⟩:=hp
 simp only at h1 R h3
 subst h1 h3
 refine ac3 ?_
 refine bx h λv w h=>?_
 refine ld h ?_
 refine Fw h λw h=>?_
 have N:=R.2
 refine br (λb w=>b=(!fD S.1||decide (16<S.2.1.length))/\ab E w (lc v 63 (ay aD (S.1,u,S.2.2,()))::ae F::L)) (λT w h=>?_) λJ f=>?_
 rotate_left
 .repeat' (first|refine gA ?_|(refine gB ?_;clear h;intro w h)|(refine gC ?_;clear h;intro b0 w h)|refine aL ?_|refine ax (λe=>?_) (λe=>?_))
  all_goals refine f _ _ ⟨?_,dD⟩
  all_goals clear f r
  all_goals grind
 obtain⟨U,h⟩:=h
 refine ao λ_=>?_
 refine br (λb w=>b=(T||decide (S.2.2<1))/\ab E w (lc v 63 (ay aD (S.1,u,S.2.2,()))::ae F::L)) (λb20 w h=>?_) λJ f=>?_
 rotate_left
 .repeat' (first|refine gA ?_|(refine gB ?_;clear h;intro w h)|(refine gC ?_;clear h;intro b0 w h)|refine aL ?_|refine ax (λe=>?_) (λe=>?_))
  all_goals refine f _ _ ⟨?_,dD⟩
  all_goals clear f r
  all_goals grind
 obtain⟨W,h⟩:=h
 refine ao λ_=>?_
 refine br (λb w=>b=!mA S/\ab E w (lc v 63 (ay aD (S.1,u,S.2.2,()))::ae F::L)) (λb29 w h=>?_) λJ f=>?_
 rotate_left
 .repeat' (first|refine gA ?_|(refine gB ?_;clear h;intro w h)|(refine gC ?_;clear h;intro b0 w h)|refine aL ?_|refine ax (λe=>?_) (λe=>?_))
  all_goals refine f _ _ ⟨?_,dD⟩
  all_goals clear f r
  all_goals unfold mA
  all_goals grind
 obtain⟨n,h⟩:=h
 refine ao λ_=>?_
 refine ax (λe=>?_) (λe=>?_)
 .exact fin (r _ dD) (P0 (by rw[e]at n;simpa using n.symm)).symm
 have G:mA S=true:=by rw[e]at n;simpa using n.symm
 have X:=P1 G
 refine nP h λm w h=>?_
 refine ld h ?_
 refine cy (S:=Int) (cf:=λs=>s) S.2.1.length (by rw[N]) (λi s w=>(∃y d,(∀x,(dz fB x y).getD (0:Int)=if x∈names S i then 1 else 0)/\
  ab E w (bG .str (.leaf (.int .i64)) m y d::lc v 63 (ay aD (S.1,u,S.2.2,()))::ae F::L))/\(List.range i).all (lZ S)=true) rfl ⟨⟨[],0,λx=>by simp[dz,names],h⟩,rfl⟩ ?_ ?_
 .rintro next _ w i I rfl ⟨⟨y,d,wM,h⟩,g⟩ j
  refine ix R I λa ha=>?_
  refine fJ h ?_
  have A:S.2.1[i]?=some S.2.1[i]:=fA I
  have o:lZ S i=(fD S.2.1[i].1&&!decide (S.2.1[i].1∈names S i)&&decide (1<=S.2.1[i].2.1)&&decide (S.2.1[i].2.1<=5)&&(!decide ((i:Int)<S.2.2)||S.2.1[i].2.2.1)):=by
   unfold lZ;rw[A]
  have H:names S (i+1)=names S i++[S.2.1[i].1]:=by unfold names;rw[cR I,fe];rfl
  generalize S.2.1[i]=c at*
  obtain⟨l,M,O,⟨⟩⟩:=c
  simp only at o H
  refine al h λP w h=>?_
  refine bU h (λw h=>?_)
  refine ld h ?_
  refine Fw h λw h=>?_
  refine br (λb w=>b=(!fD l||decide (l∈names S i))/\ab E w (lc P 60 (ay dj (l,M,O,()))::bG .str (.leaf (.int .i64)) m y d::lc v 63 (ay aD (S.1,u,S.2.2,()))::ae F::L)) (λY w h=>?_) λJ f=>?_
  rotate_left
  .refine ax (λe=>?_) (λe=>?_)
   .exact f _ _ ⟨by rw[e];rfl,h⟩
   .refine ld h ?_
    refine kL (kl:=.str) (vl:=.leaf (.int .i64)) (K:=9) (V:=3) (z:=(0:Int)) kK gi kK h pK ?_
    refine f _ _ ⟨?_,h⟩
    rw[e,wM l]
    by_cases C:l∈names S i<;>simp[C]
  obtain⟨e49,h⟩:=h
  refine ao λ_=>?_
  refine br (λb w=>b=(Y||decide (M<1))/\ab E w (lc P 60 (ay dj (l,M,O,()))::bG .str (.leaf (.int .i64)) m y d::lc v 63 (ay aD (S.1,u,S.2.2,()))::ae F::L)) (λZ w h=>?_) λJ f=>?_
  rotate_left
  .repeat' (first|refine gA ?_|(refine gB ?_;clear h;intro w h)|(refine gC ?_;clear h;intro b0 w h)|refine aL ?_|refine ax (λe=>?_) (λe=>?_))
   all_goals refine f _ _ ⟨?_,dD⟩
   all_goals clear f r j wM g
   all_goals grind
  obtain⟨e54,h⟩:=h
  refine ao λ_=>?_
  refine br (λb w=>b=(Z||decide (5<M))/\ab E w (lc P 60 (ay dj (l,M,O,()))::bG .str (.leaf (.int .i64)) m y d::lc v 63 (ay aD (S.1,u,S.2.2,()))::ae F::L)) (λb59 w h=>?_) λJ f=>?_
  rotate_left
  .repeat' (first|refine gA ?_|(refine gB ?_;clear h;intro w h)|(refine gC ?_;clear h;intro b0 w h)|refine aL ?_|refine ax (λe=>?_) (λe=>?_))
   all_goals refine f _ _ ⟨?_,dD⟩
   all_goals clear f r j wM g
   all_goals grind
  obtain⟨e59,h⟩:=h
  refine ao λ_=>?_
  refine br (λb w=>b=!lZ S i/\ab E w (lc P 60 (ay dj (l,M,O,()))::bG .str (.leaf (.int .i64)) m y d::lc v 63 (ay aD (S.1,u,S.2.2,()))::ae F::L)) (λb70 w h=>?_) λJ f=>?_
  rotate_left
  .repeat' (first|refine gA ?_|(refine gB ?_;clear h;intro w h)|(refine gC ?_;clear h;intro b0 w h)|refine aL ?_|refine ax (λe=>?_) (λe=>?_))
   all_goals refine f _ _ ⟨?_,dD⟩
   all_goals clear f r j wM g
   all_goals rw[o]
   all_goals generalize S.2.2=Q at*
   all_goals generalize decide (l∈names S i)=d1 at*
   all_goals generalize fD l=n1 at*
   all_goals clear o A H G X n W U I
   all_goals try simp only at e
   all_goals grind
  obtain⟨t,h⟩:=h
  refine ao λ_=>?_
  refine ax (λe=>?_) (λe=>?_)
  .exact fin (r _ dD) (PZ I (by rw[e]at t;simpa using t.symm)).symm
  have D:lZ S i=true:=by rw[e]at t;simpa using t.symm
  have ve:l∉names S i:=by
   rw[D]at o
   intro C
   simp[C]at o
  refine ld h ?_
  refine kL (kl:=.str) (vl:=.leaf (.int .i64)) (K:=9) (V:=3) (z:=(0:Int)) kK gi kK h pK ?_
  rw[wM l,ai ve]
  refine mw (kl:=.str) (vl:=.leaf (.int .i64)) (K:=9) (V:=3) kK gi h pK λw h=>?_
  refine j _ _ (bV I om) ⟨⟨_,_,λx=>?_,h.sub sS⟩,?_⟩
  .rw[sp gi.iff]
   rw[H]
   by_cases hx:x=l
   .subst hx
    rw[ak ((gi.iff _ _).2 rfl),ak sI]
    rfl
   .rw[ai (by rw[gi.iff];exact hx),wM x]
    by_cases C:x∈names S i
    .rw[ak C,ak (by simp[C])]
    .rw[ai C,ai (by simp[C,hx])]
  .rw[qz,ou,g]
   simp[D]
 .rintro _ w ⟨⟨y,d,wM,h⟩,g⟩
  refine fin (r _ dD) ?_
  unfold dK;rw[G,g];rfl
end
def nY (c:qF) (v:jf):Bool:=if v.1=0 then !c.2.2.1&&dM v else decide (v.1=c.2.1)&&dM v
def im (S:di) (r:Row):Int:=if dK S then(if r.length=S.2.1.length then(if(S.2.1.zip r).all (λq=>nY q.1 q.2)then 0 else 10)else 10)else 11
def mY (S:di) (r:Row):Row:=if im S r=0 then r.take S.2.2.toNat else[]
theorem mb (h:dK S=true):1<=S.2.2/\S.2.2<=S.2.1.length/\S.2.2<=8/\S.2.1.length<=16:=by
 unfold dK mA at h
 simp only[bp,bX]at h
 obtain⟨⟨_,b,c,a⟩,_⟩:=h
 split at a<;>omega
theorem Gt (h:im S r=0):dK S=true/\r.length=S.2.1.length/\∀i (a:i<S.2.1.length) (b:i<r.length),nY S.2.1[i] r[i]=true:=by
 unfold im at h
 split at h
 .split at h
  .split at h
   .rename_i a b c
    refine⟨a,b,λi d e=>?_⟩
    rw[pD]at c
    exact c (S.2.1[i],r[i]) (by rw[<-xE (l:=S.2.1) (l':=r) (i:=i) (h:=by rw[vU];omega)];exact cp _)
   .cases h
  .cases h
 .cases h
section
variable {E w:World} {L:List aK} {F:bh}
theorem TS {c:qF} {v:jf} (h:ab E w L) (hv:0<=v.2.2.1) (a:∀d,ab E d L->k (nY c v) d):CL 157 #[ag dj c,ag aP v] aw k w:=by
 obtain⟨f,g,i,⟨⟩⟩:=c
 obtain⟨j,n,b,s,⟨⟩⟩:=v
 refine ac8 ?_
 repeat' (first|refine gA ?_|(refine gB ?_;clear h;intro w h)|(refine gC ?_;clear h;intro b0 w h)|(refine rR h ?_;clear h;intro w h)|refine aL ?_|refine ax (λe=>?_) (λe=>?_))
 all_goals refine fin (a _ dD) ?_
 all_goals clear a
 all_goals unfold nY
 all_goals grind
theorem Fs {k:Int->Pr} (h:ab E w (ae F::L)) (y:ft F p S) (hs:FL F aP s r) (hr:dk r) (n:∀z,ab E z (ae F::L)->k (im S r) z):CL 115 #[ag aD p,sv s] ah k w:=by
 obtain⟨J,G,H,⟨⟩⟩:=p
 obtain⟨C,v,D⟩:=id y
 simp only at C v D
 subst C D
 refine acu ?_
 repeat (first|refine gA ?_|(refine gB ?_;clear h;intro w h)|(refine gC ?_;clear h;intro b0 w h))
 refine wj (h.pick (A:=ae F) pK) y λw h=>?_
 have x:=v.2
 have l:=hs.2
 refine ax (λd=>?_) (λd=>?_)
 .exact fin (n _ (h.sub sS)) (by unfold im;rw[ai (by rw[nT d];simp)])
 have o:dK S=true:=nF d
 have K:=mb o
 repeat (first|refine gA ?_|(refine gB ?_;clear h;intro w h)|(refine gC ?_;clear h;intro b0 w h))
 refine ax (λd=>?_) (λd=>?_)
 .refine fin (n _ (h.sub sS)) ?_
  have:r.length≠S.2.1.length:=by intro e;simp[x,l,e]at d
  unfold im;rw[ak o,ai this]
 have g:r.length=S.2.1.length:=by simpa[x,l,Int.ofNat_inj]using d
 repeat (first|refine gA ?_|(refine gB ?_;clear h;intro w h)|(refine gC ?_;clear h;intro b0 w h))
 refine cy (S:=Int) (cf:=λs=>s) S.2.1.length (by rw[x]) (λi s w=>(∃t,ab E w (ae F::lc t 63 (ay aD (S.1,G,S.2.2,()))::L))/\((S.2.1.take i).zip (r.take i)).all (λq=>nY q.1 q.2)=true) rfl ⟨⟨_,h⟩,rfl⟩ ?_ ?_
 .rintro next _ w i u rfl ⟨⟨t,h⟩,c⟩ j
  have f:i<r.length:=om
  refine ix v u λa M=>?_
  repeat (first|refine gA ?_|(refine gB ?_;clear h;intro w h)|(refine gC ?_;clear h;intro b0 w h))
  refine ix hs f λb N=>?_
  repeat (first|refine gA ?_|(refine gB ?_;clear h;intro w h)|(refine gC ?_;clear h;intro b0 w h))
  refine TS h (hr.wv _ (cp f)).b1.1 λw h=>?_
  refine ax (λd=>?_) (λd=>?_)
  .refine fin (n _ (h.sub sS)) ?_
   by_cases m:im S r=0
   .have:=(Gt m).2.2 i u f
    rw[nT d]at this;cases this
   .unfold im at m⊢
    rw[ak o,ak g]at m⊢
    split at m
    .exact absurd rfl m
    .rename_i I;rw[ai I]
  .refine j _ _ (bV u om) ⟨⟨t,h.sub sS⟩,?_⟩
   rw[cR u,cR f,Et (by simp;omega),ou,c]
   simp[nF d]
 .rintro _ w ⟨⟨t,h⟩,c⟩
  refine fin (n _ (h.sub sS)) ?_
  rw[cB,iP om]at c
  unfold im;rw[ak o,ak g,ak c]
theorem Tw {k:Sl->Pr} (h:ab E w (ae F::L)) (c:ft F p S) (hs:FL F aP s r) (hr:dk r) (d:∀G a e,F.le G->FL G aP a (mY S r)->ab E e (ae G::L)->k a e):CL 116 #[ag aD p,sv s] aE k w:=by
 obtain⟨C,D,t,⟨⟩⟩:=p
 obtain⟨f,u,g⟩:=id c
 simp only at f u g
 subst f g
 refine acv ?_
 repeat (first|refine gA ?_|(refine gB ?_;clear h;intro w h)|(refine gC ?_;clear h;intro b0 w h))
 refine Fs (h.pick (A:=ae F) pK) c hs hr λw h=>?_
 refine ax (λb=>?_) (λb=>?_)
 .refine d F au w (.refl _) ?_ (h.sub sS)
  have:im S r≠0:=by simpa using b
  unfold mY;rw[ai this];exact FL.nil
 .have j:im S r=0:=by simpa using b
  have v:=Gt j
  have H:=mb v.1
  have m:=hs.cap
  obtain⟨n,o⟩:∃n:Nat,S.2.2=n:=⟨S.2.2.toNat,om⟩
  repeat (first|refine gA ?_|(refine gB ?_;clear h;intro w h)|(refine gC ?_;clear h;intro b0 w h))
  refine AV (i:=n) (z:=aP.length) om ?_ (by simpa using o)
  refine ta (T:=28) h (FL.sub (l:=0) (h:=n) hs om om om) (by simp only[cn,fq];omega) λa w h=>?_
  obtain⟨G,x,h,y⟩:=dT (F:=F) h
  refine d G a w x ?_ (h.sub sS)
  unfold mY
  rw[ak j,o]
  simpa using y
end
section
variable {E w:World} {L L':List aK} {F:bh}
theorem WE {t:Sl} {cs:List Value} {k:Int->Pr} (h:ab E w L) (p:b6 L (dV Te sz d cs) L') (o:aQ P (underlying T1)=some (.slice Te)) (r:aQ P (sizeOf Te)=some sz)
  (u:Reads w t sz ds) (x:∀v∈ds,j9 v=true) (f:t.len<=d.len) (G:∀w',ab E w' (dV Te sz d (ds++cs.drop ds.length)::L')->k (t.len:Int) w'):
  eT P (vN (Builtin.copy_ #[T1,T2] R #[.slice d.a d.len d.cap,.slice t.a t.len t.cap])) ah k w:=by
 have c:=λw=>cd _ o w
 have e:=λw=>cd _ r w
 have y:=sF (P:=P) u
 have i:Nat.min t.len d.len=t.len:=rC f
 rcases(h.pick p).tL with⟨rfl,rfl,O⟩|⟨b,pre,spare,l,H,m,z,I⟩
 .have g:t.len=0:=by simpa using f
  have A:ds=[]:=by
   have:=u.1
   rw[g]at this
   simpa using this
  subst A
  refine⟨(t.len:Int),w,eE ?_,G _ (by simpa using h.pick p)⟩
  rw[g]at y
  simp[Builtin.copy_,c,e,Builtin.lenOf,g,y,Ty.val,cE.val,bD.val,goInt]
 .have J:ds.length<=cs.length:=by
       rw[u.1,H];exact lR _ f
  obtain⟨K,M,Q,N⟩:=xj (P:=P) (T:=Te) (b:=b) ds pre.length 0 _ w I.own (by simp;omega) x
  have C:K=⟨pre++((ds++cs.drop ds.length)++spare)⟩:=by
   apply Bh
   intro j
   rw[N j]
   simp only[oo,sO]
   by_cases n:j<pre.length
   .rw[ai om,g0 n,g0 n]
   .rw[gZ (l₁:=pre) om,gZ (l₁:=pre) om]
    by_cases S:j-pre.length<ds.length
    .rw[ak om,cP,g0 om]
    .rw[ai om,cP,gZ (l₁:=ds) om]
     by_cases D:j-pre.length<cs.length
     .rw[g0 D,g0 (by simp;omega),nB]
      congr 1;omega
     .rw[gZ om,gZ (by simp;omega)]
      congr 1;simp;omega
  refine⟨(t.len:Int),_,eE ?_,G _ (uE (pre:=pre) (spare:=spare) (b:=b) (by rw[<-C];exact I.set) l ?_ m z)⟩
  .unfold Builtin.copy_
   simp only[oo,Eh,yU]
   rw[da (c w)]
   simp only[Builtin.lenOf]
   rw[da (a:=t.len) (w':=w) rfl,i,da (e w),da y,l]
   simp only
   rw[da M]
   rfl
  .simp only[aU,fq]
   rw[<-H];omega
theorem Wj {t:Sl} {k:Int->Pr} (h:ab E w L) (j:∀w,ab E w L->Reads w t ls.length (ys.flatMap (ay ls)))
  (l:ys.length<=xs.length) (m:∀b,ab E b (OS T ls d (ys++xs.drop ys.length)::L')->k (ys.length:Int) b)
  (p:b6 L (OS T ls d xs) L':=by exact pK) (c:qP T ls.length=true:=by kernel_rfl) (n:tp ls=true:=by rfl) (f:Nat.blt 0 ls.length=true:=by rfl):
  eT prog (vN (Builtin.copy_ #[T,T] R #[.slice d.a d.len d.cap,.slice t.a t.len t.cap])) ah k w:=by
 have f:0<ls.length:=by simpa using f
 have g:=j w h
 have r:=fR (h.pick p) f
 have o:=g.Av (du ls) f
 have c:=ti c
 refine WE h p (u4 c.el) c.ok.size g (MY n ys) om λb i=>?_
 rw[o]
 refine m b ?_
 have e:(xs.flatMap (ay ls)).drop (ys.flatMap (ay ls)).length=(xs.drop ys.length).flatMap (ay ls):=by
  rw[nS _ _ (du ls)]
  exact Gu _ _ (du ls) xs ys.length
 rw[e,<-gM]at i
 exact i
theorem PY {α:Type} {f:α->List Value} {x:α} {sz:Nat} (hs:(f x).length=sz):∀(n j:Nat),j<n*sz->((List.replicate n x).flatMap f)[j]?=(f x)[j%sz]?
 |0,j,h=>by simp at h
 |n+1,j,h=>by
  rw[List.replicate_succ,fc]
  by_cases a:j<sz
  .rw[g0 om,hU a]
  .rw[gZ om,hs,PY hs n (j-sz) (by rw[km]at h;omega)]
   congr 1
   exact(Nat.mod_eq_sub_mod om).symm
noncomputable def HI (T:TypeId):Option (TypeId×Nat×Bool×List Value):=match prog.underlying T with
 |some (.slice e)=>match prog.info? e with
  |some i=>match i.zero with
   |some z=>some (e,i.size,Nat.ble i.bytes 256,z.cells.toList)
   |none=>none
  |none=>none
 |_=>none
theorem aaW {n:Nat} {b:Bool} {l:List Value} (h:HI T=some (e,n,b,l)):∃i z,prog.underlying T=some (.slice e)/\prog.info? e=some i/\i.zero=some z/\i.size=n/\Nat.ble i.bytes 256=b/\z.cells=⟨l⟩:=by
 unfold HI at h
 split at h
 .split at h
  .split at h
   .rename_i a _ i c _ z d
    cases h
    exact⟨i,z,a,c,d,rfl,rfl,sI⟩
   .cases h
  .cases h
 .cases h
theorem HJ {n:Nat} {m:Int} (a:bK ls) {k:Sl->Pr} (h:ab E w L) (hn:n<=1073741824) (g:∀b c,b.len=n->ab E c (OS T ls b (List.replicate n a)::L)->k b c) (hm:m=(n:Int):=by rfl)
  (o:HI T=some (k6 T,ls.length,true,ay ls a):=by kernel_rfl):
  eT prog (vN (Instr.makeSlice T (.int .i64 m) (.int .i64 m))) aE k w:=by
 subst hm
 obtain⟨i,z,p,r,t,u,v,x⟩:=aaW o
 have y:i.bytes<=256:=by simpa using v
 have A:i.bytes*n<=256*1073741824:=xA y hn
 refine wD (sz:=ls.length) (len:=n) ((List.replicate n a).flatMap (ay ls)) h ?_ (by rw[nS _ _ (du ls),rE]) (λb c d C=>g b c d C)
 rw[run_make w T (k6 T) i z p r t .i64 .i64 n n om (mP _) (by rw[<-Int.natCast_mul];omega) om]
 congr 1
 unfold World.alloc
 congr 3
 apply lr
 rw[x,u]
 refine Bp λj=>?_
 have d:=nS (ay ls) ls.length (du ls) (List.replicate n a)
 rw[rE]at d
 by_cases e:j<n*ls.length
 .rw[PY (du ls a) n j e]
  have D:0<ls.length:=by rcases vM ls.length with f|f;·rw[f]at e;omega
                         .exact f
  have hm:j%ls.length<(ay ls a).length:=by rw[du];exact qu _ D
  rw[fA hm]
  simp only[madeCells,kW,RL,Array.getElem?_map,Array.getElem?_range,e,gr,rB,Ej,du]
  rw[Jo _ _ (by simpa[du]using hm)]
  rfl
 .have G:(madeCells ⟨ay ls a⟩ ((n:Int).toNat*ls.length)).toList.length=n*ls.length:=by simp[madeCells]
  rw[pA (l:=(madeCells _ _).toList) om,pA (by show(List.flatMap _ _).length<=j;omega)]
abbrev zV:jf:=(0,0,0,⟨#[]⟩,())
def iN (S:di) (r:Row):Row:=r++List.replicate (S.2.1.length-r.length) zV
def jq (S:di) (r:Row):Row×Int:=if dK S then(if r.length<=S.2.1.length then(if im S (iN S r)=0 then(iN S r,0)else([],im S (iN S r)))else([],10))else([],11)
theorem Rk:WV zV:=⟨by decide,by decide,by decide⟩
theorem Rb (hr:dk r) (h:S.2.1.length<=16):dk (iN S r):=by
 refine⟨?_,λv a=>?_⟩
 .have:=hr.len
  unfold iN;rw[aU,rE]
  omega
 .rcases List.mem_append.1 a with h|h
  .exact hr.wv v h
  .rw[(List.mem_replicate.1 h).2];exact Rk
theorem KS {k:Sl×Int×Unit->Pr} (h:ab E w (ae F::L)) (i:ft F p S) (hs:FL F aP s r) (hr:dk r)
  (b:∀G m o,F.le G->FL G aP m (jq S r).1->ab E o (ae G::L)->k (m,(jq S r).2,()) o):CL 194 #[ag aD p,sv s] (.aG [.leaf .slice,.leaf (.int .i64)]) k w:=by
 obtain⟨H,y,z,⟨⟩⟩:=p
 obtain⟨t,u,v⟩:=id i
 simp only at t u v
 subst t v
 refine adH ?_
 repeat (first|refine gA ?_|(refine gB ?_;clear h;intro w h)|(refine gC ?_;clear h;intro b0 w h))
 refine wj (h.pick (A:=ae F) pK) i λw h=>?_
 have j:=u.2
 have f:=hs.2
 refine ax (λa=>?_) (λa=>?_)
 .have e:jq S r=([],11):=by unfold jq;rw[ai (by rw[nT a];simp)]
  rw[e]at b
  exact b F au w (.refl _) .nil (h.sub sS)
 have g:dK S=true:=nF a
 have C:=mb g
 repeat (first|refine gA ?_|(refine gB ?_;clear h;intro w h)|(refine gC ?_;clear h;intro b0 w h))
 refine ax (λa=>?_) (λa=>?_)
 .have:=cT a
  simp only[j,f]at this
  have e:jq S r=([],10):=by unfold jq;rw[ak g,ai om]
  rw[e]at b
  exact b F au w (.refl _) .nil (h.sub sS)
 have c:r.length<=S.2.1.length:=by
  have:=cF a
  simp only[j,f]at this
  omega
 repeat (first|refine gA ?_|(refine gB ?_;clear h;intro w h)|(refine gC ?_;clear h;intro b0 w h))
 refine HJ (T:=28) (ls:=aP) (n:=S.2.1.length) zV h om (λd w I h=>?_) (hm:=by show(y.len:Int)=_;rw[j])
 refine Wj (T:=28) (ls:=aP) (d:=d) (xs:=List.replicate S.2.1.length zV) (ys:=r) h (λw h=>hs.reads (h.pick (A:=ae F) pK)) (by rw[rE];exact c) λw h=>?_
 rw[Jp]at h
 obtain⟨G,l,h,x⟩:=dT (F:=F) h
 repeat (first|refine gA ?_|(refine gB ?_;clear h;intro w h)|(refine gC ?_;clear h;intro b0 w h))
 have D:=Rb hr C.2.2.2
 refine Fs (h.pick (A:=ae G) pK) (i.up l) x D λw h=>?_
 refine ax (λa=>?_) (λa=>?_)
 .have e:jq S r=([],im S (iN S r)):=by unfold jq;rw[ak g,ak c,ai (show¬im S (iN S r)=0 by unfold iN;simpa using a)]
  rw[e]at b
  exact b G au w l .nil (h.sub sS)
 .have e:jq S r=(iN S r,0):=by unfold jq;rw[ak g,ak c,ak (show im S (iN S r)=0 by unfold iN;simpa using a)]
  rw[e]at b
  exact b G d w l x (h.sub sS)
end
def lO (A B:di):Bool:=decide (A.1=B.1)&&(decide (A.2.2=B.2.2)&&decide (A.2.1=B.2.1))
def j5 (A B:di):Bool:=dK A&&(dK B&&(decide (A.2.1.length<=B.2.1.length)&&((B.2.1.drop A.2.1.length).all (λc=>!c.2.2.1)&&lO A (B.1,B.2.1.take A.2.1.length,B.2.2))))
theorem MG {a b:qF}:ik dj a b=true↔a=b:=by
 obtain⟨c,d,e,⟨⟩⟩:=a
 obtain⟨f,g,i,⟨⟩⟩:=b
 simp[ik,o6,Prod.ext_iff]
theorem QO (a:ByteArray):∀(n i:Nat) (r:List UInt8),a.size-i=n->ByteArray.toList.loop a i r=r.reverse++a.data.toList.drop i
 |0,i,r,h=>by
  rw[ByteArray.toList.loop,ai om,Br (by show a.data.size<=i;have:a.size=a.data.size:=rfl;omega),iO]
 |n+1,i,r,h=>by
  have b:i<a.size:=om
  have c:i<a.data.toList.length:=b
  rw[ByteArray.toList.loop,ak b,QO a n (i+1) _ om,iB c,List.reverse_cons,cP]
  have e:a.get! i=a.data.toList[i]:=by
   show a.data[i]! =_
   rw[Jo a.data i b]
   simp
  rw[e];rfl
theorem QM (a:ByteArray):a.toList=a.data.toList:=by
 unfold ByteArray.toList
 rw[QO a _ 0 [] rfl]
 rfl
theorem iK {a b:ByteArray}:(a.toList==b.toList)=decide (a=b):=by
 rw[QM,QM,gb]
 simp only[qq,bX]
 constructor
 .intro h
  cases a;cases b
  simp only at h
  congr 1
  exact lr h
 .rintro rfl;rfl
section
variable {E w:World} {L:List aK} {F:bh}
theorem Ky {B:di} (h:ab E w (ae F::L)) (N:ft F p A) (O:ft F q B) (X:A.2.1.length<=1073741824) (l:∀M,ab E M (ae F::L)->k (lO A B) M):CL 156 #[ag aD p,ag aD q] aw k w:=by
 obtain⟨P,u,v,⟨⟩⟩:=p
 obtain⟨g,x,m⟩:=id N
 simp only at g x m
 subst g m
 obtain⟨P,y,v,⟨⟩⟩:=q
 obtain⟨g,C,m⟩:=id O
 simp only at g C m
 subst g m
 have Q:=x.2
 have R:=C.2
 refine ac7 ?_
 refine bx h λD w h=>?_
 refine bx h λG w h=>?_
 refine ld h ?_
 refine ld h ?_
 refine br (λb w=>b=!(decide (A.1=B.1)&&decide (A.2.2=B.2.2))/\ab E w (lc G 63 (ay aD (B.1,y,B.2.2,()))::lc D 63 (ay aD (A.1,u,A.2.2,()))::ae F::L)) (λH w h=>?_) λJ n=>?_
 rotate_left
 .repeat' (first|refine gA ?_|(refine gB ?_;clear h;intro w h)|(refine gC ?_;clear h;intro b0 w h)|refine aL ?_|refine ax (λc=>?_) (λc=>?_))
  all_goals refine n _ _ ⟨?_,dD⟩
  all_goals clear n l
  all_goals simp only[iK]at*
  all_goals grind
 obtain⟨o,h⟩:=h
 refine ao λ_=>?_
 refine br (λb w=>b=(H||!decide (A.2.1.length=B.2.1.length))/\ab E w (lc G 63 (ay aD (B.1,y,B.2.2,()))::lc D 63 (ay aD (A.1,u,A.2.2,()))::ae F::L)) (λT w h=>?_) λJ n=>?_
 rotate_left
 .repeat' (first|refine gA ?_|(refine gB ?_;clear h;intro w h)|(refine gC ?_;clear h;intro b0 w h)|refine aL ?_|refine ax (λc=>?_) (λc=>?_))
  all_goals refine n _ _ ⟨?_,dD⟩
  all_goals clear n l
  all_goals grind
 obtain⟨d,h⟩:=h
 refine ao λ_=>?_
 refine ax (λc=>?_) (λc=>?_)
 .refine fin (l _ dD) ?_
  clear l
  by_cases t:A.2.1=B.2.1
  .rw[c,o,t]at d
   unfold lO
   simp only[decide_true,Bl,Bool.or_false]at d
   rw[Bool.and_comm (decide (A.2.2=B.2.2)),<-y5,Bool.and_comm (decide (A.1=B.1)),y5]
   generalize (decide (A.1=B.1)&&decide (A.2.2=B.2.2))=z at*
   cases z
   .simp
   .simp at d
  .unfold lO;simp[t]
 have U:A.1=B.1/\A.2.2=B.2.2/\A.2.1.length=B.2.1.length:=by
  rw[c,o]at d
  by_cases V:A.1=B.1<;>by_cases W:A.2.2=B.2.2<;>by_cases t:A.2.1.length=B.2.1.length<;>simp[V,W,t]at d⊢
 obtain⟨n1,n2,n3⟩:=U
 refine ld h ?_
 refine cy (S:=Int) (cf:=λs=>s) A.2.1.length (by rw[Q]) (λi s w=>A.2.1.take i=B.2.1.take i/\ab E w (lc G 63 (ay aD (B.1,y,B.2.2,()))::lc D 63 (ay aD (A.1,u,A.2.2,()))::ae F::L)) rfl ⟨rfl,h⟩ ?_ ?_
 .rintro next _ w i I rfl ⟨f,h⟩ j
  have r:i<B.2.1.length:=om
  repeat (first|refine gA ?_|(refine gB ?_;clear h;intro w h)|(refine gC ?_;clear h;intro b0 w h))
  refine ix x I λa Y=>?_
  repeat (first|refine gA ?_|(refine gB ?_;clear h;intro w h)|(refine gC ?_;clear h;intro b0 w h))
  refine ix C r λb Z=>?_
  repeat (first|refine gA ?_|(refine gB ?_;clear h;intro w h)|(refine gC ?_;clear h;intro b0 w h))
  refine ax (λc=>?_) (λc=>?_)
  .refine fin (l _ dD) ?_
   have K:A.2.1≠B.2.1:=λe=>by
    have g:A.2.1[i]=B.2.1[i]:=by simp only[e]
    rw[g,MG.2 rfl]at c
    cases c
   unfold lO;simp[K]
  .refine j _ _ (bV I om) ⟨?_,dD⟩
   rw[cR I,cR r,f,(MG.1 (nF c))]
 .rintro _ w ⟨f,h⟩
  refine fin (l _ dD) ?_
  rw[cB,iP om]at f
  simp[lO,n1,n2,f]
theorem Ki {B:di} (h:ab E w (ae F::L)) (D:ft F p A) (R:ft F q B) (n:∀T,ab E T (ae F::L)->k (j5 A B) T):CL 113 #[ag aD p,ag aD q] aw k w:=by
 obtain⟨X,o,G,⟨⟩⟩:=p
 obtain⟨r,U,t⟩:=id D
 simp only at r U t
 subst r t
 obtain⟨X,f,G,⟨⟩⟩:=q
 obtain⟨r,u,t⟩:=id R
 simp only at r u t
 subst r t
 have V:=U.2
 have Y:=u.2
 refine acr ?_
 refine bx h λH w h=>?_
 refine bx h λI w h=>?_
 repeat (first|refine gA ?_|(refine gB ?_;clear h;intro w h)|(refine gC ?_;clear h;intro b0 w h))
 refine wj (h.pick (A:=ae F) pK) D λw h=>?_
 refine br (λb w=>b=!(dK A&&dK B)/\ab E w (ae F::lc I 63 (ay aD (B.1,f,B.2.2,()))::lc H 63 (ay aD (A.1,o,A.2.2,()))::L)) (λK w h=>?_) λJ v=>?_
 rotate_left
 .refine ax (λe=>?_) (λe=>?_)
  .exact v _ _ ⟨by rw[nT e];rfl,h⟩
  .repeat (first|refine gA ?_|(refine gB ?_;clear h;intro w h)|(refine gC ?_;clear h;intro b0 w h))
   refine wj h R λw h=>?_
   exact v _ _ ⟨by rw[nF e,hI],h⟩
 obtain⟨x,h⟩:=h
 refine ao λ_=>?_
 refine br (λb w=>b=(K||!decide (A.2.1.length<=B.2.1.length))/\ab E w (ae F::lc I 63 (ay aD (B.1,f,B.2.2,()))::lc H 63 (ay aD (A.1,o,A.2.2,()))::L)) (λZ w h=>?_) λJ v=>?_
 rotate_left
 .repeat' (first|refine gA ?_|(refine gB ?_;clear h;intro w h)|(refine gC ?_;clear h;intro b0 w h)|refine aL ?_|refine ax (λe=>?_) (λe=>?_))
  all_goals refine v _ _ ⟨?_,h⟩
  all_goals clear v n
  all_goals grind
 obtain⟨g,h⟩:=h
 refine ao λ_=>?_
 refine ax (λe=>?_) (λe=>?_)
 .refine fin (n _ (h.sub sS)) ?_
  clear n
  rw[e,x]at g
  unfold j5
  by_cases M:dK A=true<;>by_cases N:dK B=true<;>by_cases O:A.2.1.length<=B.2.1.length<;>simp[M,N,O]at g⊢
 have hn:dK A=true/\dK B=true/\A.2.1.length<=B.2.1.length:=by
  rw[e,x]at g
  by_cases M:dK A=true<;>by_cases N:dK B=true<;>by_cases O:A.2.1.length<=B.2.1.length<;>simp[M,N,O]at g⊢
 obtain⟨n1,n2,n3⟩:=hn
 have hKB:=mb n2
 have W:=u.cap
 refine ld h ?_
 refine ld h ?_
 refine AU (i:=A.2.1.length) (z:=dj.length) (by show _<=f.len;omega) ?_ (by show(o.len:Int)=_;rw[V])
 have P:=FL.sub (l:=A.2.1.length) (h:=f.len) (m:=f.cap) u om om om
 have y:((B.2.1.drop A.2.1.length).take (f.len-A.2.1.length))=B.2.1.drop A.2.1.length:=by rw[iP];simp;omega
 rw[y]at P
 refine cy (S:=Int) (cf:=λs=>s) (B.2.1.drop A.2.1.length).length (by rw[P.2]) (λi s w=>((B.2.1.drop A.2.1.length).take i).all (λc=>!c.2.2.1)=true/\ab E w (ae F::lc I 63 (ay aD (B.1,f,B.2.2,()))::lc H 63 (ay aD (A.1,o,A.2.2,()))::L)) rfl ⟨rfl,h⟩ ?_ ?_
 .rintro next _ w i C rfl ⟨d,h⟩ j
  refine ix P C λa ha=>?_
  repeat (first|refine gA ?_|(refine gB ?_;clear h;intro w h)|(refine gC ?_;clear h;intro b0 w h))
  refine ax (λe=>?_) (λe=>?_)
  .refine fin (n _ (h.sub sS)) ?_
   have:(B.2.1.drop A.2.1.length).all (λc=>!c.2.2.1)=false:=List.all_eq_false.2 ⟨_,cp C,by simpa using e⟩
   unfold j5;rw[this];simp
  .refine j _ _ (bV C (by rw[fq];omega)) ⟨?_,h.sub sS⟩
   rw[cR C,ou,d]
   simpa using e
 .rintro _ w ⟨d,h⟩
  rw[cB]at d
  refine ld h ?_
  refine ld h ?_
  refine AV (i:=A.2.1.length) (z:=dj.length) (by show _<=f.cap;omega) ?_ (by show(o.len:Int)=_;rw[V])
  have ht:=FL.sub (l:=0) (h:=A.2.1.length) (m:=f.cap) u om om om
  refine st h λw h=>?_
  refine fK h ?_
  refine fK h ?_
  have Q:ft F (B.1,gJ f 0 A.2.1.length f.cap dj.length,B.2.2,()) (B.1,B.2.1.take A.2.1.length,B.2.2):=⟨rfl,by simpa using ht,rfl⟩
  refine Ky (h.pick (A:=ae F) pK) D Q (by have:=mb n1;omega) λw h=>?_
  refine fin (n _ (h.sub sS)) ?_
  unfold j5;rw[n1,n2,d];simp[n3]
end
abbrev cY (s:ByteArray):List UInt8:=s.data.toList
def ij (c:qF):List UInt8:=cz (cY c.1)++aH c.2.1.toNat++aH (if c.2.2.1 then 1 else 0)
def gm (S:di):List UInt8:=if dK S then cz (cY S.1)++aH S.2.2.toNat++aH S.2.1.length++S.2.1.flatMap ij else[]
theorem sr {s:ByteArray} (h:fD s=true):(cY s).length<=32:=by
 unfold fD at h
 simp only[bp,bX]at h
 have:(cY s).length=s.size:=rfl
 omega
theorem DM (h:dK S=true):fD S.1=true:=by
 unfold dK mA at h
 simp only[bp,bX]at h
 exact h.1.1
theorem xh (h:dK S=true) {c:qF} (hc:c∈S.2.1):fD c.1=true/\1<=c.2.1/\c.2.1<=5:=by
 obtain⟨i,a,rfl⟩:=sQ hc
 unfold dK at h
 simp only[bp]at h
 have:=(List.all_eq_true.1 h.2) i (List.mem_range.2 a)
 unfold lZ at this
 rw[fA a]at this
 simp only[bp,bX]at this
 exact⟨this.1.1.1.1,this.1.1.2,this.1.2⟩
theorem oe (h:l.length<18446744073709551616):(cz l).length<=l.length+10:=by
 have:=cD (n:=l.length) h
 unfold cz;rw[aU];omega
theorem zN {c:qF} (hn:fD c.1=true) (a:1<=c.2.1) (b:c.2.1<=5):(ij c).length<=62:=by
 have d:=sr hn
 have e:=oe (l:=cY c.1) om
 have f:=cD (n:=c.2.1.toNat) om
 have g:=cD (n:=if c.2.2.1 then 1 else 0) (by split<;>omega)
 unfold ij;rw[aU,aU];omega
section
variable {E w:World} {L:List aK} {F:bh}
set_option maxHeartbeats 1000000 in
theorem FR {k:ByteArray->Pr} (h:ab E w (ae F::L)) (P:ft F p S) (Q:∀R,ab E R (ae F::L)->k (B (gm S)) R):CL 292 #[ag aD p] an k w:=by
 obtain⟨nm,D,H,⟨⟩⟩:=p
 obtain⟨T,I,U⟩:=id P
 simp only at T I U
 subst T U
 have V:=I.2
 refine afk ?_
 repeat (first|refine gA ?_|(refine gB ?_;clear h;intro w h)|(refine gC ?_;clear h;intro b0 w h))
 refine wj (h.pick (A:=ae F) pK) P λw h=>?_
 refine ax (λe=>?_) (λe=>?_)
 .refine fin (Q _ (h.sub sS)) ?_
  unfold gm;rw[ai (by rw[nT e];simp)];rfl
 have r:=nF e
 have hK:=mb r
 have hN:=sr (DM r)
 obtain⟨u,v⟩:∃n:Nat,S.2.2=n:=⟨S.2.2.toNat,om⟩
 have hE:gm S=cz (cY S.1)++aH u++aH S.2.1.length++S.2.1.flatMap ij:=by unfold gm;rw[ak r,v];rfl
 have t1:=oe (l:=cY S.1) om
 have t2:=cD (n:=u) om
 have t3:=cD (n:=S.2.1.length) om
 have t4:∀i,((S.2.1.take i).flatMap ij).length<=62*16:=λi=>by
  have:=lB (f:=ij) (m:=62) (l:=S.2.1.take i) λc e=>by
   obtain⟨a,b,d⟩:=xh r (mj e)
   exact zN a b d
  rw[cn]at this
  omega
 generalize CW:S.2.2=H at*
 subst v
 repeat (first|refine gA ?_|(refine gB ?_;clear h;intro w h)|(refine gC ?_;clear h;intro b0 w h))
 rw[<-rI S.1]
 refine th h (by show(cY S.1).length<=_;omega) λw h=>?_
 repeat (first|refine gA ?_|(refine gB ?_;clear h;intro w h)|(refine gC ?_;clear h;intro b0 w h))
 rw[ug om]
 refine nf h om λw h=>?_
 repeat (first|refine gA ?_|(refine gB ?_;clear h;intro w h)|(refine gC ?_;clear h;intro b0 w h))
 refine cc (by show(cz (cY S.1)).length+_<=_;omega) ?_
 have e1:IntKind.u64.wrap (D.len:Int)=((S.2.1.length:Nat):Int):=by rw[V];exact ug om
 show CL 257 #[.int .u64 (IntKind.u64.wrap (D.len:Int))] an _ w
 rw[e1]
 refine nf h om λw h=>?_
 repeat (first|refine gA ?_|(refine gB ?_;clear h;intro w h)|(refine gC ?_;clear h;intro b0 w h))
 refine cc (by rw[aU];show(cz (cY S.1)).length+_+_<=_;omega) ?_
 repeat (first|refine gA ?_|(refine gB ?_;clear h;intro w h)|(refine gC ?_;clear h;intro b0 w h))
 refine cy (S:=ByteArray×Int) (cf:=λs=>s.2) S.2.1.length (by rw[V]) (λi s w=>s.1=B (cz (cY S.1)++aH u++aH S.2.1.length++(S.2.1.take i).flatMap ij)/\∃t,ab E w (ae F::lc t 63 (ay aD (S.1,D,(u:Int),()))::L)) rfl ⟨sI,_,h⟩ ?_ ?_
 .rintro next ⟨x,_⟩ w i G rfl ⟨y,t,h⟩ o
  simp only at y
  subst y
  have h4:=t4 i
  obtain⟨W,X,Y⟩:=xh r (cp G)
  have z:=zN W X Y
  have K:=sr W
  have hcb:∀c:qF,c=S.2.1[i]->ij c=ij S.2.1[i]:=λc e=>by rw[e]
  refine ix I G λa ha=>?_
  have M:=cR G
  generalize S.2.1[i]=c at*
  obtain⟨g,Z,j,⟨⟩⟩:=c
  simp only at X Y K
  have t5:=oe (l:=cY g) om
  obtain⟨C,rfl⟩:∃n:Nat,Z=n:=⟨Z.toNat,om⟩
  have t6:=cD (n:=C) om
  refine fJ h ?_
  refine al h λN w h=>?_
  refine bU h (λw h=>?_)
  refine br (λf w=>f=(((if j then 1 else 0:Nat)):Int)/\ab E w (lc N 60 (ay dj (g,(C:Int),j,()))::ae F::lc t 63 (ay aD (S.1,D,(u:Int),()))::L)) (λf w h=>?_) λJ hJ=>?_
  rotate_left
  .repeat' (first|refine gA ?_|(refine gB ?_;clear h;intro w h)|(refine gC ?_;clear h;intro b0 w h)|refine aL ?_|refine ax (λe=>?_) (λe=>?_))
   .exact hJ _ _ ⟨by rw[show j=true from e];rfl,h⟩
   .exact hJ _ _ ⟨by rw[show j=false from e];rfl,h⟩
  obtain⟨rfl,h⟩:=h
  have t7:=cD (n:=if j then 1 else 0) (by split<;>omega)
  repeat (first|refine gA ?_|(refine gB ?_;clear h;intro w h)|(refine gC ?_;clear h;intro b0 w h))
  rw[<-rI g]
  refine th h (by show(cY g).length<=_;omega) λw h=>?_
  repeat (first|refine gA ?_|(refine gB ?_;clear h;intro w h)|(refine gC ?_;clear h;intro b0 w h))
  rw[ug om]
  refine nf h om λw h=>?_
  repeat (first|refine gA ?_|(refine gB ?_;clear h;intro w h)|(refine gC ?_;clear h;intro b0 w h))
  refine cc (by show(cz (cY g)).length+_<=_;omega) ?_
  refine nf h (by split<;>omega) λw h=>?_
  repeat (first|refine gA ?_|(refine gB ?_;clear h;intro w h)|(refine gC ?_;clear h;intro b0 w h))
  refine cc (by rw[aU];show(cz (cY g)).length+_+_<=_;omega) ?_
  have O:cz (cY g)++aH C++aH (if j then 1 else 0)=ij (g,(C:Int),j,()):=rfl
  rw[show g.data.toList=cY g from rfl,O]
  have z:(ij (g,(C:Int),j,())).length<=62:=z
  refine cc (by rw[aU,aU,aU];omega) ?_
  refine o _ _ (bV G om) ⟨?_,t,h.sub sS⟩
  rw[M,gM];simp
 .rintro⟨x,_⟩ w ⟨y,t,h⟩
  simp only at y
  subst y
  refine fin (Q _ (h.sub sS)) ?_
  rw[hE,cB]
end
def lC (r:Row) (n:Int):Bool:=r.all dM&&(decide ((r.length:Int)>0)&&decide ((r.length:Int)<=n))
abbrev jc:=Int×ByteArray×Row×Int×Int×di
abbrev v7:=Int×ByteArray×Sl×Int×Int×ByteArray×Sl×Int×Unit
structure nE (F:bh) (c:v7) (C:jc):Prop where
 kd:c.1=C.1
 nm:c.2.1=C.2.1
 row:FL F aP c.2.2.1 C.2.2.1
 lo:c.2.2.2.1=C.2.2.2.1
 hi:c.2.2.2.2.1=C.2.2.2.2.1
 DY:ft F c.2.2.2.2.2 C.2.2.2.2.2
variable {c:v7} {C:jc}
theorem nE.up (h:nE F c C) (a:F.le G):nE G c C:=⟨h.kd,h.nm,h.row.up a,h.lo,h.hi,h.DY.up a⟩
theorem OK:uM nE:=λF G r a b h=>h.up b
structure oy (C:jc):Prop where
 row:dk C.2.2.1
 DY:C.2.2.2.2.2.2.1.length<=1073741824
def jA:di:=(⟨#[]⟩,[],0)
def gg (C:jc):Bool:=if C.1=3 then dK C.2.2.2.2.2&&(decide (C.2.1=C.2.2.2.2.2.1)&&(decide (C.2.2.1.length=0)&&(decide (C.2.2.2.1=0)&&decide (C.2.2.2.2.1=0))))
 else if C.1=1\/C.1=2 then fD C.2.1&&(lC C.2.2.1 (if C.1=2 then 8 else 16)&&(cA (C.2.2.2.1,C.2.2.2.2.1,())&&lO C.2.2.2.2.2 jA))else false
abbrev Pk:=Int×Int×List jc
abbrev pH:=Int×Int×Sl×Unit
structure je (F:bh) (p:pH) (P:Pk):Prop where
 n:p.1=P.1
 t:p.2.1=P.2.1
 cs:NL F bP nE p.2.2.1 P.2.2
structure kt (P:Pk):Prop where
 len:P.2.2.length<=268435456
 ok:∀C∈P.2.2,oy C
def gT (P:Pk):Bool:=P.2.2.all gg&&((decide (P.1>=1)&&decide (P.1<=1099511627776))&&(decide (P.2.1>=0)&&(decide (P.2.1<1099511627776)&&decide ((P.2.2.length:Int)<=100))))
section
variable {E w:World} {L:List aK} {F:bh}
theorem TQ {p:Sp} (h:ab E w L) (a:∀b,ab E b L->k (cA p) b):CL 155 #[ag aC p] aw k w:=by
 refine ac6 ?_
 repeat' (first|refine gA ?_|(refine gB ?_;clear h;intro w h)|(refine gC ?_;clear h;intro b0 w h)|refine aL ?_|refine ax (λc=>?_) (λc=>?_))
 all_goals refine fin (a _ dD) ?_
 all_goals clear a
 all_goals unfold cA
 all_goals grind
theorem TP {n:Int} (h:ab E w (ae F::L)) (hs:FL F aP s r) (hr:dk r) (g:∀l,ab E l (ae F::L)->k (lC r n) l):CL 154 #[sv s,iv n] aw k w:=by
 refine ac5 ?_
 have m:=hs.2
 have t:=hr.len
 refine cy (S:=Int) (cf:=λs=>s) r.length (by rw[m]) (λi s w=>(r.take i).all dM=true/\ab E w (ae F::L)) rfl ⟨rfl,h⟩ ?_ ?_
 .rintro next _ w i d rfl ⟨b,h⟩ c
  refine ix hs d λa u=>?_
  have o:=(hr.wv _ (cp d)).b1.1
  have j:=cR d
  have p:=cp d
  generalize r[i]=v at*
  repeat (first|refine gA ?_|(refine gB ?_;clear h;intro w h)|(refine gC ?_;clear h;intro b0 w h))
  refine rR h (λw h=>?_) o
  refine ax (λf=>?_) (λf=>?_)
  .refine fin (g _ (h.sub sS)) ?_
   have:r.all dM=false:=List.all_eq_false.2 ⟨v,p,by simpa using f⟩
   unfold lC;rw[this];rfl
  .refine c _ _ (bV d om) ⟨?_,h.sub sS⟩
   rw[j,ou,b];simpa using f
 .rintro _ w ⟨b,h⟩
  rw[cB]at b
  have e:lC r n=(decide ((r.length:Int)>0)&&decide ((r.length:Int)<=n)):=by unfold lC;rw[b];rfl
  rw[e]at g
  rw[m]
  repeat' (first|refine gA ?_|(refine gB ?_;clear h;intro w h)|(refine gC ?_;clear h;intro b0 w h)|refine aL ?_|refine ax (λf=>?_) (λf=>?_))
  all_goals refine fin (g _ (h.sub sS)) ?_
  all_goals clear g
  all_goals grind
theorem x7 (h:C.1=3):gg C=(dK C.2.2.2.2.2&&(decide (C.2.1=C.2.2.2.2.2.1)&&(decide (C.2.2.1.length=0)&&(decide (C.2.2.2.1=0)&&decide (C.2.2.2.2.1=0))))):=by unfold gg;rw[ak h]
theorem LP (h:C.1=1\/C.1=2):gg C=(fD C.2.1&&(lC C.2.2.1 (if C.1=2 then 8 else 16)&&(cA (C.2.2.2.1,C.2.2.2.2.1,())&&lO C.2.2.2.2.2 jA))):=by
 unfold gg;rw[ai om,ak h]
theorem LO (a:C.1≠3) (h:¬(C.1=1\/C.1=2)):gg C=false:=by unfold gg;rw[ai a,ai h]
theorem aba:ft F (⟨#[]⟩,au,0,()) jA:=⟨rfl,.nil,rfl⟩
set_option maxHeartbeats 1000000 in
theorem Tv (h:ab E w (ae F::L)) (hc:nE F c C) (X:oy C) (u:∀Y,ab E Y (ae F::L)->k (gg C) Y):CL 112 #[ag bP c] aw k w:=by
 obtain⟨j,p,g,l,m,n,i,o,⟨⟩⟩:=c
 obtain⟨Ck,Cn,z,Cl,Ch,Sn,D,Sk⟩:=C
 obtain⟨Z,h2,H,h4,h5,G⟩:=hc
 simp only at Z h2 H h4 h5 G
 obtain⟨h7,h8,h9⟩:=id G
 simp only at h7 h8 h9
 subst Z h2 h4 h5 h7 h9
 have I:=H.2
 have hR:=X.row
 have y:=X.DY
 simp only at hR y
 refine acq ?_
 refine bx h λt w h=>?_
 refine ld h ?_
 refine ax (λv=>?_) (λv=>?_)
 .have e:=x7 (C:=(j,p,z,l,m,n,D,o)) (by simpa using v)
  simp only at e
  rw[e]at u
  refine fK h ?_
  refine wj (h.pick (A:=ae F) pK) G λw h=>?_
  refine br (λb w=>b=(dK (n,D,o)&&decide (p=n))/\ab E w (ae F::lc t 65 (ay bP (j,p,g,l,m,n,i,o,()))::L)) (λK w h=>?_) λJ d=>?_
  rotate_left
  .refine ax (λhc=>?_) (λhc=>?_)
   .refine ld h ?_
    refine ld h ?_
    exact d _ _ ⟨by rw[hc,hI];exact iK,h⟩
   .exact d _ _ ⟨by rw[hc];rfl,h⟩
  obtain⟨M,h⟩:=h
  refine ao λ_=>?_
  refine br (λb w=>b=(K&&decide (z.length=0))/\ab E w (ae F::lc t 65 (ay bP (j,p,g,l,m,n,i,o,()))::L)) (λN w h=>?_) λJ d=>?_
  rotate_left
  .refine ax (λhc=>?_) (λhc=>?_)
   .refine ld h ?_
    exact d _ _ ⟨by rw[hc,hI];show((g.len:Int)==0)=_;rw[I,gb];simp,h⟩
   .exact d _ _ ⟨by rw[hc];rfl,h⟩
  obtain⟨O,h⟩:=h
  refine ao λ_=>?_
  refine br (λb w=>b=(N&&(decide (l=0)&&decide (m=0)))/\ab E w (ae F::lc t 65 (ay bP (j,p,g,l,m,n,i,o,()))::L)) (λSP w h=>?_) λJ d=>?_
  rotate_left
  .refine ax (λhc=>?_) (λhc=>?_)
   .refine fK (ls:=aC) (x:=(l,m,())) h ?_
    refine yd (ls:=aC) (a:=(l,m,())) (b:=(0,0,())) ?_
    refine d _ _ ⟨?_,h⟩
    rw[hc,hI,gb];simp[ik,o6]
   .exact d _ _ ⟨by rw[hc];rfl,h⟩
  obtain⟨P,h⟩:=h
  refine ao λ_=>?_
  refine fin (u _ (h.sub sS)) ?_
  rw[P,O,M]
  simp only[y5]
 .have Q:j≠3:=by simpa using v
  refine br (λb w=>b=decide (j=1\/j=2)/\ab E w (lc t 65 (ay bP (j,p,g,l,m,n,i,o,()))::ae F::L)) (λR w h=>?_) λJ d=>?_
  rotate_left
  .repeat' (first|refine gA ?_|(refine gB ?_;clear h;intro w h)|(refine gC ?_;clear h;intro b0 w h)|refine aL ?_|refine ax (λhc=>?_) (λhc=>?_))
   all_goals refine d _ _ ⟨?_,dD⟩
   all_goals clear d u
   all_goals grind
  obtain⟨r,h⟩:=h
  refine ao λ_=>?_
  refine ax (λhc=>?_) (λhc=>?_)
  rotate_left
  .exact fin (u _ dD) (LO Q (by rw[hc]at r;simpa using r.symm)).symm
  rw[hc]at r
  have e:=LP (C:=(j,p,z,l,m,n,D,o)) (by simpa using r.symm)
  simp only at e
  rw[e]at u
  refine br (λf w=>f=(if j=2 then(8:Int)else 16)/\ab E w (lc t 65 (ay bP (j,p,g,l,m,n,i,o,()))::ae F::L)) (λR w h=>?_) λJ d=>?_
  rotate_left
  .repeat' (first|refine gA ?_|(refine gB ?_;clear h;intro w h)|(refine gC ?_;clear h;intro b0 w h)|refine aL ?_|refine ax (λhc=>?_) (λhc=>?_))
   all_goals refine d _ _ ⟨?_,dD⟩
   all_goals clear d u
   all_goals grind
  obtain⟨rfl,h⟩:=h
  have h:=h.pick (A:=ae F) pK
  refine ao λ_=>?_
  refine ld h ?_
  refine Fw h λw h=>?_
  refine br (λb w=>b=(fD p&&lC z (if j=2 then 8 else 16))/\ab E w (ae F::lc t 65 (ay bP (j,p,g,l,m,n,i,o,()))::L)) (λS w h=>?_) λJ d=>?_
  rotate_left
  .refine ax (λhc=>?_) (λhc=>?_)
   .refine ld h ?_
    refine TP h H hR λw h=>?_
    exact d _ _ ⟨by rw[hc,hI],h⟩
   .exact d _ _ ⟨by rw[hc];rfl,h⟩
  obtain⟨T,h⟩:=h
  refine ao λ_=>?_
  refine br (λb w=>b=(S&&cA (l,m,()))/\ab E w (ae F::lc t 65 (ay bP (j,p,g,l,m,n,i,o,()))::L)) (λU w h=>?_) λJ d=>?_
  rotate_left
  .refine ax (λhc=>?_) (λhc=>?_)
   .refine fK (ls:=aC) (x:=(l,m,())) h ?_
    refine TQ h λw h=>?_
    exact d _ _ ⟨by rw[hc,hI],h⟩
   .exact d _ _ ⟨by rw[hc];rfl,h⟩
  obtain⟨V,h⟩:=h
  refine ao λ_=>?_
  refine br (λb w=>b=(U&&lO (n,D,o) jA)/\ab E w (ae F::lc t 65 (ay bP (j,p,g,l,m,n,i,o,()))::L)) (λb56 w h=>?_) λJ d=>?_
  rotate_left
  .refine ax (λhc=>?_) (λhc=>?_)
   .refine fK (ls:=aD) (x:=(n,i,o,())) h ?_
    refine Ky (q:=(⟨#[]⟩,au,0,())) h G aba y λw h=>?_
    exact d _ _ ⟨by rw[hc,hI],h⟩
   .exact d _ _ ⟨by rw[hc];rfl,h⟩
  obtain⟨W,h⟩:=h
  refine ao λ_=>?_
  refine fin (u _ (h.sub sS)) ?_
  rw[W,V,T]
  simp only[y5]
theorem LJ {p:pH} {P:Pk} (h:ab E w (ae F::L)) (y:je F p P) (m:kt P) (g:∀o,ab E o (ae F::L)->k (gT P) o):CL 70 #[ag av p] aw k w:=by
 obtain⟨n,t,l,⟨⟩⟩:=p
 obtain⟨G,H,Pc⟩:=P
 obtain⟨u,v,j⟩:=y
 simp only at u v j
 subst u v
 have z:=j.len
 have C:=m.len
 simp only at C
 refine agm ?_
 refine bx h λx w h=>?_
 refine ld h ?_
 refine cy (S:=Int) (cf:=λs=>s) Pc.length (by show(l.len:Int)=_;rw[z]) (λi s w=>(Pc.take i).all gg=true/\ab E w (ae F::lc x 68 (ay av (n,t,l,()))::L)) rfl ⟨rfl,h.pick (A:=ae F) pK⟩ ?_ ?_
 .rintro next _ w i d rfl ⟨b,h⟩ c
  refine fx j d λa r I D=>?_
  refine fJ h ?_
  refine al h λJ w h=>?_
  refine bU h (λw h=>?_)
  refine bN h ?_
  refine Tv (h.pick (A:=ae F) pK) D (m.ok _ (cp d)) λw h=>?_
  refine ax (λf=>?_) (λf=>?_)
  .refine fin (g _ (h.sub sS)) ?_
   have:Pc.all gg=false:=List.all_eq_false.2 ⟨_,cp d,by simpa using f⟩
   unfold gT;simp only[this,rD]
  .refine c _ _ (bV d om) ⟨?_,h.sub sS⟩
   rw[cR d,ou,b];simpa using f
 .rintro _ w ⟨b,h⟩
  rw[cB]at b
  have e:gT (n,t,Pc)=((decide (n>=1)&&decide (n<=1099511627776))&&(decide (t>=0)&&(decide (t<1099511627776)&&decide ((Pc.length:Int)<=100)))):=by unfold gT;rw[b];rfl
  rw[e]at g
  clear b j
  have h:=h.sub (M:=lc x 68 (ay av (n,t,l,()))::ae F::L) sS
  repeat' (first|refine gA ?_|(refine gB ?_;clear h;intro w h)|(refine gC ?_;clear h;intro b0 w h)|refine aL ?_|refine ax (λf=>?_) (λf=>?_))
  all_goals refine fin (g _ dD) ?_
  all_goals clear g
  all_goals grind
end
def ig (C:jc):List UInt8:=if C.1=3 then aH C.1.toNat++cz (gm C.2.2.2.2.2)else aH C.1.toNat++cz (cY C.2.1)++jD C.2.2.1++aH C.2.2.2.1.toNat++aH C.2.2.2.2.1.toNat
def cZ (P:Pk):List UInt8:=aH P.1.toNat++aH P.2.1.toNat++aH P.2.2.length++P.2.2.flatMap ig
def fv (P:Pk):List UInt8:=if gT P then(if(cZ P).length>100000 then[]else cZ P)else[]
theorem tX (S:di):(gm S).length<=2000:=by
 unfold gm
 split
 .rename_i e
  have i:=mb e
  have j:=sr (DM e)
  have k:=oe (l:=cY S.1) om
  have o:=cD (n:=S.2.2.toNat) om
  have p:=cD (n:=S.2.1.length) om
  have:=lB (f:=ij) (m:=62) (l:=S.2.1) λc g=>by
   obtain⟨a,b,d⟩:=xh e g
   exact zN a b d
  rw[aU,aU,aU]
  omega
 .simp
theorem P6 (hr:dk r):(jD r).length<=10+5000*r.length:=by
 unfold jD
 split
 .have:=lB (f:=fP) (m:=5000) (l:=r) λv a=>Bc (hr.wv v a)
  have b:=cD (n:=r.length) (by have:=hr.len;omega)
  rw[aU];omega
 .simp
structure So (C:jc):Prop where
 kd:1<=C.1/\C.1<=3
 nm:C.1≠3->(cY C.2.1).length<=32
 row:C.1≠3->C.2.2.1.length<=16
 lo:0<=C.2.2.2.1/\C.2.2.2.1<=1099511627776
 hi:0<=C.2.2.2.2.1/\C.2.2.2.2.1<=1099511627776
theorem Cu (h:gg C=true):So C:=by
 by_cases b:C.1=3
 .rw[x7 b]at h
  simp only[bp,bX]at h
  obtain⟨_,_,_,c,d⟩:=h
  exact⟨om,λe=>absurd b e,λe=>absurd b e,om,om⟩
 .by_cases a:C.1=1\/C.1=2
  .rw[LP a]at h
   unfold lC cA at h
   simp only[bp,bX]at h
   obtain⟨f,⟨_,_,g⟩,⟨⟨c,d⟩,i⟩,_⟩:=h
   refine⟨om,λ_=>sr f,λ_=>?_,om,om⟩
   split at g<;>omega
  .rw[LO b a]at h;cases h
theorem zM (c:oy C) (h:gg C=true):(ig C).length<=90000:=by
 have a:=Cu h
 have f:=cD (n:=C.1.toNat) (by have:=a.kd;omega)
 unfold ig
 split
 .have d:=tX C.2.2.2.2.2
  have e:=oe (l:=gm C.2.2.2.2.2) om
  rw[aU];omega
 .rename_i b
  have d:=a.nm b
  have e:=oe (l:=cY C.2.1) om
  have g:=P6 c.row
  have i:=a.row b
  have j:=cD (n:=C.2.2.2.1.toNat) (by have:=a.lo;omega)
  have k:=cD (n:=C.2.2.2.2.1.toNat) (by have:=a.hi;omega)
  simp only[aU]
  omega
section
variable {E w:World} {L:List aK} {F:bh}
theorem wu {n:Int} {k:ByteArray->Pr} (h:ab E w L) (c:0<=n) (hn:n<=9223372036854775807) (b:∀a,ab E a L->k (B (aH n.toNat)) a):CL 286 #[iv n] an k w:=by
 refine afd ?_
 obtain⟨m,rfl⟩:∃m:Nat,n=m:=⟨n.toNat,om⟩
 rw[ug om]
 exact nf h om b
theorem U6 {k:ByteArray->Pr} (h:ab E w (ae F::L)) (hc:nE F c C) (l:oy C) (m:gg C=true) (e:∀o,ab E o (ae F::L)->k (B (ig C)) o):CL 287 #[ag bP c] an k w:=by
 have z:=Cu m
 have a:=zM l m
 obtain⟨g,f,D,G,H,I,i,J,⟨⟩⟩:=c
 obtain⟨S,T,U,V,W,K,M,N⟩:=C
 obtain⟨p,r,t,u,v,y⟩:=hc
 simp only at p r t u v y
 subst p r u v
 obtain⟨O,j,P,Q,R⟩:=z
 have d:=l.row
 simp only at O j P Q R d
 unfold ig at a e
 simp only at a e
 have X:=cD (n:=g.toNat) om
 refine afe ?_
 repeat (first|refine gA ?_|(refine gB ?_;clear h;intro w h)|(refine gC ?_;clear h;intro b0 w h))
 refine ax (λhc=>?_) (λhc=>?_)
 .have b:g=3:=by simpa using hc
  rw[ak b]at a e
  rw[aU]at a
  refine dr h λw h=>?_
  refine ld h ?_
  refine fK (ls:=aD) (x:=(I,i,J,())) h ?_
  refine wu (n:=g) h om om λw h=>?_
  refine j8 h ?_
  refine FR (h.pick (A:=ae F) pK) y λw h=>?_
  have Y:=tX (K,M,N)
  refine th h om λw h=>?_
  refine cc om ?_
  exact e _ (h.sub sS)
 .have b:g≠3:=by simpa using hc
  rw[ai b]at a e
  simp only[aU]at a
  have j:=j b
  repeat (first|refine gA ?_|(refine gB ?_;clear h;intro w h)|(refine gC ?_;clear h;intro b0 w h))
  refine wu (n:=g) h om om λw h=>?_
  repeat (first|refine gA ?_|(refine gB ?_;clear h;intro w h)|(refine gC ?_;clear h;intro b0 w h))
  rw[<-rI f]
  refine th h (by show(cY f).length<=_;omega) λw h=>?_
  repeat (first|refine gA ?_|(refine gB ?_;clear h;intro w h)|(refine gC ?_;clear h;intro b0 w h))
  refine cc (by show _+(cz (cY f)).length<=_;omega) ?_
  refine Lq (h.pick (A:=ae F) pK) t d λw h=>?_
  repeat (first|refine gA ?_|(refine gB ?_;clear h;intro w h)|(refine gC ?_;clear h;intro b0 w h))
  refine cc (by rw[aU];show _+(cz (cY f)).length+_<=_;omega) ?_
  refine wu (n:=G) h om om λw h=>?_
  repeat (first|refine gA ?_|(refine gB ?_;clear h;intro w h)|(refine gC ?_;clear h;intro b0 w h))
  refine cc (by simp only[aU];show _+(cz (cY f)).length+_+_<=_;omega) ?_
  refine wu (n:=H) h om om λw h=>?_
  refine cc (by simp only[aU];show _+(cz (cY f)).length+_+_+_<=_;omega) ?_
  exact e _ (h.sub sS)
theorem K5 {p:pH} {P:Pk} {k:ByteArray->Pr} (h:ab E w (ae F::L)) (G:je F p P) (g:kt P) (e:∀H,ab E H (ae F::L)->k (B (fv P)) H):CL 230 #[ag av p] an k w:=by
 obtain⟨n,t,y,⟨⟩⟩:=p
 obtain⟨U,V,Pc⟩:=P
 obtain⟨I,J,z⟩:=id G
 simp only at I J z
 subst I J
 have K:=z.len
 have D:=g.len
 simp only at D
 refine aei ?_
 refine bx h λO w h=>?_
 refine bN h ?_
 refine LJ (h.pick (A:=ae F) pK) G g λw h=>?_
 refine ax (λc=>?_) (λc=>?_)
 .refine fin (e _ (h.sub sS)) ?_
  unfold fv;rw[ai (by rw[nT c];simp)];rfl
 have o:=nF c
 have M:fv (n,t,Pc)=if(cZ (n,t,Pc)).length>100000 then[]else cZ (n,t,Pc):=by unfold fv;rw[ak o]
 have Q:cZ (n,t,Pc)=aH n.toNat++aH t.toNat++aH Pc.length++Pc.flatMap ig:=rfl
 rw[M]at e
 clear M
 unfold gT at o
 simp only[bp,bX]at o
 obtain⟨b,⟨n1,n2⟩,n3,W,X⟩:=o
 have b:=List.all_eq_true.1 b
 have Y:=cD (n:=n.toNat) om
 have Z:=cD (n:=t.toNat) om
 have a3:=cD (n:=Pc.length) om
 have R:∀i,((Pc.take i).flatMap ig).length<=90000*100:=λi=>by
  have:=lB (f:=ig) (m:=90000) (l:=Pc.take i) λC N=>zM (g.ok C (mj N)) (b C (mj N))
  rw[cn]at this
  omega
 refine dr h λw h=>?_
 refine ld (x:=n) h ?_
 refine ld (x:=t) h ?_
 refine ld (x:=y) h ?_
 refine wu (n:=n) h om om λw h=>?_
 refine lk h ?_
 refine lk h ?_
 refine wu (n:=t) h om om λw h=>?_
 refine lk h ?_
 refine cc om ?_
 rw[K]
 refine wu (n:=(Pc.length:Int)) h om om λw h=>?_
 refine lk h ?_
 refine cc (by rw[aU];show _+_+(aH Pc.length).length<=_;omega) ?_
 refine ld (x:=y) h ?_
 refine cy (S:=ByteArray×Int) (cf:=λs=>s.2) Pc.length (by rw[K]) (λi s w=>s.1=B (aH n.toNat++aH t.toNat++aH Pc.length++(Pc.take i).flatMap ig)/\ab E w (ae F::lc O 68 (ay av (n,t,y,()))::L)) rfl ⟨sI,h.sub sS⟩ ?_ ?_
 .rintro next ⟨x,_⟩ w i u rfl ⟨j,h⟩ d
  simp only at j
  subst j
  have v:=cp u
  have b1:=R i
  have b2:=zM (g.ok _ v) (b _ v)
  refine fx z u λa r ha T=>?_
  refine fJ h ?_
  refine al h λt4 w h=>?_
  refine bU h (λw h=>?_)
  refine bN h ?_
  refine U6 (h.pick (A:=ae F) pK) T (g.ok _ v) (b _ v) λw h=>?_
  refine cc (by simp only[aU];omega) ?_
  refine d _ _ (bV u om) ⟨?_,h.sub sS⟩
  rw[cR u,gM];simp
 .rintro⟨x,_⟩ w ⟨j,h⟩
  simp only at j
  subst j
  rw[cB,<-Q]
  refine ax (λc=>?_) (λc=>?_)
  .have:=cT c
   rw[cJ]at this
   rw[ak om]at e
   exact e _ (h.sub sS)
  .have:=cF c
   rw[cJ]at this
   rw[ai om]at e
   exact e _ (h.sub sS)
end
theorem Ig (x y:Operand) (n:Int) (c:Nat) (hc:c<=32):aQ prog (cL .shr 251 x y (.int .u32 n) (.int .u64 (c:Int)))=some (.value (.int .u32 (n.fdiv (2^c)))):=by
 have a:¬((c:Int)<0):=om
 have b:min (c:Int).toNat IntKind.u32.bits=c:=by
  have:IntKind.u32.bits=32:=rfl
  rw[this];omega
 have d:aQ prog (cL .shr 251 x y (.int .u32 n) (.int .u64 (c:Int)))=aQ prog (do let v<-Op.shift .shr .u32 n .u64 (c:Int);pure (Next.value v)):=kK
 rw[d,eJ]
 unfold Op.shift
 rw[ai a]
 simp only[b]
 rfl
def wC (x:Int):Int:=if decide (((IntKind.u32.wrap ((BitVec.ofInt IntKind.u32.bits x&&&BitVec.ofInt IntKind.u32.bits 1).toNat:Int)):Int)>0)=true then IntKind.u32.wrap ((BitVec.ofInt IntKind.u32.bits (x.fdiv (2^1))^^^BitVec.ofInt IntKind.u32.bits 3988292384).toNat:Int)else x.fdiv (2^1)
def zO:Nat->Int->Int
 |0,x=>x
 |n+1,x=>zO n (wC x)
def uY (i:Nat):Int:=zO 8 (IntKind.u32.wrap (i:Int))
def mK (i:Nat):List Value:=(List.range 256).map λj=>.int .u32 (if j<i then uY j else 0)
theorem aib (i:Nat):(mK i).length=256:=by simp[mK]
theorem aic (h:i<256):(mK i).set i (.int .u32 (uY i))=mK (i+1):=by
 refine Bp λj=>?_
 rw[List.getElem?_set]
 unfold mK
 simp only[RM,bW,px]
 by_cases a:j<256
 .rw[RN a]
  by_cases e:i=j
  .subst e;simp[h]
  .rw[ai e]
   simp only[rB]
   have b:(j<i+1)=(j<i):=propext om
   simp only[b]
 .rw[ai om,pA (by simp;omega)]
  rfl
theorem OI:∀(l:List Int) (a:List bD),a=(l.map λ_=>bD.int .u32)->∃x:bK a,ay a x=l.map λn=>Value.int .u32 n
 |[],_,rfl=>⟨(),rfl⟩
 |n::l,_,rfl=>by
  obtain⟨x,b⟩:=OI l _ rfl
  exact⟨(n,x),by show Value.int .u32 n::ay _ x=_;rw[b];rfl⟩
theorem aid:∃x:bK Y4,ay Y4 x=mK 256:=by
 obtain⟨x,a⟩:=OI ((List.range 256).map λj=>if j<256 then uY j else 0) Y4 (by rw[rA];kernel_rfl)
 refine⟨x,a.trans ?_⟩
 unfold mK
 rw[rA];rfl
theorem Rl:gq 342=⟨mK 0⟩:=kK
theorem Q5 {w:World} {kd:IntKind} {n:Int} {k:Addr->Pr} (hi:i<256) (hn:n=(i:Int)) (a:k ⟨b,i,none⟩ w):fU prog (vN (Instr.indexAt 342 (.pointer (some ⟨b,0,none⟩)) (.int kd n))) dB k w:=by
 subst hn
 refine jF (x:=(⟨b,i,none⟩:Addr)) ?_ a
 have c:aQ prog (vN (Instr.indexAt 342 (.pointer (some ⟨b,0,none⟩)) (.int kd (i:Int))))=aQ prog (vN (if 0<=(i:Int)/\(i:Int)<(256:Nat)then do pure (.pointer (some ((⟨b,0,none⟩:Addr).add ((i:Int).toNat*(<-sizeOf 251)))))else boundsPanic kd (i:Int) 256 .index)):=kK
 rw[c,ak ⟨om,om⟩]
 have d:aQ prog (sizeOf 251)=some 1:=kK
 unfold vN
 rw[eJ,eJ,d]
 show some (Next.value (.pointer (some (Addr.add ⟨b,0,none⟩ ((i:Int).toNat*1)))))=_
 rw[iC,py,kW,qt]
 rfl
section
variable {E w:World} {L:List aK} {F:bh}
theorem Vl {k:bK Y4->Pr} (h:ab E w L) (n:∀x l,ay Y4 x=mK 256->ab E l L->k x l):CL 317 #[] (ya Y4) k w:=by
 refine afI ?_
 refine al h λe w h=>?_
 refine al h λf w h=>?_
 rw[Rl]at h
 refine gD (S:=Int) 256 (λi s w=>s=(i:Int)/\ab E w (lc f 342 (mK i)::lc e 342 (mK 0)::L)) ⟨rfl,h⟩ ?_
 rintro next _ w i o ⟨rfl,h⟩ d
 refine ao λ_=>?_
 refine ax (λhc=>?_) (λhc=>?_)
 .have cH:i<256:=by have:=cT hc;omega
  refine gD (S:=Int×Int) 8 (λj s w=>s.2=(j:Int)/\zO (8-j) s.1=uY i/\ab E w (lc f 342 (mK i)::lc e 342 (mK 0)::L)) ⟨rfl,rfl,h⟩ ?_
  rintro g ⟨x,_⟩ w j p ⟨rfl,c,h⟩ a
  refine ao λ_=>?_
  refine ax (λhc=>?_) (λhc=>?_)
  .have b:j<8:=by have:=cT hc;simp only at this;omega
   refine br (λy w=>y=wC x/\ab E w (lc f 342 (mK i)::lc e 342 (mK 0)::L)) (λy w h=>?_) λJ m=>?_
   .obtain⟨rfl,h⟩:=h
    refine ao λ_=>a b _ _ ⟨bV b om,?_,h⟩
    rw[<-c,show 8-j=(8-(j+1))+1 by omega]
    rfl
   .refine jF (x:=x.fdiv (2^1)) (Ig _ _ x 1 om) ?_
    refine ax (λhc=>?_) (λhc=>?_)
    .refine m _ _ ⟨?_,h⟩
     unfold wC;rw[ak hc]
    .refine m _ _ ⟨?_,h⟩
     unfold wC;rw[ai (by rw[hc];simp)]
  .have b:j=8:=by have:=cF hc;simp only at this;omega
   subst b
   refine Q5 cH rfl ?_
   refine st h (λw h=>?_) (dy:=by rw[aib];simpa using cH)
   have c:x=uY i:=c
   subst c
   rw[aic cH]at h
   exact d cH _ _ ⟨bV cH om,h⟩
 .have cH:i=256:=by have:=cF hc;omega
  subst cH
  obtain⟨x,c⟩:=aid
  refine bN (ls:=Y4) (x:=x) h ?_ (hc:=c.symm)
  refine bU h (λw h=>?_) (hs:=by rw[du];kernel_rfl) (hv:=by rw[c];kernel_rfl) (hn:=by rw[du];kernel_rfl)
  refine pf (ls:=Y4) (x:=x) h ?_
  exact n x _ c dD
def x9 (x:Int) (b:UInt8):Int:=
 IntKind.u32.wrap ((BitVec.ofInt IntKind.u32.bits (uY (IntKind.u8.wrap ((BitVec.ofInt IntKind.u8.bits (IntKind.u8.wrap x)^^^BitVec.ofInt IntKind.u8.bits (b.toNat:Int)).toNat:Int)).toNat)^^^BitVec.ofInt IntKind.u32.bits (x.fdiv (2^8))).toNat:Int)
def yb (x:Int):Int:=IntKind.u32.wrap ((BitVec.ofInt IntKind.u32.bits (if IntKind.u32.signed then-1 else IntKind.u32.max)^^^BitVec.ofInt IntKind.u32.bits x).toNat:Int)
def pR (x:Int) (l:List UInt8):Int:=yb (l.foldl x9 (yb x))
theorem u8r (x:Int):0<=IntKind.u8.wrap x/\IntKind.u8.wrap x<256:=by
 have h:IntKind.u8.wrap x=x%256:=by rfl
 rw[h];omega
theorem Vh {x:Int} {k:Int->Pr} (h:ab E w L) (o:l.length<=1000000000) (f:∀c,ab E c L->k (pR x l) c):CL 309 #[.int .u32 x,.string (B l)] (.one (.leaf (.int .u32))) k w:=by
 refine afB ?_
 refine Vl h λt w d h=>?_
 refine al h λg w h=>?_
 rw[Rl]at h
 refine bU h (λw h=>?_) (hs:=by rw[du];kernel_rfl) (hv:=by rw[d];kernel_rfl) (hn:=by rw[du];kernel_rfl)
 rw[d]at h
 refine gD (S:=Int×Int) l.length (λi s w=>s.2=(i:Int)/\s.1=(l.take i).foldl x9 (yb x)/\ab E w (lc g 342 (mK 256)::L)) ⟨rfl,rfl,h⟩ ?_
 rintro next ⟨y,_⟩ w i p ⟨rfl,e,h⟩ a
 simp only at e
 subst e
 refine ao λ_=>?_
 refine ax (λhc=>?_) (λhc=>?_)
 .have cH:i<l.length:=by have:=cT hc;rw[cJ]at this;simp only at this;omega
  refine mJ cH ?_
  generalize m:(l.take i).foldl x9 (yb x)=y at*
  have n:=u8r ((BitVec.ofInt IntKind.u8.bits (IntKind.u8.wrap y)^^^BitVec.ofInt IntKind.u8.bits ((l[i].toNat:Nat):Int)).toNat:Int)
  refine Q5 (i:=(IntKind.u8.wrap ((BitVec.ofInt IntKind.u8.bits (IntKind.u8.wrap y)^^^BitVec.ofInt IntKind.u8.bits ((l[i].toNat:Nat):Int)).toNat:Int)).toNat) om (by rw[Int.toNat_of_nonneg n.1]) ?_
  refine ld (x:=uY (IntKind.u8.wrap ((BitVec.ofInt IntKind.u8.bits (IntKind.u8.wrap y)^^^BitVec.ofInt IntKind.u8.bits ((l[i].toNat:Nat):Int)).toNat:Int)).toNat) h ?_ (hc:=?_)
  .refine jF (x:=y.fdiv (2^8)) (Ig _ _ y 8 om) ?_
   refine a cH _ _ ⟨bV cH om,?_,h⟩
   rw[cR cH,qy,m]
   rfl
  .have b:(IntKind.u8.wrap ((BitVec.ofInt IntKind.u8.bits (IntKind.u8.wrap y)^^^BitVec.ofInt IntKind.u8.bits ((l[i].toNat:Nat):Int)).toNat:Int)).toNat<256:=om
   generalize (IntKind.u8.wrap ((BitVec.ofInt IntKind.u8.bits (IntKind.u8.wrap y)^^^BitVec.ofInt IntKind.u8.bits ((l[i].toNat:Nat):Int)).toNat:Int)).toNat=j at*
   rw[oo]
   unfold mK
   rw[RM,RN b]
   simp only[rB,ak b]
   rfl
 .have cH:i=l.length:=by have:=cF hc;rw[cJ]at this;simp only at this;omega
  subst cH
  rw[cB]at*
  exact f _ h.drop
theorem U5 {k:Int->Pr} (h:ab E w L) (b:l.length<=1000000000) (c:∀a,ab E a L->k (pR 0 l) a):CL 282 #[.string (B l)] (.one (.leaf (.int .u32))) k w:=by
 refine ae9 ?_
 exact Vh h b c
end
def EV (a:Nat×Nat) (n:Nat):Prop:=∀i,i<n->(decide (a.1<=i)&&decide (i<a.2))=false
abbrev jg (l:List UInt8):List Value:=l.map λb=>.int .u8 b.toNat
structure BF (E w:World) (L:List aK) (s:Sl) (l:List UInt8):Prop where
 out:∃b pre spare fr,s.a=some ⟨b,pre,none⟩/\s.len=l.length/\s.len<=s.cap/\∃p:List Value,p.length=pre/\s.cap-s.len<=(spare:List Value).length/\EV fr (pre+(l.length+spare.length))/\
  ab E w (aT b (.cells ⟨p++(jg l++spare)⟩ 5 fr)::L)
section
variable {P:Program} {E w:World} {L L':List aK} {F:bh}
theorem Qc {c:Array Value} (a:w.heap[b]?=some (.cells c T fr)) (dy:off<c.size) (f:EV fr c.size) (hv:j9 v=true):
  (store ⟨b,off,none⟩ v).run P w=.ok () {w with heap:=w.heap.setIfInBounds b (.cells (c.setIfInBounds off v) T fr)}:=by
 have j:w.cell? ⟨b,off,none⟩=some c[off]:=by rw[rS a];simp[dy]
 have f:w.frozen? ⟨b,off,none⟩=false:=by
  obtain⟨k,d⟩:=fr
  have:=f off dy
  simpa[World.frozen?,a]using this
 have l:w.setCell ⟨b,off,none⟩ v={w with heap:=w.heap.setIfInBounds b (.cells (c.setIfInBounds off v) T fr)}:=by
  unfold World.setCell
  congr 1
  refine Ed sI λi m g=>?_
  have d:i<w.heap.size:=by simpa using g
  simp only[Rp]
  by_cases e:b=i
  .subst e
   have:w.heap[b]=.cells c T fr:=by simpa[d]using a
   simp[this]
  .rw[ai e,IQ d e]
 cases v<;>simp_all[store,Sem.run,j9]
theorem BF.own (h:ab E w (OS 143 dW s (eh l)::L)) (k:l≠[]):BF E w L s l:=by
 rcases h.tL with⟨_,j,_⟩|⟨b,pre,c,e,a,d,f,g⟩
 .rw[pN]at j
  exact absurd (List.map_eq_nil_iff.1 j) k
 .rw[pN]at a g
  rw[zP]at g
  refine⟨b,pre.length,c,(0,0),e,?_,d,pre,rfl,?_,λi _=>by simp,g⟩
  .simpa using a.symm
  .simpa using f
theorem BF.reads (h:BF E w L s l):Reads w s 1 (jg l):=by
 obtain⟨b,pre,a,c,d,e,j,p,f,k,m,h⟩:=h.out
 refine⟨by simp[e],λ_=>⟨b,pre,_,5,c,d,h.own,λi g=>?_⟩⟩
 rw[oo,gZ om,f,Bw,g0 g]
theorem BF.mono (h:BF E w L s l) (hm:∀a,ab E w (a::L)->ab E w' (a::L')):BF E w' L' s l:=by
 obtain⟨b,pre,c,d,e,f,g,p,i,j,k,h⟩:=h.out
 exact⟨b,pre,c,d,e,f,g,p,i,j,k,hm _ h⟩
theorem SE {t:Sl} {k:Sl->Pr} (h:BF E w (OS 143 dW t (eh [y])::L) s l) (U:l.length<1073741824) (J:∀f g,BF E g L f (l++[y])->k f g):
  eT prog (vN (Builtin.append_ #[143,143] 143 #[.slice s.a s.len s.cap,.slice t.a t.len t.cap])) aE k w:=by
 have v:=h.reads
 obtain⟨b,pre,d,i,x,A,K,p,r,C,u,h⟩:=h.out
 have N:Reads w t 1 (jg [y]):=by have:=h.swap.iJ;rw[pN]at this;exact this
 have j:t.len=1:=by have:=N.1;simpa using this.symm
 have O:=ti (T:=143) (n:=1) kK
 by_cases k7:s.len+t.len<=s.cap
 .obtain⟨z,c,rfl⟩:∃z c,d=z::c:=by
      cases d with
      |nil=>simp at C;omega
      |cons z c=>exact⟨z,c,rfl⟩
  have m:∀w,(underlying 143).run prog w=.ok (.slice 5) w:=λw=>cd _ kK w
  have D:∀w,(sizeOf 5).run prog w=.ok 1 w:=λw=>cd _ kK w
  have Q:=sF (P:=prog) N
  have o:(storeCells ((⟨b,pre,none⟩:Addr).add (s.len*1)) (jg [y])).run prog w=.ok () {w with heap:=w.heap.setIfInBounds b (.cells ⟨p++(jg (l++[y])++c)⟩ 5 i)}:=by
   rw[iC]
   show(do store ((⟨b,pre+s.len*1,none⟩:Addr).add 0) (.int .u8 y.toNat);storeCells (⟨b,pre+s.len*1,none⟩:Addr) [] 1:Sem Unit).run prog w=_
   rw[iC,da (Qc h.own (by simp;omega) (by simpa[r]using u) rfl)]
   have e:(⟨p++(jg l++z::c)⟩:Array Value).setIfInBounds (pre+s.len*1+0) (.int .u8 y.toNat)=⟨p++(jg (l++[y])++c)⟩:=by
    apply lr
    simp only[IY,jg,fe,eZ,ki]
    rw[A,<-r,py,sO,vL _ _ om,Bw,vL _ _ sI,bW,xz]
    simp
   rw[e];rfl
  refine⟨⟨s.a,s.len+t.len,s.cap⟩,_,eE ?_,J _ _ ⟨b,pre,c,i,x,?_,k7,p,r,?_,?_,h.set.swap.drop⟩⟩
  .rw[j]at k7 Q⊢
   simp[Builtin.append_,m,D,Builtin.lenOf,k7,Q,x,Ty.val,cE.val,bD.val]at o⊢
   simp[o]
  .simp[A,j]
  .simp only[db]at C;show s.cap-(s.len+t.len)<=_;omega
  .simp only[db]at u
   simp only[aU,m8]
   rw[show pre+(l.length+1+c.length)=pre+(l.length+(c.length+1))by omega]
   exact u
 .have R:∀w,ab E w (aT b (.cells ⟨p++(jg l++d)⟩ 5 i)::OS 143 dW t (eh [y])::L)->Reads w s 1 (jg l):=λw h=>BF.reads (L:=OS 143 dW t (eh [y])::L) ⟨b,pre,d,i,x,A,K,p,r,C,u,h⟩
  have G:∀w,ab E w (aT b (.cells ⟨p++(jg l++d)⟩ 5 i)::OS 143 dW t (eh [y])::L)->Reads w t 1 (jg [y]):=λw h=>by have:=h.swap.iJ;rw[pN]at this;exact this
  have H:=zP
  refine Mr (Te:=5) (sz:=1) (mu:=tf 143) h R G kK (by rw[<-H];exact O.ok) K om om ?_ λf g S I=>J f g ?_
  .have:(2*(s.len+t.len)+192)*tf 143<=(2*1073741824+192)*256:=xA om O.le
   omega
  .have I:=I.sub (M:=dV 5 1 f (jg l++jg [y])::L) sS
   refine BF.own (s:=f) (l:=l++[y]) ?_ sI
   show ab E g (dV (k6 143) 1 f _::L)
   rw[zP,pN,fe]
   exact I
theorem xY {k:Sl->Pr} (h:ab E w L) (d:∀b c,BF E c L b l->k b c):eT prog (vN (Go.convert 9 143 (.string (B l)))) aE k w:=by
 have f:=run_bytes_of_string (P:=prog) w 9 143 5 (B l) kK kK kK
 have g:=grownCap_ge w (B l).size 0 5
 have a:(bytesRow (B l) (grownCap w (B l).size 0 5)).size=l.length+(grownCap w (B l).size 0 5-l.length):=by simp[bytesRow,B,ByteArray.size]
 refine⟨⟨some ⟨w.heap.size,0,none⟩,(B l).size,grownCap w (B l).size 0 5⟩,_,eE f,d _ _ ⟨w.heap.size,0,List.replicate (grownCap w (B l).size 0 5-(B l).size) (.int .u8 0),((bytesRow (B l) (grownCap w (B l).size 0 5)).size,(bytesRow (B l) (grownCap w (B l).size 0 5)).size+1),rfl,rfl,g,[],rfl,sI,?_,?_⟩⟩
 .intro i j
  rw[a]
  simp only[rE,cJ]at j⊢
  have:¬(l.length+(grownCap w l.length 0 5-l.length)<=i):=om
  simp[this]
 .have m:=h.drew.new (o:=.cells (bytesRow (B l) (grownCap w (B l).size 0 5)) 5 ((bytesRow (B l) (grownCap w (B l).size 0 5)).size,(bytesRow (B l) (grownCap w (B l).size 0 5)).size+1))
  have e:bytesRow (B l) (grownCap w (B l).size 0 5)=⟨[]++(jg l++List.replicate (grownCap w (B l).size 0 5-(B l).size) (.int .u8 0))⟩:=by
   apply lr
   simp[bytesRow,B,jg]
  rw[<-e]
  exact m
theorem BF.str {k:ByteArray->Pr} (h:BF E w L s l) (b:k (B l) w):dQ prog (vN (Go.convert 143 9 (.slice s.a s.len s.cap))) an k w:=
 tr (e:=5) kK kK kK h.reads b
def nn:Nat->Int->List UInt8
 |0,_=>[]
 |n+1,x=>u8 x::nn n (x.fdiv (2^8))
def kN (l:List UInt8):List UInt8:=l++nn 4 (pR 0 l)
theorem Cc {k:ByteArray->Pr} (h:ab E w L) (z:l.length<=1000000000) (A:∀v,ab E v L->k (B (kN l)) v):CL 227 #[.string (B l)] an k w:=by
 refine aee ?_
 refine xY h λt w h=>?_
 obtain⟨b,pre,a,f,g,j,m,p,n,o,r,h⟩:=h.out
 refine U5 h z λw h=>?_
 have c:BF E w L t l:=⟨b,pre,a,f,g,j,m,p,n,o,r,h⟩
 clear h
 refine gD (S:=Sl×Int×Int) 4 (λi s w=>s.2.2=(i:Int)/\∃q:List UInt8,q.length=i/\q++nn (4-i) s.2.1=nn 4 (pR 0 l)/\BF E w L s.1 (l++q)) ⟨rfl,[],rfl,rfl,by simpa using c⟩ ?_
 rintro next ⟨s,x,_⟩ w i D ⟨rfl,q,C,e,c⟩ d
 simp only at e c
 refine ao λ_=>?_
 refine ax (λu=>?_) (λu=>?_)
 .have cH:i<4:=by have:=cT u;simp only at this;omega
  obtain⟨b,pre,a,f,g,j,m,p,n,o,r,h⟩:=c.out
  refine bJ (T:=143) (ls:=dW) (y:=(((u8 x).toNat:Int),())) h (λt w _ h=>?_) (by rw[<-ny];rfl)
  have c:BF E w (OS 143 dW t (eh [u8 x])::L) s (l++q):=⟨b,pre,a,f,g,j,m,p,n,o,r,h.swap⟩
  refine SE c (by rw[aU];omega) λG w c=>?_
  refine jF (x:=x.fdiv (2^8)) (Ig _ _ x 8 om) ?_
  refine d cH _ _ ⟨bV cH om,q++[u8 x],by simp[C],?_,by rw[<-cP];exact c⟩
  rw[<-e,show 4-i=(4-(i+1))+1 by omega,cP]
  rfl
 .have cH:i=4:=by have:=cF u;simp only at this;omega
  subst cH
  refine c.str ?_
  have e:q++[]=nn 4 (pR 0 l):=e
  rw[iO]at e
  obtain⟨b,pre,a,f,g,j,m,p,n,o,r,h⟩:=c.out
  rw[e]
  exact A _ h.drop
end
def mf (l:List UInt8):Option (List UInt8):=if 4<=l.length/\kN (l.take (l.length-4))=l then some (l.take (l.length-4))else none
theorem pG {b:List UInt8}:B a=B b↔a=b:=by
 constructor
 .intro h
  have:(B a).data.toList=(B b).data.toList:=by rw[h]
  simpa[B]using this
 .rintro rfl;rfl
theorem zi (l:List UInt8) (a b:Nat):(B l).extract a b=B ((l.drop a).take (b-a)):=by
 apply Ji
 simp[B,ByteArray.data_extract]
theorem pe (l:List UInt8):(kN l).length=l.length+4:=by unfold kN;rw[aU];rfl
theorem QI (l:List UInt8):mf (kN l)=some l:=by
 have h:(kN l).take ((kN l).length-4)=l:=by
  rw[pe,Jq]
  unfold kN
  simp
 unfold mf
 rw[h,ak ⟨by rw[pe];omega,rfl⟩]
section
variable {E w:World} {L:List aK} {F:bh}
theorem tS {n:Int} {k:ByteArray->Pr} (hn:n=(m:Int)) (hm:m<=l.length) (a:k (B (l.take m)) w):fU prog (vN (Instr.sliceAt 9 (.string (B l)) none (some (.int .i64 n)) none)) an k w:=by
 subst hn
 refine aiO kK om (by rw[cJ];omega) ?_
 rw[zi,kW]
 simpa using a
theorem KK {k:ByteArray×Bool×Unit->Pr} (h:ab E w L) (n:l.length<=1000000000) (c:∀d,ab E d L->k (B ((mf l).getD []),(mf l).isSome,()) d):CL 180 #[.string (B l)] (.aG [.leaf .str,.leaf .bool]) k w:=by
 refine adx ?_
 have g:w6 ((B l).size-4)=(l.length:Int)-4:=by rw[cJ,bQ om]
 rw[g]
 refine br (λb w=>b=(mf l).isNone/\ab E w L) (λb w h=>?_) λJ f=>?_
 rotate_left
 .refine ax (λa=>?_) (λa=>?_)
  .refine f _ _ ⟨?_,h⟩
   have:=cT a
   unfold mf;rw[ai om];rfl
  .have:=cF a
   refine tS (m:=l.length-4) om om ?_
   refine Cc h (by rw[cn];omega) λw h=>?_
   refine f _ _ ⟨?_,h⟩
   rw[iK]
   unfold mf
   by_cases e:kN (l.take (l.length-4))=l
   .rw[ak ⟨om,e⟩];simp[e]
   .rw[ai (λh=>e h.2)];simp[pG,e]
 obtain⟨rfl,h⟩:=h
 refine ao λ_=>?_
 refine ax (λa=>?_) (λa=>?_)
 .have e:mf l=none:=by simpa using a
  rw[e]at c
  exact c _ h
 .have e:∃m,mf l=some m:=by cases i:mf l with
     |none=>rw[i]at a;cases a
     |some m=>exact⟨m,rfl⟩
  obtain⟨m,e⟩:=e
  have j:4<=l.length/\l.take (l.length-4)=m:=by
   unfold mf at e
   split at e
   .rename_i h;exact⟨h.1,by simpa using e⟩
   .cases e
  refine tS (m:=l.length-4) om om ?_
  rw[e]at c
  rw[j.2]
  exact c _ h
end
theorem ag6 (x y:Operand) (n:Int) (c:Nat) (hc:c<=64):aQ prog (cL .shl 3 x y (iv n) (.int .u64 (c:Int)))=some (.value (iv (IntKind.i64.wrap (n*2^c)))):=by
 have a:¬((c:Int)<0):=om
 have b:min (c:Int).toNat IntKind.i64.bits=c:=by
  have:IntKind.i64.bits=64:=rfl
  rw[this];omega
 have d:aQ prog (cL .shl 3 x y (iv n) (.int .u64 (c:Int)))=aQ prog (do let v<-Op.shift .shl .i64 n .u64 (c:Int);pure (Next.value v)):=kK
 rw[d,eJ]
 unfold Op.shift
 rw[ai a]
 simp only[b]
 rfl
def pM (l:List UInt8):Nat:=l.foldl (λa b=>a*256+b.toNat) 0
theorem orB (a b:Nat) (ha:a<16777216) (g:b<256):w6 ((BitVec.ofInt IntKind.i64.bits (IntKind.i64.wrap ((a:Int)*2^8))|||BitVec.ofInt IntKind.i64.bits (w6 (b:Int))).toNat:Int)=((a*256+b:Nat):Int):=by
 have c:IntKind.i64.wrap ((a:Int)*2^8)=((a*256:Nat):Int):=by
  show w6 _=_
  rw[bQ om];omega
 have d:w6 (b:Int)=((b:Nat):Int):=bQ om
 rw[c,d]
 have e:IntKind.i64.bits=64:=rfl
 rw[e,Ey,iQ,iQ,gW,gW,hU om,hU om]
 have f:a*256|||b=a*256+b:=by
  have:=Jr (i:=8) (show b<2^8 by omega) a
  rw[Ep]at this
  exact this.symm
 rw[f]
 exact bQ om
theorem JX:∀(l:List UInt8),pM l<256^l.length:=by
 have:∀(l:List UInt8) (a:Nat),l.foldl (λa b=>a*256+b.toNat) a<(a+1)*256^l.length:=by
  intro l
  induction l with
  |nil=>intro a;simp
  |cons b l c=>
   intro a
   have d:=c (a*256+b.toNat)
   have e:=b.toNat_lt
   rw[kV,db]
   refine Nat.lt_of_lt_of_le d ?_
   rw[vQ,vO (256^l.length),<-Eo]
   exact lR _ om
 intro l
 have:=this l 0
 simpa[pM]using this
section
variable {E w:World} {L:List aK} {F:bh}
theorem BF.ix {k:Int->Pr} (h:BF E w L s l) (hi:i<l.length) (d:k ((l[i].toNat:Nat):Int) w):
  fU prog (vN (Instr.indexAt 143 (.slice s.a s.len s.cap) (.int .i64 (i:Int)))) dB (λa=>dQ prog (vN (Instr.loadAt 5 (.pointer (some a)))) (.one (.leaf (.int .u8))) k) w:=by
 obtain⟨b,pre,c,g,e,j,m,p,f,n,o,h⟩:=h.out
 refine ui (Te:=5) (sz:=1) kK kK e om om ?_
 rw[iC,kW,py]
 refine GA (l:=.int .u8) (x:=((l[i].toNat:Nat):Int)) h.own kK rfl ?_ d
 rw[oo,gZ om,f,Bw,g0 (by simpa using hi)]
 simp[hi];rfl
def ss (l:List UInt8):List UInt8×Int×Int:=if l.length<4 then([],0,8)else if pM (l.take 4)>100000 then([],0,19)else if l.length<pM (l.take 4)+8 then([],0,8)else
 match mf ((l.drop 4).take (pM (l.take 4)+4))with
 |none=>([],0,9)
 |some b=>(b,((pM (l.take 4)+8:Nat):Int),0)
theorem Ib {n m:Int} {k:ByteArray->Pr} (hn:n=(i:Int)) (hm:m=(j:Int)) (hi:i<=j) (d:j<=l.length) (b:k (B ((l.drop i).take (j-i))) w):fU prog (vN (Instr.sliceAt 9 (.string (B l)) (some (.int .i64 n)) (some (.int .i64 m)) none)) an k w:=by
 subst hn hm
 refine⟨_,λw=>eE ?_,b⟩
 have a:prog.underlying 9=some .string:=kK
 have:=run_slice_string (P:=prog) w 9 (B l) .i64 .i64 i j a om om (by rw[cJ];omega)
 have c:=IU (P:=prog) a
 rw[zi,kW,kW]at this
 simp[Instr.sliceAt,c,this,Ty.val,cE.val,bD.val]
theorem Fu {k:ByteArray×Int×Int×Unit->Pr} (h:ab E w L) (O:l.length<=1000000000) (d:∀C,ab E C L->k (B (ss l).1,(ss l).2.1,(ss l).2.2,()) C):CL 142 #[.string (B l)] (.aG [.leaf .str,.leaf (.int .i64),.leaf (.int .i64)]) k w:=by
 refine acU ?_
 refine ax (λc=>?_) (λc=>?_)
 .have:=cT c
  rw[cJ]at this
  have e:ss l=([],0,8):=by unfold ss;rw[ak om]
  rw[e]at d
  exact d _ h
 have D:4<=l.length:=by have:=cF c;rw[cJ]at this;omega
 have y:(l.take 4).length=4:=by rw[cn];omega
 refine tS (m:=4) rfl D ?_
 refine xY h λt w h=>?_
 have r:t.len=(l.take 4).length:=by obtain⟨b,pre,f,I,J,G,_⟩:=h.out;exact G
 refine cy (S:=Int×Int) (cf:=λs=>s.2) (l.take 4).length (by rw[r]) (λi s w=>s.1=((pM ((l.take 4).take i):Nat):Int)/\BF E w L t (l.take 4)) rfl ⟨rfl,h⟩ ?_ ?_
 .rintro next ⟨a,_⟩ w i z rfl ⟨u,h⟩ g
  simp only at u
  subst u
  refine h.ix z ?_
  refine jF (x:=IntKind.i64.wrap (((pM ((l.take 4).take i):Nat):Int)*2^8)) (ag6 _ _ _ 8 om) ?_
  have o:=JX ((l.take 4).take i)
  have K:256^((l.take 4).take i).length<=256^3:=Nat.pow_le_pow_right om (by rw[cn];omega)
  rw[orB _ _ om (l.take 4)[i].toNat_lt]
  refine g _ _ (bV z om) ⟨?_,h⟩
  rw[cR z]
  unfold pM
  rw[qy]
  rfl
 .rintro⟨a,_⟩ w ⟨u,h⟩
  simp only at u
  subst u
  rw[cB]
  have h:ab E w L:=by obtain⟨b,pre,f,I,J,G,P,p,D,Q,R,h⟩:=h.out;exact h.drop
  have v:∃n,pM (l.take 4)=n:=⟨_,rfl⟩
  obtain⟨n,v⟩:=v
  have o:=JX (l.take 4)
  rw[y]at o
  have e:ss l=if n>100000 then(([]:List UInt8),(0:Int),(19:Int))else if l.length<n+8 then([],0,8)else
   match mf ((l.drop 4).take (n+4))with
   |none=>([],0,9)
   |some b=>(b,((n+8:Nat):Int),0):=by unfold ss;rw[ai om,v]
  rw[e]at d
  rw[v]at o⊢
  clear e
  refine ax (λc=>?_) (λc=>?_)
  .have:=cT c
   simp only at this
   rw[ak om]at d
   exact d _ h
  have M:n<=100000:=by have:=cF c;simp only at this;omega
  rw[ai om]at d
  have N:w6 ((n:Int)+8)=((n+8:Nat):Int):=by rw[bQ om];omega
  simp only[N]
  refine ax (λc=>?_) (λc=>?_)
  .have:=cT c
   rw[cJ]at this
   rw[ak om]at d
   exact d _ h
  have A:n+8<=l.length:=by have:=cF c;rw[cJ]at this;omega
  rw[ai om]at d
  refine Ib (i:=4) (j:=n+8) rfl rfl om A ?_
  rw[show n+8-4=n+4 by omega]
  refine KK h (by rw[cn];omega) λw h=>?_
  cases H:mf ((l.drop 4).take (n+4))with
  |none=>
   rw[H]at d
   refine ax (λc=>?_) (λc=>by cases c)
   exact d _ h
  |some b=>
   rw[H]at d
   refine ax (λc=>by cases c) (λc=>?_)
   exact d _ h
end
abbrev be (b:Nat) (l:List UInt8) (pos a:Int):aK:=lc b 315 [.string (B l),iv pos,iv a]
section
variable {E w:World} {L:List aK} {F:bh}
theorem tg {k:Option Addr->Pr} (h:ab E w L) (c:∀b a,ab E a (be b l 0 0::L)->k (some ⟨b,0,none⟩) a):CL 217 #[.string (B l)] aI k w:=by
 refine ad5 ?_
 refine bx h λb w h=>?_
 exact c b _ h
theorem pO {pos:Int} {k:Int->Pr} (h:ab E w (be b l pos err::L)) (c:∀a,ab E a (be b l pos err::L)->k err a):CL 220 #[.pointer (some ⟨b,0,none⟩)] ah k w:=by
 refine ad7 ?_
 refine dw (x:=false) kK ?_
 refine ax (λd=>by cases d) (λ_=>?_)
 refine aq ?_
 refine ld h ?_
 exact c _ h
theorem Va {k:Int->Pr} (h:ab E w (be b l pos err::L)) (e:l.length<=1000000000) (f:pos<=l.length) (c:∀a,ab E a (be b l pos err::L)->k ((l.length-pos:Nat):Int) a):CL 296 #[.pointer (some ⟨b,0,none⟩)] ah k w:=by
 refine afo ?_
 refine dw (x:=false) kK ?_
 refine ax (λd=>by cases d) (λ_=>?_)
 refine dr h λw h=>?_
 refine aq ?_
 refine ld h ?_
 refine aq ?_
 refine ld h ?_
 refine fin (c _ h) ?_
 show w6 (((B l).size:Int)-(pos:Int))=_
 rw[cJ,bQ om]
 omega
end
abbrev bY (b:Nat) (n t q:Int) (m:Nat):aK:=lc b 101 [iv n,iv t,iv q,.map (some m)]
def kU (n t:Int) (P:Pk):Int:=if gT P then(if P.1<=n then 5 else if P.1>n+1 then 12 else if P.2.1<=t then 1 else 0)else 7
section
variable {E w:World} {L:List aK} {F:bh}
theorem Kq {k:Option Addr->Pr} (h:ab E w L) (c:∀b m a,ab E a (bY b 0 (-1) 0 m::aT m (.map #[] 0)::L)->k (some ⟨b,0,none⟩) a):CL 13 #[] aI k w:=by
 refine acJ ?_
 refine nP h λm w h=>?_
 refine bx h λb w h=>?_
 exact c b m _ h
theorem Vu {n t q:Int} {p:pH} {P:Pk} {k:Int->Pr} (h:ab E w (ae F::bY b n t q m::L)) (g:je F p P) (o:kt P) (hn:-1000000000000000<=n/\n<=1000000000000000) (c:∀i,ab E i (ae F::bY b n t q m::L)->k (kU n t P) i):CL 36 #[.pointer (some ⟨b,0,none⟩),ag av p] ah k w:=by
 obtain⟨d,f,v,⟨⟩⟩:=p
 obtain⟨y,z,Pc⟩:=P
 obtain⟨j,l,r⟩:=id g
 simp only at j l r
 subst j l
 refine afU ?_
 refine bx h λC w h=>?_
 refine bN h ?_
 refine LJ (h.pick (A:=ae F) pK) g o λw h=>?_
 refine ax (λa=>?_) (λa=>?_)
 .refine fin (c _ (h.sub sS)) ?_
  unfold kU;rw[ai (by rw[nT a];simp)]
 have u:=nF a
 have e:kU n t (d,f,Pc)=if d<=n then 5 else if d>n+1 then 12 else if f<=t then 1 else 0:=by unfold kU;rw[ak u]
 rw[e]at c
 refine dr h λw h=>?_
 refine ld (x:=d) h ?_
 refine aq ?_
 refine ld (x:=n) h ?_
 refine lk h ?_
 refine lk h ?_
 refine ax (λa=>?_) (λa=>?_)
 .rw[ak (cT a)]at c
  exact c _ (h.sub sS)
 rw[ai (cF a)]at c
 refine dr h λw h=>?_
 refine ld (x:=d) h ?_
 refine aq ?_
 refine ld (x:=n) h ?_
 refine lk h ?_
 refine lk h ?_
 rw[bQ om]
 refine ax (λa=>?_) (λa=>?_)
 .rw[ak (cT a)]at c
  exact c _ (h.sub sS)
 rw[ai (cF a)]at c
 refine dr h λw h=>?_
 refine ld (x:=f) h ?_
 refine aq ?_
 refine ld (x:=t) h ?_
 refine lk h ?_
 refine lk h ?_
 refine ax (λa=>?_) (λa=>?_)
 .rw[ak (cT a)]at c
  exact c _ (h.sub sS)
 rw[ai (cF a)]at c
 exact c _ (h.sub sS)
end
def nZ (S:di) (r:Row):Bool:=decide ((r.length:Int)=S.2.2)&&(r.zip S.2.1).all (λq=>decide (q.1.1=q.2.2.1))
def gR (S:di) (C:jc):List UInt8×Int:=if C.1=2 then(if nZ S C.2.2.1 then(keyOf C.2.2.1,0)else([],10))else(keyOf (mY S C.2.2.1),im S C.2.2.1)
theorem IM {α β:Type}:∀(a:List α) (b:List β),a.length<=b.length->a.zip b=a.zip (b.take a.length)
 |[],_,_=>rfl
 |_::_,[],h=>by simp at h
 |x::a,y::b,h=>by rw[db,yV,Bo,Bo,IM a b (by simpa using h)]
theorem aaA (hr:dk r):dk (mY S r):=by
 unfold mY
 split
 .exact⟨by have:=hr.len;rw[cn];omega,λv a=>hr.wv v (mj a)⟩
 .exact⟨sI,λv a=>by cases a⟩
section
variable {E w:World} {L:List aK} {F:bh}
theorem Kj (h:ab E w (ae F::L)) (C:ft F p S) (hs:FL F aP s r) (hr:dk r) (J:S.2.2<=S.2.1.length) (j:∀u,ab E u (ae F::L)->k (nZ S r) u):CL 114 #[ag aD p,sv s] aw k w:=by
 obtain⟨K,v,D,⟨⟩⟩:=p
 obtain⟨y,z,A⟩:=id C
 simp only at y z A
 subst y A
 have m:=hs.2
 have M:=hr.len
 refine acs ?_
 refine bx h λG w h=>?_
 refine ld h ?_
 refine ax (λd=>?_) (λd=>?_)
 .refine fin (j _ (h.sub sS)) ?_
  have:¬(r.length:Int)=S.2.2:=by simpa[m]using d
  unfold nZ;rw[eM this];rfl
 have f:(r.length:Int)=S.2.2:=by simpa[m]using d
 refine cy (S:=Int) (cf:=λs=>s) r.length (by rw[m]) (λi s w=>((r.take i).zip (S.2.1.take i)).all (λq=>decide (q.1.1=q.2.2.1))=true/\ab E w (ae F::lc G 63 (ay aD (S.1,v,S.2.2,()))::L)) rfl ⟨rfl,h.sub sS⟩ ?_ ?_
 .rintro next _ w i n rfl ⟨c,h⟩ e
  have g:i<S.2.1.length:=om
  have H:(r[i],S.2.1[i])∈r.zip S.2.1:=by
   rw[<-xE (l:=r) (l':=S.2.1) (i:=i) (h:=by rw[vU];omega)]
   exact cp _
  refine ix hs n λa N=>?_
  have o:=cR n
  have t:=cR g
  refine fJ h ?_
  refine al h λO w h=>?_
  refine bU h (λw h=>?_)
  refine dr h λw h=>?_
  refine ld (x:=r[i].1) h ?_
  refine ld (x:=v) h ?_
  refine ix z g λb I=>?_
  refine nV (x:=S.2.1[i].2.1) h ?_ I
  refine ax (λd=>?_) (λd=>?_)
  .refine fin (j _ (h.sub sS)) ?_
   have:(r.zip S.2.1).all (λq=>decide (q.1.1=q.2.2.1))=false:=List.all_eq_false.2 ⟨_,H,by simpa using d⟩
   unfold nZ;rw[this,vS]
  .refine e _ _ (bV n om) ⟨?_,h.sub sS⟩
   rw[o,t,Et (by simp;omega),ou,c]
   simpa using d
 .rintro _ w ⟨c,h⟩
  refine fin (j _ (h.sub sS)) ?_
  rw[cB]at c
  unfold nZ
  rw[eu f,IM r S.2.1 om,c];rfl
theorem VF {k:ByteArray×Int×Unit->Pr} (h:ab E w (ae F::L)) (i:ft F p S) (hc:nE F c C) (z:oy C) (D:S.2.2<=S.2.1.length)
  (d:∀G l,F.le G->ab E l (ae G::L)->k (B (gR S C).1,(gR S C).2,()) l):CL 73 #[ag aD p,ag bP c] (.aG [.leaf .str,.leaf (.int .i64)]) k w:=by
 obtain⟨N,O,H,⟨⟩⟩:=p
 obtain⟨j,m,b,n,o,P,I,Q,⟨⟩⟩:=c
 obtain⟨R,T,f,U,V,r⟩:=C
 obtain⟨t,u,g,v,y,J⟩:=hc
 simp only at t u g v y J
 subst t u v y
 have a:=z.row
 simp only at a
 refine agp ?_
 refine bx h λW w h=>?_
 refine bx h λX w h=>?_
 refine ld (x:=j) h ?_
 refine ax (λhc=>?_) (λhc=>?_)
 .have e:gR S (j,m,f,n,o,r)=if nZ S f then(keyOf f,0)else([],10):=by unfold gR;rw[ak (ek hc)]
  rw[e]at d
  refine bN h ?_
  refine ld (x:=b) h ?_
  refine Kj (h.pick (A:=ae F) pK) i g a D λw h=>?_
  refine ax (λhc=>?_) (λhc=>?_)
  .rw[ai (by rw[nT hc];simp)]at d
   exact d F _ (.refl _) (h.sub sS)
  .rw[ak (nF hc)]at d
   refine ld (x:=b) h ?_
   refine c6 (h.pick (A:=ae F) pK) g a λw h=>?_
   exact d F _ (.refl _) (h.sub sS)
 .have e:gR S (j,m,f,n,o,r)=(keyOf (mY S f),im S f):=by unfold gR;rw[ai (ei hc)]
  rw[e]at d
  refine bN h ?_
  refine ld (x:=b) h ?_
  refine Fs (h.pick (A:=ae F) pK) i g a λw h=>?_
  refine bN h ?_
  refine ld (x:=b) h ?_
  refine Tw (h.pick (A:=ae F) pK) i g a λG Y w K M h=>?_
  refine c6 (h.pick (A:=ae G) pK) M (aaA a) λw h=>?_
  exact d G _ K (h.sub sS)
end
abbrev dG (b:Nat) (ds:Sl) (m:Nat):aK:=lc b 115 [sv ds,.map (some m)]
abbrev bH:cE:=.leaf .slice
abbrev KE:=dd ByteArray Sl
def tO (x:ByteArray) (v:Sl) (es:List KE) (a:Nat):List KE:=if v.len=0 then lK fB x es else fk fB x v es a
def tP (x:ByteArray) (v:Sl) (es:List KE) (a:Nat):Nat:=if v.len=0 then a else iU fB x es a
section
variable {E w:World} {L:List aK} {F:bh}
theorem Co {ds v:Sl} {x:ByteArray} {es:List KE} {k:Unit->Pr} (h:ab E w (dG b ds m::bG .str bH m es clock::L)) (a:∀e,ab E e (dG b ds m::bG .str bH m (tO x v es clock) (tP x v es clock)::L)->k () e):
  CL 40 #[.pointer (some ⟨b,0,none⟩),.string x,sv v] (.aG []) k w:=by
 refine afY ?_
 refine ax (λd=>?_) (λd=>?_)
 .have c:v.len=0:=by simpa using d
  unfold tO tP at a
  rw[ak c,ak c]at a
  refine aq ?_
  refine ld h ?_
  refine Gi (kl:=.str) (vl:=bH) (K:=9) (V:=109) kK gi h (.tail .head) λw h=>?_
  exact a _ h.swap
 .have c:v.len≠0:=by simpa using d
  unfold tO tP at a
  rw[ai c,ai c]at a
  refine aq ?_
  refine ld h ?_
  refine mw (kl:=.str) (vl:=bH) (K:=9) (V:=109) kK gi h (.tail .head) λw h=>?_
  exact a _ h.swap
end
abbrev zk:=Int×ByteArray×Sl×Int×Unit
variable {bB:List zk}
section
variable {E w:World} {L L':List aK} {F:bh}
theorem MZ {t:TypeId} {a:Addr} {k:bK ms->Pr} (h:ab E w L) (p:b6 L (OS T ls s xs) L') (ha:qE s (i*ls.length+j) a) (hi:i<xs.length) (d:k x w)
  (b:Nat.ble (j+ms.length) ls.length=true:=by rfl) (hc:((ay ls xs[i]).drop j).take ms.length=ay ms x:=by rfl) (e:jK t=some true:=by kernel_rfl) (hn:jW t=some ms.length:=by kernel_rfl):
  dQ prog (vN (Instr.loadAt t (.pointer (some a)))) (.one (.agg ms)) k w:=by
 obtain⟨l,f,m,rfl⟩:=ha
 have c:=(h.pick p).iJ
 have b:j+ms.length<=ls.length:=by simpa using b
 refine Na x c f rfl e (by rw[du];exact hn) (λq g=>?_) d
 rw[du]at g
 rw[show i*ls.length+j+q=i*ls.length+(j+q)by omega,Gw c (du ls) hi om,<-hc,pC om,nB]
theorem xV {ds:Sl} {k:nG->Pr} (h:ab E w (dG b ds m::OS 112 bC ds bB::L)) (l:0<bB.length) (n:bB.length<=1000000000)
  (d:∀c,ab E c (dG b ds m::OS 112 bC ds bB::L)->k (bB[bB.length-1]).2 c):CL 74 #[.pointer (some ⟨b,0,none⟩)] (ya aD) k w:=by
 have e:=fR h.swap dE
 refine agq ?_
 refine al h λo w h=>?_
 refine dr h λw h=>?_
 refine aq ?_
 refine ld h ?_
 refine aq ?_
 refine ld h ?_
 have f:w6 ((ds.len:Int)-1)=((bB.length-1:Nat):Int):=by rw[e,bQ om];omega
 simp only[f]
 refine eO (T:=112) (ls:=bC) h (.tail (.tail .head)) (i:=bB.length-1) om λa g=>?_
 refine MZ (T:=112) (ls:=bC) (ms:=aD) (j:=1) (x:=(bB[bB.length-1]).2) h (.tail (.tail .head)) (g.add 1) om ?_
 refine bU h (λw h=>?_)
 refine pf (ls:=aD) (x:=(bB[bB.length-1]).2) h ?_
 exact d _ dD
end
def fz (t q at_:Int):Int:=if at_<q then 15 else if at_>t then 16 else 0
def sf (S:di) (r:Row):Bool:=(decide ((r.length:Int)=S.2.2)&&decide (S.2.2<=S.2.1.length))&&(r.zip S.2.1).all (λq=>dM q.1&&decide (q.1.1=q.2.2.1))
section
variable {E w:World} {L:List aK} {F:bh}
theorem Ko {n t q at_:Int} {k:Int->Pr} (h:ab E w (bY b n t q m::L)) (c:∀d,ab E d (bY b n t q m::L)->k (fz t q at_) d):CL 124 #[.pointer (some ⟨b,0,none⟩),iv at_] ah k w:=by
 refine acE ?_
 refine dw (x:=false) kK ?_
 refine ax (λa=>by cases a) (λ_=>?_)
 unfold fz at c
 refine aq ?_
 refine ld (x:=q) h ?_
 refine ax (λa=>?_) (λa=>?_)
 .rw[ak (cT a)]at c
  exact c _ h
 rw[ai (cF a)]at c
 refine aq ?_
 refine ld (x:=t) h ?_
 refine ax (λa=>?_) (λa=>?_)
 .rw[ak (cT a)]at c
  exact c _ h
 rw[ai (cF a)]at c
 exact c _ h
theorem TB (h:ab E w (ae F::L)) (N:ft F p S) (hs:FL F aP s r) (hr:dk r) (n:∀C,ab E C (ae F::L)->k (sf S r) C):CL 125 #[ag aD p,sv s] aw k w:=by
 obtain⟨U,j,O,⟨⟩⟩:=p
 obtain⟨D,u,G⟩:=id N
 simp only at D u G
 subst D G
 have v:=hs.2
 have y:=u.2
 have V:=hr.len
 refine acF ?_
 refine bx h λH w h=>?_
 refine ld (x:=S.2.2) h ?_
 refine br (λb w=>b=!(decide ((r.length:Int)=S.2.2)&&decide (S.2.2<=S.2.1.length))/\ab E w (ae F::lc H 63 (ay aD (S.1,j,S.2.2,()))::L)) (λb w h=>?_) λJ I=>?_
 rotate_left
 .refine ax (λd=>?_) (λd=>?_)
  .refine I _ _ ⟨?_,h.sub sS⟩
   have:¬(r.length:Int)=S.2.2:=by simpa[v]using d
   rw[eM this];rfl
  .have:(r.length:Int)=S.2.2:=by simpa[v]using d
   refine ld (x:=S.2.2) h ?_
   refine ld (x:=j) h ?_
   refine I _ _ ⟨?_,h.sub sS⟩
   rw[eu this,hI]
   show decide (S.2.2>(j.len:Int))=!decide (S.2.2<=(S.2.1.length:Int))
   rw[y,gb]
   simp only[bX,mR,ml]
   omega
 obtain⟨o,h⟩:=h
 refine ao λ_=>?_
 refine ax (λd=>?_) (λd=>?_)
 .refine fin (n _ (h.sub sS)) ?_
  rw[d]at o
  unfold sf
  rw[show(decide ((r.length:Int)=S.2.2)&&decide (S.2.2<=S.2.1.length))=false by have:=o.symm;rwa[mR]at this];rfl
 have K:(decide ((r.length:Int)=S.2.2)&&decide (S.2.2<=S.2.1.length))=true:=by rw[d]at o;simpa using o.symm
 have M:(r.length:Int)=S.2.2/\S.2.2<=S.2.1.length:=by simpa using K
 refine cy (S:=Int) (cf:=λs=>s) r.length (by rw[v]) (λi s w=>((r.take i).zip (S.2.1.take i)).all (λq=>dM q.1&&decide (q.1.1=q.2.2.1))=true/\ab E w (ae F::lc H 63 (ay aD (S.1,j,S.2.2,()))::L)) rfl ⟨rfl,h⟩ ?_ ?_
 .rintro next _ w i t rfl ⟨c,h⟩ f
  have m:i<S.2.1.length:=om
  have P:(r[i],S.2.1[i])∈r.zip S.2.1:=by
   rw[<-xE (l:=r) (l':=S.2.1) (i:=i) (h:=by rw[vU];omega)]
   exact cp _
  have e:(dM r[i]&&decide (r[i].1=S.2.1[i].2.1))=false->sf S r=false:=λQ=>by
   have:(r.zip S.2.1).all (λq=>dM q.1&&decide (q.1.1=q.2.2.1))=false:=List.all_eq_false.2 ⟨_,P,by simpa using Q⟩
   unfold sf;rw[this,vS]
  have z:=cR t
  have A:=cR m
  have R:=(hr.wv _ (cp t)).b1.1
  refine ix hs t λa W=>?_
  refine fJ h ?_
  refine al h λX w h=>?_
  refine bU h (λw h=>?_)
  refine dr h λw h=>?_
  refine bN h ?_
  refine rR h (λw h=>?_) R
  refine ax (λd=>?_) (λd=>?_)
  .refine ax (λ_=>?_) (λd=>by cases d)
   exact fin (n _ (h.sub sS)) (e (by rw[nT d];rfl)).symm
  refine ld (x:=r[i].1) h ?_
  refine ld (x:=j) h ?_
  refine ix u m λb T=>?_
  refine nV (x:=S.2.1[i].2.1) h ?_ T
  refine ax (λg=>?_) (λg=>?_)
  .have:¬r[i].1=S.2.1[i].2.1:=by simpa using g
   exact fin (n _ (h.sub sS)) (e (by rw[eM this,vS])).symm
  .have:r[i].1=S.2.1[i].2.1:=by simpa using g
   refine f _ _ (bV t om) ⟨?_,h.sub sS⟩
   rw[z,A,Et (by simp;omega),ou,c]
   simp[nF d,this]
 .rintro _ w ⟨c,h⟩
  refine fin (n _ (h.sub sS)) ?_
  rw[cB]at c
  unfold sf
  rw[K,IM r S.2.1 om,c];rfl
end
abbrev uO:=Int×ByteArray×Sl×Int×Int×Int×Int×Sl×Sl×Int×Bool×Unit
section
variable {E w:World} {L:List aK} {F:bh}
theorem Vw {q:uO} (h:ab E w L) (b:q.2.2.2.2.2.2.2.1.len=0) (d:∀c,ab E c L->k true c):CL 44 #[ag bR q,sv s] aw k w:=by
 obtain⟨g,i,j,l,m,n,o,e,p,r,f,⟨⟩⟩:=q
 simp only at b
 refine af2 ?_
 refine bx h λt w h=>?_
 refine ld (x:=e) h ?_
 refine aL ?_
 refine ax (λa=>?_) (λa=>?_)
 .refine ao λ_=>?_
  exact d _ dD
 .rw[b]at a;cases a
theorem Vx {q:uO} {k:Sl->Pr} (h:ab E w (ae F::L)) (c:q.2.2.2.2.2.2.2.2.1.len=0) (hs:FL F aP s r) (hr:dk r) (e:∀G a d,F.le G->FL G aP a r->ab E d (ae G::L)->k a d):CL 45 #[ag bR q,sv s] aE k w:=by
 obtain⟨l,m,n,o,p,t,u,v,f,y,g,⟨⟩⟩:=q
 simp only at c
 have z:=hr.len
 refine af3 ?_
 refine bx h λA w h=>?_
 refine ld (x:=f) h ?_
 refine ax (λb=>?_) (λb=>?_)
 .refine ta (T:=28) h hs om λa w h=>?_
  obtain⟨G,i,h,j⟩:=dT (F:=F) h
  exact e G a w i j (h.sub sS)
 .rw[c]at b;cases b
end
theorem aa4 (t:Int):∀(l:List Vn) (m:Int),∀v∈l,(v.1>t->ga l t m<=v.1)/\(v.2.1>t->ga l t m<=v.2.1):=by
 have c:∀(l:List Vn) (m:Int),ga l t m<=m:=by
  intro l
  induction l with
  |nil=>intro m;exact mP _
  |cons u l d=>
   intro m
   have e:=d (nx t (nx t m u.1) u.2.1)
   have f:=Az t (nx t m u.1) u.2.1
   have g:=Az t m u.1
   show ga l t (nx t (nx t m u.1) u.2.1)<=m
   omega
 have b:∀(m a:Int),a>t->nx t m a<=a:=by
  intro m a h
  unfold nx
  rw[ak h]
  split<;>omega
 intro l
 induction l with
 |nil=>intro m v hv;cases hv
 |cons u l d=>
  intro m v hv
  have e:=c l (nx t (nx t m u.1) u.2.1)
  have f:=Az t (nx t m u.1) u.2.1
  show(_->ga l t (nx t (nx t m u.1) u.2.1)<=_)/\(_->ga l t (nx t (nx t m u.1) u.2.1)<=_)
  rcases List.mem_cons.1 hv with rfl|hv
  .refine⟨λh=>?_,λh=>?_⟩
   .have:=b m v.1 h;omega
   .have:=b (nx t m v.1) v.2.1 h;omega
  .exact d _ v hv
theorem SI {l:List Vn} {t n m:Int} (hn:n<=ga l t m) (g:t<=u) (i:u<n):cK l u=cK l t:=by
 have e:l.filter (λv=>ey (iL v) u)=l.filter (λv=>ey (iL v) t):=by
  refine RO λv f=>?_
  obtain⟨a,b⟩:=aa4 t l m v f
  unfold ey
  rw[gb]
  simp only[bp,bX]
  constructor
  .rintro⟨⟨c,d⟩,e⟩
   refine⟨⟨c,?_⟩,?_⟩
   .by_cases q:v.1>t
    .have:=a q;omega
    .omega
   .omega
  .rintro⟨⟨c,d⟩,e⟩
   refine⟨⟨c,om⟩,?_⟩
   have:=b e;omega
 unfold cK
 rw[e]
abbrev uc (s:St):Sp:=(s.1,s.2.1,())
def pd (a:List St) (t:Int):List Pc:=(a.filter λs=>ey (uc s) t).flatMap (·.2.2)
structure xI (l:List Vn) (a t0:Int) (out:List St):Prop where
 le:∀s∈out,a<=s.1/\s.1<s.2.1/\s.2.1<=t0
 at_:∀t,a<=t->t<t0->pd out t=fw (cK l t)
theorem HR {out:List St} {t:Int} (h:∀s∈out,s.2.1<=t0) (b:t0<=t):pd out t=[]:=by
 have:out.filter (λs=>ey (uc s) t)=[]:=by
  rw[RP]
  intro s a
  have:=h s a
  unfold ey
  simp only[bp,bX,not_and]
  omega
 unfold pd
 rw[this];rfl
theorem Pm (a b:List St) (t:Int):pd (a++b) t=pd a t++pd b t:=by
 unfold pd
 rw[nC,gM]
theorem Po (s:St) (t:Int):pd [s] t=if ey (uc s) t then s.2.2 else[]:=by
 unfold pd
 rw[jr]
 split<;>simp
theorem xI.step {l:List Vn} {a n m:Int} {out:List St} (h:xI l a t0 out) (ha:0<=a) (v:a<=t0) (A:t0<n) (x:n<=ga l t0 m) (C:n<=1099511627776):xI l a n (jE out t0 n (fw (cK l t0))):=by
 have c:∀s∈out,s.2.1<=t0:=λs b=>(h.le s b).2.2
 have d:∀t,t0<=t->t<n->fw (cK l t)=fw (cK l t0):=λt i j=>by rw[SI x i j]
 generalize D:fw (cK l t0)=p at*
 unfold jE
 by_cases k:p.length=0
 .rw[ak k]
  refine⟨λs b=>by have:=h.le s b;omega,λt i j=>?_⟩
  by_cases r:t<t0
  .exact h.at_ t i r
  .rw[HR c om,d t om j,List.length_eq_zero_iff.1 k]
 rw[ai k]
 by_cases g:yk out t0 p=true
 .rw[ak g]
  unfold yk at g
  cases o:out.getLast? with
  |none=>rw[o]at g;cases g
  |some q=>
   rw[o]at g
   simp only[bp,bX]at g
   obtain⟨F,y⟩:=g
   have z:out=out.dropLast++[q]:=by
    have u:out≠[]:=λe=>by rw[e]at o;cases o
    rw[y6 u]at o
    conv=>lhs;rw[<-Bx u]
    rw[ja o]
   have G:=h.le q (ux o)
   simp only
   refine⟨λs b=>?_,λt i j=>?_⟩
   .rcases List.mem_append.1 b with b|b
    .have:=h.le s (xD _ b);omega
    .simp only[fE]at b;subst b;simp only;omega
   .have f:=h.at_ t i
    rw[z]at f
    rw[Pm,Po]at f⊢
    by_cases r:t<t0
    .rw[<-f r]
     congr 1
     have:ey (uc (q.1,n,q.2.2)) t=ey (uc q) t:=by
      unfold ey cA
      rw[gb]
      simp only[bp,bX]
      omega
     rw[this]
    .rw[HR (t0:=t0) (λs b=>c s (xD _ b)) om,d t om j]
     have:ey (uc (q.1,n,q.2.2)) t=true:=by
      unfold ey cA
      simp only[bp,bX]
      omega
     rw[ak this,y];rfl
 .rw[ai g]
  refine⟨λs b=>?_,λt i j=>?_⟩
  .rcases List.mem_append.1 b with b|b
   .have:=h.le s b;omega
   .simp only[fE]at b;subst b;simp only;omega
  .rw[Pm,Po]
   by_cases r:t<t0
   .have:ey (uc (t0,n,p)) t=false:=by
      unfold ey
      rw[y7]
      simp only[uo,bp,bX]
      omega
    rw[this,<-h.at_ t i r];simp
   .have:ey (uc (t0,n,p)) t=true:=by
      unfold ey cA
      simp only[bp,bX]
      omega
    rw[HR c om,d t om j,this];simp
theorem JZ {l:List Vn} {a to:Int} (ha:0<=a) (g:to<=1099511627776):∀(f:Nat) (b:Int) (c:List St),a<=b->b<=to->(to-b).toNat<=f->xI l a b c->xI l a to (lY l to f b c)
 |0,b,c,e,i,j,h=>by
  have:b=to:=om
  subst this;exact h
 |f+1,b,c,e,i,j,h=>by
  show xI l a to (if b<to then _ else _)
  by_cases d:b<to
  .rw[ak d]
   obtain⟨n1,n2,_⟩:=Du b l to d
   exact JZ ha g f _ _ om n2 om (h.step ha e n1 (mP _) om)
  .rw[ai d]
   have:b=to:=om
   subst this;exact h
theorem S8 {l:List Vn} {d:Sp} {t:Int} (hv:gL l=true) (hd:cA d=true) (b:d.1<=t) (c:t<d.2.1):pd (oR l d) t=fw (cK l t):=by
 have a:=hd
 unfold cA at a
 simp only[bp,bX]at a
 unfold oR
 rw[hv,hd]
 refine(JZ (l:=l) a.1.1 a.2 _ d.1 [] (mP _) om (cV _) ⟨λs e=>(by cases e),λt f g=>om⟩).at_ t b c
theorem Ma (a:List Pc) (p:Pc):iS a p≠[]:=by
 unfold iS
 cases a.getLast? with
 |none=>simp
 |some q=>simp only;split<;>simp
theorem LZ:∀(l a:List Pc),a≠[]->l.foldl iS a≠[]
 |[],a,h=>h
 |p::l,a,h=>LZ l _ (Ma a p)
theorem Wc (h:fw ps=[]):ps=[]:=by
 unfold fw at h
 split at h
 .cases ps with
  |nil=>rfl
  |cons p ps=>exact absurd h (LZ ps _ (Ma [] p))
 .exact h
def kR (f:Row->Row) (p:Pc):Pc:=(p.1,p.2.1,f p.2.2)
def gn (f:Row->Row) (v:Vn):Vn:=(v.1,v.2.1,kR f v.2.2)
theorem takeWhile_map {α β:Type} (g:α->β) (q:β->Bool):∀l:List α,(l.map g).takeWhile q=(l.takeWhile λa=>q (g a)).map g
 |[]=>rfl
 |a::l=>by
  rw[eZ,xC,xC]
  cases q (g a)with
  |true=>simp[takeWhile_map g q l]
  |false=>rfl
theorem aas (f:Row->Row) (a:List Pc) (p:Pc):l7 (a.map (kR f)) (kR f p)=(l7 a p).map (kR f):=by
 unfold l7 nk
 simp only
 rw[<-List.map_reverse,takeWhile_map,bW,bW,fe,eZ,<-Ez,<-List.map_drop]
 rfl
theorem Og (f:Row->Row):∀(l a:List Pc),(l.map (kR f)).foldl l7 (a.map (kR f))=(l.foldl l7 a).map (kR f)
 |[],_=>rfl
 |p::l,a=>by
  rw[eZ,kV,kV,aas,Og f l]
theorem abg (f:Row->Row) (pre:List Vn) (v:Vn) (hr:iW (f v.2.2.2.2)=iW v.2.2.2.2):qU (pre.map (gn f)) (gn f v)=qU pre v:=by
 have a:eG 0 [(gn f v).2.2]=eG 0 [v.2.2]:=by
  simp only[eG,gn,kR]
  rw[hr];rfl
 have b:((pre.map (gn f)).any λu=>pP (gn f v) u)=pre.any λu=>pP v u:=by
  rw[List.any_map]
  rfl
 unfold qU
 rw[a,b,List.getLast?_map]
 cases pre.getLast? with
 |none=>rfl
 |some u=>rfl
theorem ID (f:Row->Row):∀(l pre:List Vn),(∀v∈l,iW (f v.2.2.2.2)=iW v.2.2.2.2)->ry (pre.map (gn f)) (l.map (gn f))=ry pre l
 |[],_,_=>rfl
 |v::l,pre,h=>by
  show(qU (pre.map (gn f)) (gn f v)&&ry (pre.map (gn f)++[gn f v]) (l.map (gn f)))=_
  rw[abg f pre v (h v eo),show pre.map (gn f)++[gn f v]=(pre++[v]).map (gn f)by simp,ID f l _ λu a=>h u (dH _ a)]
  rfl
theorem SJ (f:Row->Row) (l:List Vn) (t:Int) (h:∀v∈l,iW (f v.2.2.2.2)=iW v.2.2.2.2):cK (l.map (gn f)) t=(cK l t).map (kR f):=by
 unfold cK
 rw[show gL (l.map (gn f))=gL l from ID f l [] h]
 split
 .have e:(l.map (gn f)).filter (λv=>ey (iL v) t)=(l.filter λv=>ey (iL v) t).map (gn f):=by
    rw[Js];rfl
  rw[e,rA,<-Og f _ [],rA]
  rfl
 .rfl
theorem SL {l:List Vn} {d:Sp} {t:Int} (f:Row->Row) (a:∀v∈l,iW (f v.2.2.2.2)=iW v.2.2.2.2) (hv:gL l=true) (hd:cA d=true) (b:d.1<=t) (c:t<d.2.1):
  pd (oR (l.map (gn f)) d) t=fw ((cK l t).map (kR f)):=by
 rw[S8 (by rw[show gL (l.map (gn f))=gL l from ID f l [] a];exact hv) hd b c,SJ f l t a]
end Go.Proofs.YtelhccfmfnaegaaGreat
