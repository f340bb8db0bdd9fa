/- Lemmas for topAudits_holds. No conditions. -/
import Derived.Test.YtelhccfmfnaegaaGreatSs
set_option linter.unusedSectionVars false
set_option linter.unusedVariables false
set_option linter.unusedSimpArgs false
set_option linter.defProp false
set_option maxRecDepth 10000
namespace Go.Proofs.YtelhccfmfnaegaaGreat
open Go Go.Sh
abbrev gS:di:=(dF,[(⟨#[105,100]⟩,2,true,()),(⟨#[110,97,109,101]⟩,5,false,())],1)
abbrev gj:Row:=[(2,1,0,eB,()),(5,0,0,⟨#[97]⟩,())]
abbrev pZ:jc:=(3,dF,[],0,0,gS)
abbrev o5:jc:=(1,dF,gj,0,9,jA)
abbrev tH:Pk:=(1,5,[pZ])
abbrev tI:Pk:=(2,7,[o5])
theorem Dh (l:List UInt8) (h:(nK 0 l&&(decide (1<=l.length)&&decide (l.length<=32)))=true):fD (B l)=true:=by rw[OP];exact h
theorem Di:dK gS=true:=by
 have a:fD dF=true:=Dh [116] dE
 have b:fD (⟨#[105,100]⟩:ByteArray)=true:=Dh [105,100] dE
 have c:fD (⟨#[110,97,109,101]⟩:ByteArray)=true:=Dh [110,97,109,101] dE
 have d:mA gS=true:=by unfold mA;rw[a];decide
 have e:lZ gS 0=true:=by
  show(fD (⟨#[105,100]⟩:ByteArray)&&_&&_&&_&&_)=true
  rw[b];decide
 have c1:lZ gS 1=true:=by
  show(fD (⟨#[110,97,109,101]⟩:ByteArray)&&_&&_&&_&&_)=true
  rw[c];decide
 unfold dK
 rw[d]
 show([0,1].all (lZ gS))=true
 simp only[uu,zf,e,c1,JD]
theorem HC:dM (2,1,0,eB,())=true:=by rw[H4];decide
theorem Dj:dM (5,0,0,⟨#[97]⟩,())=true:=by rw[H4];decide
theorem At:iW gj=true:=by
 unfold iW
 simp only[uu,zf,HC,Dj,JD]
theorem HB:im gS gj=0:=by
 unfold im
 rw[ak Di,ak (show List.length gj=gS.2.1.length from rfl),ak]
 have a:nY (⟨#[105,100]⟩,2,true,()) (2,1,0,eB,())=true:=by unfold nY;rw[HC];rfl
 have b:nY (⟨#[110,97,109,101]⟩,5,false,()) (5,0,0,⟨#[97]⟩,())=true:=by unfold nY;rw[Dj];rfl
 simp only[Bo,List.zip_nil_right,uu,zf,a,b,JD]
theorem aaE:gg pZ=true:=by rw[x7 rfl,Di];decide
theorem aaF:gg o5=true:=by
 have a:fD dF=true:=Dh [116] dE
 have b:lC gj 16=true:=by
  unfold lC
  have:=At
  unfold iW at this
  rw[this];decide
 have c:cA (0,9,())=true:=dE
 have d:lO jA jA=true:=by unfold lO;simp
 unfold gg
 rw[ai dE,ak (.inl rfl),ai dE,a,b,c,d];rfl
theorem On:gT tH=true:=by
 unfold gT
 simp only[uu,zf,aaE]
 decide
theorem Oo:gT tI=true:=by
 unfold gT
 simp only[uu,zf,aaF]
 decide
theorem VX:oy pZ:=⟨⟨sI,λv a=>by cases a⟩,by decide⟩
theorem Ot:dk gj:=⟨sI,λv a=>by
 simp only[nz,sU,BA]at a
 rcases a with rfl|rfl
 .exact⟨by decide,by decide,by decide⟩
 .exact⟨by decide,by decide,by decide⟩⟩
theorem VY:oy o5:=⟨Ot,by decide⟩
abbrev sg:dO:=⟨[(5,gS)],λ_=>none⟩
abbrev kM:b9:=⟨1,5,0,λy=>if y=dF then some sg else none⟩
theorem Hz:cb eQ tH=(0,kM):=by
 have b:kU eQ.seq eQ.time tH=0:=by
  unfold kU
  rw[On];decide
 have c:lI eQ.aJ 5 gS=(0,eH eQ.aJ dF (some sg)):=rfl
 have a:dS 5 (eQ.aJ,eD) [pZ]=(0,eH eQ.aJ dF (some sg),eD):=by
  have e:dY 5 (eQ.aJ,eD) pZ=(0,eH eQ.aJ dF (some sg),eD):=by
   unfold dY
   rw[ak rfl]
   rfl
  show(if(dY 5 (eQ.aJ,eD) pZ).1≠0 then dY 5 (eQ.aJ,eD) pZ else dS 5 (dY 5 (eQ.aJ,eD) pZ).2 [])=_
  rw[e];rfl
 unfold cb
 rw[ai (λh=>h b)]
 show(if(dS 5 (eQ.aJ,eD) [pZ]).1≠0 then _ else _)=_
 rw[ai (λh=>h (by rw[a]))]
 refine qx rfl ?_
 show(⟨1,5,0,mz 5 (dS 5 (eQ.aJ,eD) [pZ]).2.1 (dS 5 (eQ.aJ,eD) [pZ]).2.2⟩:b9)=kM
 rw[a]
 congr 1
 funext y
 unfold mz eH
 by_cases h:y=dF
 .simp only[ak h];rfl
 .simp only[ai h];rfl
abbrev mF:ByteArray:=B (keyOf [(2,1,0,eB,())])
abbrev sh:Vn:=(7,1099511627776,0,9,gj)
abbrev yw:dO:=⟨[(5,gS)],λk=>if k=mF then some [sh]else none⟩
abbrev k9:b9:=⟨2,7,0,λy=>if y=dF then some yw else none⟩
theorem Om:gR gS o5=(keyOf [(2,1,0,eB,())],0):=by
 have e:mY gS gj=[(2,1,0,eB,())]:=by unfold mY;rw[ak HB];rfl
 unfold gR
 rw[ai dE]
 show(keyOf (mY gS gj),im gS gj)=_
 rw[e,HB]
theorem aaJ:ma [] (0,9,()) gj=[(0,9,gj)]:=by
 have a:cA ((0,9,()):Sp)=true:=dE
 unfold ma
 rw[ak (by rw[a,At];rfl)]
 have e:gG [] (0,9,())=[]:=by unfold gG;rw[a];rfl
 rw[e];rfl
theorem Oq:eG 0 [(0,9,gj)]=true:=sy.2 ⟨λp a=>by
 rw[fE]at a;subst a
 exact⟨by decide,At,by decide⟩,sI⟩
theorem aaL:qi [] 7 [(0,9,gj)]=some [sh]:=by
 have b:m6 [] 7 [(0,9,gj)]=true:=by
  unfold m6
  rw[Oq];rfl
 have a:cK [] 1099511627775=[]:=rfl
 have c:oT [] [(0,9,gj)]=[(0,9,gj)]:=by
  unfold oT
  rw[a,Oq];rfl
 have d:n9 [] 7 [(0,9,gj)]=[sh]:=by
  unfold n9
  rw[c];rfl
 unfold qi
 rw[ak b,d];rfl
variable {at_:Int} {C:jc} {P:Pk} {B0:b9} {ids:List Nat} {o bb:Option Rc} {bd:List Rc} {r:Nat} {B1:b9} {Ps:List Pk} {n rp d T m v p q b0 bT:Nat} {s:Sl} {X:DX} {pk:pH} {E w:World} {L:List aK} {b:Nat} {Ls Ms:Sl} {hh mh sq tm:Int} {cs:Sl}
theorem V1 {st:m9} {T:dO} (a:C.1=1) (b:st.1 C.2.1=some T) (c:(gR (dv T) C).2=0):
  dY at_ st C=(0,st.1,qm st.2 (C.2.1,B (gR (dv T) C).1) (ma (lM st T (C.2.1,B (gR (dv T) C).1)) (C.2.2.2.1,C.2.2.2.2.1,()) C.2.2.1)):=by
 unfold dY
 rw[ai om,b]
 simp only
 rw[ai (λh=>h c),ak a]
theorem HA:cb kM tI=(0,k9):=by
 have g:kU kM.seq kM.time tI=0:=by
  unfold kU
  rw[Oo];decide
 have b:kM.aJ dF=some sg:=by show(if dF=dF then some sg else none)=_;rw[ak rfl]
 have a:dv sg=gS:=rfl
 have c:lM (kM.aJ,eD) sg (dF,mF)=[]:=rfl
 have f:dS 7 (kM.aJ,eD) [o5]=(0,kM.aJ,qm eD (dF,mF) [(0,9,gj)]):=by
  have e:dY 7 (kM.aJ,eD) o5=(0,kM.aJ,qm eD (dF,mF) [(0,9,gj)]):=by
   have:=V1 (at_:=7) (st:=(kM.aJ,eD)) (C:=o5) (T:=sg) rfl b (by rw[a,Om])
   rw[a,Om]at this
   rw[this]
   show(0,kM.aJ,qm eD (dF,mF) (ma (lM (kM.aJ,eD) sg (dF,mF)) (0,9,()) gj))=_
   rw[c,aaJ]
  show(if(dY 7 (kM.aJ,eD) o5).1≠0 then dY 7 (kM.aJ,eD) o5 else dS 7 (dY 7 (kM.aJ,eD) o5).2 [])=_
  rw[e];rfl
 unfold cb
 rw[ai (λh=>h g)]
 show(if(dS 7 (kM.aJ,eD) [o5]).1≠0 then _ else _)=_
 rw[ai (λh=>h (by rw[f]))]
 refine qx rfl ?_
 show(⟨2,7,0,mz 7 (dS 7 (kM.aJ,eD) [o5]).2.1 (dS 7 (kM.aJ,eD) [o5]).2.2⟩:b9)=k9
 rw[f]
 congr 1
 funext y
 unfold mz
 simp only
 by_cases h:y=dF
 .subst h
  rw[ak rfl,ak rfl]
  show some _=some _
  congr 1
  show(⟨[(5,gS)],_⟩:dO)=⟨[(5,gS)],_⟩
  congr 1
  funext k
  unfold qm
  by_cases d:k=mF
  .subst d
   simp only[ak]
   exact aaL
  .have:¬((dF,k)=(dF,mF)):=λe=>d (Prod.ext_iff.1 e).2
   simp only[ai this,ai d]
   rfl
 .rw[ai h,ai h];rfl
theorem aaG:kG k9 dF 7=0:=by
 have e:cC k9 dF 7=(0,gS):=by
  unfold cC
  rw[ai dE]
  have a:k9.aJ dF=some yw:=by show(if dF=dF then some yw else none)=_;rw[ak rfl]
  rw[a]
  rfl
 unfold kG
 rw[e];rfl
theorem Ol:kG k9 dF 8=16:=by
 have e:cC k9 dF 8=(16,jA):=by
  unfold cC
  rw[ak dE];rfl
 unfold kG
 rw[e];rfl
theorem aaK:iX k9 dF 7=[(mF,0,0,0,9,gj)]:=by
 have a:k9.aJ dF=some yw:=by show(if dF=dF then some yw else none)=_;rw[ak rfl]
 have d:jd [mF] yw.keys:=by
  refine⟨by unfold lU;simp,λy=>?_⟩
  show y∈[mF]↔(if y=mF then some [sh]else none).isSome=true
  by_cases h:y=mF
  .rw[ak h,h];simp
  .rw[ai h];simp[h]
 have f:cC k9 dF 7=(0,gS):=by
  unfold cC
  rw[ai dE,a]
  rfl
 have g:pY k9 dF mF=[sh]:=by
  unfold pY
  rw[a]
  show((if mF=mF then some [sh]else none).getD [])=_
  rw[ak rfl];rfl
 have b:gL [sh]=true:=uj.2 ⟨λv b=>by
  rw[fE]at b;subst b
  exact⟨by decide,by decide,At⟩,sI,sI⟩
 have i:cK [sh] 7=[(0,9,gj)]:=by
  unfold cK
  rw[ak b]
  have e:([sh].filter λv=>ey (iL v) 7)=[sh]:=by
   rw[jr,ak dE];rfl
  rw[e];rfl
 have j:gy gS gj=gj:=by
  rw[Ea (MS HB)];rfl
 have c:ie k9 dF mF 7=[(0,9,gj)]:=by
  unfold ie
  rw[g,i,f]
  show[kR (gy gS) (0,9,gj)]=_
  unfold kR
  rw[j]
 unfold iX
 rw[a]
 simp only
 rw[<-d.eq]
 simp only[fc,xB,iO,c]
 rfl
theorem aaH:(cZ tH).length<=392:=by
 have i:aH 1=[1]:=QZ dE
 have j:(gm gS).length<=200:=by
  unfold gm
  rw[ak Di]
  have a:=oe (l:=cY dF) dE
  have b:=cD (n:=(1:Int).toNat) dE
  have c:=cD (n:=gS.2.1.length) dE
  have d:(gS.2.1.flatMap ij).length<=62*2:=lB (f:=ij) (m:=62) (l:=gS.2.1) λc g=>by
   have:=xh Di g
   exact zN this.1 this.2.1 this.2.2
  have e:(cY dF).length=1:=rfl
  simp only[aU]
  show(cz (cY dF)).length+(aH (1:Int).toNat).length+(aH gS.2.1.length).length+(gS.2.1.flatMap ij).length<=200
  omega
 have a:=oe (l:=gm gS) om
 have k:=cD (n:=1) dE
 have o:=cD (n:=3) dE
 have p:=cD (n:=5) dE
 have e:cZ tH=aH 1++aH 5++aH 1++((aH 3++cz (gm gS))++[]):=rfl
 rw[e]
 simp only[aU,mO]
 omega
theorem aaI:(cZ tI).length<=392:=by
 have c:=cD (n:=0) dE
 have d:=cD (n:=1) dE
 have f:=cD (n:=2) dE
 have g:=cD (n:=7) dE
 have i:=cD (n:=9) dE
 have a:=oe (l:=cY dF) dE
 have j:(cY dF).length=1:=rfl
 have k:(jD gj).length<=100:=by
  have b:gj.all dM=true:=At
  have m:(fP (2,1,0,eB,())).length<=11:=by
   unfold fP
   rw[ak HC,ai dE,ak rfl,db]
   have:=cD (n:=zz 1) dE
   show(aH (zz 1)).length+1<=11
   omega
  have o:(fP (5,0,0,⟨#[97]⟩,())).length<=20:=by
   unfold fP
   rw[ak Dj,ai dE,ai dE,ai dE,ak (.inr rfl),db]
   have:=oe (l:=([97]:List UInt8)) dE
   show(cz [97]).length+1<=20
   have e:([97]:List UInt8).length=1:=rfl
   omega
  unfold jD
  rw[ak b]
  have e:aH gj.length++gj.flatMap fP=aH 2++(fP (2,1,0,eB,())++(fP (5,0,0,⟨#[97]⟩,())++[])):=rfl
  rw[e]
  simp only[aU,mO]
  omega
 have e:cZ tI=aH 2++aH 7++aH 1++((aH 1++cz (cY dF)++jD gj++aH 0++aH 9)++[]):=rfl
 rw[e]
 simp only[aU,mO]
 omega
theorem Kb (P:Pk):cZ P≠[]:=by
 have h:aH P.1.toNat≠[]:=by
  unfold aH
  split<;>simp
 intro e
 unfold cZ at e
 have:=List.append_eq_nil_iff.1 (List.append_eq_nil_iff.1 (List.append_eq_nil_iff.1 e).1).1
 exact h this.1
theorem Ke (b:gT P=true) (f:(cZ P).length<=392) (g:D9 P<=500):bytesOf P≠[]:=by
 have c:fv P=cZ P:=by unfold fv;rw[ak b,ai om]
 have d:wG P=l5 (cZ P):=by unfold wG;rw[c,ai (Kb P)]
 have a:=zU (cZ P)
 unfold bytesOf
 rw[ai om,d,ai om]
 intro e
 rw[e]at a
 simp at a
theorem aaC:bytesOf tH≠[]:=Ke On aaH dE
theorem aaD:bytesOf tI≠[]:=Ke Oo aaI dE
attribute [local irreducible] aT jC gk dV kO dg hex iT jk ae aj bG aN bq fL az
abbrev nJ (o a:Option Rc) (bd:List Rc):List Rc:=o.toList++(a.toList++bd)
def nH (E w:World) (G:bh) (rp d T m:Nat) (B0:b9) (L:List aK):Prop:=
 ∃u i v p q b id s a c e X g j f o k l r n t,X.fu=false/\g<=T/\X.c=[]/\Clean X.S g j (cU X)/\lV (cU X) o k l r id f n t B0/\jm G s f/\(fp (nJ o k l)).length<=m/\
  ab E w (ae G::bE rp (some ⟨u,0,none⟩) d 120::cS u i v::cX i v ⟨#[]⟩ false a c e::bf v p q b id s false::bm q p::aj d X::aN p d g j (λ_=>none)::az G b B0::L)
theorem apply_seq (h:(cb B0 P).1=0):(cb B0 P).2.seq=B0.seq+1/\P.1=B0.seq+1:=by
 unfold cb at h⊢
 by_cases a:kU B0.seq B0.time P≠0
 .rw[ak a]at h;exact absurd h a
 rw[ai a]at h⊢
 by_cases b:(dS P.2.1 (B0.aJ,eD) P.2.2).1≠0
 .rw[ak b]at h;exact absurd h b
 rw[ai b]
 have a:kU B0.seq B0.time P=0:=Classical.not_not.1 a
 unfold kU at a
 split at a
 .split at a
  .cases a
  split at a
  .cases a
  exact⟨by simp only;omega,om⟩
 .cases a
theorem Px:∀{Ps:List Pk} {a b:b9},s6 a Ps b->b.seq=a.seq+Ps.length
 |[],a,b,h=>by cases h;simp
 |P::Ps,a,b,h=>by
  obtain⟨c,d⟩:=h
  rw[Px d,(apply_seq c.z).1,db]
  omega
theorem Pp:∀(a:List Rc),(∀x∈a,x.1.length<=1)->(fp a).length<=a.length
 |[],_=>cV _
 |x::l,h=>by
  have c:=Pp l λy b=>h y (dH _ b)
  have d:=h x eo
  rw[show fp (x::l)=x.1++fp l from rfl,aU,db]
  omega
theorem W4:(gh eQ).length<=40:=by
 have e:ir eQ.aJ=[]:=(jd.eq (f:=eQ.aJ) (l:=[]) ⟨by unfold lU;simp,λy=>by simp[eQ]⟩).symm
 unfold gh
 rw[e]
 have a:=cD (n:=0) dE
 unfold te cM
 show(aH 0++(aH 0++(aH 0++aH 0))++[]).length<=40
 simp only[aU,mO]
 omega
theorem P2 {id:Nat} (g:id<180) (d:∀n∈ids,n<180):(iw id ids).length<=20+10*ids.length\/18446744073709551616<=ids.length:=by
 by_cases e:ids.length<18446744073709551616
 .left
  have a:=cD (n:=id) om
  have b:=cD (n:=ids.length) e
  have c:=CG (ids:=ids) λn f=>by have:=d n f;omega
  unfold iw
  simp only[aU]
  omega
 .right;omega
theorem aa2 {P:iF} {id:Nat} (h:lV P o bb bd r id ids B1 Ps eQ):(fp (nJ o bb bd)).length<=2:=by
 have l:=Px h.pl
 have C:0<=B1.seq:=by
  rcases h.bo with⟨_,rfl⟩|⟨x,_,_,p⟩
  .decide
  .exact p.d.sq.1
 have m:eQ.seq=0:=rfl
 have g:Ps=[]:=R6 om
 subst g
 have i:eQ=B1:=h.pl
 have j:bd=[]:=by
  have:=h.bs
  simpa using this
 subst j
 have b:ids=[]:=h.v.ids
 subst b
 have c:∀x∈nJ o bb [],x.1.length<=1:=λx a=>by
  have t:=(h.v.hp.ch x a).len
  have D:x.2.length<=100:=by
   unfold nJ at a
   rcases List.mem_append.1 a with a|a
   .have u:o=some x:=by cases o<;>simp_all
    rw[h.v.ov x u]
    rcases P2 h.v.Aq (ids:=[]) (λn z=>by cases z)with k|k
    .simp only[mO]at k;omega
    .simp at k
   .rw[iO]at a
    have f:bb=some x:=by cases bb<;>simp_all
    rcases h.bo with⟨e,_⟩|⟨y,e,A,_⟩
    .rw[e]at f;cases f
    .rw[e]at f
     cases f
     rw[A,<-i]
     have:=W4
     omega
  rw[t]
  unfold eI
  omega
 have H:=Pp _ c
 have I:(nJ o bb []).length<=2:=by
  unfold nJ
  cases o<;>cases bb<;>simp
 omega
theorem OW {k:Nat} (h:n<=125*k) (a:1<=k):eI n<=k:=by unfold eI;omega
theorem agR (c:fh) (a:∀n x,c n=some x->n<180/\x.length=128) (hc:dm c<=60):¬118<kP (cO c):=by
 have d:=Gv a (List.range 180)
 have b:=cD (n:=dm c) om
 have e:(cO c).length<=10+150*dm c:=by unfold cO;rw[aU];unfold dm at b⊢;omega
 unfold kP;omega
variable {L' M:List aK} {F G:bh}
theorem nH.a (h:nH E w F rp d T m B0 L):de E w F rp d false T false B0 L:=by
 obtain⟨u,g,v,p,q,b,id,s,a,c,e,X,i,j,f,o,k,l,r,n,t,x,y,z,A,C,D,H,h⟩:=h
 exact⟨u,g,v,p,q,b,id,s,a,c,e,X,i,j,x,y,⟨z,A,f,o,k,l,r,n,t,C,D⟩,h⟩
theorem de.k (h:de E w F rp d false T false eQ L):nH E w F rp d T 2 eQ L:=by
 obtain⟨u,m,v,p,q,b,id,s,a,c,e,X,n,t,f,g,i,h⟩:=h
 obtain⟨j,o,x,y,r,z,A,l,C⟩:=i.ex
 exact⟨u,m,v,p,q,b,id,s,a,c,e,X,n,t,j,o,x,y,r,z,A,f,g,i.c,i.cl,l,C,aa2 l,h⟩
theorem UD {id:Nat} {k:Int->Pr}
  (h:ab E w (ae F::bf v p q b0 id s false::bm q p::aj d X::aN p d T bT (λ_=>none)::az F b0 B0::L)) (H:X.fu=false) (hX:X.c=[]) (iH:Clean X.S T bT (cU X)) (hT:T<=900000)
  (i:lV (cU X) o bb bd r id ids B1 Ps B0) (hs:jm F s ids) (hm:(fp (nJ o bb bd)).length<=m) (hm2:m<=30) (hp:je F pk P) (I:kt P) (hZ:dN B0.aJ) (hC:rH B0 P) (ha:(cb B0 P).1=0) (hR:gT P=true) (hl:(cZ P).length<=400)
  (pU:∀G Y J j Q R o' K r' a Sr w',F.le G->Y.fu=false->Y.c=[]->J<=T+1->Clean Y.S J j (cU Y)->lV (cU Y) o' bb K r' id a B1 Sr (cb B0 P).2->jm G Q a->(fp (nJ o' bb K)).length<=m+8->
    ab E w' (ae G::bf v p q R id Q false::bm q p::aj d Y::aN p d J j (λ_=>none)::az G R (cb B0 P).2::L)->k 0 w'):
  CL 231 #[.pointer (some ⟨v,0,none⟩),ag av pk] ah k w:=by
 have hb:fv P=cZ P:=by unfold fv;rw[ak hR,ai om]
 have Yo:fv P≠[]:=by rw[hb];exact Kb P
 have hnb:eI (cZ P).length<=4:=OW om om
 have Nr:ids.length=bd.length:=by rw[i.v.ids,bW]
 have jl:(o.toList++(bb.toList++bd)).length<=(fp (nJ o bb bd)).length:=HS _ i.v.hp.ch
 have hlb:bd.length<=m:=by
  rw[aU,aU]at jl
  omega
 have X8:BN B0 P:=⟨hC,I,hR,om,ha⟩
 have f:∀{l:Nat} {a:List Nat},l<180->(∀n∈a,n<180)->a.length<=31->eI (iw l a).length<=4:=λ{l a} C U h3=>by
  rcases P2 C U with V|V
  .exact OW om om
  .omega
 have g:∀(o:Option Rc) (bd:List Rc),(fp (nJ o bb bd)).length=(fp o.toList).length+((fp bb.toList).length+(fp bd).length):=λo bd=>by
  show((o.toList++(bb.toList++bd)).flatMap (·.1)).length=_
  rw[gM,gM,aU,aU]
 have u:∀(b:List Nat) (x:bc),(fp (bd++[(b,x)])).length=(fp bd).length+b.length:=λb x=>by
  show((bd++[(b,x)]).flatMap (·.1)).length=_
  rw[gM,aU]
  simp
 have YY:=hm
 rw[g]at YY
 refine K6 h hX iH hT i.v hs om hp I hZ hC (λG e w he y W h=>?_) (λG w h0 N y W h=>?_) (λG Y J j Q b t R w h0 N W C U h3 V h5 Z h=>?_) (λG Y P' b t w h0 N W C U h3 V h=>?_)
 .rcases y with⟨y,_⟩|⟨_,y,_⟩
  .exact absurd ha y
  .exact absurd y Yo
 .exfalso
  rcases y with y|⟨c',l,a,rest,z,⟨rfl,b,rfl,rfl⟩,Ae,r8,hq⟩
  .have:=M6 i.v.hp
   unfold nJ at hm
   omega
  .have hx:=z.head (x:=(b,cZ P)) sI
   have vm:=(z.ch (b,cZ P) sI).len
   have A:∀n∈ids++[b.getD 0 0],n<180:=λn D=>by
    rcases List.mem_append.1 D with D|D
    .exact i.v.De n D
    .rw[fE]at D;rw[D];exact hx.2
   have ZC:=f i.v.Aq A (by rw[aU,m8];omega)
   rcases hq with hq|⟨c2,hc2,N9,O⟩
   .have:=M6 z
    have e:=g o (bd++[(b,cZ P)])
    rw[u]at e
    unfold nJ at e
    simp only at vm
    omega
   .exact agR c2 N9 om O
 .have Dd:=(Z.hp.ch (b,cZ P) sI).len
  have hx2:=(Z.hp.ch (t,iw id (ids++[b.getD 0 0])) sI).len
  have ZC:=f i.v.Aq Z.De (by rw[aU,m8];omega)
  simp only at Dd hx2
  refine pU G Y J j Q R _ _ _ _ (Ps++[P]) w W (C.trans H) U h3 V ⟨Z,by simp;omega,i.bo,by rw[fe,fe,i.bs];rfl,i.pl.snoc X8⟩ h5 ?_ h
  rw[g,u]
  have e:(fp (some (t,iw id (ids++[b.getD 0 0]))).toList).length=t.length:=by simp[fp]
  rw[e]
  omega
 .rw[H]at C;cases C
theorem Dy:Open E λw F L=>nH E w F rp d T m B0 L:=by
 intro w F L l
 obtain⟨u,f,v,p,q,b,id,s,a,c,e,X,g,i,j,o,n,t,r,x,y,z,C,D,H,I,J,K,h⟩:=l
 refine⟨bE rp (some ⟨u,0,none⟩) d 120::cS u f v::cX f v ⟨#[]⟩ false a c e::bf v p q b id s false::bm q p::aj d X::aN p d g i (λ_=>none)::az F b B0::[],?_,λG N L' k h=>?_⟩
 .have h:ab E w ((bE rp (some ⟨u,0,none⟩) d 120::cS u f v::cX f v ⟨#[]⟩ false a c e::bf v p q b id s false::bm q p::aj d X::aN p d g i (λ_=>none)::az F b B0::[])++(L++[ae F])):=h.sub (xo (ae F) (_::_::_::_::_::_::_::_::L))
  have h:=uB _ _ h
  rw[cP]at h
  exact h.sub (.take (eF.Pu (ae F) L _) (sub_self _))
 .have h:ab E N ((ae G::L')++(bE rp (some ⟨u,0,none⟩) d 120::cS u f v::cX f v ⟨#[]⟩ false a c e::bf v p q b id s false::bm q p::aj d X::aN p d g i (λ_=>none)::az F b B0::[])):=h
  have h:=uB _ _ h
  have h:=jG (h.pick (A:=az F b B0) pK) k
  exact⟨u,f,v,p,q,b,id,s,a,c,e,X,g,i,j,o,n,t,r,x,y,z,C,D,H,I,J.up k,K,h.sub sS⟩
theorem upK {k:Bool->Pr} (h:nH E w F rp d T m B0 L) (i:∀g,nH E g F rp d T m B0 L->k true g):CL 22 #[.pointer (some ⟨rp,0,none⟩)] aw k w:=by
 obtain⟨u,j,v,p,q,b,id,s,a,c,e,X,l,n,f,o,t,x,r,y,z,C,D,H,I,J,K,N,h⟩:=h
 refine zF (h.pick (A:=bE rp (some ⟨u,0,none⟩) d 120) pK) λw h=>?_
 exact i w ⟨u,j,v,p,q,b,id,s,a,c,e,X,l,n,f,o,t,x,r,y,z,C,D,H,I,J,K,N,h.sub sS⟩
theorem W3 {k:Sl->Pr} (h:nH E w F rp d T m B0 L) (j:∀i,nH E i F rp d T m B0 L->k au i):CL 53 #[.pointer (some ⟨rp,0,none⟩),.string ⟨#[]⟩] aE k w:=by
 obtain⟨u,f,v,p,q,b,id,s,a,c,e,X,l,n,g,o,t,x,r,y,z,C,D,H,I,J,K,N,h⟩:=h
 refine xU (h.bF (A1:=bE rp (some ⟨u,0,none⟩) d 120) (A2:=cS u f v) pK pK) λw h=>?_
 refine Fq (h.pick (A:=cX f v ⟨#[]⟩ false a c e) pK) λw h=>?_
 exact j w ⟨u,f,v,p,q,b,id,s,a,c,e,X,l,n,g,o,t,x,r,y,z,C,D,H,I,J,K,N,h.sub sS⟩
theorem Wz {k:Sl->Pr} (h:nH E w F rp d T m B0 L) (hT:T<=900000) (hm:m<=30) (hO:kt P) (V:gT P=true) (hl:(cZ P).length<=400) (hZ:dN B0.aJ) (hC:rH B0 P) (ha:(cb B0 P).1=0)
  (hk:∀G s w',F.le G->s.len=1->nH E w' G rp d (T+1) (m+8) (cb B0 P).2 (OS 136 aC s [(P.1,0,())]::L)->k s w'):
  CL 53 #[.pointer (some ⟨rp,0,none⟩),.string (B (l5 (cZ P)))] aE k w:=by
 have akf:=(apply_seq ha).2
 obtain⟨u,sk,v,p,q,b,id,s,a,c,e,X,I,W,ids,o,Q,bd,r,Z,Ps,h1,h2,h3,h4,h5,h6,h7,h⟩:=h
 refine xU (h.bF (A1:=bE rp (some ⟨u,0,none⟩) d 120) (A2:=cS u sk v) pK pK) λw h=>?_
 refine Fp (sk:=sk) (v:=v) (z:=false) (a:=a) (c:=c) (e:=e) (b:=cZ P)
  (M:=ae F::bf v p q b id s false::az F b B0::bm q p::aj d X::aN p d I W (λ_=>none)::bE rp (some ⟨u,0,none⟩) d 120::cS u sk v::L)
  (R:=λx C J O D=>∃(G:bh) (Y:DX) (l g:Nat) (y:Sl) (n:Nat) (A:Option Rc) (i:List Rc) (H:Nat) (f:List Nat) (j:List Pk),F.le G/\x=(P.1,0,())/\C=false/\Y.fu=false/\Y.c=[]/\l<=I+1/\Clean Y.S l g (cU Y)/\lV (cU Y) A Q i H id f Z j (cb B0 P).2/\jm G y f/\(fp (nJ A Q i)).length<=m+8/\
    D=ae G::bf v p q n id y false::bm q p::aj d Y::aN p d l g (λ_=>none)::az G n (cb B0 P).2::bE rp (some ⟨u,0,none⟩) d 120::cS u sk v::L)
  (h.sub sS) om (λN w K h hK=>?_) (λx C J O e' D s1 w V XJ h=>?_)
 .refine Fv (F:=F) (p:=p) (q:=q) (b0:=b) (id:=id) (s:=s) (bl:=false) (L:=bm q p::aj d X::aN p d I W (λ_=>none)::bE rp (some ⟨u,0,none⟩) d 120::cS u sk v::(L++N))
     (R:=λe1 M1=>e1=0/\∃C J O D,(∃(G:bh) (Y:DX) (l g:Nat) (y:Sl) (n:Nat) (A:Option Rc) (i:List Rc) (H:Nat) (f:List Nat) (j:List Pk),F.le G/\((P.1,0,()):Int×Int×Unit)=(P.1,0,())/\C=false/\Y.fu=false/\Y.c=[]/\l<=I+1/\Clean Y.S l g (cU Y)/\lV (cU Y) A Q i H id f Z j (cb B0 P).2/\jm G y f/\(fp (nJ A Q i)).length<=m+8/\
       D=ae G::bf v p q n id y false::bm q p::aj d Y::aN p d l g (λ_=>none)::az G n (cb B0 P).2::bE rp (some ⟨u,0,none⟩) d 120::cS u sk v::L)/\M1=cX sk v ⟨#[]⟩ C J O e::(D++N))
     (h.sub sS) hO V om hZ (λhle G w U h=>?_) (λdy G pk N2 K2 w U C6 h XX=>?_) (λdy e1 M1 w hr h=>?_)
  .omega
  .have h:ab E w (ae G::cX sk v ⟨#[]⟩ false a c e::bf v p q b id s false::az G b B0::bm q p::aj d X::aN p d I W (λ_=>none)::bE rp (some ⟨u,0,none⟩) d 120::cS u sk v::(L++N++N2)):=h
   refine DH ?_
   refine bx h λt3 w h=>?_
   refine aq ?_
   refine ld (t:=4) (x:=false) (b:=sk) (off:=2) h ?_
   refine ar rfl ?_
   refine dr h λw h=>?_
   refine aq ?_
   refine ld (t:=90) (x:=some ⟨v,0,none⟩) (b:=sk) (off:=0) h ?_
   refine bN (t:=68) (ls:=av) (x:=pk) (b:=t3) h ?_
   have h:ab E w (ae G::bf v p q b id s false::bm q p::aj d X::aN p d I W (λ_=>none)::az G b B0::cX sk v ⟨#[]⟩ false a c e::bE rp (some ⟨u,0,none⟩) d 120::cS u sk v::(L++N++N2)):=h.sub sS
   refine UD h h1 h3 h4 om h5 (h6.up U) h7 hm C6 hO hZ hC ha V hl λG2 Y l g y n A i H f j w nX g1 g2 g3 g4 g5 g6 g7 h=>?_
   refine aR rfl ?_
   refine aq ?_
   refine ld (t:=3) (x:=a) (b:=sk) (off:=3) h ?_
   refine aq ?_
   refine st (t:=3) (b:=sk) (off:=3) h λw h=>?_
   exact XX 0 _ w ⟨rfl,false,w6 (a+1),c,_,⟨G2,Y,l,g,y,n,A,i,H,f,j,U.trans nX,rfl,rfl,g1,g2,g3,g4,g5,g6,g7,rfl⟩,rfl⟩ (h.sub (M:=cX sk v ⟨#[]⟩ false (w6 (a+1)) c e::ae G2::bf v p q n id y false::bm q p::aj d Y::aN p d l g (λ_=>none)::az G2 n (cb B0 P).2::bE rp (some ⟨u,0,none⟩) d 120::cS u sk v::(L++N++N2)) sS)
  .obtain⟨Yy,C,J,O,D,hr,hM⟩:=hr
   rw[hM]at h
   rw[Yy]
   exact hK (P.1,0,()) C J O D w hr h
 .obtain⟨G,Y,l,g,y,n,A,i,H,f,j,U,rfl,rfl,g1,g2,g3,g4,g5,g6,g7,rfl⟩:=V
  exact hk G s1 w U XJ ⟨u,sk,v,p,q,n,id,y,J,O,e',Y,l,g,f,A,Q,i,H,Z,j,g1,om,g2,g4,g5,g6,g7,h.sub sS⟩
theorem FO {k:v7->Pr} (h:ab E w (ae F::L)) (e:∀G c a,F.le G->nE G c pZ->ab E a (ae G::L)->k c a):CL 27 #[.string dF,.bool false] (ya bP) k w:=by
 refine aeW ?_
 refine al h λf w h=>?_
 refine B9 (ls:=dj) (y:=(⟨#[105,100]⟩,2,true,())) (z:=(⟨#[110,97,109,101]⟩,5,false,())) h λs w _ h=>?_
 refine al h λd w h=>?_
 refine bU (t:=63) (b:=d) (vs:=ay aD (dF,s,1,())) h (λw h=>?_)
 refine aL ?_
 refine ar rfl ?_
 refine ao λ_=>?_
 refine bN (t:=63) (ls:=aD) (x:=(dF,s,1,())) (b:=d) h ?_
 refine bU (t:=65) (b:=f) (vs:=ay bP (3,dF,au,0,0,dF,s,1,())) h (λw h=>?_)
 refine pf (ls:=bP) (x:=(3,dF,au,0,0,dF,s,1,())) h ?_
 obtain⟨G,g,h,i⟩:=dT (T:=61) (ls:=dj) (s:=s) (F:=F) h
 exact e G _ w g ⟨rfl,rfl,.nil,rfl,rfl,⟨rfl,i,rfl⟩⟩ (h.sub sS)
theorem FZ {k:ByteArray->Pr} (h:ab E w L) (b:∀a,ab E a L->k (B [97]) a):CL 65 #[i8 97] an k w:=by
 refine agh ?_
 refine aL ?_
 refine ar rfl ?_
 refine ao λ_=>?_
 refine ar rfl ?_
 refine aL ?_
 refine ar rfl ?_
 refine ao λ_=>?_
 refine ar rfl ?_
 refine bJ (ls:=dW) (y:=(97,())) h λt w _ h=>?_
 refine oU (l:=[97]) h pK ?_
 exact b w h.drop
theorem zG {k:ByteArray->Pr} (h:ab E w L) (g:∀f,ab E f L->k (B [34,97,34]) f):CL 28 #[ag aP (5,0,0,⟨#[97]⟩,())] an k w:=by
 refine ae6 ?_
 refine bx h λe w h=>?_
 refine bN (t:=27) (ls:=aP) (x:=(5,0,0,⟨#[97]⟩,())) (b:=e) h ?_
 refine rR h (λw h=>?_) dE
 rw[Dj]
 refine ar rfl ?_
 refine ld (t:=3) (x:=(5:Int)) (b:=e) (off:=0) h ?_
 refine ar rfl ?_
 refine ar rfl ?_
 refine ar rfl ?_
 refine ar rfl ?_
 refine aL ?_
 refine ld (t:=3) (x:=(5:Int)) (b:=e) (off:=0) h ?_
 refine aR rfl ?_
 refine ao λ_=>?_
 refine ld (t:=9) (x:=(⟨#[97]⟩:ByteArray)) (b:=e) (off:=3) h ?_
 refine xY (l:=[97]) h λt w h=>?_
 have c:t.len=1:=by obtain⟨b,pre,d,j,n,m,_⟩:=h.out;exact m
 refine uA 1 ?_
 refine ao λ_=>?_
 refine aR (by rw[c];rfl) ?_
 refine h.ix (i:=0) dE ?_
 obtain⟨b,pre,d,j,o,r,u,p,v,y,z,h⟩:=h.out
 refine lH (FZ h λw h=>?_)
 refine cc (a:=[34]) (b:=[97]) dE ?_
 refine ao λ_=>?_
 refine ar (by rw[c];rfl) ?_
 refine cc (a:=[34,97]) (b:=[34]) dE ?_
 exact g w h.drop.drop
theorem Xr (h:ab E w L):ab E w (ae (λ_=>none)::L):=by with_unfolding_all exact h.Gm
theorem J0:fX 1 kM:=by
 have h:=Fj.apply (P:=tH) ⟨by decide,λC a=>by rw[fE]at a;rw[a];exact VX⟩ (by rw[Hz])
 rw[Hz]at h
 exact h.1
theorem Fi:fX 2 k9:=by
 have h:=J0.apply (P:=tI) ⟨by decide,λC a=>by rw[fE]at a;rw[a];exact VY⟩ (by rw[HA])
 rw[HA]at h
 exact h.1
theorem aca:pI tH:=⟨by decide,λC a=>by
 rw[fE]at a;subst a
 refine⟨by decide,λv d=>(by cases d),by decide,by decide,λc b=>?_⟩
 simp only[nz,sU,BA]at b
 rcases b with rfl|rfl<;>decide⟩
theorem acb:pI tI:=⟨by decide,λC a=>by
 rw[fE]at a;subst a
 exact⟨by decide,Ot.wv,by decide,by decide,λc b=>by cases b⟩⟩
theorem QK {k:Bool->Pr} (h:nH E w F rp d T m B0 (bk b rp Ls Ms hh mh::L)) (N:T<=800000) (hm:m<=30) (t:fX n B0) (u:B0.seq=n) (hn:n<=20) (D:gO F Ls n) (H:gO F Ms 0)
  (I:je F (sq,tm,cs,()) P) (v:pI P) (p:bytesOf P≠[]) (ha:cb B0 P=(0,B1))
  (f:∀G a c x,F.le G->gO G a (n+1)->gO G c 0->nH E x G rp d (T+1) (m+8) B1 (bk b rp a c hh mh::L)->k true x):
  CL 21 #[.pointer (some ⟨b,0,none⟩),ag Y0 (iV 0 sq tm cs eB 0 au 0 eB au 0 0 0 0 au au 0 false)] aw k w:=by
 obtain⟨y,O,J,R,U⟩:=Fm p
 have i:=v.Dx y
 have A:(cb B0 P).1=0:=by rw[ha]
 have V:=(apply_seq A).2
 refine It (S:=λw F L=>nH E w F rp d T m B0 L) (Q:=λe C=>e=0/\C=λw F L=>nH E w F rp d (T+1) (m+8) B1 L) (m:=0)
  Dy h I v D H om (λw L k h f=>upK h f) (λw L k h f=>W3 h f) (λp w L k h f=>?_) (λe=>absurd e p) (λp G e C w a c r _ K j l h=>?_)
 .rw[J]
  refine Wz h om hm i y om (t.z om) (t.ap om i) A λG s w r o h=>?_
  rw[ha]at h
  exact f G s 0 w _ r Dy ⟨rfl,rfl⟩ o h
 .obtain⟨rfl,rfl⟩:=K
  have g:m0 n P.1 0=true/\mZ n P.1 0=n+1/\lJ n 0 P.1 0=0:=by
   unfold m0 mZ lJ
   rw[ak ⟨rfl,om⟩,ak ⟨rfl,om⟩,ai (λh=>by have:=h.1;omega)]
   exact⟨eu om,rfl,rfl⟩
  rw[g.1]
  rw[g.2.1]at j
  rw[g.2.2]at l
  exact f G a c w r j l h
theorem c8 {k:Bool->Pr} (h:ab E w L) (O:∀w',ab E w' L->k true w'):CL 8 #[] aw k w:=by
 have h:=Xr h
 refine rd8 ?_
 refine KT h λG b rp d w hG h=>?_
 refine dw (x:=false) kK ?_
 refine ar rfl ?_
 have h:=de.k h
 obtain⟨A,h,f⟩:=Dy _ _ _ h
 have h:ab E w (ae G::bk b rp au au 0 0::(L++A)):=h
 refine B9 (T:=28) (ls:=aP) (y:=(2,1,0,eB,())) (z:=(5,0,0,⟨#[97]⟩,())) h λP w _ h=>?_
 obtain⟨G1,R,h,v⟩:=dT (T:=28) (ls:=aP) (s:=P) (F:=G) h
 refine FO h λG2 c w C hc h=>?_
 refine bJ (T:=66) (ls:=bP) (y:=c) h λs1 w _ h=>?_
 obtain⟨G3,p,h,U⟩:=dT (T:=66) (ls:=bP) (s:=s1) (F:=G2) h
 have V:je G3 (1,5,s1,()) tH:=⟨rfl,rfl,⟨[c],U,.one (hc.up p)⟩⟩
 have h:=f G3 w (bk b rp au au 0 0::L) ((R.trans C).trans p) h
 refine QK (n:=0) h om om Fj rfl om BE BE V aca aaC Hz λG4 L1 M1 w W X Y h=>?_
 obtain⟨A,h,f⟩:=Dy _ _ _ h
 have h:ab E w (ae G4::bk b rp L1 M1 0 0::(L++A)):=h
 refine bJ (T:=66) (ls:=bP) (y:=(1,dF,P,0,9,eB,au,0,())) h λs2 w _ h=>?_
 obtain⟨G5,g,h,Z⟩:=dT (T:=66) (ls:=bP) (s:=s2) (F:=G4) h
 have D:=((C.trans p).trans W).trans g
 have C5:je G5 (2,7,s2,()) tI:=⟨rfl,rfl,⟨[(1,dF,P,0,9,eB,au,0,())],Z,.one ⟨rfl,rfl,v.up D,rfl,rfl,⟨rfl,.nil,rfl⟩⟩⟩⟩
 have h:=f G5 w (bk b rp L1 M1 0 0::L) g h
 refine QK (n:=1) h om om J0 rfl om (X.up g) (Y.up g) C5 acb aaD HA λG6 L2 M2 w hG6 XY X0 h=>?_
 have h:=h.a
 obtain⟨M,h,f⟩:=xH (eF (z:=false)) h
 refine xp h (.inl rfl) λt3 w h=>?_
 have h:=f w _ h
 refine again (S:=λw F L=>de E w F rp d false (3+1+1) false k9 L) (Q:=λH=>H=k9) (fo:=false) (T:=3+1+1) (N:=0) (rp:=rp) (d:=d) (n:=2) (m:=0) (dh:=[]) (.inl rfl) .nil sI XY X0 om
  (λH e=>by subst e;exact⟨uC rfl rfl,Fi.z om⟩) om om eF (λw L k h O=>xr h O)
  (.inl ⟨by decide,h.s9 rfl⟩) (λH w h6 e h=>by cases h6) (λh5 w h=>by cases h5) (λH w h5 e h=>by cases h5)
  (λH G7 fu u n3 w hG7 e hf XZ l h=>?_)
 rw[e]at h l
 have l:n3=2:=by
  have:(n3:Int)=2:=l
  omega
 subst l
 have h:=zg (eF (z:=false)) h
 have I:=XZ.len
 obtain⟨A,h,f⟩:=eF _ _ _ h
 have h:ab E w (ae G7::bk b rp u au k9.aM 0::(L++A)):=h
 refine aq ?_
 refine ld (t:=33) (x:=some ⟨rp,0,none⟩) (b:=b) (off:=0) h ?_
 refine E7 (nm:=dF) (t:=7) (f G7 w (bk b rp u au k9.aM 0::L) (dC _) h) Fi om (λK=>absurd aaG K) (λ_ G8 o w hG8 J h=>?_)
 rw[aaK]at J
 obtain⟨A,h,f⟩:=eF _ _ _ h
 have h:ab E w (ae G8::bk b rp u au k9.aM 0::(L++A)):=h
 refine aq ?_
 refine ld (t:=33) (x:=some ⟨rp,0,none⟩) (b:=b) (off:=0) h ?_
 refine E7 (nm:=dF) (t:=8) (f G8 w (bk b rp u au k9.aM 0::L) (dC _) h) Fi om (λK G9 w XW h=>?_) (λK=>absurd K (by rw[Ol];decide))
 rw[Ol]
 have J:=J.up sD XW
 have oY:o.len=1:=J.len
 obtain⟨A,h,f⟩:=eF _ _ _ h
 have h:ab E w (ae G9::bk b rp u au k9.aM 0::(L++A)):=h
 refine aL ?_
 refine aR rfl ?_
 refine ao λ_=>?_
 refine aL ?_
 refine aR rfl ?_
 refine ao λ_=>?_
 refine aL ?_
 refine aR rfl ?_
 refine aq ?_
 refine ld (t:=34) (x:=u) (b:=b) (off:=1) h ?_
 refine ao λ_=>?_
 refine aL ?_
 refine aR (by rw[I];rfl) ?_
 refine ao λ_=>?_
 refine aL ?_
 refine aR (by rw[oY];rfl) ?_
 refine ao λ_=>?_
 refine aL ?_
 refine aR rfl ?_
 refine fx (T:=30) J (i:=0) dE λa r ha hr=>?_
 obtain⟨rk,ra,rb,rc,rd,rs,⟨⟩⟩:=r
 refine nV (t:=28) (j:=5) (x:=rs) h ?_ (ha:=ha)
 have Hh:FL G9 aP rs gj:=hr.2.2.2.2.2
 refine ix (T:=28) (ls:=aP) (i:=1) Hh dE λa2 r7=>?_
 refine fJ (t:=27) (ls:=aP) (r:=(5,0,0,⟨#[97]⟩,())) h ?_ (ha:=r7)
 refine zG h λw h=>?_
 refine ao λ_=>?_
 refine aL ?_
 refine aR (by rw[iK];exact eu rfl) ?_
 refine ao λ_=>?_
 exact O w (h.sub (.skip (.skip (A0 A L))))
end Go.Proofs.YtelhccfmfnaegaaGreat
