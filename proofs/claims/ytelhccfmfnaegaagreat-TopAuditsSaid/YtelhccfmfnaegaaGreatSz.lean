/- The law of audits holds for every input (topAudits_holds). No conditions. -/
import Derived.Test.YtelhccfmfnaegaaGreatKn
import Derived.Test.YtelhccfmfnaegaaGreatRows
set_option linter.unusedSectionVars false
set_option linter.unusedVariables false
set_option linter.unusedSimpArgs false
set_option linter.defProp false
namespace Go.Proofs.YtelhccfmfnaegaaGreat
open Go Go.Sh Go.RowKit Go.WideShapes Go.ChangeShapes Go.ChangeAt
theorem Tryz.own:ownKnob Tryz.prog.godebug=none:=kK
theorem Tryz.laidOut:laidOutB Tryz.prog=true:=kK
def JJ:=@Tryz.laidOut
noncomputable def Gx (t:TypeId):Array Field:=match Tryz.prog.underlying t with
 |some (.struct a)=>a
 |_=>#[]
noncomputable def Ir (t:TypeId):Bool:=match Tryz.prog.underlying t with
 |some (.struct _)=>true
 |_=>false
variable {t:TypeId} {fuel:Nat} {cs:List Value} {n:Nat} {e:TypeId} {ls:List bD} {q:bK ls->Prop}
theorem ahr (h:Ir t=true):Tryz.prog.underlying t=some (.struct (Gx t)):=by
 unfold Ir at h
 unfold Gx
 split at h
 .rename_i b a;rw[a]
 .cases h
variable {H:Type} {cg:TypeId×Value->H} {w:World} {spare:Nat->Bool} {held:Bool} {x y:DataW H×List MemPlace}
theorem vu (l:Ir t=true) (h:DataW.trod cg Tryz.prog w 0 spare held fuel t cs=some x):
  ∃n,cs.length=Tryz.prog.cellsOf t/\∀(i:Nat) (b:TypeId) (a:Nat),((Gx t)[i]?).map (λf:Field=>(f.type,f.offset))=some (b,a)->∃y,DataW.trod cg Tryz.prog w 0 spare held n b ((cs.drop a).take (Tryz.prog.cellsOf b))=some y:=by
 obtain⟨c,n,_,_,m,d,o⟩:=DataW.trod_struct (ahr l) h
 refine⟨n,m,λi b a p=>?_⟩
 obtain⟨f,j,r⟩:=Option.map_eq_some_iff.1 p
 have k:=o i f j
 obtain⟨e,_⟩:=Array.getElem?_eq_some_iff.1 j
 have g:i<c.length:=by rw[d];exact e
 have u:c[i]?=some c[i]:=fA g
 rw[u]at k
 obtain⟨rfl,rfl⟩:=Prod.mk.inj r
 exact⟨_,k⟩
theorem fI (cs:List Value) (o n:Nat):cs.drop o=(cs.drop o).take n++cs.drop (o+n):=by
 rw[<-uv,oq]
theorem np (h:DataW.trod cg Tryz.prog w 0 spare held n 3 cs=some y):∃a:Int,cs=[iv a]/\-9223372036854775808<=a/\a<=9223372036854775807:=by
 obtain⟨a,b,_,c⟩:=JE (k:=.i64) kK h
 refine⟨a,b,?_⟩
 simp[Lit.wf,IntKind.min,IntKind.max,IntKind.signed,IntKind.bits]at c
 omega
theorem abu (h:DataW.trod cg Tryz.prog w 0 spare held n 25 cs=some y):∃a:Int,cs=[.int .u64 a]/\0<=a/\a<=18446744073709551615:=by
 obtain⟨a,b,_,c⟩:=JE (k:=.u64) kK h
 refine⟨a,b,?_⟩
 simp[Lit.wf,IntKind.min,IntKind.max,IntKind.signed,IntKind.bits]at c
 omega
theorem yy (h:DataW.trod cg Tryz.prog w 0 spare held n 9 cs=some y):∃s:ByteArray,cs=[.string s]/\s.size<=9223372036854775807:=by
 obtain⟨s,a,_,b⟩:=DataW.trod_string kK h
 exact⟨s,a,b⟩
theorem HN (h:DataW.trod cg Tryz.prog w 0 spare held n 4 cs=some y):∃b:Bool,cs=[.bool b]:=by
 obtain⟨b,a,_⟩:=DataW.trod_bool kK h
 exact⟨b,a⟩
theorem Dz (i:Tryz.prog.underlying t=some (.slice e)) (h:DataW.trod cg Tryz.prog w 0 spare held n t cs=some y):∃s:Sl,cs=[sv s]:=by
 rcases DataW.trod_slice i h with⟨b,_⟩|⟨a,c,d,f,g,n,_,b,_⟩
 .exact⟨au,b⟩
 .exact⟨⟨some a,c,d⟩,b⟩
theorem AB (j:Tryz.prog.underlying t=some (.slice e)) (g:Tryz.prog.cellsOf e=ls.length)
  (i:∀(n:Nat) (cs:List Value) (y:DataW H×List MemPlace),DataW.trod cg Tryz.prog w 0 spare held n e cs=some y->∃a:bK ls,cs=ay ls a/\q a)
  (h:DataW.trod cg Tryz.prog w 0 spare held n t cs=some y):∃(s:Sl) (l:List (bK ls)),cs=[sv s]/\FL (nj w) ls s l/\l.length<=9223372036854775807/\∀a∈l,q a:=by
 obtain⟨f,rfl⟩:=Dz j h
 obtain⟨s,l,d,k,m,o,r,p⟩:=abr (v:=sv f) (ay ls) (du ls) j g i h
 have e:s=f:=by
  have d:[sv f]=[.slice s.a s.len s.cap]:=d
  simp only[xG,Value.slice.injEq,sR]at d
  obtain⟨a,b,c⟩:=s
  obtain⟨u,x,z⟩:=f
  simp only at d
  obtain⟨rfl,rfl,rfl⟩:=d
  rfl
 subst e
 have A:maxLen=9223372036854775807:=rfl
 exact⟨s,l,rfl,⟨⟨k.1,o,k.2⟩,m⟩,om,p⟩
theorem abv (h:DataW.trod cg Tryz.prog w 0 spare held n 27 cs=some y):∃v:bK aP,cs=ay aP v/\WV v:=by
 obtain⟨m,f,a⟩:=vu kK h
 obtain⟨_,b⟩:=a 0 3 0 kK
 obtain⟨_,c⟩:=a 1 3 1 kK
 obtain⟨_,d⟩:=a 2 25 2 kK
 obtain⟨_,e⟩:=a 3 9 3 kK
 have c3:Tryz.prog.cellsOf 3=1:=kK
 have uR:Tryz.prog.cellsOf 25=1:=kK
 have c9:Tryz.prog.cellsOf 9=1:=kK
 have FO:Tryz.prog.cellsOf 27=4:=kK
 rw[c3]at b c
 rw[uR]at d
 rw[c9]at e
 rw[FO]at f
 obtain⟨g,i,b0⟩:=np b
 obtain⟨j,k,l⟩:=np c
 obtain⟨o,p,r⟩:=abu d
 obtain⟨t,u,x⟩:=yy e
 refine⟨(g,j,o,t,()),?_,⟨b0,l,r⟩⟩
 rw[show cs=cs.drop 0 from rfl,fI cs 0 1,i,fI cs (0+1) 1,k,fI cs (0+1+1) 1,p,fI cs (0+1+1+1) 1,u,pF om]
 rfl
theorem abo (h:DataW.trod cg Tryz.prog w 0 spare held n 28 cs=some y):∃(s:Sl) (r:Row),cs=[sv s]/\FL (nj w) aP s r/\r.length<=9223372036854775807/\∀v∈r,WV v:=
 AB (ls:=aP) (e:=27) kK kK (λ_ _ _=>abv) h
theorem abi (h:DataW.trod cg Tryz.prog w 0 spare held n 60 cs=some y):∃c:bK dj,cs=ay dj c/\c.1.size<=9223372036854775807:=by
 obtain⟨m,f,a⟩:=vu kK h
 obtain⟨_,b⟩:=a 0 9 0 kK
 obtain⟨_,d⟩:=a 1 3 1 kK
 obtain⟨_,e⟩:=a 2 4 2 kK
 have c3:Tryz.prog.cellsOf 3=1:=kK
 have g:Tryz.prog.cellsOf 4=1:=kK
 have c9:Tryz.prog.cellsOf 9=1:=kK
 have FX:Tryz.prog.cellsOf 60=3:=kK
 rw[c9]at b
 rw[c3]at d
 rw[g]at e
 rw[FX]at f
 obtain⟨i,j,b0⟩:=yy b
 obtain⟨k,l,r⟩:=np d
 obtain⟨o,p⟩:=HN e
 refine⟨(i,k,o,()),?_,b0⟩
 rw[show cs=cs.drop 0 from rfl,fI cs 0 1,j,fI cs (0+1) 1,l,fI cs (0+1+1) 1,p,pF om]
 rfl
theorem abp (h:DataW.trod cg Tryz.prog w 0 spare held n 63 cs=some y):∃(p:nG) (S:di),cs=ay aD p/\ft (nj w) p S/\BV S:=by
 obtain⟨m,j,a⟩:=vu kK h
 obtain⟨_,c⟩:=a 0 9 0 kK
 obtain⟨_,d⟩:=a 1 61 1 kK
 obtain⟨_,f⟩:=a 2 3 2 kK
 have c3:Tryz.prog.cellsOf 3=1:=kK
 have FY:Tryz.prog.cellsOf 61=1:=kK
 have c9:Tryz.prog.cellsOf 9=1:=kK
 have b:Tryz.prog.cellsOf 63=3:=kK
 rw[c9]at c
 rw[FY]at d
 rw[c3]at f
 rw[b]at j
 obtain⟨g,k,b0⟩:=yy c
 obtain⟨s,l,o,r,v,t⟩:=AB (ls:=dj) (e:=60) kK kK (λ_ _ _=>abi) d
 obtain⟨i,u,_⟩:=np f
 refine⟨(g,s,i,()),(g,l,i),?_,⟨rfl,r,rfl⟩,b0,t⟩
 rw[show cs=cs.drop 0 from rfl,fI cs 0 1,k,fI cs (0+1) 1,o,fI cs (0+1+1) 1,u,pF om]
 rfl
theorem O6 (h:DataW.trod cg Tryz.prog w 0 spare held n 39 cs=some y):∃a b:Int,cs=[iv a,iv b]:=by
 obtain⟨m,f,c⟩:=vu kK h
 obtain⟨_,d⟩:=c 0 3 0 kK
 obtain⟨_,e⟩:=c 1 3 1 kK
 have c3:Tryz.prog.cellsOf 3=1:=kK
 have wy:Tryz.prog.cellsOf 39=2:=kK
 rw[c3]at d e
 rw[wy]at f
 obtain⟨g,i,_⟩:=np d
 obtain⟨j,k,_⟩:=np e
 refine⟨g,j,?_⟩
 rw[show cs=cs.drop 0 from rfl,fI cs 0 1,i,fI cs (0+1) 1,k,pF om]
 rfl
theorem abh (h:DataW.trod cg Tryz.prog w 0 spare held n 65 cs=some y):∃c:bK bP,cs=ay bP c/\∃C,nE (nj w) c C/\zj C:=by
 obtain⟨m,p,a⟩:=vu kK h
 obtain⟨_,d⟩:=a 0 3 0 kK
 obtain⟨_,e⟩:=a 1 9 1 kK
 obtain⟨_,f⟩:=a 2 28 2 kK
 obtain⟨_,g⟩:=a 3 39 3 kK
 obtain⟨_,i⟩:=a 4 63 5 kK
 have c3:Tryz.prog.cellsOf 3=1:=kK
 have zG:Tryz.prog.cellsOf 28=1:=kK
 have c9:Tryz.prog.cellsOf 9=1:=kK
 have wy:Tryz.prog.cellsOf 39=2:=kK
 have b:Tryz.prog.cellsOf 63=3:=kK
 have FZ:Tryz.prog.cellsOf 65=8:=kK
 rw[c3]at d
 rw[c9]at e
 rw[zG]at f
 rw[wy]at g
 rw[b]at i
 rw[FZ]at p
 obtain⟨j,t,_⟩:=np d
 obtain⟨k,u,v⟩:=yy e
 obtain⟨s,r,x,z,A,D⟩:=abo f
 obtain⟨l,o,F⟩:=O6 g
 obtain⟨⟨G,I,J,⟨⟩⟩,S,K,M,N⟩:=abp i
 refine⟨(j,k,s,l,o,G,I,J,()),?_,(j,k,r,l,o,S),⟨rfl,rfl,z,rfl,rfl,M⟩,⟨v,D,A,N⟩⟩
 rw[show cs=cs.drop 0 from rfl,fI cs 0 1,t,fI cs (0+1) 1,u,fI cs (0+1+1) 1,x,fI cs (0+1+1+1) 2,F,fI cs (0+1+1+1+2) 3,K,pF om]
 rfl
theorem E4 {α β:Type} {R:α->β->Prop} {Q:β->Prop}:∀{l:List α},(∀a∈l,∃b,R a b/\Q b)->∃m,cw R l m/\∀b∈m,Q b
 |[],_=>⟨[],.nil,λb h=>by cases h⟩
 |a::l,h=>by
  obtain⟨b,d,e⟩:=h a eo
  obtain⟨m,f,g⟩:=E4 (l:=l) λx c=>h x (dH _ c)
  refine⟨b::m,.cons d f,λx c=>?_⟩
  rcases List.mem_cons.1 c with rfl|c
  .exact e
  .exact g x c
theorem abt (h:DataW.trod cg Tryz.prog w 0 spare held n 68 cs=some y):∃(p:pH) (P:Pk),cs=ay av p/\je (nj w) p P/\pI P:=by
 obtain⟨m,j,a⟩:=vu kK h
 obtain⟨_,b⟩:=a 0 3 0 kK
 obtain⟨_,c⟩:=a 1 3 1 kK
 obtain⟨_,d⟩:=a 2 66 2 kK
 have c3:Tryz.prog.cellsOf 3=1:=kK
 have qM:Tryz.prog.cellsOf 66=1:=kK
 have zK:Tryz.prog.cellsOf 68=3:=kK
 rw[c3]at b c
 rw[qM]at d
 rw[zK]at j
 obtain⟨f,k,_⟩:=np b
 obtain⟨g,o,_⟩:=np c
 obtain⟨s,l,r,t,z,u⟩:=AB (ls:=bP) (e:=65) kK kK (λ_ _ _=>abh) d
 obtain⟨v,i,x⟩:=E4 u
 have:=i.len
 refine⟨(f,g,s,()),(f,g,v),?_,⟨rfl,rfl,⟨l,t,i⟩⟩,⟨by simp only;omega,x⟩⟩
 rw[show cs=cs.drop 0 from rfl,fI cs 0 1,k,fI cs (0+1) 1,o,fI cs (0+1+1) 1,r,pF om]
 rfl
theorem abk (h:DataW.trod cg Tryz.prog w 0 spare held n 79 cs=some y):∃(s:Sl) (a:List Bool),cs=[sv s]/\FL (nj w) [.bool] s (o4 a)/\a.length<=9223372036854775807:=by
 obtain⟨s,l,e,c,d,_⟩:=AB (ls:=[.bool]) (e:=4) (q:=λ_=>True) kK kK (λ_ _ _ h=>by
  obtain⟨b,f⟩:=HN h
  exact⟨(b,()),f,trivial⟩) h
 refine⟨s,l.map (·.1),e,?_,by rw[bW];exact d⟩
 have g:o4 (l.map (·.1))=l:=by
  unfold o4
  rw[rA]
  refine(Sj λx _=>?_).trans (List.map_id l)
  obtain⟨b,⟨⟩⟩:=x
  rfl
 rw[g];exact c
theorem abm (h:DataW.trod cg Tryz.prog w 0 spare held n 43 cs=some y):∃(u:Int) (v:ByteArray) (c:Sl) (x z A C:Int) (D F:Sl) (G:Int) (I:Bool),cs=ay bR (u,v,c,x,z,A,C,D,F,G,I,()):=by
 obtain⟨m,J,a⟩:=vu kK h
 obtain⟨_,g⟩:=a 0 3 0 kK
 obtain⟨_,i⟩:=a 1 9 1 kK
 obtain⟨_,j⟩:=a 2 28 2 kK
 obtain⟨_,k⟩:=a 3 3 3 kK
 obtain⟨_,l⟩:=a 4 3 4 kK
 obtain⟨_,o⟩:=a 5 39 5 kK
 obtain⟨_,p⟩:=a 6 40 7 kK
 obtain⟨_,r⟩:=a 7 41 8 kK
 obtain⟨_,t⟩:=a 8 3 9 kK
 obtain⟨_,b⟩:=a 9 4 10 kK
 have c3:Tryz.prog.cellsOf 3=1:=kK
 have K:Tryz.prog.cellsOf 4=1:=kK
 have zG:Tryz.prog.cellsOf 28=1:=kK
 have Co:Tryz.prog.cellsOf 40=1:=kK
 have FW:Tryz.prog.cellsOf 41=1:=kK
 have c9:Tryz.prog.cellsOf 9=1:=kK
 have wy:Tryz.prog.cellsOf 39=2:=kK
 have wz:Tryz.prog.cellsOf 43=11:=kK
 rw[c3]at g k l t
 rw[c9]at i
 rw[zG]at j
 rw[wy]at o
 rw[Co]at p
 rw[FW]at r
 rw[K]at b
 rw[wz]at J
 obtain⟨M,N,_⟩:=np g
 obtain⟨O,P,_⟩:=yy i
 obtain⟨Q,R⟩:=Dz (e:=27) kK j
 obtain⟨S,T,_⟩:=np k
 obtain⟨U,V,_⟩:=np l
 obtain⟨W,X,Y⟩:=O6 o
 obtain⟨_,Z⟩:∃e,Tryz.prog.underlying 40=some (.slice e):=⟨k6 40,by kernel_rfl⟩
 obtain⟨a7,e7⟩:=Dz Z p
 obtain⟨_,u8⟩:∃e,Tryz.prog.underlying 41=some (.slice e):=⟨k6 41,by kernel_rfl⟩
 obtain⟨a8,e8⟩:=Dz u8 r
 obtain⟨a9,e9,_⟩:=np t
 obtain⟨d,f⟩:=HN b
 refine⟨M,O,Q,S,U,W,X,a7,a8,a9,d,?_⟩
 rw[show cs=cs.drop 0 from rfl,fI cs 0 1,N,fI cs (0+1) 1,P,fI cs (0+1+1) 1,R,fI cs (0+1+1+1) 1,T,fI cs (0+1+1+1+1) 1,V,fI cs (0+1+1+1+1+1) 2,Y,fI cs (0+1+1+1+1+1+2) 1,e7,fI cs (0+1+1+1+1+1+2+1) 1,e8,fI cs (0+1+1+1+1+1+2+1+1) 1,e9,
  fI cs (0+1+1+1+1+1+2+1+1+1) 1,f,pF om]
 rfl
theorem abl (h:DataW.trod cg Tryz.prog w 0 spare held n 81 cs=some y):∃p:bK Y0,cs=ay Y0 p/\∃o:BM,AH (nj w) p o/\True:=by
 obtain⟨m,l,a⟩:=vu kK h
 obtain⟨_,e⟩:=a 0 3 0 kK
 obtain⟨_,f⟩:=a 1 68 1 kK
 obtain⟨_,g⟩:=a 2 9 4 kK
 obtain⟨_,i⟩:=a 3 3 5 kK
 obtain⟨_,j⟩:=a 4 79 6 kK
 obtain⟨_,k⟩:=a 5 43 7 kK
 have c3:Tryz.prog.cellsOf 3=1:=kK
 have zK:Tryz.prog.cellsOf 68=3:=kK
 have c9:Tryz.prog.cellsOf 9=1:=kK
 have Cq:Tryz.prog.cellsOf 79=1:=kK
 have wz:Tryz.prog.cellsOf 43=11:=kK
 have c:Tryz.prog.cellsOf 81=18:=kK
 rw[c3]at e i
 rw[zK]at f
 rw[c9]at g
 rw[Cq]at j
 rw[wz]at k
 rw[c]at l
 obtain⟨r,t,_⟩:=np e
 obtain⟨⟨u,v,x,⟨⟩⟩,P,z,A,C⟩:=abt f
 obtain⟨D,F,_⟩:=yy g
 obtain⟨G,I,_⟩:=np i
 obtain⟨J,b,K,M,N⟩:=abk j
 obtain⟨O,Q,d,R,S,T,U,V,W,X,Y,Z⟩:=abm k
 refine⟨iV r u v x D G J O Q d R S T U V W X Y,?_,(P,b),⟨A,C,M,N⟩,trivial⟩
 rw[show cs=cs.drop 0 from rfl,fI cs 0 1,t,fI cs (0+1) 3,z,fI cs (0+1+3) 1,F,fI cs (0+1+3+1) 1,I,fI cs (0+1+3+1+1) 1,K,fI cs (0+1+3+1+1+1) 11,Z,pF om]
 rfl
theorem abq (h:DataW.trod cg Tryz.prog w 0 spare held n 22 cs=some y):∃(s:Sl) (a:List BM),cs=[sv s]/\NL (nj w) Y0 AH s a:=by
 obtain⟨s,l,e,b,f,c⟩:=AB (ls:=Y0) (e:=81) kK kK (λ_ _ _=>abl) h
 obtain⟨a,d,_⟩:=E4 c
 exact⟨s,a,e,l,b,d⟩
theorem O7 (b:Tryz.prog.underlying t=some (.int .u8)) (h:DataW.trod cg Tryz.prog w 0 spare held n t cs=some y):∃a:Int,cs=[i8 a]/\0<=a/\a<=255:=by
 obtain⟨a,c,_,d⟩:=JE b h
 refine⟨a,c,?_⟩
 simp[Lit.wf,IntKind.min,IntKind.max,IntKind.signed,IntKind.bits]at d
 omega
set_option maxRecDepth 100000 in
theorem SM (Z:Os) (c:Z.Started) (H:Type) (cg:TypeId×Value->H):
  ReturnsInHanded {} Tryz.checked Z 3 .any (Rows.topAuditsSpec.pre6 cg Tryz.prog Tryz.f3 Rows.topAuditsRow.domain false) (Rows.topAuditsSpec.post cg Tryz.prog Tryz.f3 false true false false):=by
 refine returnsInHanded_of_change (C:=Tryz.checked) Tryz.own c kK Tryz.func3
  (ChangeSpec.witness6 (enc:=cg) (C:=Tryz.checked) false ⟨#[],#[.slice none 0 0,.int .u8 0,.int .u8 0],[]⟩ 8 kK kK kK kK) ?_
 intro W i args ds gs J d hW ajU _
 have a:∀(j:Nat) t v,Tryz.f3.params[j]?=some t->args[j]?=some v->Value.okWide Tryz.prog W .any i t v:=d
 have N:=hW
 obtain⟨p,q,l,hV,rfl,r9,C2⟩:=hW
 have hA:DataW.TrodAll cg Tryz.prog W 0 (λ_=>true) true Tryz.f3.params.toList args.toList ds p:=l
 rw[Tryz.params3]at hA a
 obtain⟨v0,vs0,d0,yc,p0,q0,O,rfl,rfl,h0,r0⟩:=trodAll_cons hA
 obtain⟨v1,vs1,d1,ds1,p1,q1,K,rfl,rfl,h1,r1⟩:=trodAll_cons r0
 obtain⟨v2,vs2,d2,ds2,p2,q2,M,rfl,rfl,h2,r2⟩:=trodAll_cons r1
 obtain⟨rfl,rfl,rfl⟩:=trodAll_nil r2
 obtain rfl:args=#[v0,v1,v2]:=by cases args;simp_all
 obtain⟨rfl,rfl⟩:=trodVars_none hV
 have k0:=h0
 have k1:=h1
 have k2:=h2
 have P:∀x∈p0,x.block<W.heap.size:=by obtain⟨m,n⟩:=k0;exact JF m _ _ _ n
 have Q:∀x∈p1,x.block<W.heap.size:=by obtain⟨m,n⟩:=k1;exact JF m _ _ _ n
 have R:∀x∈p2,x.block<W.heap.size:=by obtain⟨m,n⟩:=k2;exact JF m _ _ _ n
 obtain⟨S,o,r,rfl⟩:=okWide_slice Tryz.underlying22 (a 0 _ v0 rfl rfl)
 obtain⟨a1,rfl⟩:=okWide_int (k:=.u8) kK (a 1 _ v1 rfl rfl)
 obtain⟨a2,rfl⟩:=okWide_int (k:=.u8) kK (a 2 _ v2 rfl rfl)
 obtain⟨f0,T⟩:=h0
 obtain⟨f1,U⟩:=h1
 obtain⟨f2,V⟩:=h2
 obtain⟨s0,ops,u,X⟩:=abq T
 obtain⟨b1,A,D⟩:=O7 kK U
 obtain⟨b2,F,I⟩:=O7 kK V
 simp only[Value.cells,xG,Value.slice.injEq,Value.int.injEq,sR,sT]at u A F
 subst A F
 have Y:s0=⟨S,o,r⟩:=by
  obtain⟨x,y,z⟩:=s0
  obtain⟨e1,e2,e3⟩:=u
  simp only at e1 e2 e3
  rw[e1,e2,e3]
 clear l d
 have f:=(c3 (k:=λb w'=>b=true/\ab W w' [gk W]) (ab.Xv W) X D I (λw L k h hk=>c8 h hk) (λG w' hG h=>⟨rfl,ab.Xs hG h⟩)).out
 rw[Y]at f
 refine f.mono λe W' ⟨x,he,hx,hh⟩=>?_
 subst he;subst hx
 have g:=hh.below
 exact⟨_,rfl,_,_,_,[],_,[],N,trodAll_mk1 (shut_bool Tryz.underlying4 _),(JG (Below.trod JJ kK (lS kK) k0 g P) (JG (Below.trod JJ kK (lS kK) k1 g Q) (JG (Below.trod JJ kK (lS kK) k2 g R) trodAll_mk0))),rfl,g.frame _,λh=>by cases h⟩
theorem za:joinedFacts Tryz.pinned.checked.prog 3 Tryz.f3 Rows.topAuditsSpec Rows.topAuditsRow=true:=kK
theorem zb:Tryz.f3.isInstance Tryz.pinned.checked.prog Rows.topAuditsRow.origin Rows.topAuditsRow.targs:=lS kK
theorem zc:Tryz.f3.isWrapper Tryz.pinned.checked.prog Rows.topAuditsRow.wrapper Rows.topAuditsRow.mainSum:=by unfold Func.isWrapper;first|(rw[ak (by decide+kernel)];kernel_rfl)|(rw[ai (by decide+kernel)];exact⟨rfl,rfl⟩)
theorem zd:Tryz.pinned.checked.prog.funcNamed Rows.topAuditsRow.func=some 3:=kK
theorem topAudits_holds:Rows.TopAuditsSaid:=
 OpenClaim.holds_of_wide 3 Tryz.f3 rfl rfl rfl rfl rfl rfl rfl ⟨rfl,rfl,rfl,rfl,rfl⟩ rfl rfl rfl rfl rfl zd Tryz.func3 za zb zc
  (λc a H b _=>SM c a H b)
end Go.Proofs.YtelhccfmfnaegaaGreat
