/- Lemmas for topAudits_holds. No conditions. -/
import Derived.Test.YtelhccfmfnaegaaGreatSa
set_option linter.unusedSectionVars false
set_option linter.unusedVariables false
set_option linter.unusedSimpArgs false
set_option linter.defProp false
set_option maxRecDepth 10000
namespace Go.Proofs.YtelhccfmfnaegaaGreat
open Go Go.Sh Tryz
attribute [local irreducible] aT jC gk dV kO dg hex iT jk ae aj bG aN bq fL az
variable {n m:Nat} {k:ByteArray->Pr} {l:List UInt8} {v:jf} {a b c:Nat} {s:ByteArray} {i r:Nat} {p:nG} {S:di} {x:ByteArray}
theorem QZ (h:n<128):aH n=[u8 n]:=by unfold aH;rw[Bt h]
theorem ait (h:¬n<128):aH n=u8 ((n%128+128:Nat):Int)::aH (n/128):=by
 conv=>lhs;unfold aH
 rw[dif_neg h]
variable {E w:World} {L L' M:List aK} {F G:bh}
theorem zB {x:Int} {k:Sl->Pr} (h:ab E w L) (b:IntKind.u8.wrap x=(((u8 (m:Int)).toNat:Nat):Int)) (c:∀t a,ab E a (OS 143 dW t (eh [u8 (m:Int)])::L)->k t a):eT prog (vN (Instr.buildSlice 143 1 #[(0,i8 (IntKind.u8.wrap x))])) aE k w:=by
 refine bJ (ls:=dW) (y:=(((u8 (m:Int)).toNat:Int),())) h (λt w _ h=>c t w h) (by rw[b];rfl)
theorem KH:∀(f n:Nat) {E w:World} {L:List aK} {k:ByteArray->Pr} (h:ab E w L) (e:n<128^(f+1)) (m:n<18446744073709551616) (a:∀b,ab E b L->k (B (aH n)) b),CL 174 #[.int .u64 (n:Int)] an k w
 |f,n,E,w,L,k,h,e,m,a=>by
  refine adr ?_
  refine ax (λg=>?_) (λg=>?_)
  .have i:n<128:=by have:=cT g;omega
   refine zB h (ny _) λt w h=>?_
   refine oU (l:=[u8 n]) h pK ?_
   rw[<-QZ i]
   exact a w h.drop
  .have c:¬n<128:=by have:=cF g;omega
   have o:IntKind.u64.wrap (Int.tdiv (n:Int) 128)=((n/128:Nat):Int):=by
    rw[show Int.tdiv (n:Int) 128=((n/128:Nat):Int)from rfl]
    show((n/128:Nat):Int)%18446744073709551616=_
    omega
   have j:IntKind.u8.wrap (IntKind.u64.wrap (128+(Int.tmod (n:Int) 128)))=(((u8 ((n%128+128:Nat):Int)).toNat:Nat):Int):=by
    rw[ny,Iz,show Int.tmod (n:Int) 128=((n%128:Nat):Int)from rfl]
    congr 3;omega
   have p:=ait c
   have r:=cD (n:=n/128) om
   have d:∀{E w:World} {L:List aK} {k:ByteArray->Pr},ab E w L->(∀b,ab E b L->k (B (aH (n/128))) b)->CL 174 #[.int .u64 (IntKind.u64.wrap (Int.tdiv (n:Int) 128))] an k w:=by
    intro E w L k h a
    rw[o]
    cases f with
    |zero=>exact absurd (by simpa using e) c
    |succ f=>exact KH f (n/128) h (by rw[I6 om,<-vQ];exact e) om a
   rw[p]at a
   refine dr h λw h=>?_
   refine⟨?_,?_⟩
   .refine zB h j λt w h=>?_
    refine oU (l:=[u8 ((n%128+128:Nat):Int)]) h pK ?_
    refine d h λw h=>?_
    refine lz (t:=an) (oU (l:=[u8 ((n%128+128:Nat):Int)]) h pK rfl) ?_
    exact cc (by simp;omega) (a w h.drop)
   .refine d h λw h=>?_
    refine zB h j λt w h=>?_
    refine oU (l:=[u8 ((n%128+128:Nat):Int)]) h pK ?_
    exact cc (by simp;omega) (a w h.drop)
theorem Fy (h:ab E w L) (hn:n<18446744073709551616) (b:∀a,ab E a L->k (B (aH n)) a):CL 174 #[.int .u64 (n:Int)] an k w:=
 KH 9 n h om hn b
theorem qL {n:Int} (h:ab E w L) (c:0<=n) (hn:n<18446744073709551616) (b:∀a,ab E a L->k (B (aH n.toNat)) a):CL 174 #[.int .u64 (IntKind.u64.wrap n)] an k w:=by
 have e:IntKind.u64.wrap n=((n.toNat:Nat):Int):=by
  show n%18446744073709551616=_
  omega
 rw[e]
 exact Fy h om b
theorem KI (h:ab E w L) (c:l.length<=8000000000000000000) (b:∀a,ab E a L->k (B (cz l)) a):CL 175 #[.string (B l)] an k w:=by
 refine ads ?_
 rw[cJ]
 refine qL h om om λw h=>?_
 rw[kW]
 have:=cD (n:=l.length) om
 exact cc om (b _ h)
theorem Vg {n:Int} {k:Int->Pr} (h:ab E w L) (hn:-9223372036854775808<=n/\n<=9223372036854775807) (d:∀e,ab E e L->k ((zz n:Nat):Int) e):CL 308 #[iv n] (.one (.leaf (.int .u64))) k w:=by
 refine afA ?_
 have a:∀m:Int,IntKind.u64.wrap m=m%18446744073709551616:=λm=>rfl
 refine ax (λb=>?_) (λb=>?_)
 .have c:0<=n:=by have:=cT b;omega
  refine fin (d w h) ?_
  unfold zz;rw[ak c,a,a];omega
 .have c:¬0<=n:=by have:=cF b;omega
  refine fin (d w h) ?_
  unfold zz;rw[ai c,a,a,a]
  have f:w6 (n+1)=n+1:=bQ om
  have g:w6 (0-(n+1))=-n-1:=by rw[bQ om];omega
  rw[f,g];omega
theorem U4 {n:Int} (h:ab E w L) (hn:-9223372036854775808<=n/\n<=9223372036854775807) (b:∀a,ab E a L->k (B (aH (zz n))) a):CL 281 #[iv n] an k w:=by
 refine ae8 ?_
 refine Vg h hn λw h=>?_
 exact Fy h (vY hn) b
theorem aaS (p:Nat) (h:p<18446744073709551616):IntKind.u64.wrap ((BitVec.ofInt IntKind.u64.bits (p:Int)&&&BitVec.ofInt IntKind.u64.bits 9223372036854775807).toNat:Int)=((p%9223372036854775808:Nat):Int):=by
 show IntKind.u64.wrap ((BitVec.ofInt 64 (p:Int)&&&BitVec.ofInt 64 ((9223372036854775807:Nat):Int)).toNat:Int)=_
 rw[iQ,iQ,vT,gW,gW,hU om,hU (show 9223372036854775807<2^64 by decide)]
 rw[show(9223372036854775807:Nat)=2^63-1 from rfl,R4]
 show((p%9223372036854775808:Nat):Int)%18446744073709551616=_
 omega
theorem Vf {p:Int} {k:Int->Pr} (h:ab E w L) (d:0<=p/\p<=18446744073709551615) (a:∀c,ab E c L->k ((uT p.toNat:Nat):Int) c):CL 307 #[.int .u64 p] (.one (.leaf (.int .u64))) k w:=by
 obtain⟨q,rfl⟩:=Bn d.1
 refine afz ?_
 have e:=aaS q om
 rw[e]
 rw[kW]at a
 unfold uT n6 at a
 refine ax (λb=>?_) (λb=>?_)
 .have f:=cT b
  rw[ak (by rw[bX];omega)]at a
  exact a w h
 .have f:=cF b
  rw[ai (by rw[bX];omega)]at a
  refine ax (λb=>?_) (λb=>?_)
  .have g:=ek b
   rw[ak om]at a
   exact a w h
  .have g:=ei b
   rw[ai om]at a
   exact a w h
theorem S9 (n:Int):n=w6 ((BitVec.ofInt IntKind.i64.bits n&&&BitVec.ofInt IntKind.i64.bits 1).toNat:Int)↔n=0\/n=1:=by
 have e:((BitVec.ofInt IntKind.i64.bits n&&&BitVec.ofInt IntKind.i64.bits 1).toNat:Int)=0\/((BitVec.ofInt IntKind.i64.bits n&&&BitVec.ofInt IntKind.i64.bits 1).toNat:Int)=1:=by
  have a:(BitVec.ofInt IntKind.i64.bits n&&&BitVec.ofInt IntKind.i64.bits 1).toNat<=1:=by
   rw[vT]
   refine qw RT ?_
   decide
  omega
 constructor
 .intro h
  rcases e with e|e
  .rw[e]at h;left;rw[h];decide
  .rw[e]at h;right;rw[h];decide
 .rintro(rfl|rfl)<;>decide
theorem H4 (v:jf):dM v=if v.1=0 then decide (v.2.1=0)&&(decide (v.2.2.1=0)&&decide (v.2.2.2.1=eB))else if v.1=1 then decide (v.2.1=0\/v.2.1=1)&&(decide (v.2.2.1=0)&&decide (v.2.2.2.1=eB))else
  if v.1=2 then decide (v.2.2.1=0)&&decide (v.2.2.2.1=eB)else if v.1=3 then decide (v.2.1=0)&&(decide (v.2.2.2.1=eB)&&decide (((uT v.2.2.1.toNat:Nat):Int)=v.2.2.1))else
  if v.1=4\/v.1=5 then decide (v.2.1=0)&&(decide (v.2.2.1=0)&&decide ((v.2.2.2.1.size:Int)<=4096))else false:=by
 obtain⟨a,n,b,s,⟨⟩⟩:=v
 have c:s=eB->(s.size:Int)<=4096:=λe=>by rw[e];decide
 unfold dM wi
 simp only[Gn]
 rw[gb]
 by_cases d:a=0
 .rw[ak d,ak d]
  simp only[bp,bX,nD,sT,sR]
  exact⟨λh=>h.1,λh=>⟨h,c h.2.2⟩⟩
 rw[ai d,ai d]
 by_cases f:a=1
 .rw[ak f,ak f]
  simp only[bp,bX,nD,sT,sR]
  rw[S9]
  exact⟨λh=>h.1,λh=>⟨h,c h.2.2⟩⟩
 rw[ai f,ai f]
 by_cases g:a=2
 .rw[ak g,ak g]
  simp only[bp,bX,nD,sT,sR]
  exact⟨λh=>h.1,λh=>⟨h,c h.2⟩⟩
 rw[ai g,ai g]
 by_cases i:a=3
 .rw[ak i,ak i]
  simp only[bp,bX,nD,sT,sR]
  exact⟨λh=>⟨h.1.1,h.1.2.2,h.1.2.1.symm⟩,λh=>⟨⟨h.1,h.2.2.symm,h.2.1⟩,c h.2.1⟩⟩
 rw[ai i,ai i]
 by_cases j:a=4\/a=5
 .rw[ak j,ak j]
  simp only[bp,bX,nD,sT,sR]
  exact⟨λh=>⟨h.1.1,h.1.2,h.2⟩,λh=>⟨⟨h.1,h.2.1⟩,h.2.2⟩⟩
 rw[ai j,ai j]
theorem qY (s:ByteArray):(s.toList==(⟨#[]⟩:ByteArray).toList)=decide (s=eB):=iK
theorem Lm {k:Bool->Pr} (h:ab E w L) (hv:WV v) (a:∀J,ab E J L->k (dM v) J):CL 280 #[ag aP v] aw k w:=by
  have N:=hv.b1
  rw[H4]at a
  obtain⟨e,n,b,s,⟨⟩⟩:=v
  simp only at a N
  refine ae7 ?_
  refine bx h λd w h=>?_
  refine ld h ?_
  refine ax (λj=>?_) (λj=>?_)
  .obtain rfl:=ek j
   rw[ak rfl]at a
   repeat' (first|refine gA ?_|(refine gB ?_;clear h;intro w h)|(refine gC ?_;clear h;intro b0 w h)|refine aL ?_|refine ax (λf=>?_) (λf=>?_))
   all_goals refine fin (a _ dD) ?_
   all_goals (try rw[qY s]);clear a h hv;grind
  have j:=ei j
  rw[ai j]at a
  refine ax (λl=>?_) (λl=>?_)
  .obtain rfl:=ek l
   rw[ak rfl]at a
   repeat' (first|refine gA ?_|(refine gB ?_;clear h;intro w h)|(refine gC ?_;clear h;intro b0 w h)|refine aL ?_|refine ax (λf=>?_) (λf=>?_))
   all_goals refine fin (a _ dD) ?_
   all_goals (try rw[qY s]);clear a h hv;grind
  have l:=ei l
  rw[ai l]at a
  refine ax (λm=>?_) (λm=>?_)
  .obtain rfl:=ek m
   rw[ak rfl]at a
   repeat' (first|refine gA ?_|(refine gB ?_;clear h;intro w h)|(refine gC ?_;clear h;intro b0 w h)|refine aL ?_|refine ax (λf=>?_) (λf=>?_))
   all_goals refine fin (a _ dD) ?_
   all_goals (try rw[qY s]);clear a h hv;grind
  have m:=ei m
  rw[ai m]at a
  refine ax (λo=>?_) (λo=>?_)
  .obtain rfl:=ek o
   rw[ak rfl]at a
   refine dr h λw h=>?_
   refine ld (t:=3) (x:=n) (b:=d) (off:=1) h ?_
   refine ax (λg=>?_) (λg=>?_)
   .have g:=ek g
    refine ld (t:=9) (x:=s) (b:=d) (off:=3) h ?_
    rw[qY]
    refine ax (λi=>?_) (λi=>?_)
    .have i:=cT i
     refine ld (t:=25) (x:=b) (b:=d) (off:=2) h ?_
     refine ld (t:=25) (x:=b) (b:=d) (off:=2) h ?_
     refine Vf h N λw h=>?_
     refine lk (t:=3) (b:=d) (off:=1) h ?_
     refine lk (t:=9) (b:=d) (off:=3) h ?_
     refine lk (t:=25) (b:=d) (off:=2) h ?_
     refine fin (a _ h.drop) ?_
     clear a h hv;grind
    .have i:=cF i
     refine fin (a _ h.drop) ?_
     simp[i]
   .have g:=ei g
    refine ar rfl ?_
    refine fin (a _ h.drop) ?_
    simp[g]
  have o:=ei o
  rw[ai o]at a
  have u:∀(K:Bool->Pr),K (decide (e=4\/e=5)) w->af (e==4) (K (e==4)) (K (e==5)) w:=λK y=>by
   refine ax (λc=>?_) (λc=>?_)
   .have:=ek c
    rw[c]
    rwa[show decide (e=4\/e=5)=true from eu (.inl this)]at y
   .have:=ei c
    refine fin y ?_
    clear a y h hv;grind
  refine aL ?_
  refine u (λz=>ba λ_=>af z (
 LD 3 (Addr.add (⟨d,0,none⟩:Addr) 1) ah λA=>
 JB (λC=>
 JB (λD=>k D) λp=>
 af C (
 LD 9 (Addr.add (⟨d,0,none⟩:Addr) 3) an λH=>p (decide ((H.size:Int)<=4096))) (p false)) λr=>
 af ((A:Int)==0) (
 LD 25 (Addr.add (⟨d,0,none⟩:Addr) 2) (.one (.leaf (.int .u64))) λI=>r ((I:Int)==0)) (r false)) (k false)) ?_
  refine ao λ_=>?_
  refine ax (λc=>?_) (λc=>?_)
  .have c:=cT c
   rw[ak c]at a
   repeat' (first|refine gA ?_|(refine gB ?_;clear h;intro w h)|(refine gC ?_;clear h;intro b0 w h)|refine aL ?_|refine ax (λf=>?_) (λf=>?_))
   all_goals refine fin (a _ dD) ?_
   all_goals clear a h hv;grind
  .have c:=cF c
   rw[ai c]at a
   exact a _ h.drop
theorem aiJ (h:dM v=true):fP v≠[]:=by unfold fP;rw[ak h];simp
def k4 (n:Nat):Nat:=if n%2=1 then(n/2)^^^3988292384 else n/2
def jO:Nat->Nat->Nat
 |0,n=>n
 |f+1,n=>jO f (k4 n)
theorem Gd (h:n<4294967296):k4 n<4294967296:=by
 unfold k4
 split
 .exact uy (n:=32) om om
 .omega
theorem Cx:∀(f:Nat) {n:Nat},n<4294967296->jO f n<4294967296
 |0,n,h=>h
 |f+1,n,h=>Cx f (Gd h)
theorem Wm (a b:Nat):k4 (a^^^b)=k4 a^^^k4 b:=by
 have e:(a^^^b)/2=a/2^^^b/2:=Nat.xor_div_two
 have f:(a^^^b)%2=(a+b)%2:=by
  have:=R7 (a:=a) (b:=b) (n:=1)
  rw[show 2^1=2 from rfl]at this
  rw[this]
  rcases Jv a with d|d<;>rcases Jv b with c|c<;>rw[d,c]<;>simp<;>omega
 unfold k4
 rw[e,f]
 by_cases d:a%2=1
 .by_cases c:b%2=1
  .rw[ai om,ak d,ak c]
   rw[y0,Nat.xor_comm (b/2),<-y0 3988292384,Nat.xor_self,Nat.zero_xor]
  .rw[ak om,ak d,ai c]
   rw[y0,y0,Nat.xor_comm (b/2)]
 .by_cases c:b%2=1
  .rw[ak om,ai d,ak c,y0]
  .rw[ai om,ai d,ai c]
theorem Mj:∀(f a b:Nat),jO f (a^^^b)=jO f a^^^jO f b
 |0,a,b=>rfl
 |f+1,a,b=>by
  show jO f (k4 (a^^^b))=jO f (k4 a)^^^jO f (k4 b)
  rw[Wm,Mj f]
theorem Mi:∀(f a:Nat),jO f (a*2^f)=a
 |0,a=>by simp[jO]
 |f+1,a=>by
  show jO f (k4 (a*2^(f+1)))=a
  have e:a*2^(f+1)=2*(a*2^f):=by rw[vQ,<-Eo,vO]
  have b:k4 (a*2^(f+1))=a*2^f:=by
   unfold k4
   rw[e,ai om]
   omega
  rw[b]
  exact Mi f a
theorem aaX (n:Nat):n=(n%2^8)^^^(n/2^8*2^8):=by
 refine Bu λi=>?_
 rw[Jm,Nat.testBit_mod_two_pow,Nat.testBit_mul_two_pow,Nat.testBit_div_two_pow]
 by_cases h:i<8
 .rw[show decide (i<8)=true from eu h,show decide (8<=i)=false from eM om]
  simp
 .rw[show decide (i<8)=false from eM h,show decide (8<=i)=true from eu om]
  simp only[rD,hI,Bool.false_xor]
  congr 1;omega
theorem Wn (c b:Nat) (g:b<256):jO 8 (c^^^b)=jO 8 (c%256^^^b)^^^(c/256):=by
 have e:=aaX (c^^^b)
 have d:(c^^^b)%2^8=c%256^^^b:=by
  rw[R7,hU (a:=b) om]
 have f:(c^^^b)/2^8=c/256:=by
  rw[Nat.xor_div_two_pow,Ju (a:=b) om,Nat.xor_zero]
 rw[d,f]at e
 conv=>lhs;rw[e]
 rw[Mj,Mi]
theorem yO (h:n<4294967296):IntKind.u32.wrap (n:Int)=(n:Int):=by
 show(n:Int)%4294967296=_
 omega
theorem Bd (ha:a<4294967296) (d:b<4294967296):IntKind.u32.wrap ((BitVec.ofInt IntKind.u32.bits (a:Int)^^^BitVec.ofInt IntKind.u32.bits (b:Int)).toNat:Int)=((a^^^b:Nat):Int):=by
 have c:a^^^b<4294967296:=uy (n:=32) ha d
 show IntKind.u32.wrap ((BitVec.ofInt 32 (a:Int)^^^BitVec.ofInt 32 (b:Int)).toNat:Int)=_
 rw[iQ,iQ,Bv,gW,gW,hU (show a<2^32 from ha),hU (show b<2^32 from d)]
 exact yO c
theorem Wl (h:n<4294967296):wC (n:Int)=((k4 n:Nat):Int):=by
 have b:IntKind.u32.wrap ((BitVec.ofInt IntKind.u32.bits (n:Int)&&&BitVec.ofInt IntKind.u32.bits 1).toNat:Int)=((n%2:Nat):Int):=by
  show IntKind.u32.wrap ((BitVec.ofInt 32 (n:Int)&&&BitVec.ofInt 32 ((1:Nat):Int)).toNat:Int)=_
  rw[iQ,iQ,vT,gW,gW,hU (show n<2^32 from h),hU (show 1<2^32 by decide),RS]
  exact yO om
 have c:Int.fdiv (n:Int) (2^1)=((n/2:Nat):Int):=by
  rw[yX _ dE]
  omega
 unfold wC
 rw[b,c]
 unfold k4
 by_cases a:n%2=1
 .rw[ak (by rw[bX];omega),ak a,show(3988292384:Int)=((3988292384:Nat):Int)from rfl,Bd om om]
 .rw[ai (by rw[bX];omega),ai a]
theorem Mf:∀(f:Nat) {n:Nat},n<4294967296->zO f (n:Int)=((jO f n:Nat):Int)
 |0,n,h=>rfl
 |f+1,n,h=>by
  show zO f (wC (n:Int))=_
  rw[Wl h]
  exact Mf f (Gd h)
theorem Wk (b:UInt8) (h:c<4294967296):x9 (c:Int) b=((jO 8 (c^^^b.toNat):Nat):Int):=by
 have a:=b.toNat_lt
 have d:IntKind.u8.wrap (c:Int)=((c%256:Nat):Int):=by show(c:Int)%256=_;omega
 have g:(c%256)^^^b.toNat<256:=uy (n:=8) om om
 have e:IntKind.u8.wrap ((BitVec.ofInt IntKind.u8.bits ((c%256:Nat):Int)^^^BitVec.ofInt IntKind.u8.bits (b.toNat:Int)).toNat:Int)=(((c%256)^^^b.toNat:Nat):Int):=by
  show IntKind.u8.wrap ((BitVec.ofInt 8 ((c%256:Nat):Int)^^^BitVec.ofInt 8 ((b.toNat:Nat):Int)).toNat:Int)=_
  rw[iQ,iQ,Bv,gW,gW,hU (show c%256<2^8 by omega),hU (show b.toNat<2^8 from a)]
  show(((c%256)^^^b.toNat:Nat):Int)%256=_
  omega
 have f:Int.fdiv (c:Int) (2^8)=((c/256:Nat):Int):=by
  rw[yX _ dE]
  omega
 unfold x9
 rw[d,e,f,kW]
 unfold uY
 rw[yO (n:=c%256^^^b.toNat) om,Mf 8 om,Bd (Cx 8 om) om,Wn c b.toNat a]
theorem Mh {x:Nat} (h:x<4294967296):yb (x:Int)=((4294967295-x:Nat):Int):=by
 unfold yb
 have e:(if IntKind.u32.signed then(-1:Int)else IntKind.u32.max)=((4294967295:Nat):Int):=rfl
 rw[e,Bd om h]
 congr 1
 have b:(BitVec.allOnes 32^^^BitVec.ofNat 32 x)= ~~~BitVec.ofNat 32 x:=BitVec.allOnes_xor
 have a:=gU BitVec.toNat b
 rw[Bv,Ex,gW,BitVec.toNat_allOnes,hU (show x<2^32 from h)]at a
 have c:2^32-1=4294967295:=dE
 rw[c]at a
 exact a
def nM (c:Nat) (l:List UInt8):Nat:=l.foldl (λc b=>jO 8 (c^^^b.toNat)) c
theorem Cw:∀(l:List UInt8) {c:Nat},c<4294967296->nM c l<4294967296
 |[],c,h=>h
 |b::l,c,h=>by
  have:=b.toNat_lt
  exact Cw l (Cx 8 (uy (n:=32) h om))
theorem Me:∀(l:List UInt8) {c:Nat},c<4294967296->l.foldl x9 (c:Int)=((nM c l:Nat):Int)
 |[],c,h=>rfl
 |b::l,c,h=>by
  have:=b.toNat_lt
  rw[kV,Wk b h]
  exact Me l (Cx 8 (uy (n:=32) h om))
theorem Mg (l:List UInt8):pR 0 l=((4294967295-nM 4294967295 l:Nat):Int):=by
 unfold pR
 rw[show(0:Int)=((0:Nat):Int)from rfl,Mh om,pz,Me l om]
 exact Mh (Cw l om)
theorem Uz {k:Int->Pr} (h:ab E w L) (Q:l.length<=1000000000) (u:∀v,ab E v L->k (pR 0 l) v):CL 226 #[.int .u32 0,.string (B l)] (.one (.leaf (.int .u32))) k w:=by
 rw[Mg]at u
 refine aed ?_
 have H:IntKind.u32.wrap (4294967295-0)=((4294967295:Nat):Int):=rfl
 rw[H,cJ]
 refine cy (S:=Int×Int) (cf:=λs=>s.2) l.length rfl (λi s w=>s.1=((nM 4294967295 (l.take i):Nat):Int)/\ab E w L) rfl ⟨rfl,h⟩ ?_ ?_
 .rintro next ⟨a,_⟩ w i A rfl ⟨d,h⟩ g
  simp only at d
  subst d
  have m:=Cw (l.take i) (c:=4294967295) om
  have p:=l[i].toNat_lt
  refine mJ A ?_
  have r:nM 4294967295 (l.take i)^^^l[i].toNat<4294967296:=uy (n:=32) m om
  have I:IntKind.u32.wrap ((BitVec.ofInt IntKind.u32.bits ((nM 4294967295 (l.take i):Nat):Int)^^^BitVec.ofInt IntKind.u32.bits (IntKind.u32.wrap ((l[i].toNat:Nat):Int))).toNat:Int)=((nM 4294967295 (l.take i)^^^l[i].toNat:Nat):Int):=by
   rw[yO (n:=l[i].toNat) om,Bd m om]
  have J:nM 4294967295 (l.take (i+1))=jO 8 (nM 4294967295 (l.take i)^^^l[i].toNat):=by
   rw[cR A]
   unfold nM
   rw[qy]
   rfl
  simp only[I]
  generalize nM 4294967295 (l.take i)^^^l[i].toNat=y at*
  refine gD (S:=Int×Int) 8 (λj s w=>s.2=(j:Int)/\(∃z:Nat,s.1=(z:Int)/\z<4294967296/\jO (8-j) z=jO 8 y)/\ab E w L) ⟨rfl,⟨y,rfl,r,rfl⟩,h⟩ ?_
  rintro o ⟨a,q⟩ w j R ⟨C,⟨z,d,K,D⟩,h⟩ t
  simp only at C d
  subst C d
  refine ao λ_=>?_
  refine ax (λb=>?_) (λb=>?_)
  .have b:j<8:=by have:=cT b;omega
   have N:Int.tmod (z:Int) 2=((z%2:Nat):Int):=rfl
   have O:IntKind.u32.wrap (Int.tdiv (z:Int) 2)=((z/2:Nat):Int):=by
    rw[show Int.tdiv (z:Int) 2=((z/2:Nat):Int)from rfl]
    exact yO om
   have P:jO (8-(j+1)) (k4 z)=jO 8 y:=by
    rw[<-D,show 8-j=8-(j+1)+1 by omega]
    rfl
   have f:∀(x:Int),x=((k4 z:Nat):Int)->o (x,w6 ((j:Int)+1)) w:=λx r=>by
    rw[r]
    exact t b _ _ ⟨bV b om,⟨k4 z,rfl,Gd K,P⟩,h⟩
   refine aL ?_
   rw[N,O]
   refine ax (λp=>?_) (λp=>?_)
   .have p:=ek p
    refine ao λ_=>f _ ?_
    rw[show(3988292384:Int)=((3988292384:Nat):Int)from rfl,Bd om om]
    unfold k4
    rw[ak om]
   .have p:=ei p
    refine ao λ_=>f _ ?_
    unfold k4
    rw[ai om]
  .have b:j=8:=by have:=cF b;omega
   subst b
   refine g _ _ (aiR om om) ⟨?_,h⟩
   rw[J]
   have:jO 0 z=jO 8 y:=D
   show(z:Int)=_
   rw[<-this];rfl
 .rintro⟨a,_⟩ w ⟨d,h⟩
  simp only at d
  subst d
  rw[cB]
  have m:=Cw l (c:=4294967295) om
  have e:IntKind.u32.wrap (4294967295-((nM 4294967295 l:Nat):Int))=((4294967295-nM 4294967295 l:Nat):Int):=by
   show(4294967295-((nM 4294967295 l:Nat):Int))%4294967296=_
   omega
  simp only[e]
  exact u w h
theorem Ua {k:Int->Pr} (h:ab E w L) (b:l.length<=1000000000) (c:∀a,ab E a L->k (pR 0 l) a):CL 179 #[.string (B l)] (.one (.leaf (.int .u32))) k w:=
 adw (Uz h b c)
theorem aaO (f n:Nat):nn (f+1) (n:Int)=u8 (n:Int)::nn f ((n/256:Nat):Int):=by
 have:Int.fdiv (n:Int) (2^8)=((n/256:Nat):Int):=by
  rw[yX _ dE]
  omega
 show u8 (n:Int)::nn f (Int.fdiv (n:Int) (2^8))=_
 rw[this]
theorem QX (n:Nat):IntKind.u8.wrap (Int.tmod (n:Int) 256)=(((u8 (n:Int)).toNat:Nat):Int):=by
 rw[show Int.tmod (n:Int) 256=((n%256:Nat):Int)from rfl,ny]
 unfold u8
 congr 3;omega
theorem TM (h:ab E w L) (v:l.length<=1000000000) (j:∀o,ab E o L->k (B (kN l)) o):CL 140 #[.string (B l)] an k w:=by
 refine acS ?_
 refine Ua h v λw h=>?_
 unfold kN at j
 have g:∃n:Nat,pR 0 l=(n:Int)/\n<4294967296:=⟨_,Mg l,om⟩
 obtain⟨n,x,m⟩:=g
 rw[x]at j⊢
 refine gD (S:=Int×ByteArray×Int) 4 (λi s w=>s.2.2=(i:Int)/\(∃(z:Nat) (q:List UInt8),s.1=(z:Int)/\z<4294967296/\s.2.1=B (l++q)/\q.length=i/\q++nn (4-i) (z:Int)=nn 4 (n:Int))/\ab E w L) ⟨rfl,⟨n,[],rfl,m,sI,rfl,rfl⟩,h⟩ ?_
 rintro next ⟨a,b,c⟩ w i A ⟨p,⟨z,q,r,C,u,y,f⟩,h⟩ d
 simp only at p r u
 subst p r u
 refine ao λ_=>?_
 refine ax (λg=>?_) (λg=>?_)
 .have CU:i<4:=by have:=cT g;simp only at this;omega
  refine zB h (QX z) λt w h=>?_
  refine oU (l:=[u8 (z:Int)]) h pK ?_
  refine cc (by simp;omega) ?_
  have e:IntKind.u32.wrap (Int.tdiv (z:Int) 256)=((z/256:Nat):Int):=by
   rw[show Int.tdiv (z:Int) 256=((z/256:Nat):Int)from rfl]
   exact yO om
  refine d CU _ _ ⟨bV CU om,⟨z/256,q++[u8 (z:Int)],e,om,sI,by simp[y],?_⟩,h.drop⟩
  rw[show 4-i=4-(i+1)+1 by omega,aaO]at f
  rw[<-f];simp
 .have CU:i=4:=by have:=cF g;simp only at this;omega
  subst CU
  have f:q++[]=nn 4 (n:Int):=f
  rw[iO]at f
  rw[f]
  exact j w h
theorem KJ (h:ab E w L) (hn:n<18446744073709551616) (p:∀j,ab E j L->k (B (dR 8 n)) j):CL 178 #[.int .u64 (n:Int)] an k w:=by
 refine adv ?_
 refine gD (S:=Int×ByteArray×Int) 8 (λi s w=>s=(((n/2^(8*i):Nat):Int),B (dR i n),(i:Int))/\ab E w L) ⟨by simp[dR,B],h⟩ ?_
 rintro next ⟨a,b,c⟩ w i y ⟨o,h⟩ d
 simp only[nD]at o
 obtain⟨r,u,v⟩:=o
 subst r u v
 refine ao λ_=>?_
 refine ax (λf=>?_) (λf=>?_)
 .have Ad:i<8:=by have:=cT f;simp only at this;omega
  refine zB h (QX _) λt w h=>?_
  refine oU (l:=[u8 ((n/2^(8*i):Nat):Int)]) h pK ?_
  have g:=jL i n
  refine cc (by rw[g];simp;omega) ?_
  refine d Ad _ _ ⟨?_,h.drop⟩
  have z:n/2^(8*i)<=n:=By _ _
  have e:IntKind.u64.wrap (Int.tdiv ((n/2^(8*i):Nat):Int) 256)=((n/2^(8*(i+1)):Nat):Int):=by
   rw[show Int.tdiv ((n/2^(8*i):Nat):Int) 256=((n/2^(8*i)/256:Nat):Int)from rfl,EH,show 2^(8*i)*256=2^(8*(i+1))by rw[Jn,Er]]
   have x:n/2^(8*(i+1))<=n:=By _ _
   generalize n/2^(8*(i+1))=m at x⊢
   show(m:Int)%18446744073709551616=_
   omega
  rw[e]
  exact qx rfl (qx rfl (bV Ad om))
 .have Ad:i=8:=by have:=cF f;simp only at this;omega
  subst Ad
  exact p w h
theorem TL (h:ab E w L) (hn:n<4294967296) (b:∀a,ab E a L->k (B (dR 4 n)) a):CL 139 #[iv (n:Int)] an k w:=by
 refine acR ?_
 have e:IntKind.u64.wrap (n:Int)=((n:Nat):Int):=by show(n:Int)%18446744073709551616=_;omega
 rw[e]
 refine KJ h om λw h=>?_
 refine vC (l:=dR 8 n) (m:=4) rfl (by rw[jL];omega) ?_
 exact b w h
def rQ (i:Nat) (b:UInt8):Bool:=tR i (b.toNat:Int)
def nK:Nat->List UInt8->Bool
 |_,[]=>true
 |i,b::l=>rQ i b&&nK (i+1) l
theorem Ww (h:(s.get! i).toNat<128):Utf8.decode s i=((s.get! i).toNat,1):=by
 unfold Utf8.decode
 simp only[sO]
 rw[ak h]
theorem Wv (h:¬(s.get! i).toNat<128):128<=(Utf8.decode s i).1:=by
 unfold Utf8.decode
 simp only[sO]
 rw[ai h]
 have b:128<=Utf8.runeError:=dE
 split
 .split
  .rename_i a;exact a
  .exact b
 .split
  .split
   .rename_i a
    rw[bp,bX]at a
    show 128<=_;omega
   .exact b
  .split
   .split
    .rename_i a
     rw[bp,bX]at a
     show 128<=_;omega
    .exact b
   .exact b
theorem Qe (h:128<=r):tR i (r:Int)=false:=by
 unfold tR
 rw[show decide ((97:Int)<=(r:Int))=true from eu om,show decide ((r:Int)<=122)=false from eM om,show decide ((r:Int)=95)=false from eM om,show decide ((r:Int)<=57)=false from eM om]
 simp
theorem Xz (l:List UInt8) (i:Nat) (h:i<l.length):(B l).get! i=l[i]:=by
 show(l.toArray)[i]! =l[i]
 rw[Jo _ _ (by simpa using h)]
 simp
theorem Qf (l:List UInt8):∀(f i:Nat),l.length-i<=f->qX (B l) f i=nK i (l.drop i)
 |0,i,h=>by
  rw[pF om];rfl
 |f+1,i,h=>by
  by_cases a:i<l.length
  .rw[Qh (by rw[cJ];exact a),iB a]
   show _=(rQ i l[i]&&nK (i+1) (l.drop (i+1)))
   have b:=Xz l i a
   by_cases c:(l[i]).toNat<128
   .rw[Ww (by rw[b];exact c),b,Qf l f (i+1) om]
    rfl
   .have:=Wv (s:=B l) (i:=i) (by rw[b];exact c)
    rw[Qe this]
    unfold rQ
    rw[Qe om];rfl
  .rw[Qg (by rw[cJ];omega),pF om];rfl
theorem OP (l:List UInt8):fD (B l)=(nK 0 l&&(decide (1<=l.length)&&decide (l.length<=32))):=by
 unfold fD
 rw[qY,Qf l _ 0 (by rw[cJ];omega),mi]
 congr 2
 .rw[gb]
  simp only[mR,ml,bX]
  constructor
  .intro h
   cases l with
   |nil=>exact absurd rfl h
   |cons b l=>simp
  .intro h e
   have:=gU ByteArray.size e
   rw[cJ]at this
   have a:eB.size=0:=rfl
   omega
 .rw[cJ,gb,bX,bX];omega
theorem Fo:∀(a b:List UInt8) (i:Nat),nK i (a++b)=(nK i a&&nK (i+a.length) b)
 |[],b,i=>by simp[nK]
 |x::a,b,i=>by
  show(rQ i x&&nK (i+1) (a++b))=(rQ i x&&nK (i+1) a&&_)
  rw[Fo a b,db,y5,show i+1+a.length=i+(a.length+1)by omega]
theorem IG (h:i<n) (hn:n<=9223372036854775807):w6 ((i:Int)+1)=((i+1:Nat):Int):=by rw[bQ om];omega
theorem FP {k:Bool->Pr} (h:ab E w L) (n:s.size<=9223372036854775807) (b:∀o,ab E o L->k (fD s) o):CL 277 #[.string s] aw k w:=by
 obtain⟨l,rfl⟩:∃l,s=B l:=⟨s.data.toList,(rI s).symm⟩
 rw[cJ]at n
 rw[OP]at b
 refine ae3 ?_
 rw[cJ]
 refine cy (S:=Int) (cf:=λs=>s) l.length rfl (λi _ w=>nK 0 (l.take i)=true/\ab E w L) rfl ⟨rfl,h⟩ ?_ ?_
 .rintro next _ w i g rfl ⟨f,h⟩ a
  refine mJ g ?_
  have e:nK 0 (l.take (i+1))=rQ i l[i]:=by
   rw[cR g,Fo,f,hI,cn,qt,rC om]
   show(rQ i l[i]&&true)=_
   rw[Bool.and_true]
  have c:rQ i l[i]=true->next (w6 ((i:Int)+1)) w:=λj=>a _ _ (IG g n) ⟨by rw[e];exact j,h⟩
  have d:rQ i l[i]=false->k false w:=λj=>by
   have:nK 0 l=false:=by
    have p:l=l.take (i+1)++l.drop (i+1):=(oq _ _).symm
    rw[p,Fo,e,j];rfl
   rw[this]at b
   exact b w h
  unfold rQ tR at c d
  have t:=l[i].toNat_lt
  generalize ((l[i].toNat:Nat):Int)=r at*
  clear b a e f
  repeat' (first|refine gA ?_|(refine gB ?_;clear h;intro w h)|(refine gC ?_;clear h;intro b0 w h)|refine aL ?_|refine ax (λm=>?_) (λm=>?_))
  all_goals first|refine d ?_|refine c ?_
  all_goals clear c d h
  all_goals grind
 .rintro _ w ⟨f,h⟩
  rw[cB]at f
  rw[f]at b
  repeat' (first|refine gA ?_|(refine gB ?_;clear h;intro w h)|(refine gC ?_;clear h;intro b0 w h)|refine aL ?_|refine ax (λm=>?_) (λm=>?_))
  all_goals refine fin (b _ h) ?_
  all_goals clear b h f
  all_goals grind
theorem U2 {s:Sl} {r:Row} {n:Int} {k:Bool->Pr} (h:ab E w (ae F::L)) (hs:FL F aP s r) (l:∀v∈r,WV v) (m:r.length<=9223372036854775807) (c:∀j,ab E j (ae F::L)->k (lC r n) j):CL 278 #[sv s,iv n] aw k w:=by
 refine ae4 ?_
 refine cy (S:=Int) (cf:=λs=>s) r.length (by rw[hs.2]) (λi _ w=>ab E w (ae F::L)/\(r.take i).all dM=true) rfl ⟨h,rfl⟩ ?_ ?_
 .rintro next _ w i d rfl ⟨h,f⟩ b
  refine ix hs d λa _=>?_
  repeat (first|refine gA ?_|(refine gB ?_;clear h;intro w h)|(refine gC ?_;clear h;intro b0 w h))
  refine Lm h (l _ (cp d)) λw h=>?_
  refine ax (λg=>?_) (λg=>?_)
  .refine fin (c _ dD) ?_
   have:r.all dM=false:=List.all_eq_false.2 ⟨_,cp d,by simpa using g⟩
   unfold lC;rw[this];rfl
  .refine b _ _ (IG d m) ⟨dD,?_⟩
   rw[cR d,ou,f];simpa using g
 .rintro _ w ⟨h,f⟩
  rw[cB]at f
  unfold lC at c
  rw[f,hI]at c
  have e:=hs.2
  rw[e]
  repeat' (first|refine gA ?_|(refine gB ?_;clear h;intro w h)|(refine gC ?_;clear h;intro b0 w h)|refine aL ?_|refine ax (λg=>?_) (λg=>?_))
  all_goals refine fin (c _ h) ?_
  all_goals clear c h f
  all_goals grind
theorem U3 {k:Bool->Pr} (h:ab E w (ae F::L)) (z:ft F p S) (j:∀o,ab E o (ae F::L)->k (lO S jA) o):CL 279 #[ag aD p,.agg #[.string (⟨#[]⟩),sv au,iv 0]] aw k w:=by
 obtain⟨D,g,A,⟨⟩⟩:=p
 obtain⟨r,u,v⟩:=z
 simp only at r u v
 subst r v
 have y:=u.2
 have e:lO S jA=(decide (S.1=eB)&&(decide (S.2.2=0)&&decide (S.2.1.length=0))):=by
  unfold lO jA
  simp only[List.length_eq_zero_iff]
 rw[e]at j
 refine ae5 (p0:=(S.1,g,S.2.2,())) (p1:=((⟨#[]⟩:ByteArray),au,(0:Int),())) ?_
 refine bx h λi w h=>?_
 refine bx h λl w h=>?_
 refine ld (t:=9) (x:=S.1) (b:=i) (off:=0) h ?_
 refine ld (t:=9) (x:=eB) (b:=l) (off:=0) h ?_
 rw[iK]
 refine aL ?_
 have f:∀w,ab E w (ae F::L)->(S.1≠eB\/S.2.2≠0\/S.2.1.length≠0)->k false w:=λw h d=>by
  refine fin (j w h) (Bool.eq_false_iff.2 ?_).symm
  simp only[uo,bp,bX]
  rintro⟨a,b,c⟩
  rcases d with d|d|d
  .exact d a
  .exact d b
  .exact d c
 refine ax (λd=>?_) (λd=>?_)
 .refine ao λ_=>?_
  refine aL ?_
  refine aR rfl ?_
  refine ao λ_=>?_
  refine aR rfl ?_
  exact f w (h.sub sS) (.inl (cF (nT d)))
 .have C:S.1=eB:=cT (nF d)
  refine ld (t:=3) (x:=S.2.2) (b:=i) (off:=2) h ?_
  refine ld (t:=3) (x:=(0:Int)) (b:=l) (off:=2) h ?_
  refine ao λ_=>?_
  refine aL ?_
  refine ax (λd=>?_) (λd=>?_)
  .refine ao λ_=>?_
   refine aR rfl ?_
   exact f w (h.sub sS) (.inr (.inl (by simpa using d)))
  .have m:S.2.2=0:=by simpa using d
   refine ld (t:=61) (x:=g) (b:=i) (off:=1) h ?_
   refine ld (t:=61) (x:=au) (b:=l) (off:=1) h ?_
   refine ao λ_=>?_
   refine ax (λd=>?_) (λd=>?_)
   .have n:g.len≠0:=by simpa using d
    exact f w (h.sub sS) (.inr (.inr om))
   .have n:g.len=0:=by simpa using d
    refine uA 0 ?_
    refine ao λ_=>?_
    refine ld (t:=61) (x:=g) (b:=i) (off:=1) h ?_
    refine ar (eM om) ?_
    refine fin (j w (h.sub sS)) ?_
    rw[C,m,show S.2.1.length=0 by omega];rfl
def BV (S:di):Prop:=S.1.size<=9223372036854775807/\∀c∈S.2.1,c.1.size<=9223372036854775807
theorem Yz (S:di):mA S=true↔fD S.1=true/\¬((S.2.1.length:Int)<1)/\¬((S.2.1.length:Int)>16)/\¬S.2.2<1/\¬S.2.2>8/\¬S.2.2>(S.2.1.length:Int):=by
 unfold mA
 simp only[bp,bX]
 constructor
 .rintro⟨a,c,d,b⟩
  refine⟨a,?_,?_,?_,?_,?_⟩<;>split at b<;>omega
 .rintro⟨a,c,d,b,e,f⟩
  refine⟨a,om,om,?_⟩
  split<;>omega
theorem OR:x∈names S i↔∃(j:Nat) (h:j<S.2.1.length),j<i/\(S.2.1[j]).1=x:=by
 unfold names
 rw[Be]
 constructor
 .rintro⟨c,a,rfl⟩
  obtain⟨j,b,rfl⟩:=sQ a
  rw[cn]at b
  exact⟨j,om,om,by rw[y9]⟩
 .rintro⟨j,d,e,rfl⟩
  exact⟨_,List.mem_take_iff_getElem.2 ⟨j,om,rfl⟩,rfl⟩
theorem K4 {k:Bool->Pr} (h:ab E w (ae F::L)) (hp:ft F p S) (hW:BV S) (K:∀w',ab E w' (ae F::L)->k (dK S) w'):CL 224 #[ag aD p] aw k w:=by
 obtain⟨nm,n,key,⟨⟩⟩:=p
 obtain⟨h1,V,h3⟩:=hp
 simp only at h1 V h3
 subst h1 h3
 have Q:=V.2
 refine aeb ?_
 refine bx h λg w h=>?_
 refine ld (t:=61) (x:=n) (b:=g) (off:=1) h ?_
 refine ld (t:=9) (x:=S.1) (b:=g) (off:=0) h ?_
 refine FP h hW.1 λw h=>?_
 have N:=Yz S
 simp only[Q]
 have v:∀w,ab E w (ae F::L)->¬mA S=true->k false w:=λw h W=>by
  have:=P0 (Bool.eq_false_iff.2 W)
  rw[this]at K;exact K w h
 refine br (λb w=>b=(!fD S.1||decide ((S.2.1.length:Int)<1))/\ab E w (lc g 63 (ay aD (S.1,n,S.2.2,()))::ae F::L)) (λX w d=>?_) λJ c=>?_
 rotate_left
 .refine ax (λhc=>?_) (λhc=>?_)
  .exact c _ _ ⟨by rw[hc];rfl,h⟩
  .exact c _ _ ⟨by rw[hc];rfl,h⟩
 obtain⟨A,h⟩:=d
 refine ao λ_=>?_
 refine br (λb w=>b=(X||decide ((S.2.1.length:Int)>16))/\ab E w (lc g 63 (ay aD (S.1,n,S.2.2,()))::ae F::L)) (λY w d=>?_) λJ c=>?_
 rotate_left
 .refine ax (λhc=>?_) (λhc=>?_)
  .exact c _ _ ⟨by rw[hc];rfl,h⟩
  .exact c _ _ ⟨by rw[hc];rfl,h⟩
 obtain⟨D,h⟩:=d
 refine ao λ_=>?_
 refine br (λb w=>b=(Y||decide (S.2.2<1))/\ab E w (lc g 63 (ay aD (S.1,n,S.2.2,()))::ae F::L)) (λb3 w d=>?_) λJ c=>?_
 rotate_left
 .refine ax (λhc=>?_) (λhc=>?_)
  .exact c _ _ ⟨by rw[hc];rfl,h⟩
  .refine ld (t:=3) (x:=S.2.2) (b:=g) (off:=2) h ?_
   exact c _ _ ⟨by rw[hc];rfl,h⟩
 obtain⟨H,h⟩:=d
 refine ao λ_=>?_
 refine br (λb w=>b=(b3||decide (S.2.2>8))/\ab E w (lc g 63 (ay aD (S.1,n,S.2.2,()))::ae F::L)) (λb4 w d=>?_) λJ c=>?_
 rotate_left
 .refine ax (λhc=>?_) (λhc=>?_)
  .exact c _ _ ⟨by rw[hc];rfl,h⟩
  .refine ld (t:=3) (x:=S.2.2) (b:=g) (off:=2) h ?_
   exact c _ _ ⟨by rw[hc];rfl,h⟩
 obtain⟨e4,h⟩:=d
 refine ao λ_=>?_
 refine br (λb w=>b=(b4||decide (S.2.2>(S.2.1.length:Int)))/\ab E w (lc g 63 (ay aD (S.1,n,S.2.2,()))::ae F::L)) (λb5 w d=>?_) λJ c=>?_
 rotate_left
 .refine ax (λhc=>?_) (λhc=>?_)
  .exact c _ _ ⟨by rw[hc];rfl,h⟩
  .refine ld (t:=3) (x:=S.2.2) (b:=g) (off:=2) h ?_
   exact c _ _ ⟨by rw[hc];rfl,h⟩
 obtain⟨e5,h⟩:=d
 have e:b5=!mA S:=by
  rw[e5,e4,H,D,A,gb]
  simp only[mR,rz,bX]
  rw[<-Bool.not_eq_true (mA S),N]
  constructor
  .rintro(((((a|a)|a)|a)|a)|a) d
   .rw[d.1]at a;cases a
   .exact d.2.1 a
   .exact d.2.2.1 a
   .exact d.2.2.2.1 a
   .exact d.2.2.2.2.1 a
   .exact d.2.2.2.2.2 a
  .intro W
   by_cases a1:fD S.1=false
   .exact .inl (.inl (.inl (.inl (.inl a1))))
   by_cases a2:(S.2.1.length:Int)<1
   .exact .inl (.inl (.inl (.inl (.inr a2))))
   by_cases a3:(S.2.1.length:Int)>16
   .exact .inl (.inl (.inl (.inr a3)))
   by_cases a4:S.2.2<1
   .exact .inl (.inl (.inr a4))
   by_cases a5:S.2.2>8
   .exact .inl (.inr a5)
   by_cases a6:S.2.2>(S.2.1.length:Int)
   .exact .inr a6
   exact absurd ⟨by simpa using a1,a2,a3,a4,a5,a6⟩ W
 rw[e]
 clear A D H e4 e5 e
 refine ao λ_=>?_
 refine ax (λhc=>?_) (λhc=>?_)
 .exact v w (h.sub sS) (by rw[nT hc];simp)
 have R:mA S=true:=nF hc
 have h16:=P1 R
 refine cy (S:=Int) (cf:=λs=>s) S.2.1.length rfl (λi _ w=>(List.range i).all (lZ S)=true/\ab E w (lc g 63 (ay aD (S.1,n,S.2.2,()))::ae F::L)) rfl ⟨rfl,h⟩ ?_ ?_
 .rintro next _ w i T rfl ⟨l,h⟩ m
  have U:=cp T
  have o:lZ S i=(fD (S.2.1[i]).1&&!decide ((S.2.1[i]).1∈names S i)&&decide (1<=(S.2.1[i]).2.1)&&decide ((S.2.1[i]).2.1<=5)&&(!decide ((i:Int)<S.2.2)||(S.2.1[i]).2.2.1)):=by
   unfold lZ
   rw[fA T]
  have lG:∀w,ab E w (ae F::L)->lZ S i=false->k false w:=λw h hc=>by
   rw[PZ T hc]at K;exact K w h
  refine ld (t:=61) (x:=n) (b:=g) (off:=1) h ?_
  refine ix V T λa ha=>?_
  refine fJ (ls:=dj) h ?_ (ha:=ha)
  generalize S.2.1[i]=C at*
  obtain⟨u,r,I,⟨⟩⟩:=C
  simp only at o
  refine al h λy w h=>?_
  refine bU (t:=60) (b:=y) (vs:=ay dj (u,r,I,())) h (λw h=>?_)
  refine ld (t:=9) (x:=u) (b:=y) (off:=0) h ?_
  refine FP h (hW.2 _ U) λw h=>?_
  refine br (λb w=>b=(!fD u||decide (r<1))/\ab E w (lc y 60 (ay dj (u,r,I,()))::lc g 63 (ay aD (S.1,n,S.2.2,()))::ae F::L)) (λX w d=>?_) λJ c=>?_
  rotate_left
  .refine ax (λhc=>?_) (λhc=>?_)
   .exact c _ _ ⟨by rw[hc];rfl,h⟩
   .refine ld (t:=3) (x:=r) (b:=y) (off:=1) h ?_
    exact c _ _ ⟨by rw[hc];rfl,h⟩
  obtain⟨A,h⟩:=d
  refine ao λ_=>?_
  refine br (λb w=>b=(X||decide (r>5))/\ab E w (lc y 60 (ay dj (u,r,I,()))::lc g 63 (ay aD (S.1,n,S.2.2,()))::ae F::L)) (λY w d=>?_) λJ c=>?_
  rotate_left
  .refine ax (λhc=>?_) (λhc=>?_)
   .exact c _ _ ⟨by rw[hc];rfl,h⟩
   .refine ld (t:=3) (x:=r) (b:=y) (off:=1) h ?_
    exact c _ _ ⟨by rw[hc];rfl,h⟩
  obtain⟨D,h⟩:=d
  refine ao λ_=>?_
  refine br (λb w=>b=(Y||(decide ((i:Int)<S.2.2)&&!I))/\ab E w (lc y 60 (ay dj (u,r,I,()))::lc g 63 (ay aD (S.1,n,S.2.2,()))::ae F::L)) (λb3 w d=>?_) λJ c=>?_
  rotate_left
  .refine ax (λhc=>?_) (λhc=>?_)
   .exact c _ _ ⟨by rw[hc];rfl,h⟩
   .refine ld (t:=3) (x:=S.2.2) (b:=g) (off:=2) h ?_
    refine aL ?_
    refine ax (λO=>?_) (λO=>?_)
    .refine ld (t:=4) (x:=I) (b:=y) (off:=2) h ?_
     refine ao λ_=>?_
     exact c _ _ ⟨by rw[hc,O];rfl,h⟩
    .refine ao λ_=>?_
     exact c _ _ ⟨by rw[hc,O];rfl,h⟩
  obtain⟨H,h⟩:=d
  refine ao λ_=>?_
  refine ax (λhc=>?_) (λhc=>?_)
  .refine lG w (h.sub sS) ?_
   rw[o]
   rw[H,D,A]at hc
   clear K m lG h A D H o l v N
   grind
  have f:fD u=true/\1<=r/\r<=5/\(¬(i:Int)<S.2.2\/I=true):=by
   rw[H,D,A]at hc
   clear K m lG h A D H o l v N
   grind
  clear A D H
  refine cy (S:=Int) (cf:=λs=>s) i rfl (λj _ w=>(∀q,q<j->(hq:q<S.2.1.length)->(S.2.1[q]).1≠u)/\ab E w (lc y 60 (ay dj (u,r,I,()))::lc g 63 (ay aD (S.1,n,S.2.2,()))::ae F::L)) rfl ⟨λq hq=>by omega,h⟩ ?_ ?_
  .rintro Z _ w j hj rfl ⟨P,h⟩ z
   refine dr h λw h=>?_
   refine ld (t:=61) (x:=n) (b:=g) (off:=1) h ?_
   refine ix V (show j<S.2.1.length by omega) λa ha=>?_
   refine nU (x:=(S.2.1[j]).1) h ?_ (ha:=ha) (hc:=by rfl)
   refine ld (t:=9) (x:=u) (b:=y) (off:=0) h ?_
   rw[iK]
   refine ax (λhc=>?_) (λhc=>?_)
   .have hc:=cT hc
    refine lG w (h.sub sS) ?_
    rw[o]
    have:decide (u∈names S i)=true:=eu (OR.2 ⟨j,om,hj,hc⟩)
    rw[this];simp
   .have hc:=cF hc
    refine z _ _ (bV hj om) ⟨λq hq He=>?_,h⟩
    by_cases e:q=j
    .subst e;exact hc
    .exact P q om He
  .rintro _ w ⟨P,h⟩
   refine m _ _ (bV T om) ⟨?_,h.sub sS⟩
   rw[qz,ou,l,hI]
   simp only[uu,zf,Bool.and_true]
   rw[o]
   have:decide (u∈names S i)=false:=eM λhm=>by
    obtain⟨j,h5,h6,h7⟩:=OR.1 hm
    exact P j h6 h5 h7
   rw[this,f.1,show decide (1<=r)=true from eu f.2.1,show decide (r<=5)=true from eu f.2.2.1]
   rcases f.2.2.2 with O|O
   .rw[show decide ((i:Int)<S.2.2)=false from eM O];rfl
   .rw[O];simp
 .rintro _ w ⟨l,h⟩
  refine fin (K w (h.sub sS)) ?_
  unfold dK
  rw[R,l];rfl
end Go.Proofs.YtelhccfmfnaegaaGreat
