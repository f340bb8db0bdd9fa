/- Lemmas for topAudits_holds. No conditions. -/
import Derived.Below
import Derived.CallsIn
import Derived.Carry
import Derived.DefersIn
import Derived.IntWalk
import Derived.KernelRfl
import Derived.Laws.BytesString
import Derived.Laws.IdiomStrings
import Derived.Laws.MakeOwn
import Derived.Laws.RangeString
import Derived.Laws.Sem
import Derived.Laws.Strings3
import Derived.Laws.StructEq
import Derived.Lib.Strings
import Derived.LoopN
import Derived.LoopNIn
import Derived.Maps.RangeRun
import Derived.OpenShut
import Derived.Orders
import Derived.OrdersIn
import Derived.ProofKit
import Derived.RangeFuncLeaves
import Derived.RangeFuncNested
import Derived.RangeFuncOwn
import Derived.RecoverIn
import Derived.Test.YtelhccfmfnaegaaGreatProg
import GoSem.Core.Float
import GoSem.Op.String
set_option linter.unusedSectionVars false
set_option linter.unusedVariables false
set_option linter.unusedSimpArgs false
set_option linter.defProp false
namespace Go.Sh
def ai:=@if_neg
def ak:=@if_pos
def aU:=@List.length_append
def bp:=@Bool.and_eq_true
def bW:=@List.length_map
def bX:=@decide_eq_true_eq
def cn:=@List.length_take
def cp:=@List.getElem_mem
def cB:=@List.take_length
def cP:=@List.append_assoc
def cV:=@Nat.le_refl
def db:=@List.length_cons
def dH:=@List.mem_cons_of_mem
def eo:=@List.mem_cons_self
def eu:=@decide_eq_true
def eM:=@decide_eq_false
def eR:=@Go.wpOpsIn_cons
def eZ:=@List.map_cons
def fc:=@List.flatMap_cons
def fe:=@List.map_append
def fq:=@List.length_drop
def fA:=@List.getElem?_eq_getElem
def fE:=@List.mem_singleton
def fF:=@if_false
def gb:=@Bool.eq_iff_iff
def gr:=@if_true
def gz:=@Go.wpIn_seq
def gM:=@List.flatMap_append
def gU:=@congrArg
def gV:=@List.length_filter_le
def gW:=@BitVec.toNat_ofNat
def gZ:=@List.getElem?_append_right
def g0:=@List.getElem?_append_left
def hI:=@Bool.true_and
def hU:=@Nat.mod_eq_of_lt
def iB:=@List.drop_eq_getElem_cons
def iO:=@List.append_nil
def iP:=@List.take_of_length_le
def iQ:=@BitVec.ofInt_natCast
def ja:=@Option.some.inj
def jr:=@List.filter_cons
def js:=@Go.wpIn_region
def jt:=@Nat.zero_le
def jZ:=@Option.bind_some
def ki:=@List.map_nil
def kj:=@Nat.lt_or_ge
def kk:=@Bool.false_eq_true
def km:=@Nat.add_mul
def kV:=@List.foldl_cons
def kW:=@Int.toNat_natCast
def lq:=@Go.wpIn_mono
def lr:=@Array.ext'
def lR:=@Nat.mul_le_mul_right
def lS:=@of_decide_eq_true
def lT:=@List.take_succ_eq_append_getElem
def mi:=@List.drop_zero
def mj:=@List.mem_of_mem_take
def ml:=@decide_eq_false_iff_not
def mN:=@List.mem_append
def mO:=@List.length_nil
def mP:=@Int.le_refl
def mQ:=@List.nil_append
def mR:=@Bool.not_eq_true'
def m7:=@Nat.add_assoc
def m8:=@List.length_singleton
def nz:=@List.mem_cons
def nA:=@List.cons_append
def nB:=@List.getElem?_drop
def nC:=@List.filter_append
def nD:=@Prod.mk.injEq
def oo:=@List.getElem?_toArray
def oq:=@List.take_append_drop
def ou:=@List.all_append
def px:=@List.length_range
def py:=@Nat.mul_one
def pz:=@Nat.sub_zero
def pA:=@List.getElem?_eq_none
def pB:=@of_decide_eq_false
def pC:=@List.getElem?_take_of_lt
def pD:=@List.all_eq_true
def pE:=@List.map_toArray
def pF:=@List.drop_of_length_le
def qp:=@List.nodup_nil
def qq:=@beq_iff_eq
def qt:=@Nat.zero_add
def qu:=@Nat.mod_lt
def qv:=@List.drop_length
def qw:=@Nat.le_trans
def qx:=@Prod.ext
def qy:=@List.foldl_append
def qz:=@List.range_succ
def qB:=@List.getElem_map
def qC:=@List.getD_eq_getElem?_getD
def rz:=@Bool.or_eq_true
def rA:=@List.map_map
def rB:=@Option.map_some
def rC:=@Nat.min_eq_left
def rD:=@Bool.false_and
def rE:=@List.length_replicate
def sV:=@Array.getD_eq_getD_getElem?
def sN:=@List.nodup_cons
def sO:=@Nat.add_zero
def sP:=@Option.map_none
def sQ:=@List.getElem_of_mem
def sR:=@and_true
def sT:=@true_and
def sU:=@List.not_mem_nil
def uo:=@ne_eq
def uq:=@Nat.zero_mul
def ur:=@List.getElem_append_left
def uu:=@List.all_cons
def uv:=@List.drop_drop
def uw:=@List.take_zero
def ux:=@List.mem_of_getLast?
def uy:=@Nat.xor_lt_two_pow
def uz:=@List.mem_append_left
def vH:=@Go.Oper.uponIn_enter
def vI:=@Go.CallsIn.mono
def vJ:=@Go.wpIn_block
def vK:=@List.nodup_append
def vL:=@List.set_append_right
def vM:=@Nat.eq_zero_or_pos
def vO:=@Nat.mul_comm
def vP:=@List.drop_left
def vQ:=@Nat.pow_succ
def vR:=@decide_eq_true_iff
def vS:=@Bool.and_false
def vT:=@BitVec.toNat_and
def vU:=@List.length_zip
def vV:=@Nat.lt_of_lt_of_eq
def vW:=@List.take_left
def vX:=@Option.getD_some
def xw:=@Array.getElem?_eq_none
def xx:=@Nat.le_of_ble_eq_true
def xy:=@List.length_set
def xz:=@Nat.sub_self
def xA:=@Nat.mul_le_mul
def xB:=@List.flatMap_nil
def xC:=@List.takeWhile_cons
def xD:=@List.dropLast_subset
def xE:=@List.getElem_zip
def xF:=@Go.callsIn_of_wp_defers
def xG:=@List.cons.injEq
def yS:=@Ne.symm
def yT:=@List.mem_range
def yU:=@List.getElem?_cons_succ
def yV:=@List.take_succ_cons
def yW:=@List.getElem_drop
def yX:=@Int.fdiv_eq_ediv_of_nonneg
def yY:=@Go.IntWalk.u64_in
def yZ:=@Nat.testBit_two_pow
def y0:=@Nat.xor_assoc
def y5:=@Bool.and_assoc
def y6:=@List.getLast?_eq_some_getLast
def y7:=@Bool.eq_false_iff
def y8:=@Go.wpIn_cond_true
def y9:=@List.getElem_take
def ze:=@List.Pairwise.nil
def zf:=@List.all_nil
def Be:=@List.mem_map
def Bf:=@List.mem_filter
def Bg:=@not_true_eq_false
def Bh:=@Array.ext_getElem?
def Bi:=@Nat.sub_mul
def Bj:=@Array.length_toList
def Bk:=@List.getElem_cons_zero
def Bl:=@Bool.not_true
def Bm:=@List.filter_nil
def Bn:=@Int.eq_ofNat_of_zero_le
def Bo:=@List.zip_cons_cons
def Bp:=@List.ext_getElem?
def Bq:=@List.getLast?_eq_getElem?
def Br:=@List.drop_eq_nil_of_le
def Bs:=@List.foldl_nil
def Bt:=@dif_pos
def Bu:=@Nat.eq_of_testBit_eq
def Bv:=@BitVec.toNat_xor
def Bw:=@Nat.add_sub_cancel_left
def Bx:=@List.dropLast_concat_getLast
def By:=@Nat.div_le_self
def Bz:=@Nat.pow_lt_pow_right
def BA:=@or_false
def BB:=@List.pairwise_map
def BC:=@List.mem_append_right
def Ec:=@Array.getElem?_setIfInBounds
def Ed:=@Array.ext
def Ee:=@Go.Sem.run_bind
def Ef:=@Go.wpIn_ret
def Eg:=@Nat.add_comm
def Eh:=@List.getElem?_cons_zero
def Ei:=@List.filter_cons_of_pos
def Ej:=@List.size_toArray
def Ek:=@List.getElem_append_right
def El:=@Nat.ble_eq
def Em:=@List.set_cons_zero
def En:=@List.set_cons_succ
def Eo:=@Nat.mul_assoc
def Ep:=@Nat.shiftLeft_eq
def Er:=@Nat.pow_add
def Es:=@beq_eq_false_iff_ne
def Et:=@List.zip_append
def Eu:=@List.reverse_append
def Ev:=@List.length_reverse
def Ew:=@List.take_left'
def Ex:=@BitVec.toNat_not
def Ey:=@BitVec.toNat_or
def Ez:=@List.map_take
def EA:=@Go.callsDIn_of_wpSIn
def EB:=@Go.wpSIn_seq
def EC:=@Go.wpSIn_region
def ED:=@Go.wpSIn_of_wpIn
def EE:=@Go.Oper.uponIn_defer
def EF:=@Go.leavesIn_cons
def EG:=@UInt8.toNat_ofNat_of_lt'
def EH:=@Nat.div_div_eq_div_mul
def EI:=@Nat.le_of_lt
def EJ:=@List.filterMap_cons
def EK:=@List.filterMap_nil
def EL:=@List.eq_nil_or_concat
def EM:=@List.concat_eq_append
def EN:=@UInt8.toNat_lt
def EO:=@List.getElem_set_ne
def IN:=@List.mem_filterMap
def IP:=@Nat.lt_succ_self
def IQ:=@Array.getElem_setIfInBounds_ne
def IS:=@Nat.le_add_right
def IT:=@Array.append_assoc
def IU:=@Go.run_underlying
def IW:=@List.filter_cons_of_neg
def IY:=@List.setIfInBounds_toArray
def IZ:=@List.set_append_left
def I0:=@Array.eq_empty_of_size_eq_zero
def I2:=@List.take_append_of_le_length
def I3:=@List.drop_length_add_append
def I4:=@List.take_length_add_append
def I5:=@Nat.mul_pos
def I6:=@Nat.div_lt_iff_lt_mul
def I7:=@Option.some.injEq
def I8:=@Nat.blt_eq
def I9:=@Nat.two_pow_pos
def Ja:=@List.forIn_cons
def Jb:=@Bool.not_false
def Jc:=@List.mem_of_mem_drop
def Jd:=@decide_false
def Je:=@List.getElem?_set_ne
def Jf:=@List.any_append
def Jg:=@Bool.false_or
def Jh:=@Int.le_trans
def Ji:=@ByteArray.ext
def Jj:=@BitVec.xor_zero
def Jk:=@Nat.testBit_and
def Jl:=@Nat.or_comm
def Jm:=@Nat.testBit_xor
def Jn:=@Nat.mul_add
def Jo:=@getElem!_pos
def Jp:=@List.drop_replicate
def Jq:=@Nat.add_sub_cancel
def Jr:=@Nat.shiftLeft_add_eq_or_of_lt
def Js:=@List.filter_map
def Jt:=@Nat.lt_of_le_of_lt
def Ju:=@Nat.div_eq_of_lt
def Jv:=@Nat.mod_two_eq_zero_or_one
def Jw:=@List.take_append
def Jx:=@Go.IntWalk.u8_in
def Jy:=@Bool.or_eq_false_iff
def Jz:=@List.drop_left'
def JA:=@List.perm_middle
def JC:=@Nat.mul_le_mul_left
def JD:=@Bool.and_self
def JE:=@Go.DataW.trod_int
def JF:=@Go.DataW.trod_lt
def JG:=@Go.trodAll_cons_mk
def Rn:=@Array.size_setIfInBounds
def Ro:=@List.nodup_range
def Rp:=@Array.getElem_modify
def Rq:=@List.modify_succ_cons
def Rr:=@List.countP_eq_length_filter
def Rs:=@Array.filter_eq_empty_iff
def Rt:=@Array.mem_filter
def Ru:=@List.drop_succ_cons
def Rv:=@Nat.eq_of_mul_eq_mul_right
def Rx:=@List.zipIdx_cons
def Ry:=@Nat.mul_lt_mul_of_pos_right
def Rz:=@Int.lt_trichotomy
def RA:=@Int.mul_lt_mul_of_pos_right
def RB:=@List.take_add_one
def RC:=@List.getElem?_eraseIdx
def RD:=@List.dropLast_eq_take
def RE:=@List.set_eq_take_append_cons_drop
def RF:=@List.reverse_singleton
def RG:=@List.singleton_append
def RH:=@UInt8.toNat_ofNat'
def RI:=@BitVec.xor_allOnes
def RJ:=@Nat.testBit_eq_decide_div_mod_eq
def RK:=@Nat.two_pow_add_eq_or_of_lt
def RL:=@Array.getElem?_toList
def RM:=@List.getElem?_map
def RN:=@List.getElem?_range
def RO:=@List.filter_congr
def RP:=@List.filter_eq_nil_iff
def RQ:=@Nat.le_of_not_lt
def RS:=@Nat.and_one_is_mod
def RT:=@Nat.and_le_right
def RU:=@List.drop_append_of_le_length
def RV:=@List.filterMap_append
def RW:=@List.nil_sublist
def RX:=@List.getElem_range
def RY:=@List.dropWhile_cons
def RZ:=@List.replicate_succ'
def R0:=@List.getElem_set_self
def R1:=@Std.Legacy.Range.forIn_eq_forIn_range'
def R2:=@UInt8.lt_iff_toNat_lt
def R3:=@Go.Lib.toList_data
def R4:=@Nat.and_two_pow_sub_one_eq_mod
def R5:=@List.perm_append_singleton
def R6:=@List.eq_nil_of_length_eq_zero
def R7:=@Nat.xor_mod_two_pow
def R8:=@Nat.min_eq_right
def R9:=@List.takeWhile_append_dropWhile
def Sa:=@List.all_takeWhile
def Sb:=@List.head?_dropWhile_not
def Sd:=@forall_eq_or_imp
def Se:=@List.pairwise_cons
def Sf:=@List.Pairwise.filter
def Sg:=@List.length_dropLast
def Si:=@Option.getD_none
def Sj:=@List.map_congr_left
end Go.Sh
namespace Go.Sh
structure Sl where
 a:Option Addr
 len:Nat
 cap:Nat
inductive bD where
 |int (k:IntKind)
 |bool
 |float
 |str
 |ptr
 |addr
 |slice
 |map
 |raw
abbrev bD.den:bD->Type
 |.int _=>Int
 |.bool=>Bool
 |.float=>Nat
 |.str=>ByteArray
 |.ptr=>Option Addr
 |.addr=>Addr
 |.slice=>Sl
 |.map=>Option Nat
 |.raw=>Value
def bD.val:(l:bD)->l.den->Value
 |.int k,n=>.int k n
 |.bool,b=>.bool b
 |.float,n=>.float .f64 n
 |.str,s=>.string s
 |.ptr,p=>.pointer p
 |.addr,p=>.pointer (some p)
 |.slice,s=>.slice s.a s.len s.cap
 |.map,m=>.map m
 |.raw,v=>v
def bD.parse:(l:bD)->Value->Option l.den
 |.int k,.int d n=>if k=d then some n else none
 |.bool,.bool b=>some b
 |.float,.float .f64 n=>some n
 |.str,.string s=>some s
 |.ptr,.pointer p=>some p
 |.addr,.pointer (some p)=>some p
 |.slice,.slice a n c=>some ⟨a,n,c⟩
 |.map,.map m=>some m
 |.raw,v=>some v
 |_,_=>none
theorem bD.qV:∀(l:bD) (v:Value) (x:l.den),l.parse v=some x->v=l.val x
 |.int k,v,x,h=>by
  cases v<;>simp[bD.parse]at h
  obtain⟨rfl,rfl⟩:=h;rfl
 |.bool,v,x,h=>by cases v<;>simp[bD.parse]at h;subst h;rfl
 |.float,v,x,h=>by
  cases v<;>simp[bD.parse]at h
  rename_i k n
  cases k<;>simp at h
  subst h;rfl
 |.str,v,x,h=>by cases v<;>simp[bD.parse]at h;subst h;rfl
 |.ptr,v,x,h=>by cases v<;>simp[bD.parse]at h;subst h;rfl
 |.addr,v,x,h=>by
  cases v<;>simp[bD.parse]at h
  rename_i a
  cases a<;>simp at h
  subst h;rfl
 |.slice,v,x,h=>by cases v<;>simp[bD.parse]at h;subst h;rfl
 |.map,v,x,h=>by cases v<;>simp[bD.parse]at h;subst h;rfl
 |.raw,v,x,h=>by simp[bD.parse]at h;subst h;rfl
abbrev bK:List bD->Type
 |[]=>Unit
 |l::a=>l.den×bK a
def ay:(a:List bD)->bK a->List Value
 |[],_=>[]
 |l::a,x=>l.val x.1::ay a x.2
def qN:(a:List bD)->List Value->Option (bK a)
 |[],[]=>some ()
 |l::a,v::b=>
  match l.parse v,qN a b with
  |some x,some c=>some (x,c)
  |_,_=>none
 |_,_=>none
theorem xZ:∀(b:List bD) (a:List Value) (x:bK b),qN b a=some x->a=ay b x
 |[],a,x,h=>by cases a<;>simp[qN]at h;rfl
 |l::b,a,x,h=>by
  cases a with
  |nil=>simp[qN]at h
  |cons v a=>
   simp only[qN]at h
   split at h
   .rename_i y d e c
    simp at h;subst h
    rw[bD.qV l v y e,xZ b a d c];rfl
   .simp at h
inductive cE where
 |leaf (l:bD)
 |agg (ls:List bD)
abbrev cE.den:cE->Type
 |.leaf l=>l.den
 |.agg a=>bK a
def cE.val:(c:cE)->c.den->Value
 |.leaf l,x=>l.val x
 |.agg a,x=>.agg ⟨ay a x⟩
def cE.parse:(c:cE)->Value->Option c.den
 |.leaf l,v=>l.parse v
 |.agg a,.agg b=>qN a b.toList
 |.agg _,_=>none
theorem cE.qV:∀(c:cE) (v:Value) (x:c.den),c.parse v=some x->v=c.val x
 |.leaf l,v,x,h=>bD.qV l v x h
 |.agg a,v,x,h=>by
  cases v<;>simp[cE.parse]at h
  rename_i b
  have:=xZ a _ x h
  cases b
  simp at this
  subst this;rfl
abbrev vE:List cE->Type
 |[]=>Unit
 |c::a=>c.den×vE a
def xq:(a:List cE)->vE a->List Value
 |[],_=>[]
 |c::a,x=>c.val x.1::xq a x.2
def yN:(a:List cE)->List Value->Option (vE a)
 |[],[]=>some ()
 |c::a,v::b=>
  match c.parse v,yN a b with
  |some x,some d=>some (x,d)
  |_,_=>none
 |_,_=>none
theorem QS:∀(b:List cE) (a:List Value) (x:vE b),yN b a=some x->a=xq b x
 |[],a,x,h=>by cases a<;>simp[yN]at h;rfl
 |l::b,a,x,h=>by
  cases a with
  |nil=>simp[yN]at h
  |cons v a=>
   simp only[yN]at h
   split at h
   .rename_i y d e c
    simp at h;subst h
    rw[cE.qV l v y e,QS b a d c];rfl
   .simp at h
inductive Ty where
 |one (c:cE)
 |aG (cs:List cE)
abbrev Ty.den:Ty->Type
 |.one c=>c.den
 |.aG a=>vE a
def Ty.val:(t:Ty)->t.den->Value
 |.one c,x=>c.val x
 |.aG a,x=>.tuple ⟨xq a x⟩
def Ty.parse:(t:Ty)->Value->Option t.den
 |.one c,v=>c.parse v
 |.aG a,.tuple b=>yN a b.toList
 |.aG _,_=>none
theorem Ty.qV:∀(t:Ty) (v:Value) (x:t.den),t.parse v=some x->v=t.val x
 |.one c,v,x,h=>cE.qV c v x h
 |.aG a,v,x,h=>by
  cases v<;>simp[Ty.parse]at h
  rename_i b
  have:=QS a _ x h
  cases b
  simp at this
  subst this;rfl
abbrev ah:Ty:=.one (.leaf (.int .i64))
abbrev aw:Ty:=.one (.leaf .bool)
abbrev an:Ty:=.one (.leaf .str)
abbrev aI:Ty:=.one (.leaf .ptr)
abbrev dB:Ty:=.one (.leaf .addr)
abbrev aE:Ty:=.one (.leaf .slice)
abbrev cI:Ty:=.one (.leaf .map)
abbrev yK:Ty:=.one (.leaf .raw)
abbrev Pr:=World->Prop
section
variable (P:Program)
structure fU (s:Sem Next) (t:Ty) (k:t.den->Pr) (w:World):Prop where
 out:∃x,(∀w,s.run P w=.ok (.value (t.val x)) w)/\k x w
structure dQ (s:Sem Next) (t:Ty) (k:t.den->Pr) (w:World):Prop where
 out:∃x,s.run P w=.ok (.value (t.val x)) w/\k x w
structure eT (s:Sem Next) (t:Ty) (k:t.den->Pr) (w:World):Prop where
 out:∃x w',s.run P w=.ok (.value (t.val x)) w'/\k x w'
structure lv (s:Sem Next) (k:Pr) (w:World):Prop where
 out:∃w',s.run P w=.ok .skip w'/\k w'
structure zp (s:Sem Next) (t:List cE) (kn:Pr) (ks:vE t->Pr) (w:World):Prop where
 out:(∃w',s.run P w=.ok (.value (.tuple ⟨[.bool false]⟩)) w'/\kn w')\/
  (∃x w',s.run P w=.ok (.value (.tuple ⟨.bool true::xq t x⟩)) w'/\ks x w')
structure kq (f:FuncId) (args:Array Value) (t:Ty) (k:t.den->Pr) (w:World):Prop where
 out:Calls P f args w λe w'=>∃x,e=.returned (t.val x)/\k x w'
structure oD (s:Sem Next) (t:Ty) (k:t.den->Pr) (w:World):Prop where
 out:(∃l fn tmps assign body,s.run P w=.ok (.round l fn tmps assign body) w/\
  RoundIn Fence.wide 0 P l fn tmps assign body w λe w'=>∃x,e=.returned (t.val x)/\k x w')\/
  ∃f args,s.run P w=.ok (.enter f args) w/\kq P f args t k w
structure oz (s:Sem Next) (v:Value) (k:Pr) (w:World):Prop where
 out:s.run P w=.ok (.value v) w/\k w
end
structure af (b:Bool) (x y:Pr) (w:World):Prop where
 out:(b=true->x w)/\(b=false->y w)
structure bZ {S:Type} (J:S->Pr) (body:(S->Pr)->Pr) (w:World):Prop where
 out:body J w
def iter {S:Type} (F:(S->Pr)->S->Pr):Nat->S->Pr
 |0,_,_=>False
 |n+1,s,w=>F (iter F n) s w
structure aV {S:Type} (F:(S->Pr)->S->Pr) (s:S) (w:World):Prop where
 out:∃n,iter F n s w
structure ba (k:List Value->Pr) (w:World):Prop where
 out:∀us,k us w
structure aY (k:Pr) (w:World):Prop where
 out:k {w with drawn:=w.drawn+1}
def vN (s:Sem Value):Sem Next:=do pure (.value (<-s))
def uN (s:Sem Unit):Sem Next:=do s;pure .skip
def Dv (v:Value):Sem Next:=execOp (λ_=>v) {dst:=none,op:=.nilCheck (.tmp 0),type:=0,pos:= "",after:=#[],guard:=none}
def eW (f:Value) (args:Array Value):Sem Next:=do let d<-Deferred.ofValue f args;invoke d.target d.args
def cL (c:BinOp) (t:TypeId) (x y:Operand) (a b:Value):Sem Next:=vN (do eqGuard c t x y a b;Go.binOp c t a b)
def aQ {α:Type} (P:Program):Sem α->Option α
 |.pure a=>some a
 |.program k=>aQ P (k P)
 |.mark _ k=>aQ P k
 |_=>none
theorem cd {α:Type} {P:Program} {v:α}:∀(s:Sem α),aQ P s=some v->∀w,s.run P w=.ok v w
 |.pure a,h,w=>by simp[aQ]at h;simp[Sem.run,h]
 |.program k,h,w=>by simp only[aQ]at h;simp only[Sem.run];exact cd (k P) h w
 |.mark m k,h,w=>by simp only[aQ]at h;simp only[Sem.run];exact cd k h w
 |.load ..,h,_|.store ..,h,_|.new ..,h,_|.shape ..,h,_|.freeze ..,h,_|.frozen ..,h,_|.getObj ..,h,_|.setObj ..,h,_
 |.choose ..,h,_|.sys ..,h,_|.halt ..,h,_=>by simp[aQ]at h
inductive Mode where
 |pure
 |val (t:Ty)
 |get (t:Ty)
inductive Steps where
 |nil
 |take (i:Nat) (m:Mode) (r:Steps)
 |nh (i:Nat) (t:Ty) (r:Steps)
 |ni (i:Nat) (r:Steps)
 |next (i:Nat) (t:List cE) (r:Steps)
 |call (i:Nat) (t:Ty) (r:Steps)
 |inv (i:Nat) (t:Ty) (r:Steps)
 |guard (g:Tmp) (rP:Steps) (pick:Tmp) (dead:List Tmp) (r:Steps)
inductive fS where
 |nil
 |take (i:Nat) (m:Mode) (r:fS)
 |now (i:Nat) (m:Mode) (gX:List Nat) (r:fS)
 |nh (i:Nat) (t:Ty) (gX:List Nat) (r:fS)
 |ni (i:Nat) (gX:List Nat) (r:fS)
 |call (i:Nat) (t:Ty) (gX:List Nat) (r:fS)
 |inv (i:Nat) (t:Ty) (gX:List Nat) (r:fS)
 |split (g:Tmp) (r:fS)
 |alt (r1 r2:fS)
def Steps.pu (i:Nat):Nat->Steps->Steps
 |0,r=>r
 |n+1,r=>.take i .pure (Steps.pu (i+1) n r)
def fS.pu (i:Nat):Nat->fS->fS
 |0,r=>r
 |n+1,r=>.take i .pure (fS.pu (i+1) n r)
def rg (a b:Nat):List Nat:=(List.range (b+1-a)).map (a+·)
inductive fZ where
 |skip
 |region (id:Nat) (ops:Array Oper) (st:Steps)
 |draw (id:Nat) (ops:Array Oper) (ds:fS)
 |seq (x y:fZ)
 |join (x:fZ) (live:List (Tmp×cE)) (dead:List Tmp) (y:fZ)
 |cond (c:Operand) (x y:fZ)
 |block (id:Nat) (x:fZ)
 |loop (live:List (Tmp×cE)) (dead:List Tmp) (x:fZ)
 |exit (id:Nat)
 |ret
 |scope (x:fZ)
 |label (l:Nat)
inductive SA where
 |none
 |region (st:Steps)
 |draw (ds:fS)
 |seq (x y:SA)
 |join (x:SA) (live:List (Tmp×cE)) (dead:List Tmp) (y:SA)
 |cond (x y:SA)
 |block (x:SA)
 |loop (live:List (Tmp×cE)) (dead:List Tmp) (x:SA)
 |scope (x:SA)
def SA.on:SA->Code->fZ
 |.none,.skip=>.skip
 |.none,.exit id=>.exit id
 |.none,.ret=>.ret
 |.none,.label l=>.label l
 |.scope x,.scope c=>.scope (x.on c)
 |.region st,.region id e _=>.region id e st
 |.draw f,.region id e _=>.draw id e f
 |.seq x y,.seq c d=>.seq (x.on c) (y.on d)
 |.join x a b y,.seq c d=>.join (x.on c) a b (y.on d)
 |.cond x y,.cond o c d=>.cond o (x.on c) (y.on d)
 |.block x,.block id c=>.block id (x.on c)
 |.loop a b x,.loop c=>.loop a b (x.on c)
 |_,_=>.skip
def ee (a:Func):Code:=a.body.getD .skip
def fZ.erase:fZ->Code
 |.skip=>.skip
 |.region id a _=>.region id a false
 |.draw id a _=>.region id a true
 |.seq x y=>.seq x.erase y.erase
 |.join x _ _ y=>.seq x.erase y.erase
 |.cond c x y=>.cond c x.erase y.erase
 |.block id x=>.block id x.erase
 |.loop _ _ x=>.loop x.erase
 |.exit id=>.exit id
 |.ret=>.ret
 |.scope x=>.scope x.erase
 |.label l=>.label l
end Go.Sh
namespace Go
def Act.set (a:Act) (d:Tmp) (v:Value):Act:={a with tmps:=a.tmps.setIfInBounds d v}
end Go
namespace Go.Sh
def slot (a:Act) (d:Tmp):Value:=a.tmps.getD d undef
def nl:List Tmp->List Value->Act->Act
 |[],_,a=>a
 |d::c,b,a=>nl c b.tail (a.set d (b.headD undef))
abbrev sj:List (Tmp×cE)->Type
 |[]=>Unit
 |[x]=>x.2.den
 |x::y::r=>x.2.den×sj (y::r)
def pq:(l:List (Tmp×cE))->sj l->Act->Act
 |[],_,a=>a
 |[x],s,a=>a.set x.1 (x.2.val s)
 |x::y::r,s,a=>pq (y::r) s.2 (a.set x.1 (x.2.val s.1))
def qh:(l:List (Tmp×cE))->Act->Option (sj l)
 |[],_=>some ()
 |[x],a=>x.2.parse (slot a x.1)
 |x::y::r,a=>
  match x.2.parse (slot a x.1),qh (y::r) a with
  |some s,some t=>some (s,t)
  |_,_=>none
section
variable (P:Program)
def ue (m:Mode) (o:Oper) (a:Act) (next:Act->Pr):Pr:=
 match m with
 |.pure=>
  match aQ P (execOp a.eval o)with
  |some (.value v)=>next (a.put o.dst v)
  |_=>λ_=>False
 |.val t=>fU P (execOp a.eval o) t λx=>next (a.put o.dst (t.val x))
 |.get t=>dQ P (execOp a.eval o) t λx=>next (a.put o.dst (t.val x))
def xX (t:Ty) (o:Oper) (a:Act) (next:Act->Pr):Pr:=
 match aQ P (execOp a.eval o)with
 |some (.enter f args)=>kq P f args t λx=>next (a.put o.dst (t.val x))
 |_=>λ_=>False
def mD (ops:Array Oper) (i:Nat) (a:Act) (next:Act->Pr) (b:Oper->Pr):Pr:=
 match ops[i]? with
 |some o=>
  match Region.wanted o (yielded ops a.tmps)with
  |true=>b o
  |false=>next (a.put o.dst undef)
 |none=>λ_=>False
def jY (ops:Array Oper):Steps->(Act->Pr)->Act->Pr
 |.nil,next,a=>next a
 |.take i m r,next,a=>mD ops i a (jY ops r next) λo=>ue P m o a (jY ops r next)
 |.nh i t r,next,a=>mD ops i a (jY ops r next) λo=>eT P (execOp a.eval o) t λx=>jY ops r next (a.put o.dst (t.val x))
 |.ni i r,next,a=>mD ops i a (jY ops r next) λo=>lv P (execOp a.eval o) (jY ops r next (a.put o.dst undef))
 |.next i t r,next,a=>mD ops i a (jY ops r next) λo=>zp P (execOp a.eval o) t
    (jY ops r next (a.put o.dst (.tuple ⟨[.bool false]⟩))) λx=>jY ops r next (a.put o.dst (.tuple ⟨.bool true::xq t x⟩))
 |.inv i t r,next,a=>mD ops i a (jY ops r next) λo=>oD P (execOp a.eval o) t λx=>jY ops r next (a.put o.dst (t.val x))
 |.call i t r,next,a=>mD ops i a (jY ops r next) λo=>xX P t o a (jY ops r next)
 |.guard g d b e r,next,a=>
  match slot a g with
  |.bool c=>
   bZ (S:=Bool) (λx=>ba λj=>jY ops r next ((nl e j a).set b (.bool x))) λJ=>
    af c
     (jY ops d (λf=>match slot f b with|.bool x=>J x|_=>λ_=>False) (a.set g (.bool true)))
     (jY ops d (λf=>match slot f b with|.bool x=>J x|_=>λ_=>False) (a.set g (.bool false)))
  |_=>jY ops d (jY ops r next) a
def rT (ops:Array Oper) (a:Act) (k:Pr):List Nat->Pr
 |[]=>k
 |j::b=>
  match ops[j]? with
  |some o=>
   match Region.wanted o (yielded ops a.tmps)with
   |true=>oz P (execOp a.eval o) (match o.dst with|some d=>slot a d|none=>undef) (rT ops a k b)
   |false=>rT ops a k b
  |none=>λ_=>False
structure mo (x y:Pr) (w:World):Prop where
 out:x w/\y w
def iz (ops:Array Oper):fS->(Act->Pr)->Act->Pr
 |.nil,next,a=>next a
 |.take i m r,next,a=>mD ops i a (iz ops r next) λo=>ue P m o a (iz ops r next)
 |.now i m b r,next,a=>mD ops i a (iz ops r next) λo=>ue P m o a λa'=>rT P ops a' (iz ops r next a') b
 |.nh i t b r,next,a=>mD ops i a (iz ops r next) λo=>
    eT P (execOp a.eval o) t λx=>rT P ops (a.put o.dst (t.val x)) (iz ops r next (a.put o.dst (t.val x))) b
 |.ni i b r,next,a=>mD ops i a (iz ops r next) λo=>
    lv P (execOp a.eval o) (rT P ops (a.put o.dst undef) (iz ops r next (a.put o.dst undef)) b)
 |.call i t b r,next,a=>mD ops i a (iz ops r next) λo=>
    xX P t o a λa'=>rT P ops a' (iz ops r next a') b
 |.inv i t b r,next,a=>mD ops i a (iz ops r next) λo=>
    oD P (execOp a.eval o) t λx=>rT P ops (a.put o.dst (t.val x)) (iz ops r next (a.put o.dst (t.val x))) b
 |.split g r,next,a=>
  match slot a g with
  |.bool c=>af c (iz ops r next (a.set g (.bool true))) (iz ops r next (a.set g (.bool false)))
  |_=>iz ops r next a
 |.alt d e,next,a=>mo (iz ops d next a) (iz ops e next a)
def aa9 (Q:Exit->Act->Pr):Exit->Act->Pr
 |.goto _,_=>λ_=>False
 |e,a=>Q e a
def vc:fZ->(Exit->Act->Pr)->Act->Pr
 |.skip,Q,a=>Q .normal a
 |.region _ f st,Q,a=>jY P f st (Q .normal) a
 |.draw _ f j,Q,a=>aY (iz P f j (Q .normal) a)
 |.seq x y,Q,a=>vc x (Exit.then (vc y Q) Q) a
 |.join x d e y,Q,a=>
  bZ (S:=sj d) (λs=>ba λg=>vc y Q (pq d s (nl e g a))) λJ=>
   vc x (Exit.then (λi=>match qh d i with|some s=>J s|none=>λ_=>False) Q) a
 |.cond c x y,Q,a=>
  match a.eval c with
  |.bool b=>af b (vc x Q a) (vc y Q a)
  |_=>λ_=>False
 |.block id x,Q,a=>vc x (Exit.inBlock id Q) a
 |.loop d e x,Q,a=>
  match qh d a with
  |some s=>aV (S:=sj d) (λnext s=>ba λg=>
    vc x (Exit.then (λi=>match qh d i with|some s'=>next s'|none=>λ_=>False) Q) (pq d s (nl e g a))) s
  |none=>λ_=>False
 |.exit id,Q,a=>Q (.exit id) a
 |.ret,Q,a=>Q .ret a
 |.scope x,Q,a=>vc x (aa9 Q) a
 |.label _,Q,a=>Q .normal a
inductive BQ
 |val (v:Value)
 |cell (a:Value) (t:TypeId)
def AJ:BQ->Sem Value
 |.val v=>pure v
 |.cell a t=>do loadVar t (<-asAddr a)
def gl (l:List BQ):Sem Value:=do
 let a<-l.toArray.mapM AJ
 pure (if h:a.size=1 then a[0]else .tuple a)
def H3 (b:Array Value):ResultVar->BQ
 |.tmp t=>.val (b.getD t undef)
 |.cell a t=>.cell (b.getD a undef) t
def ph (b:Func) (a:Array Value):List BQ:=b.results.toList.map (H3 a)
def GJ (a:Func):Bool:=a.results.toList.any λ|.tmp _=>false|.cell _ _=>true
def vA (b:Func) (t:Ty) (k:t.den->Pr) (a:Act):Pr:=
 match GJ b with
 |true=>dQ P (vN (gl (ph b a.tmps))) t k
 |false=>
  match aQ P (results b a.tmps)with
  |some v=>
   match t.parse v with
   |some x=>k x
   |none=>λ_=>False
  |none=>λ_=>False
def Ka (a:Func) (t:Ty) (k:t.den->Pr):Exit->Act->Pr
 |.normal=>vA P a t k
 |.ret=>vA P a t k
 |_=>λ_ _=>False
def D8 (a:Func) (c:fZ) (t:Ty) (k:t.den->Pr) (args:List Value):Pr:=
 vc P c (Ka P a t k) {tmps:=⟨args++List.replicate (a.ntmps-args.length) undef⟩,defers:=[]}
end
def ff (D:List Tmp) (a b:Act):Prop:=
 b.defers=a.defers/\b.tmps.size=a.tmps.size/\∀x,x∉D->slot b x=slot a x
theorem ff.refl (D:List Tmp) (a:Act):ff D a a:=⟨rfl,rfl,λ_ _=>rfl⟩
def sW:=@ff.refl
variable {D D' EU:List Tmp} {d:Tmp} {live:List (Tmp×cE)} {dead:List Tmp} {v:Value} {f:FuncId} {w:World} {ρ:Operand->Value} {o:Oper} {w':World} {i:Nat} {run:Oper->Pr} {j:Nat} {oi oj:Oper} {cu:Array Bool} {rest:List Nat} {bu p:List (Nat×Bool)} {Oc:List Nat} {P:Program} {fn:Func} {args:List Value} {b:Nat} {α:Type} {φ:Prop} {w0:World} {o':Obj} {b':Nat} {β:Type} {y:Pr} {off:Nat} {c:Array Value} {T:TypeId} {fr:Nat×Nat} {t:TypeId} {vs:List Value} {ls:List bD} {z:Value} {sz:Nat} {s:Sl} {cs pre spare:List Value} {Te:TypeId} {mu:Nat} {T1 T2 Ss:TypeId} {ds:List Value} {lo hi mx:Option Int} {m:Nat} {n:Int} {Tb Ts:TypeId} {bs:List UInt8} {V:Type} {r clock:Nat} {Gp:Array MapEntry} {LW:Nat} {M K':TypeId} {E:World} {ty:TypeId} {kn:Pr} {u:Nat} {cg:α->List Value} {xs:List α} {W:World} {l l':List α} {m':List β}
theorem ff.trans {a b c:Act} (h:ff D a b) (d:ff D' b c) (f:∀x∈D,x∈EU) (g:∀x∈D',x∈EU):ff EU a c:=
 ⟨d.1.trans h.1,d.2.1.trans h.2.1,λx e=>(d.2.2 x λm=>e (g x m)).trans (h.2.2 x λm=>e (f x m))⟩
theorem ff.mono {a b:Act} (h:ff D a b) (c:∀x∈D,x∈D'):ff D' a b:=
 ⟨h.1,h.2.1,λx d=>h.2.2 x λm=>d (c x m)⟩
theorem oc (a:Act) (d x:Tmp) (v:Value):slot (a.set d v) x=if d=x/\d<a.tmps.size then v else slot a x:=by
 unfold slot Act.set
 simp only[sV,Ec]
 by_cases h:d=x
 .subst h
  by_cases b:d<a.tmps.size<;>simp[b]
 .simp[h]
theorem size_set (a:Act) (d:Tmp) (v:Value):(a.set d v).tmps.size=a.tmps.size:=by simp[Act.set]
theorem Gh (a:Act) (d:Tmp) (v:Value):(a.set d v).defers=a.defers:=rfl
theorem qW (a:Act) (d:Tmp) (v:Value):a.put (some d) v=a.set d v:=rfl
theorem Act.CD {a b:Act} (hd:a.defers=b.defers) (hs:a.tmps.size=b.tmps.size) (h:∀x,x<a.tmps.size->slot a x=slot b x):a=b:=by
 cases a with
 |mk e f=>
  cases b with
  |mk g j=>
   simp only at hd hs
   subst hd
   congr 1
   refine Ed hs λi c d=>?_
   have:=h i c
   simpa[slot,sV,c,d]using this
theorem ff.put (a:Act) (d:Option Tmp) (v:Value):ff d.toList a (a.put d v):=by
 cases d with
 |none=>exact sW _ _
 |some d=>
  refine⟨rfl,size_set a d v,λx b=>?_⟩
  rw[qW,oc,ai]
  intro h
  exact b (by simp[h.1])
theorem yE {a:Act} {b:Bool} (h:slot a d=.bool b):a.set d (.bool b)=a:=by
 refine Act.CD rfl (size_set _ _ _) λx _=>?_
 rw[oc]
 split
 .rename_i c;rw[<-c.1,h]
 .rfl
theorem AT:∀(b:List Tmp) (c:List Value) (a:Act),(nl b c a).tmps.size=a.tmps.size
 |[],_,_=>rfl
 |d::b,c,a=>by rw[nl,AT,size_set]
theorem Gg:∀(b:List Tmp) (c:List Value) (a:Act),(nl b c a).defers=a.defers
 |[],_,_=>rfl
 |d::b,c,a=>by rw[nl,Gg,Gh]
theorem Ij (f:Tmp->Value) (x:Tmp):∀(b:List Tmp) (a:Act),
  slot (nl b (b.map f) a) x=if x∈b/\x<a.tmps.size then f x else slot a x
 |[],a=>by simp[nl]
 |d::b,a=>by
  simp only[nl,eZ,List.tail_cons,List.headD_cons]
  rw[Ij f x b,size_set,oc]
  by_cases e:x∈b
  .by_cases c:x<a.tmps.size
   .simp[e,c]
   .rw[ai (λh=>c h.2),ai (λ(h:d=x/\d<a.tmps.size)=>c (h.1▸h.2)),ai (λh=>c h.2)]
  .by_cases g:d=x
   .subst g;simp[e]
   .simp[e,g,yS g]
theorem Qo:∀(l:List (Tmp×cE)) (s:sj l) (a:Act),(pq l s a).tmps.size=a.tmps.size
 |[],_,_=>rfl
 |[x],s,a=>size_set _ _ _
 |x::y::r,s,a=>by rw[pq,Qo (y::r),size_set]
theorem Mp:∀(l:List (Tmp×cE)) (s:sj l) (a:Act),(pq l s a).defers=a.defers
 |[],_,_=>rfl
 |[x],s,a=>rfl
 |x::y::r,s,a=>by rw[pq,Mp (y::r),Gh]
theorem Qq (d:Act) (x:Tmp):∀(l:List (Tmp×cE)) (s:sj l) (b:Act),qh l d=some s->
  slot (pq l s b) x=if x∈l.map (·.1)/\x<b.tmps.size then slot d x else slot b x
 |[],s,b,_=>by simp[pq]
 |[y],s,b,h=>by
  simp only[pq,oc,eZ,ki,fE]
  have:=cE.qV _ _ _ h
  by_cases e:y.1=x
  .subst e;simp[this]
  .simp[e,yS e]
 |y::z::r,s,b,h=>by
  simp only[qh]at h
  split at h
  .rename_i u t g i
   simp at h;subst h
   rw[pq,Qq d x (z::r) t _ i,size_set,oc]
   have:=cE.qV _ _ _ g
   by_cases c:x∈(z::r).map (·.1)
   .by_cases a:x<b.tmps.size
    .rw[ak ⟨c,a⟩,ak ⟨by rw[eZ];exact dH _ c,a⟩]
    .rw[ai (λh=>a h.2),ai (λ(h:y.1=x/\y.1<b.tmps.size)=>a (h.1▸h.2)),ai (λh=>a h.2)]
   .by_cases f:y.1=x
    .subst f
     rw[ai (λh=>c h.1)]
     by_cases a:y.1<b.tmps.size<;>simp[a,this]
    .rw[ai (λh=>c h.1),ai (λh=>f h.1),ai]
     intro h
     rw[eZ,nz]at h
     rcases h.1 with h|h
     .exact f h.symm
     .exact c h
  .simp at h
variable {a':Act} {K next:Act->World->Prop} {aa ac:Act} {Q:Exit->Act->World->Prop}
theorem M5 {a:Act} {s:sj live}
  (h:ff D a a') (e:∀x∈D,x∈live.map (·.1)\/x∈dead) (f:qh live a'=some s):
  a'=pq live s (nl dead (dead.map (slot a')) a):=by
 refine Act.CD ?_ ?_ λx b=>?_
 .rw[Mp,Gg];exact h.1
 .rw[Qo,AT];exact h.2.1
 .rw[Qq a' x live s _ f,AT,Ij]
  rw[h.2.1]at b
  by_cases c:x∈live.map (·.1)
  .rw[ak ⟨c,b⟩]
  .rw[ai (λh=>c h.1)]
   by_cases d:x∈dead
   .rw[ak ⟨d,b⟩]
   .rw[ai (λh=>d h.1)]
    exact h.2.2 x λm=>(e x m).elim c d
theorem Xn {a:Act} {pick:Tmp}
  (h:ff D a a') (e:∀x∈D,x=pick\/x∈dead) (f:slot a' pick=v):
  a'=(nl dead (dead.map (slot a')) a).set pick v:=by
 refine Act.CD ?_ ?_ λx b=>?_
 .rw[Gh,Gg];exact h.1
 .rw[size_set,AT];exact h.2.1
 .rw[oc,AT,Ij]
  rw[h.2.1]at b
  by_cases c:pick=x
  .subst c;rw[ak ⟨rfl,b⟩,f]
  .rw[ai (λh=>c h.1)]
   by_cases d:x∈dead
   .rw[ak ⟨d,b⟩]
   .rw[ai (λh=>d h.1)]
    exact h.2.2 x λm=>(e x m).elim (λh=>c h.symm) d
section
variable {P:Program} {ops:Array Oper} {Q:Exit->Act->World->Prop}
def Fr (ro:Option Nat):Fence:={Fence.wide with round:=ro}
theorem mv {ro:Option Nat} {n:Nat} {args:Array Value} {R:Ending->World->Prop}:CallsIn (Fr ro) n P f args w R↔Calls P f args w R:=
 Iff.trans (b:=CallsIn Fence.wide n P f args w R) Iff.rfl callsIn_wide
theorem re {ro:Option Nat} {x:Next} (h:(execOp ρ o).run P w=.ok x w') (b:∀d,x≠.defer d):(o.semAt ro ρ).run P w=.ok x w':=by
 rw[Oper.semAt_eq ro ρ o λc f=>?_]
 .exact h
 .unfold execOp at h
  rw[f]at h
  simp only[Ee]at h
  cases a:(resolve ρ c o.type).run P w with
  |ok d g=>rw[a]at h;cases h;exact b d rfl
  |halt e g=>rw[a]at h;cases h
variable {ro:Option Nat}
theorem gp {a:Act} (h:(execOp a.eval o).run P w=.ok (.value v) w')
  (b:K (a.put o.dst v) w'):o.wpIn (Fr ro) 0 P a w K Q:=by
 refine⟨λ_ _=>trivial,?_⟩
 rw[re h (λd c=>by cases c)];exact b
theorem yQ {a:Act} (h:(execOp a.eval o).run P w=.ok .skip w')
  (b:K (a.put o.dst undef) w'):o.wpIn (Fr ro) 0 P a w K Q:=by
 refine⟨λ_ _=>trivial,?_⟩
 rw[re h (λd c=>by cases c)];exact b
theorem ah6 {m:Mode} {a:Act} (h:ue P m o a next w)
  (b:∀v,next (a.put o.dst v) w->K (a.put o.dst v) w):o.wpIn (Fr ro) 0 P a w K Q:=by
 cases m with
 |pure=>
  simp only[ue]at h
  cases c:aQ P (execOp a.eval o)with
  |none=>rw[c]at h;exact h.elim
  |some n=>
   rw[c]at h
   cases n<;>first|exact h.elim|exact gp (cd _ c w) (b _ h)
 |val t=>obtain⟨x,d,e⟩:=h.out;exact gp (d w) (b _ e)
 |get t=>obtain⟨x,d,e⟩:=h.out;exact gp d (b _ e)
theorem VS {t:Ty} {a:Act} (h:xX P t o a next w)
  (g:∀v b,next (a.put o.dst v) b->K (a.put o.dst v) b):o.wpIn (Fr ro) 0 P a w K Q:=by
 simp only[xX]at h
 cases c:aQ P (execOp a.eval o)with
 |none=>rw[c]at h;exact h.elim
 |some n=>
  rw[c]at h
  cases n
  case enter f args=>
   refine⟨λ_ _=>trivial,?_⟩
   rw[re (cd _ c w) (λd i=>by cases i),vH]
   refine⟨λh=>(by cases h),vI (mv.2 h.out) λe b j=>?_⟩
   obtain⟨x,rfl,k⟩:=j
   exact g _ _ k
  all_goals exact h.elim
theorem Oi {t:Ty} {next:t.den->Pr} (b:execOp aa.eval o=execOp ac.eval o) (h:oD P (execOp ac.eval o) t next w)
  (n:∀(x:t.den) i,next x i->K (aa.put o.dst (t.val x)) i):o.wpIn (Fr ro) 0 P aa w K Q:=by
 rcases h.out with⟨l,p,c,a,g,j,r⟩|⟨f,args,j,u⟩
 .refine⟨λ_ _=>trivial,?_⟩
  rw[re (by rw[b];exact j) (λd k=>by cases k),Oper.uponIn_round]
  refine⟨λh=>(by cases h),?_⟩
  refine RoundIn.mono (F:=Fr ro) (show RoundIn (Fr ro) 0 P l p c a g w _ from r) λe i b=>?_
  obtain⟨x,rfl,m⟩:=b
  exact n _ _ m
 .refine⟨λ_ _=>trivial,?_⟩
  rw[re (by rw[b];exact j) (λd k=>by cases k),vH]
  refine⟨λh=>(by cases h),vI (mv.2 u.out) λe i b=>?_⟩
  obtain⟨x,rfl,m⟩:=b
  exact n _ _ m
theorem yt {a:Act} (h:mD ops i a next run w)
  (hr:∀o,ops[i]?=some o->run o w->o.wpIn (Fr ro) 0 P a w K Q) (hn:∀o,ops[i]?=some o->next (a.put o.dst undef) w->K (a.put o.dst undef) w):
  wpOpIn (Fr ro) 0 P ops Q i K a w:=by
 unfold mD at h
 unfold wpOpIn
 cases b:ops[i]? with
 |none=>simp[b]at h
 |some o=>
  simp only[b]at h⊢
  cases c:Region.wanted o (yielded ops a.tmps)with
  |true=>simp only[c,gr]at h⊢;exact hr o b h
  |false=>simp only[c]at h⊢;exact⟨λ_ _=>trivial,hn o b h⟩
def Steps.idx:Steps->List Nat
 |.nil=>[]
 |.take i _ r=>i::r.idx
 |.nh i _ r=>i::r.idx
 |.ni i r=>i::r.idx
 |.next i _ r=>i::r.idx
 |.call i _ r=>i::r.idx
 |.inv i _ r=>i::r.idx
 |.guard _ a _ _ r=>a.idx++r.idx
def Gl (ops:Array Oper) (i:Nat):List Tmp:=((ops[i]?).bind (·.dst)).toList
def jh (ops:Array Oper) (l:List Nat):List Tmp:=l.flatMap (Gl ops)
def rj (ops:Array Oper):Steps->Bool
 |.nil=>true
 |.take _ _ r=>rj ops r
 |.nh _ _ r=>rj ops r
 |.ni _ r=>rj ops r
 |.next _ _ r=>rj ops r
 |.call _ _ r=>rj ops r
 |.inv _ _ r=>rj ops r
 |.guard _ a b c r=>rj ops a&&rj ops r&&(jh ops a.idx).all λx=>x==b||c.contains x
theorem Mz (h:ops[i]?=some o):Gl ops i=o.dst.toList:=by simp[Gl,h]
theorem oM {l:List Nat} {a:Act} (c:ops[i]?=some o) (h:ff (jh ops l) (a.put o.dst v) a'):
  ff (jh ops (i::l)) a a':=by
 refine(ff.put a o.dst v).trans h (λx b=>?_) (λx b=>?_)
 .simp only[jh,fc,mN];left;rw[Mz c];exact b
 .simp only[jh,fc,mN];right;exact b
theorem me:∀(s:Steps) (next:Act->Pr) (a:Act) (w:World) (b:List Nat),rj ops s=true->jY P ops s next a w->
  (∀a' d,next a' d->ff (jh ops s.idx) a a'->wpOpsIn (Fr ro) 0 P ops Q b a' d)->wpOpsIn (Fr ro) 0 P ops Q (s.idx++b) a w
 |.nil,next,a,w,b,_,h,n=>n a w h (sW _ _)
 |.take i m r,next,a,w,b,e,h,n=>by
  simp only[Steps.idx,nA,eR]
  refine yt h (λo l p=>ah6 p λv k=>?_) λo l k=>?_
  .exact me r next _ w b e k λa' d f j=>n a' d f (oM l j)
  .exact me r next _ w b e k λa' d f j=>n a' d f (oM l j)
 |.nh i t r,next,a,w,b,e,h,n=>by
  simp only[Steps.idx,nA,eR]
  refine yt h (λo l p=>?_) λo l k=>?_
  .obtain⟨x,d,z,k⟩:=p.out
   exact gp z (me r next _ d b e k λa' d f j=>n a' d f (oM l j))
  .exact me r next _ w b e k λa' d f j=>n a' d f (oM l j)
 |.ni i r,next,a,w,b,e,h,n=>by
  simp only[Steps.idx,nA,eR]
  refine yt h (λo l p=>?_) λo l k=>?_
  .obtain⟨d,z,k⟩:=p.out
   exact yQ z (me r next _ d b e k λa' d f j=>n a' d f (oM l j))
  .exact me r next _ w b e k λa' d f j=>n a' d f (oM l j)
 |.next i t r,next,a,w,b,e,h,n=>by
  simp only[Steps.idx,nA,eR]
  refine yt h (λo l p=>?_) λo l k=>?_
  .rcases p.out with⟨d,z,k⟩|⟨x,d,z,k⟩
   .exact gp z (me r next _ d b e k λa' d f j=>n a' d f (oM l j))
   .exact gp z (me r next _ d b e k λa' d f j=>n a' d f (oM l j))
  .exact me r next _ w b e k λa' d f j=>n a' d f (oM l j)
 |.call i t r,next,a,w,b,e,h,n=>by
  simp only[Steps.idx,nA,eR]
  refine yt h (λo l p=>VS p λv d k=>?_) λo l k=>?_
  .exact me r next _ d b e k λa' d f j=>n a' d f (oM l j)
  .exact me r next _ w b e k λa' d f j=>n a' d f (oM l j)
 |.inv i t r,next,a,w,b,e,h,n=>by
  simp only[Steps.idx,nA,eR]
  refine yt h (λo l p=>Oi rfl p λv d k=>?_) λo l k=>?_
  .exact me r next _ d b e k λa' d f j=>n a' d f (oM l j)
  .exact me r next _ w b e k λa' d f j=>n a' d f (oM l j)
 |.guard g A u C r,next,a,w,b,e,h,n=>by
  simp only[rj,bp]at e
  obtain⟨⟨N,p⟩,R⟩:=e
  simp only[jY]at h
  cases I:slot a g
  case bool c=>
   rw[I]at h
   obtain⟨S,T⟩:=h.out.out
   simp only[Steps.idx,cP]
   have F:∀(J:jY P ops A (λa'=>match slot a' u with
             |.bool x=>ba λU=>jY P ops r next ((nl C U a).set u (.bool x))
             |_=>λ_=>False) a w),wpOpsIn (Fr ro) 0 P ops Q (A.idx++(r.idx++b)) a w:=by
    intro J
    refine me A _ a w (r.idx++b) N J λa' d f j=>?_
    cases z:slot a' u
    case bool x=>
     rw[z]at f
     have O:=f.out (C.map (slot a'))
     have V:∀y∈jh ops A.idx,y=u\/y∈C:=λy D=>by
      have:=List.all_eq_true.1 R y D
      simpa using this
     rw[<-Xn j V z]at O
     exact me r next a' d b p O λG H K M=>n G H K
      (j.trans M (λy D=>by simp only[Steps.idx,jh,gM,mN];exact .inl D)
        (λy D=>by simp only[Steps.idx,jh,gM,mN];exact .inr D))
    all_goals (rw[z]at f;exact f.elim)
   cases c with
   |true=>exact F (by have:=S rfl;rwa[yE I]at this)
   |false=>exact F (by have:=T rfl;rwa[yE I]at this)
  all_goals
   rw[I]at h
   simp only[Steps.idx,cP]
   exact me A _ a w (r.idx++b) N h λa' d f j=>me r next a' d b p f λG H K M=>n G H K
    (j.trans M (λy D=>by simp only[Steps.idx,jh,gM,mN];exact .inl D)
      (λy D=>by simp only[Steps.idx,jh,gM,mN];exact .inr D))
end
section
variable {ro:Option Nat} {P:Program} {ops:Array Oper} {Q:Exit->Act->World->Prop}
theorem ahb {a:Act} {x:Tmp} (c:a'.tmps.size=a.tmps.size) (h:slot a' x=slot a x):a'.tmps[x]?=a.tmps[x]?:=by
 by_cases d:x<a.tmps.size
 .have b:x<a'.tmps.size:=by rw[c];exact d
  simp[slot,sV,d,b]at h
  simp[d,b,h]
 .have b:¬x<a'.tmps.size:=by rw[c];exact d
  simp[d,b]
theorem OC (hs:∀f b,o.op≠.select f b) {a:Act} (c:a'.tmps.size=a.tmps.size)
  (h:∀x∈o.looksAt ops,slot a' x=slot a x):
  execOp a'.eval o=execOp a.eval o/\Region.wanted o (yielded ops a'.tmps)=Region.wanted o (yielded ops a.tmps):=by
 constructor
 .refine execOp_congr o hs λx i=>?_
  cases x with
  |tmp t=>
   have:t∈o.looksAt ops:=by
    unfold Oper.looksAt
    rw[mN];left
    rw[IN]
    exact⟨.tmp t,by simpa using i,rfl⟩
   exact h t this
  |_=>rfl
 .unfold Region.wanted
  cases j:o.guard with
  |none=>rfl
  |some k=>
   obtain⟨g,e⟩:=k
   simp only
   congr 1
   unfold yielded
   cases l:(ops[g]?).bind (·.dst)with
   |none=>rfl
   |some d=>
    have:d∈o.looksAt ops:=by
     unfold Oper.looksAt
     rw[mN];right
     rw[j];simp[l]
    simp only[jZ]
    rw[ahb c (h d this)]
def fS.idx:fS->List Nat
 |.nil=>[]
 |.take i _ r=>i::r.idx
 |.now i _ _ r=>i::r.idx
 |.nh i _ _ r=>i::r.idx
 |.ni i _ r=>i::r.idx
 |.call i _ _ r=>i::r.idx
 |.inv i _ _ r=>i::r.idx
 |.split _ r=>r.idx
 |.alt a _=>a.idx
def gY (ops:Array Oper) (i:Nat):List Nat:=
 match ops[i]? with
 |some o=>(o.after.toList.filter (Region.binds .any)).map (·.on)
 |none=>[]
def OD (ops:Array Oper) (i:Nat):List Tmp:=
 match ops[i]? with
 |some o=>o.looksAt ops
 |none=>[]
def k5 (ops:Array Oper) (i:Nat):Option Tmp:=(ops[i]?).bind (·.dst)
def blind (ops:Array Oper) (i j:Nat):Bool:=
 match k5 ops i with
 |some d=>!(OD ops j).contains d
 |none=>true
def uh (ops:Array Oper) (i j:Nat):Bool:=
 match k5 ops i,k5 ops j with
 |some d,some e=>d !=e
 |_,_=>true
def Mode.wW:Mode->Bool
 |.get _=>true
 |_=>false
def jP (ops:Array Oper) (i:Nat) (a done:List Nat) (bu:List (Nat×Bool)) (al rest:List Nat):Bool:=
 (ops[i]?).isSome&&!done.contains i&&(gY ops i).all (λk=>done.contains k)&&
 ((bu.filter λk=>!(gY ops i).contains k.1).all λk=>(!k.2||a.contains k.1)&&blind ops i k.1&&blind ops k.1 i&&uh ops k.1 i)&&
 rest.all λj=>al.contains j||(gY ops j).any λk=>(i::rest).contains k
def dZ (ops:Array Oper) (N:Nat):List Nat->List (Nat×Bool)->List Nat->fS->Bool
 |done,_,al,.nil=>al.isEmpty&&(List.range ops.size).all λi=>done.contains i
 |done,bu,al,.take i m r=>
  al.isEmpty&&((match k5 ops i with|some d=>decide (d<N)&&blind ops i i|none=>false)&&!done.contains i&&(gY ops i).all (λk=>done.contains k)&&
  (bu.all λk=>blind ops i k.1&&uh ops k.1 i&&((gY ops i).contains k.1||blind ops k.1 i))&&
  dZ ops N (i::done) ((i,m.wW)::bu) [] r)
 |done,bu,al,.now i _ a r=>jP ops i a done bu al r.idx&&dZ ops N (i::done) (bu.filter λk=>!(gY ops i).contains k.1) [] r
 |done,bu,al,.nh i _ a r=>jP ops i a done bu al r.idx&&dZ ops N (i::done) (bu.filter λk=>!(gY ops i).contains k.1) [] r
 |done,bu,al,.ni i a r=>jP ops i a done bu al r.idx&&dZ ops N (i::done) (bu.filter λk=>!(gY ops i).contains k.1) [] r
 |done,bu,al,.call i _ a r=>jP ops i a done bu al r.idx&&dZ ops N (i::done) (bu.filter λk=>!(gY ops i).contains k.1) [] r
 |done,bu,al,.inv i _ a r=>jP ops i a done bu al r.idx&&dZ ops N (i::done) (bu.filter λk=>!(gY ops i).contains k.1) [] r
 |done,bu,al,.split _ r=>al.isEmpty&&dZ ops N done bu [] r
 |done,bu,al,.alt b c=>al.isEmpty&&(decide (b.idx≠[])&&decide (c.idx≠[])&&dZ ops N done bu (c.idx.take 1) b&&dZ ops N done bu (b.idx.take 1) c&&
  b.idx.all (λk=>c.idx.contains k)&&c.idx.all (λk=>b.idx.contains k)&&b.idx.length==c.idx.length)
def xJ (ops:Array Oper):List Nat->Prop
 |[]=>True
 |i::l=>(∀k∈gY ops i,k∈l)/\xJ ops l
theorem xJ.first:∀(done:List Nat) (p:List Nat),xJ ops done->(∀k∈p,k∈done)->p≠[]->
  ∃k∈p,∀j∈gY ops k,j∈done/\j∉p
 |[],p,_,g,a=>by
  cases p with
  |nil=>exact absurd rfl a
  |cons k p=>exact absurd (g k (by simp)) (by simp)
 |i::l,p,m,g,a=>by
  by_cases h:∃k∈p,k∈l
  .obtain⟨v,n,d⟩:=h
   have e:p.filter (λk=>l.contains k)≠[]:=by
    intro x
    have:v∈p.filter (λk=>l.contains k):=List.mem_filter.2 ⟨n,by simpa using d⟩
    rw[x]at this;cases this
   obtain⟨k,b,o⟩:=xJ.first l (p.filter λk=>l.contains k) m.2 (λk b=>by simpa using(List.mem_filter.1 b).2) e
   refine⟨k,(List.mem_filter.1 b).1,λj f=>?_⟩
   obtain⟨u,y⟩:=o j f
   exact⟨dH _ u,λc=>y (List.mem_filter.2 ⟨c,by simpa using u⟩)⟩
  .obtain⟨k,b⟩:=List.exists_mem_of_ne_nil p a
   have r:k=i:=by
    rcases List.mem_cons.1 (g k b)with t|t
    .exact t
    .exact absurd ⟨k,b,t⟩ h
   subst r
   exact⟨k,b,λj f=>⟨dH _ (m.1 j f),λc=>h ⟨j,c,m.1 j f⟩⟩⟩
def BO (P:Program) (ops:Array Oper) (k:Nat×Bool) (a:Act) (w:World):Prop:=
 ∃o d,ops[k.1]?=some o/\o.dst=some d/\d<a.tmps.size/\
  ((Region.wanted o (yielded ops a.tmps)=true/\∀b,(k.2=true->b=w)->(execOp a.eval o).run P b=.ok (.value (slot a d)) b)\/
   (Region.wanted o (yielded ops a.tmps)=false/\slot a d=undef))
def Frames (ops:Array Oper) (p:List (Nat×Bool)) (aa ac:Act):Prop:=
 aa.defers=ac.defers/\aa.tmps.size=ac.tmps.size/\∀x,(∀k∈p,k5 ops k.1≠some x)->slot aa x=slot ac x
theorem OZ (a:Region.noSelect ops=true) (h:ops[i]?=some o):∀c b,o.op≠.select c b:=
 λc b=>Region.noSelect_spec a i o c b h
theorem Fk (h:blind ops i j=true) (hd:k5 ops i=some d) (a:ops[j]?=some o):d∉o.looksAt ops:=by
 unfold blind at h
 rw[hd]at h
 simpa[OD,a]using h
theorem aiv (h:uh ops i j=true) (hd:k5 ops i=some d):k5 ops j≠some d:=by
 unfold uh at h
 rw[hd]at h
 intro a
 rw[a]at h
 simp at h
theorem PB (b:Region.noSelect ops=true) (hi:ops[i]?=some oi) (e:ops[j]?=some oj) (h:blind ops i j=true) (a:Act) (v:Value):
  execOp (a.put oi.dst v).eval oj=execOp a.eval oj/\Region.wanted oj (yielded ops (a.put oi.dst v).tmps)=Region.wanted oj (yielded ops a.tmps):=by
 cases f:oi.dst with
 |none=>exact⟨rfl,rfl⟩
 |some d=>
  have c:k5 ops i=some d:=by simp[k5,hi,f]
  refine OC (OZ b e) (by rw[qW,size_set]) λx g=>?_
  rw[qW,oc,ai]
  exact λk=>Fk h c e (k.1▸g)
theorem ahc {k:Nat} (hi:ops[i]?=some oi) (h:uh ops k i=true) (hd:k5 ops k=some d) (a:Act) (v:Value):
  slot (a.put oi.dst v) d=slot a d:=by
 cases b:oi.dst with
 |none=>rfl
 |some e=>
  rw[qW,oc,ai]
  intro c
  have:=aiv h hd
  apply this
  simp[k5,hi,b,c.1]
theorem size_put (a:Act) (d:Option Tmp) (v:Value):(a.put d v).tmps.size=a.tmps.size:=by
 cases d with
 |none=>rfl
 |some d=>rw[qW,size_set]
theorem BO.put (c:Region.noSelect ops=true) {k:Nat×Bool} {a:Act} (A:BO P ops k a w) (hi:ops[i]?=some oi)
  (C:blind ops i k.1=true) (D:uh ops k.1 i=true)
  (e:k.2=true->w'=w\/∀o,ops[k.1]?=some o->Region.wanted o (yielded ops (a.put oi.dst v).tmps)=true->
    (execOp (a.put oi.dst v).eval o).run P w'=.ok (.value (match o.dst with|some d=>slot (a.put oi.dst v) d|none=>undef)) w'):
  BO P ops k (a.put oi.dst v) w':=by
 obtain⟨o,d,g,l,m,b⟩:=A
 obtain⟨y,n⟩:=PB c hi g C a v
 have r:k5 ops k.1=some d:=by simp[k5,g,l]
 have t:=ahc hi D r a v
 refine⟨o,d,g,l,by rw[size_put];exact m,?_⟩
 rcases b with⟨j,z⟩|⟨j,F⟩
 .refine .inl ⟨by rw[n];exact j,λG u=>?_⟩
  by_cases x:k.2=true
  .have f:=u x
   subst f
   rcases e x with H|I
   .subst H
    rw[y,t]
    exact z _ (λ_=>rfl)
   .have:=I o g (by rw[n];exact j)
    rw[l]at this
    exact this
  .rw[y,t]
   exact z G (λh=>absurd h x)
 .exact .inr ⟨by rw[n];exact j,by rw[t];exact F⟩
theorem F7 {a:Act} {k:Pr} {w:World}:∀(l:List Nat),rT P ops a k l w->
  k w/\∀j∈l,∀o,ops[j]?=some o->Region.wanted o (yielded ops a.tmps)=true->
    (execOp a.eval o).run P w=.ok (.value (match o.dst with|some d=>slot a d|none=>undef)) w
 |[],h=>⟨h,λj e=>by cases e⟩
 |i::l,h=>by
  simp only[rT]at h
  cases f:ops[i]? with
  |none=>rw[f]at h;exact h.elim
  |some o=>
   rw[f]at h
   simp only at h
   cases g:Region.wanted o (yielded ops a.tmps)with
   |true=>
    rw[g]at h
    obtain⟨t,u⟩:=h.out
    obtain⟨m,n⟩:=F7 l u
    refine⟨m,λj e r b c=>?_⟩
    rcases List.mem_cons.1 e with rfl|e
    .rw[f]at b;cases b;exact t
    .exact n j e r b c
   |false=>
    rw[g]at h
    obtain⟨m,n⟩:=F7 l h
    refine⟨m,λj e r b c=>?_⟩
    rcases List.mem_cons.1 e with rfl|e
    .rw[f]at b;cases b;rw[g]at c;cases c
    .exact n j e r b c
theorem Ar (h:mD ops i ac next run w)
  (a:∀o,ops[i]?=some o->Region.wanted o (yielded ops aa.tmps)=Region.wanted o (yielded ops ac.tmps))
  (hr:∀o,ops[i]?=some o->run o w->o.wpIn (Fr ro) 0 P aa w K Q) (hn:∀o,ops[i]?=some o->next (ac.put o.dst undef) w->K (aa.put o.dst undef) w):
  wpOpIn (Fr ro) 0 P ops Q i K aa w:=by
 unfold mD at h
 unfold wpOpIn
 cases b:ops[i]? with
 |none=>simp[b]at h
 |some o=>
  simp only[b]at h⊢
  rw[a o b]
  cases c:Region.wanted o (yielded ops ac.tmps)with
  |true=>simp only[c,gr]at h⊢;exact hr o b h
  |false=>simp only[c]at h⊢;exact⟨λ_ _=>trivial,hn o b h⟩
theorem ah7 {m:Mode} (a:execOp aa.eval o=execOp ac.eval o) (h:ue P m o ac next w)
  (b:∀v,next (ac.put o.dst v) w->K (aa.put o.dst v) w):o.wpIn (Fr ro) 0 P aa w K Q:=by
 cases m with
 |pure=>
  simp only[ue]at h
  cases c:aQ P (execOp ac.eval o)with
  |none=>rw[c]at h;exact h.elim
  |some n=>
   rw[c]at h
   cases n<;>first|exact h.elim|exact gp (by rw[a];exact cd _ c w) (b _ h)
 |val t=>obtain⟨x,d,e⟩:=h.out;exact gp (by rw[a];exact d w) (b _ e)
 |get t=>obtain⟨x,d,e⟩:=h.out;exact gp (by rw[a];exact d) (b _ e)
theorem VT {t:Ty} (a:execOp aa.eval o=execOp ac.eval o) (h:xX P t o ac next w)
  (g:∀v b,next (ac.put o.dst v) b->K (aa.put o.dst v) b):o.wpIn (Fr ro) 0 P aa w K Q:=by
 simp only[xX]at h
 cases c:aQ P (execOp ac.eval o)with
 |none=>rw[c]at h;exact h.elim
 |some n=>
  rw[c]at h
  cases n
  case enter f args=>
   refine⟨λ_ _=>trivial,?_⟩
   rw[re (by rw[a];exact cd _ c w) (λd i=>by cases i),vH]
   refine⟨λh=>(by cases h),vI (mv.2 h.out) λe b a=>?_⟩
   obtain⟨x,rfl,j⟩:=a
   exact g _ _ j
  all_goals exact h.elim
theorem ah5 {m:Mode} {a:Act} (h:ue P m o a next w)
  (hd:o.dst=some d) (dy:d<a.tmps.size):
  ∃v,next (a.put o.dst v) w/\slot (a.put o.dst v) d=v/\∀b,(m.wW=true->b=w)->(execOp a.eval o).run P b=.ok (.value v) b:=by
 have c:∀v,slot (a.put o.dst v) d=v:=λv=>by rw[hd,qW,oc,ak ⟨rfl,dy⟩]
 cases m with
 |pure=>
  simp only[ue]at h
  cases e:aQ P (execOp a.eval o)with
  |none=>rw[e]at h;exact h.elim
  |some n=>
   rw[e]at h
   cases n<;>first|exact h.elim|exact⟨_,h,c _,λb _=>cd _ e b⟩
 |val t=>obtain⟨x,f,g⟩:=h.out;exact⟨_,g,c _,λb _=>f b⟩
 |get t=>obtain⟨x,f,g⟩:=h.out;exact⟨_,g,c _,λb i=>by rw[i rfl];exact f⟩
theorem mX {N:Nat}:∀(d:fS) (done:List Nat) (bu:List (Nat×Bool)) (al:List Nat),dZ ops N done bu al d=true->∀k∈d.idx,k∉done
 |.nil,_,_,_,_,k,a=>by cases a
 |.split _ r,done,bu,al,h,k,a=>by
  simp only[dZ,bp]at h
  exact mX r done bu _ h.2 k a
 |.alt e _,done,bu,al,h,k,a=>by
  simp only[dZ,bp]at h
  exact mX e done bu _ h.2.1.1.1.1.2 k a
 |.take i m r,done,bu,al,h,k,a=>by
  simp only[dZ,bp]at h
  rcases List.mem_cons.1 a with rfl|a
  .simpa using h.2.1.1.1.2
  .exact λb=>mX r _ _ _ h.2.2 k a (dH _ b)
 |.now i _ c r,done,bu,al,h,k,a=>by
  simp only[dZ,jP,bp]at h
  rcases List.mem_cons.1 a with rfl|a
  .simpa using h.1.1.1.1.2
  .exact λb=>mX r _ _ _ h.2 k a (dH _ b)
 |.nh i _ c r,done,bu,al,h,k,a=>by
  simp only[dZ,jP,bp]at h
  rcases List.mem_cons.1 a with rfl|a
  .simpa using h.1.1.1.1.2
  .exact λb=>mX r _ _ _ h.2 k a (dH _ b)
 |.ni i c r,done,bu,al,h,k,a=>by
  simp only[dZ,jP,bp]at h
  rcases List.mem_cons.1 a with rfl|a
  .simpa using h.1.1.1.1.2
  .exact λb=>mX r _ _ _ h.2 k a (dH _ b)
 |.call i _ c r,done,bu,al,h,k,a=>by
  simp only[dZ,jP,bp]at h
  rcases List.mem_cons.1 a with rfl|a
  .simpa using h.1.1.1.1.2
  .exact λb=>mX r _ _ _ h.2 k a (dH _ b)
 |.inv i _ c r,done,bu,al,h,k,a=>by
  simp only[dZ,jP,bp]at h
  rcases List.mem_cons.1 a with rfl|a
  .simpa using h.1.1.1.1.2
  .exact λb=>mX r _ _ _ h.2 k a (dH _ b)
structure St (P:Program) (ops:Array Oper) (N:Nat) (done:List Nat) (bu p:List (Nat×Bool)) (idx:List Nat) (cu:Array Bool) (aa ac:Act) (w:World):Prop where
 sub:∀k∈p,k∈bu
 nodup:(p.map (·.1)).Nodup
 nq:∀k∈bu,k.1∈done
 ord:xJ ops done
 cover:∀i,i<ops.size->i∈done\/i∈idx
 oZ:∀i∈done,i<ops.size
 size:cu.size=ops.size
 mark:∀i,i<ops.size->(cu.getD i false=true↔i∈done/\i∉p.map (·.1))
 kI:Frames ops p aa ac
 rO:ac.tmps.size=N
 tM:∀k∈p,BO P ops k ac w
 pair:∀x∈bu,∀y∈bu,x.1=y.1\/x.1∈gY ops y.1\/blind ops x.1 y.1=true
 self:∀x∈bu,blind ops x.1 x.1=true
theorem ab6 (h:ops[i]?=some o) {e:Edge} (a:e∈o.after) (b:Region.binds .any e=true):e.on∈gY ops i:=by
 simp only[gY,h,Be,Bf]
 exact⟨e,⟨by simpa using a,b⟩,rfl⟩
theorem aaT {k:Nat} (h:ops[i]?=some o) (a:k∈gY ops i):∃e∈o.after,Region.binds .any e=true/\e.on=k:=by
 simp only[gY,h,Be,Bf]at a
 obtain⟨e,⟨b,c⟩,d⟩:=a
 exact⟨e,by simpa using b,c,d⟩
theorem AG (h:i∈Region.ready .any ops cu):
  (∃o,ops[i]?=some o)/\cu.getD i true=false/\∀k∈gY ops i,cu.getD k false=true:=by
 obtain⟨b,o,c,a⟩:=mem_ready.1 h
 refine⟨⟨o,c⟩,b,λk d=>?_⟩
 obtain⟨e,f,g,rfl⟩:=aaT c d
 exact a e f g
theorem PW (b:ops[i]?=some o) (a:cu.getD i true=false) (h:∀k∈gY ops i,cu.getD k false=true):
  i∈Region.ready .any ops cu:=
 mem_ready.2 ⟨a,o,b,λ_ c d=>h _ (ab6 b c d)⟩
theorem Gz (h:i<cu.size):cu.getD i true=false↔¬cu.getD i false=true:=by
 simp[sV,h]
theorem vr (h:ops[i]?=some o):i<ops.size:=by
 rcases kj i ops.size with a|a
 .exact a
 .simp[xw a]at h
section
variable {N:Nat} {done:List Nat} {bu p:List (Nat×Bool)} {idx:List Nat} {cu:Array Bool} {aa ac:Act} {w:World}
theorem St.ready (h:St P ops N done bu p idx cu aa ac w) (d:j∈Region.ready .any ops cu):
  j∈p.map (·.1)\/(j∉done/\j∈idx):=by
 obtain⟨⟨o,e⟩,b,_⟩:=AG d
 have a:=vr e
 rw[Gz (h.size▸a),h.mark j a]at b
 by_cases c:j∈p.map (·.1)
 .exact .inl c
 .have:j∉done:=λf=>b ⟨f,c⟩
  exact .inr ⟨this,(h.cover j a).resolve_left this⟩
theorem St.Qt (h:St P ops N done bu p idx cu aa ac w) (e:p≠[]):Region.ready .any ops cu≠[]:=by
 obtain⟨k,c,a⟩:=xJ.first done (p.map (·.1)) h.ord (λk c=>by
  obtain⟨x,f,rfl⟩:=List.mem_map.1 c
  exact h.nq x (h.sub x f)) (by simpa using e)
 obtain⟨x,f,rfl⟩:=List.mem_map.1 c
 obtain⟨o,d,g,_⟩:=h.tM x f
 have b:=vr g
 have:x.1∈Region.ready .any ops cu:=by
  refine PW g ?_ λj l=>?_
  .rw[Gz (h.size▸b),h.mark _ b]
   exact λm=>m.2 c
  .obtain⟨i,n⟩:=a j l
   exact(h.mark j (h.oZ j i)).2 ⟨i,n⟩
 intro r
 rw[r]at this
 cases this
theorem St.same (c:Region.noSelect ops=true) (h:St P ops N done bu p idx cu aa ac w) (d:ops[j]?=some o)
  (i:∀k∈p,k.1=j\/blind ops k.1 j=true) (b:(∃k∈p,k.1=j)->blind ops j j=true):
  execOp aa.eval o=execOp ac.eval o/\Region.wanted o (yielded ops aa.tmps)=Region.wanted o (yielded ops ac.tmps):=by
 refine OC (OZ c d) h.kI.2.1 λx e=>h.kI.2.2 x λk f g=>?_
 rcases i k f with a|a
 .have:=Fk (b ⟨k,f,a⟩) (a▸g) d
  exact this e
 .exact Fk a g d e
theorem St.pop (h:St P ops N done bu p idx cu aa ac w) {k:Nat×Bool} (r:k∈p) (t:ops[k.1]?=some o) (hd:o.dst=some d):
  St P ops N done bu (p.filter λx=>x.1 !=k.1) idx (cu.setIfInBounds k.1 true) (aa.put o.dst (slot ac d)) ac w where
 sub:=λx e=>h.sub x (List.mem_filter.1 e).1
 nodup:=by
  exact(List.filter_sublist.map _).nodup h.nodup
 nq:=h.nq
 ord:=h.ord
 cover:=h.cover
 oZ:=h.oZ
 size:=by rw[Rn];exact h.size
 mark:=λi u=>by
  have v:=h.mark i u
  have j:=h.nq k (h.sub k r)
  have b:=h.oZ _ j
  by_cases f:k.1=i
  .subst f
   have z:(cu.setIfInBounds k.1 true).getD k.1 false=true:=by
    simp[sV,h.size,b]
   refine⟨λ_=>⟨j,?_⟩,λ_=>z⟩
   intro a
   obtain⟨x,e,c⟩:=List.mem_map.1 a
   have:=(List.mem_filter.1 e).2
   simp[c]at this
  .rw[getD_set_ne false f,v]
   refine and_congr_right λ_=>not_congr ⟨λa=>?_,λa=>?_⟩
   .obtain⟨x,e,c⟩:=List.mem_map.1 a
    exact List.mem_map.2 ⟨x,List.mem_filter.2 ⟨e,by simp[c,yS f]⟩,c⟩
   .obtain⟨x,e,c⟩:=List.mem_map.1 a
    exact List.mem_map.2 ⟨x,(List.mem_filter.1 e).1,c⟩
 kI:=by
  refine⟨by rw[hd];exact h.kI.1,by rw[size_put];exact h.kI.2.1,λx e=>?_⟩
  rw[hd,qW,oc]
  by_cases g:d=x
  .subst g
   by_cases b:d<aa.tmps.size
   .rw[ak ⟨rfl,b⟩]
   .rw[ai (λn=>b n.2)]
    have l:¬d<ac.tmps.size:=by rw[<-h.kI.2.1];exact b
    simp[slot,sV,b,l]
  .rw[ai (λn=>g n.1)]
   refine h.kI.2.2 x λy A f=>?_
   by_cases m:y.1=k.1
   .rw[m]at f
    simp[k5,t,hd]at f
    exact g f
   .exact e y (List.mem_filter.2 ⟨A,by simpa using m⟩) f
 rO:=h.rO
 tM:=λx e=>h.tM x (List.mem_filter.1 e).1
 pair:=h.pair
 self:=h.self
theorem HF:∀(p:List (Nat×Bool)) (k:Nat×Bool),(p.map (·.1)).Nodup->k∈p->(p.filter λx=>x.1 !=k.1).length+1=p.length
 |[],k,_,a=>by cases a
 |y::p,k,b,a=>by
  simp only[eZ,sN]at b
  rcases List.mem_cons.1 a with rfl|a
  .have:p.filter (λx=>x.1 !=k.1)=p:=by
     refine List.filter_eq_self.2 λx e=>?_
     have:x.1≠k.1:=λc=>b.1 (List.mem_map.2 ⟨x,e,c⟩)
     simpa using this
   simp[this]
  .have d:y.1≠k.1:=λc=>b.1 (List.mem_map.2 ⟨k,a,c.symm⟩)
   have:=HF p k b.2 a
   rw[jr,ak (by simpa using d)]
   simp only[db]
   omega
theorem St.Qb (c:Region.noSelect ops=true) (h:St P ops N done bu p idx cu aa ac w) (u:j∈Region.ready .any ops cu)
  (v:j∈p.map (·.1))
  (y:∀(k:Nat×Bool) (o:Oper) (d:Tmp),k∈p->k.1=j->ops[k.1]?=some o->o.dst=some d->K (aa.put o.dst (slot ac d)) w):wpOpIn (Fr ro) 0 P ops Q j K aa w:=by
 obtain⟨k,m,rfl⟩:=List.mem_map.1 v
 obtain⟨o,d,n,z,A,b⟩:=h.tM k m
 obtain⟨_,C,e⟩:=AG u
 have f:∀x∈p,x.1∉gY ops k.1:=λx g r=>by
  have a:=e _ r
  have i:=h.oZ _ (h.nq x (h.sub x g))
  exact((h.mark _ i).1 a).2 (List.mem_map.2 ⟨x,g,rfl⟩)
 obtain⟨D,t⟩:=h.same c n (λx g=>by
  rcases h.pair x (h.sub x g) k (h.sub k m)with a|a|a
  .exact .inl a
  .exact absurd a (f x g)
  .exact .inr a) (λ_=>h.self k (h.sub k m))
 have l:=y k o d m rfl n z
 unfold wpOpIn
 simp only[n]
 rcases b with⟨a,i⟩|⟨a,i⟩
 .rw[t,a]
  simp only[gr]
  exact gp (by rw[D];exact i w (λ_=>rfl)) l
 .rw[t,a]
  simp only[kk,fF]
  rw[<-i];exact⟨λ_ _=>trivial,l⟩
theorem St.event (m:Region.noSelect ops=true) {gX al:List Nat} (h:St P ops N done bu p (i::rest) cu aa ac w) (n:jP ops i gX done bu al rest=true)
  (hi:i∈Region.ready .any ops cu) (K:ops[i]?=some o) (v:Value)
  (r:w'=w\/∀j∈gX,∀A,ops[j]?=some A->Region.wanted A (yielded ops (ac.put o.dst v).tmps)=true->
    (execOp (ac.put o.dst v).eval A).run P w'=.ok (.value (match A.dst with|some d=>slot (ac.put o.dst v) d|none=>undef)) w'):
  St P ops N (i::done) (bu.filter λk=>!(gY ops i).contains k.1) p rest (cu.setIfInBounds i true) (aa.put o.dst v) (ac.put o.dst v) w':=by
 simp only[jP,bp]at n
 obtain⟨⟨⟨⟨_,b⟩,C⟩,M⟩,D⟩:=n
 have b:i∉done:=by simpa using b
 obtain⟨_,O,t⟩:=AG hi
 have u:∀x∈p,x.1∉gY ops i:=λx c F=>by
  have a:=t _ F
  have G:=h.oZ _ (h.nq x (h.sub x c))
  exact((h.mark _ G).1 a).2 (List.mem_map.2 ⟨x,c,rfl⟩)
 have f:∀k∈p,k∈bu.filter λk=>!(gY ops i).contains k.1:=λk e=>
  List.mem_filter.2 ⟨h.sub k e,by simpa using u k e⟩
 have g:∀k∈p,(k.2=true->k.1∈gX)/\blind ops i k.1=true/\blind ops k.1 i=true/\uh ops k.1 i=true:=λk e=>by
  have:=List.all_eq_true.1 M k (f k e)
  simp only[bp,rz]at this
  refine⟨λH=>?_,this.1.1.2,this.1.2,this.2⟩
  rcases this.1.1.1 with a|a
  .rw[H]at a;simp at a
  .simpa using a
 have z:=vr K
 exact{
  sub:=f
  nodup:=h.nodup
  nq:=λk e=>dH _ (h.nq k (List.mem_filter.1 e).1)
  ord:=⟨λk e=>by simpa using List.all_eq_true.1 C k e,h.ord⟩
  cover:=λj l=>by
   rcases h.cover j l with a|a
   .exact .inl (dH _ a)
   .rcases List.mem_cons.1 a with rfl|a
    .exact .inl (by simp)
    .exact .inr a
  oZ:=λj l=>by
   rcases List.mem_cons.1 l with rfl|l
   .exact z
   .exact h.oZ j l
  size:=by rw[Rn];exact h.size
  mark:=λj l=>by
   by_cases I:i=j
   .subst I
    have a:(cu.setIfInBounds i true).getD i false=true:=by simp[sV,h.size,z]
    refine⟨λ_=>⟨by simp,λR=>?_⟩,λ_=>a⟩
    obtain⟨x,c,J⟩:=List.mem_map.1 R
    exact b (J▸h.nq x (h.sub x c))
   .rw[getD_set_ne false I,h.mark j l]
    refine and_congr_left λ_=>⟨λa=>dH _ a,λa=>?_⟩
    rcases List.mem_cons.1 a with a|a
    .exact absurd a.symm I
    .exact a
  kI:=by
   refine⟨?_,by rw[size_put,size_put];exact h.kI.2.1,λx c=>?_⟩
   .cases o.dst<;>exact h.kI.1
   .cases W:o.dst with
    |none=>exact h.kI.2.2 x c
    |some d=>
     rw[qW,qW,oc,oc,h.kI.2.1]
     split
     .rfl
     .exact h.kI.2.2 x c
  rO:=by rw[size_put];exact h.rO
  tM:=λk e=>by
   obtain⟨a,G,X,S⟩:=g k e
   refine(h.tM k e).put m K G S λH=>?_
   rcases r with T|U
   .exact .inl T
   .exact .inr (U k.1 (a H))
  pair:=λx c y V=>h.pair x (List.mem_filter.1 c).1 y (List.mem_filter.1 V).1
  self:=λx c=>h.self x (List.mem_filter.1 c).1}
theorem St.Xb (b:Region.noSelect ops=true) {gX al:List Nat} (h:St P ops N done bu p (i::rest) cu aa ac w) (c:jP ops i gX done bu al rest=true)
  (hi:i∈Region.ready .any ops cu) (n:ops[i]?=some o):
  execOp aa.eval o=execOp ac.eval o/\Region.wanted o (yielded ops aa.tmps)=Region.wanted o (yielded ops ac.tmps):=by
 simp only[jP,bp]at c
 obtain⟨⟨⟨⟨_,a⟩,r⟩,t⟩,g⟩:=c
 have a:i∉done:=by simpa using a
 obtain⟨_,u,d⟩:=AG hi
 have e:∀x∈p,x.1∉gY ops i:=λx m j=>by
  have v:=d _ j
  have y:=h.oZ _ (h.nq x (h.sub x m))
  exact((h.mark _ y).1 v).2 (List.mem_map.2 ⟨x,m,rfl⟩)
 refine h.same b n (λk f=>.inr ?_) λ⟨k,f,l⟩=>absurd (l▸h.nq k (h.sub k f)) a
 have:=List.all_eq_true.1 t k (List.mem_filter.2 ⟨h.sub k f,by simpa using e k f⟩)
 simp only[bp]at this
 exact this.1.2
theorem St.only (h:St P ops N done bu p idx cu aa ac w) {gX al:List Nat} (c:idx=i::rest) (d:jP ops i gX done bu al rest=true)
  (f:∀k∈i::rest,k∉done) (n:j∈Region.ready .any ops cu) (t:j∉p.map (·.1)):j=i\/j∈al:=by
 rcases h.ready n with r|⟨r,b⟩
 .exact absurd r t
 .rw[c]at b
  rcases List.mem_cons.1 b with b|b
  .exact .inl b
  .simp only[jP,bp]at d
   have:=List.all_eq_true.1 d.2 j b
   rw[rz]at this
   rcases this with this|this
   .exact .inr (by simpa using this)
   obtain⟨k,u,a⟩:=List.any_eq_true.1 this
   have a:k∈i::rest:=by simpa using a
   obtain⟨⟨o,v⟩,_,e⟩:=AG n
   have g:=e k u
   have l:k<ops.size:=by
    rcases kj k cu.size with m|m
    .rw[<-h.size];exact m
    .rw[sV,xw m]at g;cases g
   exact absurd ((h.mark k l).1 g).1 (f k a)
theorem St.MM {gX al:List Nat} (h:St P ops N done bu p idx cu aa ac w) (b:jP ops i gX done bu al rest=true):
  Region.ready .any ops cu≠[]:=by
 by_cases f:p=[]
 .simp only[jP,bp]at b
  obtain⟨⟨⟨⟨j,a⟩,e⟩,_⟩,_⟩:=b
  have a:i∉done:=by simpa using a
  obtain⟨o,g⟩:=Option.isSome_iff_exists.1 j
  have c:=vr g
  have:i∈Region.ready .any ops cu:=by
   refine PW g ?_ λk l=>?_
   .rw[Gz (h.size▸c),h.mark _ c]
    exact λm=>a m.1
   .have d:k∈done:=by simpa using List.all_eq_true.1 e k l
    exact(h.mark k (h.oZ k d)).2 ⟨d,by rw[f];simp⟩
  intro n
  rw[n]at this
  cases this
 .exact h.Qt f
end
section
variable {N:Nat}
theorem St.take (g:Region.noSelect ops=true) {done:List Nat} {m:Mode}
  (h:St P ops N done bu p (i::rest) cu aa ac w) (dy:d<N) (f:blind ops i i=true) (b:i∉done) (C:∀k∈gY ops i,k∈done)
  (D:∀k∈bu,blind ops i k.1=true/\uh ops k.1 i=true/\(k.1∈gY ops i\/blind ops k.1 i=true)) (r:ops[i]?=some o) (hd:o.dst=some d) (v:Value)
  (t:(Region.wanted o (yielded ops ac.tmps)=true/\∀u,(m.wW=true->u=w)->(execOp ac.eval o).run P u=.ok (.value v) u)\/
    (Region.wanted o (yielded ops ac.tmps)=false/\v=undef)):
  St P ops N (i::done) ((i,m.wW)::bu) ((i,m.wW)::p) rest cu aa (ac.put o.dst v) w where
 sub:=λk c=>by
  rcases List.mem_cons.1 c with rfl|c
  .simp
  .exact dH _ (h.sub k c)
 nodup:=by
  simp only[eZ,sN]
  refine⟨λM=>?_,h.nodup⟩
  obtain⟨x,e,F⟩:=List.mem_map.1 M
  exact b (F▸h.nq x (h.sub x e))
 nq:=λk c=>by
  rcases List.mem_cons.1 c with rfl|c
  .simp
  .exact dH _ (h.nq k c)
 ord:=⟨C,h.ord⟩
 cover:=λj n=>by
  rcases h.cover j n with a|a
  .exact .inl (dH _ a)
  .rcases List.mem_cons.1 a with rfl|a
   .exact .inl (by simp)
   .exact .inr a
 oZ:=λj n=>by
  rcases List.mem_cons.1 n with rfl|n
  .exact vr r
  .exact h.oZ j n
 size:=h.size
 mark:=λj n=>by
  rw[h.mark j n]
  simp only[eZ,nz,not_or]
  constructor
  .rintro⟨a,l⟩
   exact⟨.inr a,λG=>b (G▸a),l⟩
  .rintro⟨a|a,l,z⟩
   .exact absurd a l
   .exact⟨a,z⟩
 kI:=by
  refine⟨by rw[hd];exact h.kI.1,by rw[size_put];exact h.kI.2.1,λx e=>?_⟩
  have H:d≠x:=λG=>e (i,m.wW) (by simp) (by simp[k5,r,hd,G])
  rw[hd,qW,oc,ai (λO=>H O.1)]
  exact h.kI.2.2 x λk c=>e k (dH _ c)
 rO:=by rw[size_put];exact h.rO
 tM:=λk c=>by
  rcases List.mem_cons.1 c with rfl|c
  .obtain⟨a,l⟩:=PB g r r f ac v
   have K:slot (ac.put o.dst v) d=v:=by rw[hd,qW,oc,ak ⟨rfl,by rw[h.rO];exact dy⟩]
   refine⟨o,d,r,hd,by rw[size_put,h.rO];exact dy,?_⟩
   rcases t with⟨z,I⟩|⟨z,I⟩
   .exact .inl ⟨by rw[l];exact z,λu J=>by rw[a,K];exact I u J⟩
   .exact .inr ⟨by rw[l];exact z,by rw[K];exact I⟩
  .obtain⟨a,l,_⟩:=D k (h.sub k c)
   exact(h.tM k c).put g r a l λ_=>.inl rfl
 pair:=λx e y A=>by
  rcases List.mem_cons.1 e with rfl|e<;>rcases List.mem_cons.1 A with rfl|A
  .exact .inl rfl
  .exact .inr (.inr (D y A).1)
  .exact .inr ((D x e).2.2)
  .exact h.pair x e y A
 self:=λx e=>by
  rcases List.mem_cons.1 e with rfl|e
  .exact f
  .exact h.self x e
def ES (P:Program) (ops:Array Oper) (a:List Nat) (V:Act->Pr) (o:Oper) (ac:Act) (w:World) (v:Value) (w':World):Prop:=
 rT P ops (ac.put o.dst v) (V (ac.put o.dst v)) a w'\/(w'=w/\V (ac.put o.dst v) w')
theorem ES.fact {gX:List Nat} {V:Act->Pr} (h:ES P ops gX V o ac w v w'):
  V (ac.put o.dst v) w'/\(w'=w\/∀j∈gX,∀a,ops[j]?=some a->Region.wanted a (yielded ops (ac.put o.dst v).tmps)=true->
    (execOp (ac.put o.dst v).eval a).run P w'=.ok (.value (match a.dst with|some d=>slot (ac.put o.dst v) d|none=>undef)) w'):=by
 rcases h with h|⟨b,c⟩
 .obtain⟨b,c⟩:=F7 gX h
  exact⟨b,.inr c⟩
 .exact⟨c,.inl b⟩
def Hw:fS->Bool
 |.now ..|.nh ..|.ni ..|.call ..|.inv ..=>true
 |_=>false
theorem St.perm {done:List Nat} {idx:List Nat} (h:St P ops N done bu p idx cu aa ac w) (hi:∀k∈idx,k∈Oc):
 St P ops N done bu p Oc cu aa ac w:={h with cover:=λi a=>(h.cover i a).imp id (hi i)}
theorem E3 (A:Region.noSelect ops=true) (J:Act) (next:Act->Pr) {n:Nat}
  (M:∀{i:Nat} {o:Oper} {ac:Act} (v:Value),ops[i]?=some o->ff (jh ops (List.range ops.size)) J ac->ff (jh ops (List.range ops.size)) J (ac.put o.dst v))
  (O:∀(ds:fS) (done:List Nat) (bu p:List (Nat×Bool)) (cu:Array Bool) (aa ac:Act) (w:World),
    dZ ops N done bu [] ds=true->St P ops N done bu p ds.idx cu aa ac w->iz P ops ds next ac w->
    ff (jh ops (List.range ops.size)) J ac->n=p.length+ds.idx.length->wpAnyIn (Fr ro) 0 P .any ops Q n cu aa w)
  (ds:fS) (F:Hw ds=true) (al done:List Nat) (bu p:List (Nat×Bool)) (cu:Array Bool) (aa ac:Act) (w:World)
  (l:dZ ops N done bu al ds=true) (h:St P ops N done bu p ds.idx cu aa ac w) (G:iz P ops ds next ac w)
  (R:ff (jh ops (List.range ops.size)) J ac) (hn:n+1=p.length+ds.idx.length):
  ∃i c e,ds.idx=i::e/\jP ops i c done bu al e=true/\
   (i∈Region.ready .any ops cu->wpOpIn (Fr ro) 0 P ops Q i (wpAnyIn (Fr ro) 0 P .any ops Q n (cu.setIfInBounds i true)) aa w):=by
 have f:∀(i:Nat) (c:List Nat) (r:fS),ds.idx=i::r.idx->jP ops i c done bu al r.idx=true->dZ ops N (i::done) (bu.filter λk=>!(gY ops i).contains k.1) [] r=true->
   (∀K:Act->World->Prop,(∀o,ops[i]?=some o->execOp aa.eval o=execOp ac.eval o/\Region.wanted o (yielded ops aa.tmps)=Region.wanted o (yielded ops ac.tmps))->
      (∀o v C,ops[i]?=some o->ES P ops c (iz P ops r next) o ac w v C->K (aa.put o.dst v) C)->wpOpIn (Fr ro) 0 P ops Q i K aa w)->
   ∃i c e,ds.idx=i::e/\jP ops i c done bu al e=true/\
   (i∈Region.ready .any ops cu->wpOpIn (Fr ro) 0 P ops Q i (wpAnyIn (Fr ro) 0 P .any ops Q n (cu.setIfInBounds i true)) aa w):=by
  refine λi c r u D H I=>⟨i,c,r.idx,u,D,λT=>?_⟩
  rw[u]at h
  refine I _ (λo b=>h.Xb A D T b) λo v C b y=>?_
  obtain⟨U,V⟩:=y.fact
  refine O r _ _ p _ _ _ C H (h.event A D T b v V) U (M v b R) ?_
  rw[u]at hn
  simp only[db]at hn
  omega
 cases ds with
 |now i m c r=>
  have a:=l
  simp only[dZ,bp]at a
  refine f i c r rfl a.1 a.2 λK g j=>Ar G (λo b=>(g o b).2) (λo b z=>ah7 (g o b).1 z λv d=>j o v _ b (.inl d)) λo b d=>j o _ _ b (.inr ⟨rfl,d⟩)
 |nh i t c r=>
  have a:=l
  simp only[dZ,bp]at a
  refine f i c r rfl a.1 a.2 λK g j=>Ar G (λo b=>(g o b).2) (λo b z=>?_) λo b d=>j o _ _ b (.inr ⟨rfl,d⟩)
  obtain⟨x,C,S,d⟩:=z.out
  exact gp (by rw[(g o b).1];exact S) (j o _ _ b (.inl d))
 |ni i c r=>
  have a:=l
  simp only[dZ,bp]at a
  refine f i c r rfl a.1 a.2 λK g j=>Ar G (λo b=>(g o b).2) (λo b z=>?_) λo b d=>j o _ _ b (.inr ⟨rfl,d⟩)
  obtain⟨C,S,d⟩:=z.out
  exact yQ (by rw[(g o b).1];exact S) (j o _ _ b (.inl d))
 |call i t c r=>
  have a:=l
  simp only[dZ,bp]at a
  refine f i c r rfl a.1 a.2 λK g j=>Ar G (λo b=>(g o b).2) (λo b z=>VT (g o b).1 z λv C d=>j o v _ b (.inl d)) λo b d=>j o _ _ b (.inr ⟨rfl,d⟩)
 |inv i t c r=>
  have a:=l
  simp only[dZ,bp]at a
  refine f i c r rfl a.1 a.2 λK g j=>Ar G (λo b=>(g o b).2) (λo b z=>Oi (g o b).1 z λx C d=>j o _ _ b (.inl d)) λo b d=>j o _ _ b (.inr ⟨rfl,d⟩)
 |_=>cases F
theorem WS (y:Region.noSelect ops=true) (V:Act) (next:Act->Pr)
  (hQ:∀a' w',next a' w'->ff (jh ops (List.range ops.size)) V a'->Q .normal a' w'):
  ∀(n:Nat) (f:fS) (done:List Nat) (bu p:List (Nat×Bool)) (cu:Array Bool) (aa ac:Act) (w:World),
   dZ ops N done bu [] f=true->St P ops N done bu p f.idx cu aa ac w->iz P ops f next ac w->
   ff (jh ops (List.range ops.size)) V ac->n=p.length+f.idx.length->wpAnyIn (Fr ro) 0 P .any ops Q n cu aa w:=by
 have K:∀{i:Nat} {o:Oper} {ac:Act} (v:Value),ops[i]?=some o->ff (jh ops (List.range ops.size)) V ac->ff (jh ops (List.range ops.size)) V (ac.put o.dst v):=by
  intro i o ac v G h
  refine h.trans (ff.put ac o.dst v) (λ_ h=>h) λx M=>?_
  simp only[jh,List.mem_flatMap,yT]
  exact⟨i,vr G,by rw[Mz G];exact M⟩
 intro n
 induction n with
 |zero=>
  intro f
  induction f with
  |nil=>
   intro done bu p cu aa ac w a h e b z
   have U:p=[]:=List.length_eq_zero_iff.1 (by simp only[fS.idx,mO]at z;omega)
   subst U
   refine⟨?_,?_⟩
   .rw[List.eq_nil_iff_forall_not_mem]
    intro j H
    rcases h.ready H with I|⟨_,I⟩
    .cases I
    .cases I
   .have:aa=ac:=Act.CD h.kI.1 h.kI.2.1 λx _=>h.kI.2.2 x (λk A=>by cases A)
    subst this
    exact hQ _ _ e b
  |split g r ih=>
   intro done bu p cu aa ac w a h e b z
   simp only[iz]at e
   cases W:slot ac g
   case bool c=>
    rw[W]at e
    refine ih done bu p cu aa ac w (by simp only[dZ,bp]at a;exact a.2) h ?_ b z
    cases c with
    |true=>have:=e.out.1 rfl;rwa[yE W]at this
    |false=>have:=e.out.2 rfl;rwa[yE W]at this
   all_goals (rw[W]at e;exact ih done bu p cu aa ac w (by simp only[dZ,bp]at a;exact a.2) h e b z)
  |alt r1 r2 _ _=>
   intro done bu p cu aa ac w a h e b z
   simp only[dZ,bp,bX]at a
   have:=List.length_pos_iff.2 a.2.1.1.1.1.1.1
   simp only[fS.idx]at z
   omega
  |_=>
   intro done bu p cu aa ac w a h e b z
   simp only[fS.idx,db]at z
   omega
 |succ n O=>
  intro f
  have top:∀(f:fS) (done:List Nat) (bu p:List (Nat×Bool)) (cu:Array Bool) (aa ac:Act) (w:World),
    dZ ops N done bu [] f=true->St P ops N done bu p f.idx cu aa ac w->iz P ops f next ac w->
    ff (jh ops (List.range ops.size)) V ac->n+1=p.length+f.idx.length->Region.ready .any ops cu≠[]->
    (∀j∈Region.ready .any ops cu,j∉p.map (·.1)->wpOpIn (Fr ro) 0 P ops Q j (wpAnyIn (Fr ro) 0 P .any ops Q n (cu.setIfInBounds j true)) aa w)->
    wpAnyIn (Fr ro) 0 P .any ops Q (n+1) cu aa w:=by
   refine λf done bu p cu aa ac w z8 h e b z hr YN=>⟨λhe=>absurd he hr,λj H=>?_⟩
   by_cases U:j∈p.map (·.1)
   .refine h.Qb y H U λk o d A GS G X=>?_
    subst GS
    refine O f done bu _ _ _ ac w z8 (h.pop A G X) e b ?_
    have:=HF p k h.nodup A
    omega
   .exact YN j H U
  have R:∀(f:fS),Hw f=true->∀(done:List Nat) (bu p:List (Nat×Bool)) (cu:Array Bool) (aa ac:Act) (w:World),
    dZ ops N done bu [] f=true->St P ops N done bu p f.idx cu aa ac w->iz P ops f next ac w->
    ff (jh ops (List.range ops.size)) V ac->n+1=p.length+f.idx.length->wpAnyIn (Fr ro) 0 P .any ops Q (n+1) cu aa w:=by
   intro f Yh done bu p cu aa ac w a h e b z
   obtain⟨i,J,rest,C,S,T⟩:=E3 y V next (λv=>K v) O f Yh [] done bu p cu aa ac w a h e b z
   refine top f done bu p cu aa ac w a h e b z (h.MM S) λj H U=>?_
   rcases h.only C S (λk A=>mX f done bu _ a k (C▸A)) H U with rfl|M
   .exact T H
   .cases M
  induction f with
  |alt r1 r2 _ _=>
   intro done bu p cu aa ac w a h e b z
   have Zi:=a
   simp only[dZ,bp,bX]at a
   obtain⟨_,⟨⟨⟨⟨⟨Y8,Y9⟩,I⟩,h2⟩,XK⟩,Nf⟩,D⟩:=a
   have D:=eq_of_beq D
   have Oj:∀(r:fS) (al:List Nat),al≠[]->dZ ops N done bu al r=true->Hw r=true:=by
    intro r al bl hr
    cases al with
    |nil=>exact absurd rfl bl
    |cons x al=>cases r<;>first|rfl|(simp[dZ]at hr)
   have ZP:r1.idx.take 1≠[]:=by cases M:r1.idx with|nil=>exact absurd M Y8|cons x l=>simp
   have ZQ:r2.idx.take 1≠[]:=by cases M:r2.idx with|nil=>exact absurd M Y9|cons x l=>simp
   have S1:St P ops N done bu p r1.idx cu aa ac w:=h
   have S2:St P ops N done bu p r2.idx cu aa ac w:=S1.perm λk A=>by simpa using List.all_eq_true.1 XK k A
   have tx:n+1=p.length+r1.idx.length:=z
   obtain⟨i,J,rest,C,S,T⟩:=E3 y V next (λv=>K v) O r1 (Oj _ _ ZQ I) _ done bu p cu aa ac w I S1 e.out.1 b tx
   obtain⟨i2,ajl,akw,YL,ajY,ZD⟩:=E3 y V next (λv=>K v) O r2 (Oj _ _ ZP h2) _ done bu p cu aa ac w h2 S2 e.out.2 b (by omega)
   refine top (.alt r1 r2) done bu p cu aa ac w Zi h e b z (S1.MM S) λj H U=>?_
   rcases S1.only C S (λk A=>mX r1 done bu _ I k (C▸A)) H U with rfl|M
   .exact T H
   .rw[YL]at M
    simp at M
    subst M
    exact ZD H
  |nil=>
   intro done bu p cu aa ac w a h e b z
   have U:p≠[]:=λhe=>by simp[he,fS.idx]at z
   refine⟨λhe=>absurd he (h.Qt U),λj H=>?_⟩
   rcases h.ready H with I|⟨_,I⟩
   .refine h.Qb y H I λk o d A GS G X=>?_
    subst GS
    refine O .nil done bu _ _ _ ac w a (h.pop A G X) e b ?_
    have:=HF p k h.nodup A
    omega
   .cases I
  |split g r ih=>
   intro done bu p cu aa ac w a h e b z
   simp only[iz]at e
   cases W:slot ac g
   case bool c=>
    rw[W]at e
    refine ih done bu p cu aa ac w (by simp only[dZ,bp]at a;exact a.2) h ?_ b z
    cases c with
    |true=>have:=e.out.1 rfl;rwa[yE W]at this
    |false=>have:=e.out.2 rfl;rwa[yE W]at this
   all_goals (rw[W]at e;exact ih done bu p cu aa ac w (by simp only[dZ,bp]at a;exact a.2) h e b z)
  |take i m r ih=>
   intro done bu p cu aa ac w a h e b z
   simp only[dZ,bp]at a
   obtain⟨_,⟨⟨⟨F,u⟩,Y⟩,Z⟩,hr⟩:=a
   have u:i∉done:=by simpa using u
   have Y:∀k∈gY ops i,k∈done:=λk A=>by simpa using List.all_eq_true.1 Y k A
   have Z:∀k∈bu,blind ops i k.1=true/\uh ops k.1 i=true/\(k.1∈gY ops i\/blind ops k.1 i=true):=λk A=>by
    have:=List.all_eq_true.1 Z k A
    simp only[bp,rz]at this
    exact⟨this.1.1,this.1.2,this.2.imp (λh=>by simpa using h) id⟩
   cases G:ops[i]? with
   |none=>simp[k5,G]at F
   |some o=>
    cases X:o.dst with
    |none=>simp[k5,G,X]at F
    |some d=>
     simp[k5,G,X]at F
     simp only[iz,mD,G]at e
     have D:n+1=(((i,m.wW)::p).length)+r.idx.length:=by
      simp only[fS.idx,db]at z⊢;omega
     cases hw:Region.wanted o (yielded ops ac.tmps)with
     |true=>
      rw[hw]at e
      obtain⟨v,I,h2,h3⟩:=ah5 e X (by rw[h.rO];exact F.1)
      exact ih _ _ _ _ _ _ _ hr (h.take y F.1 F.2 u Y Z G X v (.inl ⟨hw,h3⟩)) I (K v G b) D
     |false=>
      rw[hw]at e
      exact ih _ _ _ _ _ _ _ hr (h.take y F.1 F.2 u Y Z G X undef (.inr ⟨hw,rfl⟩)) e (K undef G b) D
  |now i m J r _=>exact R _ rfl
  |nh i t J r _=>exact R _ rfl
  |ni i J r _=>exact R _ rfl
  |call i t J r _=>exact R _ rfl
  |inv i t J r _=>exact R _ rfl
theorem WT (hm:P.follows .mixedOrders=true) (u:Region.noSelect ops=true) {id:Nat} {ds:fS} {a:Act} {next:Act->Pr} (F:a.tmps.size=N)
  (v:dZ ops N [] [] [] ds=true) (n:∀i,i<ops.size->i∈ds.idx) (h:aY (iz P ops ds next a) w)
  (hQ:∀a' D,next a' D->ff (jh ops (List.range ops.size)) a a'->Q .normal a' D):(Code.region id ops true).wpIn (Fr ro) 0 P Q a w:=by
 have A:∀(ds:fS) (done:List Nat) (bu:List (Nat×Bool)) (al:List Nat),dZ ops N done bu al ds=true->ds.idx.Nodup/\∀i∈ds.idx,i<ops.size:=by
  intro ds
  have b:∀{i:Nat} {f done al x} {bu:List (Nat×Bool)},jP ops i f done bu al x=true->i<ops.size:=λh=>by
   simp only[jP,bp]at h
   obtain⟨o,z⟩:=Option.isSome_iff_exists.1 h.1.1.1.1
   exact vr z
  induction ds with
  |nil=>intro done bu al _;exact⟨qp,λi d=>by cases d⟩
  |split g r e=>intro done bu al h;simp only[dZ,bp]at h;exact e done bu _ h.2
  |alt G H e _=>intro done bu al h;simp only[dZ,bp]at h;exact e done bu _ h.2.1.1.1.1.2
  |take i m r e=>
   intro done bu al h
   simp only[dZ,bp]at h
   obtain⟨k,l⟩:=e _ _ _ h.2.2
   have C:i<ops.size:=by
    cases z:ops[i]? with
    |none=>simp[k5,z]at h
    |some o=>exact vr z
   refine⟨List.nodup_cons.2 ⟨λd=>mX r _ _ _ h.2.2 i d (by simp),k⟩,λj c=>?_⟩
   rcases List.mem_cons.1 c with rfl|c
   .exact C
   .exact l j c
  |now i m f r e=>
   intro done bu al h
   simp only[dZ,bp]at h
   obtain⟨k,l⟩:=e _ _ _ h.2
   refine⟨List.nodup_cons.2 ⟨λd=>mX r _ _ _ h.2 i d (by simp),k⟩,λj c=>?_⟩
   rcases List.mem_cons.1 c with rfl|c
   .exact b h.1
   .exact l j c
  |nh i m f r e=>
   intro done bu al h
   simp only[dZ,bp]at h
   obtain⟨k,l⟩:=e _ _ _ h.2
   refine⟨List.nodup_cons.2 ⟨λd=>mX r _ _ _ h.2 i d (by simp),k⟩,λj c=>?_⟩
   rcases List.mem_cons.1 c with rfl|c
   .exact b h.1
   .exact l j c
  |ni i f r e=>
   intro done bu al h
   simp only[dZ,bp]at h
   obtain⟨k,l⟩:=e _ _ _ h.2
   refine⟨List.nodup_cons.2 ⟨λd=>mX r _ _ _ h.2 i d (by simp),k⟩,λj c=>?_⟩
   rcases List.mem_cons.1 c with rfl|c
   .exact b h.1
   .exact l j c
  |call i m f r e=>
   intro done bu al h
   simp only[dZ,bp]at h
   obtain⟨k,l⟩:=e _ _ _ h.2
   refine⟨List.nodup_cons.2 ⟨λd=>mX r _ _ _ h.2 i d (by simp),k⟩,λj c=>?_⟩
   rcases List.mem_cons.1 c with rfl|c
   .exact b h.1
   .exact l j c
  |inv i m f r e=>
   intro done bu al h
   simp only[dZ,bp]at h
   obtain⟨k,l⟩:=e _ _ _ h.2
   refine⟨List.nodup_cons.2 ⟨λd=>mX r _ _ _ h.2 i d (by simp),k⟩,λj c=>?_⟩
   rcases List.mem_cons.1 c with rfl|c
   .exact b h.1
   .exact l j c
 obtain⟨k,l⟩:=A ds [] [] [] v
 have y:ds.idx.length=ops.size:=by
  have t:ds.idx.Perm (List.range ops.size):=(List.perm_ext_iff_of_nodup k Ro).2 λi=>by
   rw[yT]
   exact⟨l i,n i⟩
  rw[t.length_eq,px]
 refine wpIn_region_any hm (WS u a next hQ ops.size ds [] [] [] _ a a _ v ?_ h.out (sW _ _) (by rw[y];simp))
 exact{
  sub:=λ_ h=>by cases h
  nodup:=qp
  nq:=λ_ h=>by cases h
  ord:=trivial
  cover:=λi d=>.inr (n i d)
  oZ:=λ_ h=>by cases h
  size:=by simp
  mark:=λi d=>by simp[sV,d]
  kI:=⟨rfl,rfl,λ_ _=>rfl⟩
  rO:=F
  tM:=λ_ h=>by cases h
  pair:=λ_ h=>by cases h
  self:=λ_ h=>by cases h}
end
end
def ll:fZ->List Tmp
 |.skip=>[]
 |.region _ a _=>jh a (List.range a.size)
 |.draw _ a _=>jh a (List.range a.size)
 |.seq x y=>ll x++ll y
 |.join x _ _ y=>ll x++ll y
 |.cond _ x y=>ll x++ll y
 |.block _ x=>ll x
 |.loop _ _ x=>ll x
 |.exit _=>[]
 |.ret=>[]
 |.scope x=>ll x
 |.label _=>[]
def Gc (a:List (Tmp×cE)) (b D:List Tmp):Bool:=D.all λx=>(a.map (·.1)).contains x||b.contains x
def codeOk (N:Nat):fZ->Bool
 |.skip=>true
 |.region _ a st=>rj a st&&st.idx==List.range a.size
 |.draw _ a d=>dZ a N [] [] [] d&&(List.range a.size).all (λi=>d.idx.contains i)&&Region.noSelect a
 |.seq x y=>codeOk N x&&codeOk N y
 |.join x b c y=>codeOk N x&&codeOk N y&&Gc b c (ll x)
 |.cond _ x y=>codeOk N x&&codeOk N y
 |.block _ x=>codeOk N x
 |.loop b c x=>codeOk N x&&Gc b c (ll x)
 |.exit _=>true
 |.ret=>true
 |.scope x=>codeOk N x
 |.label _=>true
theorem Md (h:Gc live dead D=true):∀x∈D,x∈live.map (·.1)\/x∈dead:=λx a=>by
 have:=List.all_eq_true.1 h x a
 simp only[rz,List.contains_iff_mem]at this
 exact this
section
variable {ro:Option Nat} {P:Program} {N:Nat}
theorem yI {b:Frame} {a:Act} {k:List Item} {cs:List Frame} {c:Code}:step P (lone (b.atR a (.code (.scope c)::k)) cs w)=.next (lone (b.atR a (.code c::.inScope c::k)) cs w):=
 step_lone_go (by simp[stepG,stepG.exec,Frame.atR])
theorem aho {b:Frame} {a:Act} {k:List Item} {cs:List Frame} {c:Code}:step P (lone (b.atR a (.inScope c::k)) cs w)=.next (lone (b.atR a k) cs w):=
 step_lone_go (by simp[stepG,stepG.exec,Frame.atR])
theorem aiY {F:Fence} {n:Nat} {c:Code} {a:Act} (h:c.wpIn F n P (λe a w=>match e with|.goto _=>False|_=>Q e a w) a w):(Code.scope c).wpIn F n P Q a w:=by
 intro b k u Ak o p
 have i:(lone (b.atR a (.code (.scope c)::k)) u w).fenced P F:=fenced_calm o p rfl
 obtain⟨e,f,g,j,d⟩:=h b (.inScope c::k) u Ak o p
 cases e with
 |normal=>exact⟨.normal,f,g,j,.head i yI (StepsIn.trans d (.one (fenced_calm o p rfl) aho))⟩
 |exit id=>
  have v:exitTo id (.inScope c::k)=exitTo id k:=by simp[exitTo]
  exact⟨.exit id,f,g,j,λx r=>.head i yI (d.1 x (by rw[v];exact r)),
   λt r=>let⟨m,y,z⟩:=d.2 t (by rw[v];exact r);⟨m,y,.head i yI z⟩⟩
 |goto l=>exact j.elim
 |ret=>exact⟨_,f,g,j,.of_steps (.one i yI) d⟩
 |panic A=>exact⟨_,f,g,j,.of_steps (.one i yI) d⟩
 |outgrown=>exact⟨_,f,g,j,.of_steps (.one i yI) d⟩
theorem mM (hm:P.follows .mixedOrders=true):∀(c:fZ) (Q:Exit->Act->Pr) (a:Act) (w:World),codeOk N c=true->a.tmps.size=N->vc P c Q a w->
  c.erase.wpIn (Fr ro) 0 P (λe m F=>Q e m F/\ff (ll c) a m) a w
 |.skip,Q,a,w,_,_,h=>wpIn_skip ⟨h,sW _ _⟩
 |.exit id,Q,a,w,_,_,h=>wpIn_exit ⟨h,sW _ _⟩
 |.ret,Q,a,w,_,_,h=>Ef ⟨h,sW _ _⟩
 |.label l,Q,a,w,_,_,h=>wpIn_label ⟨h,sW _ _⟩
 |.scope x,Q,a,w,d,p,h=>by
  refine aiY (lq (mM hm x _ a w d p h) λe j r ⟨g,k⟩=>?_)
  cases e with
  |goto l=>exact g.elim
  |_=>exact⟨g,k⟩
 |.region id ops st,Q,a,w,d,p,h=>by
  simp only[codeOk,bp,qq]at d
  refine js ?_
  have:=me (ro:=ro) (P:=P) (ops:=ops) (Q:=λe m F=>Q e m F/\ff (ll (.region id ops st)) a m) st (Q .normal) a w [] d.1 h
   λm F g k=>⟨g,by rw[d.2]at k;exact k⟩
  rw[iO,d.2]at this
  exact this
 |.draw id ops ds,Q,a,w,d,p,h=>by
  simp only[codeOk,bp]at d
  refine WT hm d.2 p d.1.1 (λi U=>?_) h λm F g k=>⟨g,k⟩
  simpa using List.all_eq_true.1 d.1.2 i (by simpa using U)
 |.seq x y,Q,a,w,d,p,h=>by
  simp only[codeOk,bp]at d
  refine gz (lq (mM hm x _ a w d.1 p h) λe j r ⟨g,k⟩=>?_)
  have u:∀m,ff (ll y) j m->ff (ll (.seq x y)) a m:=λm v=>
   k.trans v (λz A=>List.mem_append.2 (.inl A)) (λz A=>List.mem_append.2 (.inr A))
  cases e with
  |normal=>exact lq (mM hm y Q j r d.2 (k.2.1.trans p) g) λe G M ⟨v,C⟩=>⟨v,u G C⟩
  |_=>exact⟨g,u j (sW _ _)⟩
 |.join x f o y,Q,a,w,d,p,h=>by
  simp only[codeOk,bp]at d
  refine gz (lq (mM hm x _ a w d.1.1 p h.out) λe j r ⟨g,k⟩=>?_)
  have u:∀m,ff (ll y) j m->ff (ll (.join x f o y)) a m:=λm v=>
   k.trans v (λz A=>List.mem_append.2 (.inl A)) (λz A=>List.mem_append.2 (.inr A))
  cases e with
  |normal=>
   simp only[Exit.then]at g⊢
   cases H:qh f j with
   |none=>rw[H]at g;exact g.elim
   |some s=>
    rw[H]at g
    have v:=g.out (o.map (slot j))
    rw[<-M5 k (Md d.2) H]at v
    exact lq (mM hm y Q j r d.1.2 (k.2.1.trans p) v) λe G M ⟨C,O⟩=>⟨C,u G O⟩
  |_=>exact⟨g,u j (sW _ _)⟩
 |.cond c x y,Q,a,w,d,p,h=>by
  simp only[codeOk,bp]at d
  simp only[vc]at h
  cases R:a.eval c
  case bool b=>
   rw[R]at h
   refine wpIn_cond (t:=b) R ?_
   cases b with
   |true=>
    refine lq (mM hm x Q a w d.1 p (h.out.1 rfl)) λe j r ⟨g,k⟩=>⟨g,k.mono λz A=>List.mem_append.2 (.inl A)⟩
   |false=>
    refine lq (mM hm y Q a w d.2 p (h.out.2 rfl)) λe j r ⟨g,k⟩=>⟨g,k.mono λz A=>List.mem_append.2 (.inr A)⟩
  all_goals (rw[R]at h;exact h.elim)
 |.block id x,Q,a,w,d,p,h=>by
  refine vJ (lq (mM hm x _ a w d p h) λe j r ⟨g,k⟩=>?_)
  cases e with
  |exit V=>
   simp only[Exit.inBlock]at g⊢
   split
   .rename_i S;rw[ak S]at g;exact⟨g,k⟩
   .rename_i S;rw[ai S]at g;exact⟨g,k⟩
  |_=>exact⟨g,k⟩
 |.loop f o x,Q,a,w,d,p,h=>by
  simp only[codeOk,bp]at d
  simp only[vc]at h
  cases H:qh f a with
  |none=>rw[H]at h;exact h.elim
  |some s=>
   rw[H]at h
   obtain⟨n,W⟩:=h.out
   refine wpIn_loop_rounds n ?_
   have K:∀(n:Nat) (s:sj f) (j:Act) (r:World),qh f j=some s->ff (ll x) a j->
     iter (λnext s=>ba λX=>vc P x (Exit.then (λm=>match qh f m with|some s'=>next s'|none=>λ_=>False) Q) (pq f s (nl o X a))) n s r->
     Code.roundsIn (Fr ro) 0 P x.erase (λe m F=>Q e m F/\ff (ll (.loop f o x)) a m) n j r:=by
    intro n
    induction n with
    |zero=>intro s j r _ _ h;exact h
    |succ n Y=>
     intro s j r T I h
     rw[roundsIn_succ]
     have v:=ba.out h (o.map (slot j))
     rw[<-M5 I (Md d.2) T]at v
     refine lq (mM hm x _ j r d.1 (I.2.1.trans p) v) λe G M ⟨C,O⟩=>?_
     have D:ff (ll x) a G:=I.trans O (λ_ h=>h) (λ_ h=>h)
     cases e with
     |normal=>
      simp only[Exit.then]at C⊢
      cases J:qh f G with
      |none=>rw[J]at C;exact C.elim
      |some Z=>rw[J]at C;exact Y Z G M J D C
     |_=>exact⟨C,D⟩
   exact K n s a w H (sW _ _) W
theorem xg (b:Func) (a:Array Value):results b a=gl (ph b a):=by
 unfold results gl ph
 have e:(b.results.toList.map (H3 a)).toArray=b.results.map (H3 a):=by
  apply lr
  simp
 rw[e,Array.mapM_map]
 congr 2
 funext r
 cases r<;>rfl
theorem Ia {s:Sem Value} (h:(vN s).run P w=.ok (.value v) w'):s.run P w=.ok v w':=by
 unfold vN at h
 rw[Ee]at h
 cases a:s.run P w with
 |ok x b=>
  rw[a]at h
  simp only[Result.andThen]at h
  cases h
  rfl
 |halt _ _=>rw[a]at h;cases h
theorem kq.abe (hm:P.follows .mixedOrders=true) {c:fZ} {t:Ty} {k:t.den->Pr}
  (u:P.funcs[f]?=some fn) (y:fn.body=some c.erase) (j:codeOk fn.ntmps c=true) (l:args.length<=fn.ntmps)
  (h:D8 P fn c t k args w):kq P f ⟨args⟩ t k w:=by
 refine⟨calls_of_wp u y ((wpIn_wide (n:=0)).1 ?_)⟩
 have z:vc P c (Ka P fn t k) {tmps:=(⟨args⟩:Array Value)++Array.replicate (fn.ntmps-args.length) undef,defers:=[]} w:=by
  have e:(⟨args++List.replicate (fn.ntmps-args.length) undef⟩:Array Value)=(⟨args⟩:Array Value)++Array.replicate (fn.ntmps-args.length) undef:=by
   apply Array.ext'
   simp
  rw[<-e];exact h
 have m:((⟨args⟩:Array Value)++Array.replicate (fn.ntmps-args.length) undef).size=fn.ntmps:=by
  rw[Array.size_append,Array.size_replicate,List.size_toArray];omega
 refine wpIn_mono (mM (ro:=none) hm c _ _ w j m z) λe i d ⟨o,A⟩=>?_
 have b:vA P fn t k i d->i.defers=[]/\∃v,(results fn i.tmps).run P d=.ok v d/\∃x,Ending.returned v=.returned (t.val x)/\k x d:=by
  intro a
  refine⟨A.1,?_⟩
  simp only[vA]at a
  cases r:GJ fn with
  |true=>
   rw[r]at a
   obtain⟨x,g,C⟩:=a.out
   rw[xg]
   exact⟨t.val x,Ia g,x,rfl,C⟩
  |false=>
  rw[r]at a
  dsimp only at a
  cases p:aQ P (results fn i.tmps)with
  |none=>rw[p]at a;exact a.elim
  |some v=>
   rw[p]at a
   dsimp only at a
   cases g:t.parse v with
   |none=>rw[g]at a;exact a.elim
   |some x=>
    rw[g]at a
    exact⟨v,cd _ p d,x,by rw[Ty.qV t v x g],a⟩
 cases e with
 |normal=>exact b o
 |ret=>exact b o
 |_=>exact o.elim
end
theorem kq.of_eq (hm:P.follows .mixedOrders=true) {c:fZ} {t:Ty} {k:t.den->Pr} {S:Pr}
  (e:P.funcs[f]?=some fn) (g:fn.body=some c.erase) (b:codeOk fn.ntmps c=true) (a:Nat.ble args.length fn.ntmps=true)
  (d:D8 P fn c t k args=S) (h:S w):kq P f ⟨args⟩ t k w:=
 kq.abe hm e g b (xx a) (by rw[d];exact h)
abbrev Hp:=Nat->Option (Bool×Obj)
abbrev aK:=Hp->Prop
def pQ (a c:Hp):Prop:=∀b,a b=none\/c b=none\/(a b=c b/\∃o,a b=some (true,o))
def iI (a c:Hp):Hp:=λb=>(a b).or (c b)
variable {h1 h2 h3:Hp} {A:aK} {h:Hp} {C A' B':aK} {L:List aK}
theorem pQ.symm (h:pQ h1 h2):pQ h2 h1:=λb=>by
 rcases h b with h|h|⟨h,o,a⟩
 .exact .inr (.inl h)
 .exact .inl h
 .exact .inr (.inr ⟨h.symm,o,h▸a⟩)
theorem Z3 (h:pQ h1 h2):iI h1 h2=iI h2 h1:=by
 funext b
 simp only[iI]
 rcases h b with h|h|⟨h,o,a⟩
 .rw[h];simp
 .rw[h];simp
 .rw[h]
theorem Z2 (a c d:Hp):iI (iI a c) d=iI a (iI c d):=by
 funext b;simp only[iI];cases a b<;>simp
theorem mC (h:h1 b=none):iI h1 h2 b=h2 b:=by simp[iI,h]
theorem j6 {x:Bool×Obj} (h:h1 b=some x):iI h1 h2 b=some x:=by simp[iI,h]
def dg (A B:aK):aK:=λh=>∃a b,pQ a b/\h=iI a b/\A a/\B b
def jk:aK:=λh=>h=λ_=>none
def iT (φ:Prop):aK:=λh=>φ/\h=λ_=>none
def hex (A:α->aK):aK:=λh=>∃x,A x h
def aT (b:Nat) (o:Obj):aK:=λh=>h=λx=>if x=b then some (false,o)else none
def jC (b:Nat) (o:Obj):aK:=λh=>h=λx=>if x=b then some (true,o)else none
def gk (a:World):aK:=λh=>h=λb=>(a.heap[b]?).map λo=>(true,o)
def nv:List aK->aK
 |[]=>jk
 |A::L=>dg A (nv L)
theorem Wh (e:pQ h1 h2) (h:pQ (iI h1 h2) h3):pQ h1 h3/\pQ h2 h3:=by
 constructor
 .intro b
  rcases h b with h|h|⟨h,o,c⟩
  .left
   simp only[iI]at h
   cases a:h1 b with
   |none=>rfl
   |some x=>rw[a]at h;simp at h
  .exact .inr (.inl h)
  .cases a:h1 b with
   |none=>exact .inl rfl
   |some x=>
    rw[j6 a]at h c
    exact .inr (.inr ⟨h,o,c⟩)
 .intro b
  rcases h b with h|h|⟨h,o,c⟩
  .left
   simp only[iI]at h
   cases a:h1 b with
   |none=>rw[a]at h;simpa using h
   |some x=>rw[a]at h;simp at h
  .exact .inr (.inl h)
  .cases a:h1 b with
   |none=>rw[mC a]at h c;exact .inr (.inr ⟨h,o,c⟩)
   |some x=>
    rw[j6 a]at h c
    rcases e b with d|d|⟨d,_⟩
    .rw[a]at d;cases d
    .exact .inl d
    .right;right
     rw[<-d,a]
     exact⟨h,o,c⟩
theorem Wi (c:pQ h1 h3) (d:pQ h2 h3):pQ (iI h1 h2) h3:=by
 intro b
 cases a:h1 b with
 |none=>rw[mC a];exact d b
 |some x=>
  rw[j6 a]
  rcases c b with h|h|⟨h,o,e⟩
  .rw[a]at h;cases h
  .exact .inr (.inl h)
  .rw[a]at h e;exact .inr (.inr ⟨h,o,e⟩)
theorem An {B:aK} (b:dg A B h):dg B A h:=by
 obtain⟨c,d,a,rfl,e,f⟩:=b
 exact⟨d,c,a.symm,Z3 a,f,e⟩
theorem Am {B:aK} (g:dg (dg A B) C h):dg A (dg B C) h:=by
 obtain⟨_,e,i,rfl,⟨j,f,a,rfl,k,l⟩,b⟩:=g
 obtain⟨c,d⟩:=Wh a i
 exact⟨j,iI f e,(Wi a.symm c.symm).symm,Z2 _ _ _,k,f,e,d,rfl,l,b⟩
theorem C9 {B:aK} (e:dg A (dg B C) h):dg (dg A B) C h:=by
 have f:=An e
 have g:dg (dg C B) A h:=by
  obtain⟨x,y,a,b,c,d⟩:=f
  exact⟨x,y,a,b,An c,d⟩
 have i:=An (Am g)
 obtain⟨x,y,a,b,c,d⟩:=i
 exact⟨x,y,a,b,An c,d⟩
theorem wT {B:aK} (ha:∀h,A h->A' h) (a:∀h,B h->B' h) (b:dg A B h):dg A' B' h:=by
 obtain⟨c,d,e,f,g,i⟩:=b
 exact⟨c,d,e,f,ha _ g,a _ i⟩
theorem Hl {B:aK} (a:dg A (dg B C) h):dg B (dg A C) h:=
 Am (wT (λ_ h=>An h) (λ_ h=>h) (C9 a))
inductive b6:List aK->aK->List aK->Prop where
 |head {A:aK} {L:List aK}:b6 (A::L) A L
 |tail {A B:aK} {L L':List aK} (h:b6 L A L'):b6 (B::L) A (B::L')
theorem tY:∀{L:List aK} {A:aK} {L':List aK},b6 L A L'->∀{h:Hp},nv L h->nv (A::L') h
 |_,_,_,.head,_,a=>a
 |_,_,_,.tail p,_,a=>Hl (wT (λ_ h=>h) (λ_ h=>tY p h) a)
theorem Ip:∀{L:List aK} {A:aK} {L':List aK},b6 L A L'->∀{h:Hp},nv (A::L') h->nv L h
 |_,_,_,.head,_,a=>a
 |_,_,_,.tail p,_,a=>wT (λ_ h=>h) (λ_ h=>Ip p h) (Hl a)
structure ab (E:World) (w:World) (L:List aK):Prop where
 tape:w.tape=E.tape
 os:w.os=E.os
 output:w.output=E.output
 heap:∃h:Hp,(∀b x o,h b=some (x,o)->w.heap[b]?=some o)/\nv L h
section
variable {E w:World} {L L':List aK} {A B:aK}
theorem ab.imp (h:ab E w L) (hi:∀h,nv L h->nv L' h):ab E w L':=
 ⟨h.tape,h.os,h.output,let⟨x,a,b⟩:=h.heap;⟨x,a,hi x b⟩⟩
theorem ab.pick (h:ab E w L) (p:b6 L A L'):ab E w (A::L'):=h.imp λ_=>tY p
theorem ab.Q1 (h:ab E w (A::L')) (p:b6 L A L'):ab E w L:=h.imp λ_=>Ip p
theorem ab.mono (h:ab E w (A::L)) (hi:∀h,A h->B h):ab E w (B::L):=h.imp λ_=>wT hi λ_ h=>h
theorem ab.swap {B:aK} (h:ab E w (A::B::L)):ab E w (B::A::L):=h.imp λ_=>Hl
theorem ab.drop (h:ab E w (A::L)):ab E w L:=
 ⟨h.tape,h.os,h.output,by
   obtain⟨_,c,g,d,e,rfl,i,f⟩:=h.heap
   refine⟨d,λb x o a=>c b x o ?_,f⟩
   rcases e b with h|h|⟨h,_⟩
   .rw[mC h];exact a
   .rw[h]at a;cases a
   .rw[j6 (h.trans a)]⟩
theorem ab.AY (h:ab E w (dg A B::L)):ab E w (A::B::L):=h.imp λ_=>Am
theorem ab.AX (h:ab E w (A::B::L)):ab E w (dg A B::L):=h.imp λ_=>C9
theorem ab.yG (h:ab E w (A::B::C::L)):ab E w (dg A (dg B C)::L):=
 h.imp λ_ a=>C9 (wT (λ_ h=>h) (λ_ h=>C9 h) a)
theorem ab.yH (h:ab E w (dg A (dg B C)::L)):ab E w (A::B::C::L):=
 h.imp λ_ a=>wT (λ_ h=>h) (λ_ h=>Am h) (Am a)
theorem ab.Gr {A:α->aK} (h:ab E w (hex A::L)):∃x,ab E w (A x::L):=by
 obtain⟨_,a,b,c,d,rfl,⟨x,e⟩,f⟩:=h.heap
 exact⟨x,h.tape,h.os,h.output,_,a,b,c,d,rfl,e,f⟩
theorem ab.Gq {A:α->aK} (x:α) (h:ab E w (A x::L)):ab E w (hex A::L):=h.mono λ_ a=>⟨x,a⟩
theorem ab.HW (h:ab E w (iT φ::L)):φ/\ab E w L:=by
 refine⟨?_,h.drop⟩
 obtain⟨_,_,_,_,_,_,a,_⟩:=h.heap
 exact a.1
theorem ab.HV (a:φ) (h:ab E w L):ab E w (iT φ::L):=
 h.imp λx c=>⟨λ_=>none,x,λ_=>.inl rfl,by funext b;simp[iI],⟨a,rfl⟩,c⟩
theorem ab.Gm (h:ab E w L):ab E w (jk::L):=
 h.imp λx a=>⟨λ_=>none,x,λ_=>.inl rfl,by funext b;simp[iI],rfl,a⟩
theorem ab.own {o:Obj} (h:ab E w (aT b o::L)):w.heap[b]?=some o:=by
 obtain⟨_,a,c,d,e,rfl,rfl,f⟩:=h.heap
 exact a b false o (j6 (by simp))
theorem ab.ro {o:Obj} (h:ab E w (jC b o::L)):w.heap[b]?=some o:=by
 obtain⟨_,a,c,d,e,rfl,rfl,f⟩:=h.heap
 exact a b true o (j6 (by simp))
theorem ab.gk (h:ab E w (Sh.gk w0::L)) {o:Obj} (a:w0.heap[b]?=some o):w.heap[b]?=some o:=by
 obtain⟨_,c,d,e,f,rfl,rfl,g⟩:=h.heap
 exact c b true o (j6 (by simp[a]))
theorem ab.freeze {o:Obj} (h:ab E w (aT b o::L)):ab E w (jC b o::L):=by
 obtain⟨_,d,k,e,g,rfl,rfl,i⟩:=h.heap
 have j:e b=none:=by
  rcases g b with h|h|⟨_,f,h⟩
  .simp at h
  .exact h
  .simp at h
 refine⟨h.tape,h.os,h.output,_,?_,λx=>if x=b then some (true,o)else none,e,?_,rfl,rfl,i⟩
 .intro x y f c
  by_cases a:x=b
  .subst a
   rw[j6 (x:=(true,o)) (by simp)]at c
   cases c
   exact d x false o (j6 (by simp))
  .rw[mC (by simp[a])]at c
   exact d x y f (by rw[mC (by simp[a])];exact c)
 .intro x
  by_cases a:x=b
  .subst a;exact .inr (.inl j)
  .exact .inl (by simp[a])
theorem ab.set {o:Obj} (h:ab E w (aT b o::L)):ab E {w with heap:=w.heap.setIfInBounds b o'} (aT b o'::L):=by
 obtain⟨_,j,n,i,k,rfl,rfl,l⟩:=h.heap
 have c:=h.own
 have e:b<w.heap.size:=by
  rcases kj b w.heap.size with f|f
  .exact f
  .simp[xw f]at c
 have m:i b=none:=by
  rcases k b with h|h|⟨_,o',h⟩
  .simp at h
  .exact h
  .simp at h
 refine⟨h.tape,h.os,h.output,_,?_,λx=>if x=b then some (false,o')else none,i,?_,rfl,rfl,l⟩
 .intro x y g d
  simp only[Ec]
  by_cases a:x=b
  .subst a
   rw[j6 (x:=(false,o')) (by simp)]at d
   cases d
   simp[e]
  .rw[mC (by simp[a])]at d
   rw[ai (yS a)]
   exact j x y g (by rw[mC (by simp[a])];exact d)
 .intro x
  by_cases a:x=b
  .subst a;exact .inr (.inl m)
  .exact .inl (by simp[a])
theorem ab.new {o:Obj} (h:ab E w L):ab E {w with heap:=w.heap.push o} (aT w.heap.size o::L):=by
 obtain⟨c,e,f⟩:=h.heap
 have g:c w.heap.size=none:=by
  cases a:c w.heap.size with
  |none=>rfl
  |some p=>
   have:=e _ p.1 p.2 a
   simp at this
 refine⟨h.tape,h.os,h.output,_,?_,λx=>if x=w.heap.size then some (false,o)else none,c,?_,rfl,rfl,f⟩
 .intro x y d a
  by_cases b:x=w.heap.size
  .subst b
   rw[j6 (x:=(false,o)) (by simp)]at a
   cases a
   simp
  .rw[mC (by simp[b])]at a
   have:=e x y d a
   rw[Array.getElem?_push,ai b]
   exact this
 .intro x
  by_cases b:x=w.heap.size
  .subst b;exact .inr (.inl g)
  .exact .inl (by simp[b])
theorem ab.drew (h:ab E w L):ab E {w with drawn:=w.drawn+1} L:=⟨h.tape,h.os,h.output,h.heap⟩
theorem ab.ne {o:Obj} (h:ab E w (aT b o::aT b' o'::L)):b≠b':=by
 intro a
 subst a
 obtain⟨_,e,f,g,c,rfl,rfl,i,j,d,rfl,rfl,k⟩:=h.heap
 rcases c b with h|h|⟨_,o',h⟩
 .simp at h
 .rw[j6 (x:=(false,o')) (by simp)]at h;cases h
 .simp at h
end
variable {L':List aK}
theorem run_bind {α β:Type} (s:Sem α) (f:α->Sem β) (w:World):
  (s>>=f).run P w=match s.run P w with|.ok a b=>(f a).run P b|.halt h b=>.halt h b:=by
 rw[Ee]
 cases s.run P w<;>rfl
theorem eE {s:Sem Value} (h:s.run P w=.ok v w'):(vN s).run P w=.ok (.value v) w':=by
 unfold vN;rw[run_bind,h];rfl
theorem xk {s:Sem Unit} (h:s.run P w=.ok () w'):(uN s).run P w=.ok .skip w':=by
 unfold uN;rw[run_bind,h];rfl
theorem da {s:Sem α} {f:α->Sem β} {a:α} (h:s.run P w=.ok a w'):(s>>=f).run P w=(f a).run P w':=by
 rw[run_bind,h]
theorem ke {s:Sem α} {f:α->Sem β} {a:α} (h:aQ P s=some a):(s>>=f).run P w=(f a).run P w:=
 da (cd s h w)
theorem af.mk' {b:Bool} {x:Pr} (a:b=true->x w) (c:b=false->y w):af b x y w:=⟨⟨a,c⟩⟩
def ax:=@af.mk'
theorem af.yes {b:Bool} {x:Pr} (a:b=true) (c:x w):af b x y w:=⟨⟨λ_=>c,λh=>(by rw[a]at h;cases h)⟩⟩
def aR:=@af.yes
theorem af.no {b:Bool} {x:Pr} (a:b=false) (c:y w):af b x y w:=⟨⟨λh=>(by rw[a]at h;cases h),λ_=>c⟩⟩
def ar:=@af.no
theorem bZ.go {S:Type} {J:S->Pr} {body:(S->Pr)->Pr} (h:body J w):bZ J body w:=⟨h⟩
def aL:=@bZ.go
theorem bZ.cut {S:Type} {J:S->Pr} {body:(S->Pr)->Pr} (A:S->World->Prop) (d:∀s w,A s w->J s w)
 (e:body A w) (a:∀b c:S->Pr,(∀s w,b s w->c s w)->body b w->body c w):bZ J body w:=⟨a A J d e⟩
theorem ba.go {k:List Value->Pr} (h:∀a,k a w):ba k w:=⟨h⟩
def ao:=@ba.go
theorem aV.inv {S:Type} {F:(S->Pr)->S->Pr} {s:S} (I:S->World->Prop) (μ:S->World->Nat) (e:I s w)
  (f:∀(next:S->Pr) (s:S) (w:World),I s w->(∀s' a,I s' a->μ s' a<μ s w->next s' a)->F next s w):aV F s w:=by
 refine⟨μ s w+1,?_⟩
 have b:∀n s w,I s w->μ s w<n->iter F n s w:=by
  intro n
  induction n with
  |zero=>intro s w _ h;omega
  |succ n g=>
   intro s w i j
   exact f _ s w i λs' a c d=>g s' a c (by omega)
 exact b _ s w e (IP _)
def uD:=@aV.inv
theorem aY.go {k:Pr} (h:ab E w L) (b:∀a,ab E a L->k a):aY k w:=⟨b _ h.drew⟩
variable {a:Addr}
theorem aq {k:Addr->Pr} (h:k a w):fU P (Dv (.pointer (some a))) dB k w:=⟨a,λ_=>rfl,h⟩
theorem rS (a:w.heap[b]?=some (.cells c T fr)):w.cell? ⟨b,off,none⟩=c[off]?:=by
 simp[World.cell?,a]
theorem Qa (h:w.cell? a=some v):(load a).run P w=.ok v w:=by
 simp[load,Sem.run,h]
theorem H8 (b:aQ P (isAgg t)=some false) (h:w.cell? a=some v):(loadVar t a).run P w=.ok v w:=by
 unfold loadVar
 rw[ke b]
 exact Qa h
theorem M9 {l:bD} {k:l.den->Pr} (x:l.den) (b:aQ P (isAgg t)=some false)
  (hc:w.cell? a=some (l.val x)) (c:k x w):dQ P (vN (Instr.loadAt t (.pointer (some a)))) (.one (.leaf l)) k w:=
 ⟨x,eE (by unfold Instr.loadAt;rw[da (a:=a) (w':=w) rfl];exact H8 b hc),c⟩
theorem GA {l:bD} {k:l.den->Pr} {x:l.den}
  (d:w.heap[b]?=some (.cells c T fr)) (e:aQ P (isAgg t)=some false) (ha:a=⟨b,off,none⟩)
  (hc:c[off]?=some (l.val x)) (f:k x w):dQ P (vN (Instr.loadAt t (.pointer (some a)))) (.one (.leaf l)) k w:=by
 subst ha
 exact M9 x e (by rw[rS d,hc]) f
theorem Nb {l:bD} {k:l.den->Pr} {x:l.den}
  (e:w.heap[b]?=some (.cells c T fr)) (f:aQ P (isAgg t)=some false) (ha:a=⟨b,off,none⟩)
  (hc:(c[off]?).bind l.parse=some x) (g:k x w):dQ P (vN (Instr.loadAt t (.pointer (some a)))) (.one (.leaf l)) k w:=by
 cases d:c[off]? with
 |none=>rw[d]at hc;cases hc
 |some v=>
  rw[d]at hc
  exact GA e f ha (by rw[d,bD.qV l v x hc]) g
theorem LU {k:Pr}
  (d:w.heap[b]?=some (.cells c T fr)) (e:aQ P (isAgg t)=some false) (ha:a=⟨b,off,none⟩)
  (hc:c[off]?=some v) (f:k w):oz P (vN (Instr.loadAt t (.pointer (some a)))) v k w:=by
 subst ha
 exact⟨eE (by unfold Instr.loadAt;rw[da (a:=⟨b,off,none⟩) (w':=w) rfl];exact H8 e (by rw[rS d,hc])),f⟩
theorem run_loadCellsFrom {a:Addr}:∀(c:List Value) (i:Nat) (b:Array Value),
  (∀j (d:j<c.length),w.cell? (a.add (i+j))=some c[j])->(loadCellsFrom a i c.length b).run P w=.ok (b++c.toArray) w
 |[],i,b,_=>by simp[loadCellsFrom]
 |v::c,i,b,h=>by
  simp only[db,loadCellsFrom]
  rw[da (Qa (v:=v) (by have:=h 0 (by simp);simpa using this))]
  rw[run_loadCellsFrom c (i+1) (b.push v) (λj d=>by have:=h (j+1) (by simpa using d);simpa[m7,Eg 1 j]using this)]
  simp
theorem run_loadCells (h:∀j (b:j<vs.length),w.cell? (a.add j)=some vs[j]):(loadCells a vs.length).run P w=.ok vs.toArray w:=by
 have:=run_loadCellsFrom (P:=P) (w:=w) (a:=a) vs 0 #[] (by simpa using h)
 simpa[loadCells]using this
theorem Addr.Sz (b o n:Nat):Addr.add ⟨b,o,none⟩ n=⟨b,o+n,none⟩:=by
 unfold Addr.add;split
 .rename_i h;subst h;rfl
 .rfl
def iC:=@Addr.Sz
theorem Addr.Sy (a:Addr) (m n:Nat) (h:a.spot=none):Addr.add (Addr.add a m) n=Addr.add a (m+n):=by
 cases a with
 |mk b o s=>simp only at h;subst h;rw[iC,iC,iC,m7]
def EP:=@Addr.Sy
theorem CM {k:bK ls->Pr} (x:bK ls)
  (e:w.heap[b]?=some (.cells c T fr)) (f:aQ P (isAgg t)=some true) (hn:aQ P (sizeOf t)=some (ay ls x).length) (ha:a=⟨b,off,none⟩)
  (hc:∀j (d:j<(ay ls x).length),c[off+j]?=some (ay ls x)[j]) (g:k x w):
  dQ P (vN (Instr.loadAt t (.pointer (some a)))) (.one (.agg ls)) k w:=by
 subst ha
 refine⟨x,eE ?_,g⟩
 unfold Instr.loadAt
 rw[da (a:=⟨b,off,none⟩) (w':=w) rfl]
 unfold loadVar
 rw[ke f]
 simp only[gr]
 rw[ke hn]
 rw[da (run_loadCells (λj d=>by rw[iC,rS e];exact hc j d))]
 rfl
def j9:Value->Bool
 |.agg _=>false
 |.tuple _=>false
 |_=>true
theorem Qd (a:w.heap[b]?=some (.cells c T (0,0))) (dy:off<c.size) (hv:j9 v=true):
  (store ⟨b,off,none⟩ v).run P w=.ok () {w with heap:=w.heap.setIfInBounds b (.cells (c.setIfInBounds off v) T (0,0))}:=by
 have g:w.cell? ⟨b,off,none⟩=some c[off]:=by rw[rS a];simp[dy]
 have j:w.frozen? ⟨b,off,none⟩=false:=by simp[World.frozen?,a]
 have k:w.setCell ⟨b,off,none⟩ v={w with heap:=w.heap.setIfInBounds b (.cells (c.setIfInBounds off v) T (0,0))}:=by
  unfold World.setCell
  congr 1
  refine Ed (by simp) λi l f=>?_
  have e:i<w.heap.size:=by simpa using f
  simp only[Rp]
  by_cases d:b=i
  .subst d
   have:w.heap[b]=.cells c T (0,0):=by simpa[e]using a
   simp[this]
  .rw[ai d,IQ e d]
 cases v<;>simp_all[store,Sem.run,j9]
theorem xj {b:Nat} {T:TypeId}:∀(d:List Value) (a i:Nat) (c:Array Value) (w:World),w.heap[b]?=some (.cells c T (0,0))->a+i+d.length<=c.size->(∀v∈d,j9 v=true)->
  ∃e,(storeCells ⟨b,a,none⟩ d i).run P w=.ok () {w with heap:=w.heap.setIfInBounds b (.cells e T (0,0))}/\e.size=c.size/\
   ∀j,e[j]?=if a+i<=j/\j<a+i+d.length then d[j-(a+i)]? else c[j]?
 |[],a,i,c,w,l,_,_=>by
  refine⟨c,?_,rfl,λj=>by simp;intro m f;omega⟩
  have:w.heap.setIfInBounds b (.cells c T (0,0))=w.heap:=by
   refine Ed (by simp) λi m f=>?_
   by_cases p:b=i
   .subst p
    simpa[f]using l.symm
   .rw[IQ f p]
  rw[this];rfl
 |v::d,a,i,c,w,l,g,r=>by
  simp only[db]at g
  simp only[storeCells,iC]
  rw[da (Qd l (by omega) (r v (by simp)))]
  have n:b<w.heap.size:=by
   rcases kj b w.heap.size with o|o
   .exact o
   .simp[xw o]at l
  obtain⟨e,m,f,t⟩:=xj (T:=T) (b:=b) d a (i+1) (c.setIfInBounds (a+i) v) {w with heap:=w.heap.setIfInBounds b (.cells (c.setIfInBounds (a+i) v) T (0,0))}
   (by simp[n]) (by simp;omega) (λu x=>r u (dH _ x))
  refine⟨e,?_,by simpa using f,λj=>?_⟩
  .rw[m]
   congr 2
   simp
  .rw[t j]
   simp only[db]
   by_cases y:j=a+i
   .subst y
    rw[ai (by omega),ak (by omega)]
    simp[show a+i<c.size by omega]
   .by_cases k:a+(i+1)<=j/\j<a+(i+1)+d.length
    .rw[ak k,ak (by omega)]
     have:j-(a+i)=(j-(a+(i+1)))+1:=by omega
     rw[this];simp
    .rw[ai k,ai (by omega)]
     rw[Ec,ai (by omega)]
theorem Gj {k:Pr}
  (h:ab E w L) (p:b6 L (aT b (.cells c T (0,0))) L') (hn:aQ P (sizeOf t)=some 1) (ha:a=⟨b,off,none⟩) (dy:Nat.blt off c.size=true) (hv:j9 v=true)
  (g:∀w',ab E w' (aT b (.cells (c.setIfInBounds off v) T (0,0))::L')->k w'):lv P (uN (Instr.storeAt t (.pointer (some a)) v)) k w:=by
 subst ha
 have f:=h.pick p
 have dy:off<c.size:=by simpa[Nat.blt,Nat.succ_le_iff]using dy
 refine⟨_,xk ?_,g _ f.set⟩
 unfold Instr.storeAt
 rw[da (a:=⟨b,off,none⟩) (w':=w) rfl]
 unfold storeVar
 rw[ke hn]
 have d:v.cells.size=1:=by cases v<;>first|rfl|cases hv
 have e:v.cells.toList=[v]:=by cases v<;>first|rfl|cases hv
 simp only[d,uo,Bg,fF]
 rw[e]
 simp only[storeCells]
 rw[iC,sO,da (Qd f.own dy hv)]
 rfl
theorem wE {o:Obj} {s:Sem Value} {l:bD} {x:l.den} {k:l.den->Pr} (h:ab E w L)
  (hs:s.run P w=.ok (l.val x) {w with heap:=w.heap.push o}) (c:w.heap.size=b) (d:∀a,ab E a (aT b o::L)->k x a):
  eT P (vN s) (.one (.leaf l)) k w:=by
 subst c
 exact⟨x,_,eE hs,d _ h.new⟩
theorem WA {k:Addr->Pr} (h:ab E w L) (c:aQ P (zeroValue t)=some z)
  (d:∀b a,ab E a (aT b (.cells z.cells t (0,0))::L)->k ⟨b,0,none⟩ a):eT P (vN (Instr.alloc t true (.tuple #[]))) dB k w:=by
 refine wE (l:=.addr) (x:=⟨w.heap.size,0,none⟩) (o:=.cells z.cells t (0,0)) h ?_ rfl (d _)
 unfold Instr.alloc
 rw[ke c]
 rfl
theorem WD {k:Addr->Pr} (h:ab E w L)
  (c:∀b a,ab E a (aT b (.cells v.cells t (0,0))::L)->k ⟨b,0,none⟩ a):eT P (vN (Instr.box t v)) dB k w:=
 wE (l:=.addr) (x:=⟨w.heap.size,0,none⟩) (o:=.cells v.cells t (0,0)) h rfl rfl (c _)
theorem nP {k:Option Nat->Pr} (h:ab E w L)
  (c:∀b a,ab E a (aT b (.map #[] 0)::L)->k (some b) a):eT P (vN (Instr.makeMap t none)) cI k w:=
 wE (l:=.map) (x:=some w.heap.size) (o:=.map #[] 0) h rfl rfl (c _)
theorem dw {s:Sem Next} {t:Ty} {k:t.den->Pr} (x:t.den) (hs:aQ P s=some (.value (t.val x))) (a:k x w):dQ P s t k w:=
 ⟨x,cd s hs w,a⟩
theorem jF {s:Sem Next} {t:Ty} {k:t.den->Pr} (x:t.den) (hs:aQ P s=some (.value (t.val x))) (a:k x w):fU P s t k w:=
 ⟨x,λw=>cd s hs w,a⟩
def Reads (w:World) (s:Sl) (sz:Nat) (cs:List Value):Prop:=
 cs.length=s.len*sz/\(cs≠[]->∃b d c T e,s.a=some ⟨b,d,none⟩/\w.heap[b]?=some (.cells c T e)/\∀i,i<cs.length->c[d+i]?=cs[i]?)
def dV (T:TypeId) (sz:Nat) (s:Sl) (cs:List Value):aK:=λh=>
 (s.a=none/\s.len=0/\s.cap=0/\cs=[]/\h=λ_=>none)\/
 (∃b pre c,s.a=some ⟨b,pre.length,none⟩/\cs.length=s.len*sz/\s.len<=s.cap/\(s.cap-s.len)*sz<=c.length/\aT b (.cells ⟨pre++(cs++c)⟩ T (0,0)) h)
def kO (sz:Nat) (s:Sl) (cs:List Value):aK:=λh=>
 (cs=[]/\s.len*sz=0/\s.len<=s.cap/\h=λ_=>none)\/
 (∃b d c T e,s.a=some ⟨b,d,none⟩/\cs.length=s.len*sz/\s.len<=s.cap/\(∀i,i<cs.length->c[d+i]?=cs[i]?)/\jC b (.cells c T e) h)
theorem ab.tL (h:ab E w (dV T sz s cs::L)):
  (s=⟨none,0,0⟩/\cs=[]/\ab E w L)\/
  ∃b pre c,s.a=some ⟨b,pre.length,none⟩/\cs.length=s.len*sz/\s.len<=s.cap/\(s.cap-s.len)*sz<=c.length/\ab E w (aT b (.cells ⟨pre++(cs++c)⟩ T (0,0))::L):=by
 obtain⟨_,k,l,m,n,rfl,o,p⟩:=h.heap
 rcases o with⟨e,f,d,g,rfl⟩|⟨b,pre,c,e,f,i,j,r⟩
 .left
  cases s with
  |mk a t u=>
   simp only at e f d
   subst e;subst f;subst d
   exact⟨rfl,g,h.drop⟩
 .exact .inr ⟨b,pre,c,e,f,i,j,h.tape,h.os,h.output,_,k,l,m,n,rfl,r,p⟩
theorem ab.fm (h:ab E w L):ab E w (dV T sz ⟨none,0,0⟩ []::L):=
 h.imp λx a=>⟨λ_=>none,x,λ_=>.inl rfl,by funext b;simp[iI],.inl ⟨rfl,rfl,rfl,rfl,rfl⟩,a⟩
theorem ab.Pe (h:ab E w (aT b (.cells ⟨pre++(cs++spare)⟩ T (0,0))::L)) (ha:s.a=some ⟨b,pre.length,none⟩)
  (e:cs.length=s.len*sz) (c:s.len<=s.cap) (d:(s.cap-s.len)*sz<=spare.length):ab E w (dV T sz s cs::L):=
 h.mono λ_ f=>.inr ⟨b,pre,spare,ha,e,c,d,f⟩
def uE:=@ab.Pe
theorem ab.iJ (h:ab E w (dV T sz s cs::L)):Reads w s sz cs:=by
 rcases h.tL with⟨rfl,rfl,_⟩|⟨b,pre,a,c,d,e,f,g⟩
 .exact⟨by simp,λh=>absurd rfl h⟩
 .refine⟨d,λ_=>⟨b,pre.length,_,_,_,c,g.own,λi j=>?_⟩⟩
  simp[gZ,g0 j]
theorem ab.Pd (h:ab E w (dV T sz s cs::L)):cs.length=s.len*sz/\s.len<=s.cap:=by
 rcases h.tL with⟨rfl,rfl,_⟩|⟨b,pre,a,f,d,c,e,g⟩
 .exact⟨by simp,cV _⟩
 .exact⟨d,c⟩
theorem Reads.cell (h:Reads w s sz cs) (ha:s.a=some a) (hi:i<cs.length):w.cell? (a.add i)=cs[i]?:=by
 obtain⟨b,e,c,T,k,d,f,g⟩:=h.2 (by intro j;rw[j]at hi;simp at hi)
 rw[ha]at d
 cases d
 rw[iC,rS f,g i hi]
theorem Reads.addr (h:Reads w s sz cs) (d:cs≠[]):∃b c,s.a=some ⟨b,c,none⟩:=by
 obtain⟨b,c,_,_,_,e,_⟩:=h.2 d
 exact⟨b,c,e⟩
theorem sF (h:Reads w s sz cs):(Builtin.firstCells sz s.len (.slice s.a s.len s.cap)).run P w=.ok cs.toArray w:=by
 obtain⟨a,d,e⟩:=s
 cases a with
 |none=>
  have:cs=[]:=by
   cases cs with
   |nil=>rfl
   |cons v cs=>obtain⟨b,f,g⟩:=h.addr (by simp);cases g
  subst this
  rfl
 |some a=>
  simp only[Builtin.firstCells]
  rw[<-h.1]
  exact run_loadCells λj c=>by
   have:=h.cell (a:=a) rfl c
   rw[this];simp[c]
theorem agZ {i:Int} (e:aQ P (underlying T)=some (.slice Te)) (d:aQ P (sizeOf Te)=some sz)
  (ha:s.a=some a) (f:0<=i) (g:i<s.len):(Instr.indexAt T (.slice s.a s.len s.cap) (.int .i64 i)).run P w=.ok (.pointer (some (a.add (i.toNat*sz)))) w:=by
 have b:=cd _ e w
 have c:=cd _ d w
 unfold Instr.indexAt
 rw[da (a:=(IntKind.i64,i)) (w':=w) rfl]
 simp only[run_bind,b,ha]
 simp only[Sem.run_pure,b]
 rw[ak ⟨f,g⟩]
 simp only[run_bind,c]
 rfl
theorem ui {i:Int} {k:Addr->Pr} (c:aQ P (underlying T)=some (.slice Te)) (b:aQ P (sizeOf Te)=some sz)
  (ha:s.a=some a) (d:0<=i) (e:i<s.len) (f:k (a.add (i.toNat*sz)) w):fU P (vN (Instr.indexAt T (.slice s.a s.len s.cap) (.int .i64 i))) dB k w:=
 ⟨_,λ_=>eE (agZ c b ha d e),f⟩
theorem Nd (n:Nat):∀(r c:Nat),c<=2*n+192->Builtin.growBy n r c<=2*n+192
 |0,c,h=>h
 |r+1,c,h=>by
  unfold Builtin.growBy
  split
  .exact h
  .refine Nd n r _ ?_
   omega
theorem nextslicecap_le (a gk:Nat) (h:gk<=a):Builtin.nextslicecap a gk<=2*a+192:=by
 unfold Builtin.nextslicecap
 split
 .omega
 .split
  .omega
  .exact Nd a 4 gk (by omega)
theorem size_zeroCells (z:Array Value) (n:Nat):(Builtin.zeroCells z n).size=n*z.size:=by simp[Builtin.zeroCells]
structure uF (P:Program) (Te:TypeId) (sz mu:Nat):Prop where
 size:aQ P (sizeOf Te)=some sz
 bytes:((aQ P (typeInfo Te)).map (·.bytes))=some mu
 zero:((aQ P (zeroValue Te)).map (·.cells.size))=some sz
theorem uF.info (h:uF P Te sz mu):∃i,aQ P (typeInfo Te)=some i/\i.bytes=mu:=by
 have:=h.bytes
 cases a:aQ P (typeInfo Te)with
 |none=>rw[a]at this;cases this
 |some i=>rw[a]at this;simp at this;exact⟨i,rfl,this⟩
theorem uF.IL (h:uF P Te sz mu):∃z,aQ P (zeroValue Te)=some z/\z.cells.size=sz:=by
 have:=h.zero
 cases a:aQ P (zeroValue Te)with
 |none=>rw[a]at this;cases this
 |some i=>rw[a]at this;simp at this;exact⟨i,rfl,this⟩
theorem abB {o:Obj} (h:w.heap[b]?=some o):b<w.heap.size:=by
 rcases kj b w.heap.size with a|a
 .exact a
 .simp[xw a]at h
theorem WB {R:TypeId} {t:Sl} {k:Sl->Pr}
  (h:ab E w L) (p:b6 L (dV Te sz s cs) L') (Q:aQ P (underlying T1)=some (.slice Te)) (S:aQ P (underlying T2)=some (.slice Ss)) (U:uF P Te sz mu)
  (g:Reads w t sz ds) (V:∀v∈ds,j9 v=true) (W:s.len+t.len<=2^40) (N:(2*(s.len+t.len)+192)*mu<=2^48)
  (X:∀Y F,Y.len=s.len+t.len->ab E F (dV Te sz Y (cs++ds)::L')->k Y F):
  eT P (vN (Builtin.append_ #[T1,T2] R #[.slice s.a s.len s.cap,.slice t.a t.len t.cap])) aE k w:=by
 have G:=h.pick p
 have d:=λw=>cd _ Q w
 have f:=λw=>cd _ S w
 have y:=λw=>cd _ U.size w
 obtain⟨A,H,Z⟩:=U.info
 obtain⟨z,hz,Ht⟩:=U.IL
 have C:=λw=>cd _ H w
 have vo:=λw=>cd _ hz w
 have iH:=G.Pd
 have Zv:=G.iJ
 by_cases k7:s.len+t.len<=s.cap
 ·
  rcases G.tL with⟨rfl,rfl,hh⟩|⟨b,pre,spare,ha,hl,I,Hj,hh⟩
  .have l:t.len=0:=by simpa using k7
   have z6:ds=[]:=by
    have:=g.1
    rw[l]at this
    simpa using this
   subst z6
   have O:=sF (P:=P) g
   rw[l]at O
   refine⟨⟨none,0,0⟩,w,eE ?_,X _ _ (by simp[l]) (by simpa using G)⟩
   simp[Builtin.append_,d,y,f,Builtin.lenOf,l,O,Ty.val,cE.val,bD.val]
  .have O:=sF (P:=P) g
   obtain⟨c',h1,h2,h3⟩:=xj (P:=P) (T:=Te) (b:=b) ds pre.length (s.len*sz) ⟨pre++(cs++spare)⟩ w hh.own
    (by simp[hl,g.1]
        have:t.len*sz<=(s.cap-s.len)*sz:=lR _ (by omega)
        omega) V
   have z4:c'=⟨pre++((cs++ds)++(spare.drop ds.length))⟩:=by
    apply Bh
    intro j
    rw[h3 j]
    simp only[oo,cP,<-hl]
    by_cases J:j<pre.length
    .rw[ai (by omega),g0 J,g0 J]
    .rw[gZ (l₁:=pre) (by omega),gZ (l₁:=pre) (by omega)]
     by_cases hj:j-pre.length<cs.length
     .rw[ai (by omega),g0 hj,g0 hj]
     .rw[gZ (l₁:=cs) (by omega),gZ (l₁:=cs) (by omega)]
      by_cases YO:j-pre.length<cs.length+ds.length
      .rw[ak (by omega),g0 (by omega)]
       congr 1;omega
      .rw[ai (by omega),gZ (l₁:=ds) (by omega),nB]
       congr 1;omega
   refine⟨⟨s.a,s.len+t.len,s.cap⟩,{w with heap:=w.heap.setIfInBounds b (.cells c' Te (0,0))},eE ?_,X _ _ rfl ?_⟩
   .have wS:(storeCells ((⟨b,pre.length,none⟩:Addr).add (s.len*sz)) ds).run P w=.ok () {w with heap:=w.heap.setIfInBounds b (.cells c' Te (0,0))}:=by
      have:∀(K:List Value) (i n:Nat) (w:World),(storeCells ((⟨b,pre.length,none⟩:Addr).add n) K i).run P w=(storeCells ⟨b,pre.length,none⟩ K (n+i)).run P w:=by
       intro K
       induction K with
       |nil=>intro i n w;rfl
       |cons v K ih=>
        intro i n w
        simp only[storeCells]
        rw[run_bind,run_bind,EP _ _ _ rfl]
        cases(store ((⟨b,pre.length,none⟩:Addr).add (n+i)) v).run P w with
        |ok u F=>simpa[m7]using ih (i+1) n F
        |halt x F=>rfl
      rw[this ds 0 (s.len*sz) w];exact h1
    simp[Builtin.append_,d,y,f,Builtin.lenOf,k7,O,ha,wS,Ty.val,cE.val,bD.val]
   .rw[z4]
    have M:(s.cap-(s.len+t.len))*sz<=(spare.drop ds.length).length:=by
     have e:s.cap-(s.len+t.len)=(s.cap-s.len)-t.len:=by omega
     rw[fq,g.1,e,Bi];omega
    refine uE (pre:=pre) (spare:=spare.drop ds.length) (b:=b) ?_ ha (by simp[hl,g.1,km]) k7 M
    exact hh.set
 ·
  have wK:¬((s.len+t.len:Nat):Int)>IntKind.i64.max:=by
   have:IntKind.i64.max=9223372036854775807:=by rfl
   rw[this]
   have:(2:Nat)^40=1099511627776:=by decide
   omega
  have Ai:¬Builtin.nextslicecap (s.len+t.len) s.cap*A.bytes>2^48:=by
   have h1:=nextslicecap_le (s.len+t.len) s.cap (by omega)
   have h2:Builtin.nextslicecap (s.len+t.len) s.cap*A.bytes<=(2*(s.len+t.len)+192)*mu:=by rw[Z];exact lR _ h1
   omega
  have hL:ab E {w with drawn:=w.drawn+1} (dV Te sz s cs::L'):=G.drew
  obtain⟨c,GZ,I⟩:∃n,(Question.appendCap (s.len+t.len) s.cap Te).cut (w.tape w.drawn (.appendCap (s.len+t.len) s.cap Te))=n/\s.len+t.len<=n:=⟨_,rfl,IS _ _⟩
  have u9:(Builtin.firstCells sz s.len (.slice s.a s.len s.cap)).run P w.drew=.ok cs.toArray w.drew:=sF hL.iJ
  have wN:(Builtin.firstCells sz t.len (.slice t.a t.len t.cap)).run P w.drew=.ok ds.toArray w.drew:=sF ⟨g.1,g.2⟩
  refine⟨⟨some ⟨w.heap.size,0,none⟩,s.len+t.len,c⟩,
   {w with drawn:=w.drawn+1,heap:=w.heap.push (.cells (cs.toArray++ds.toArray++Builtin.zeroCells z.cells (c-(s.len+t.len))) Te (0,0))},eE ?_,X _ _ rfl ?_⟩
  .have D:¬(9223372036854775807<((s.len:Int)+(t.len:Int))):=by omega
   have m:¬(281474976710656<Builtin.nextslicecap (s.len+t.len) s.cap*A.bytes):=by omega
   simp[Builtin.append_,d,y,f,Builtin.lenOf,k7,C,D,m,Question.forced,GZ,u9,wN,vo,newRow,Ty.val,cE.val,bD.val]
   rw[<-IT,show cs.toArray++ds.toArray=(cs++ds).toArray from by simp]
   rfl
  .have r:=(hL.drop).new (o:=.cells (cs.toArray++ds.toArray++Builtin.zeroCells z.cells (c-(s.len+t.len))) Te (0,0))
   have e:cs.toArray++ds.toArray++Builtin.zeroCells z.cells (c-(s.len+t.len))=⟨(cs++ds)++(Builtin.zeroCells z.cells (c-(s.len+t.len))).toList⟩:=by
    apply lr
    simp
   rw[e]at r⊢
   refine uE (pre:=[]) r rfl (by simp[iH.1,g.1,km]) I ?_
   simp only[Bj]
   rw[size_zeroCells,Ht]
   exact cV _
def gJ (s:Sl) (l h m sz:Nat):Sl:=⟨if m=l then s.a else s.a.map (·.add (l*sz)),h-l,m-l⟩
theorem DW {l h:Nat} (p:aQ P (underlying T)=some (.slice Te)) (k:aQ P (sizeOf Te)=some sz)
  (hm:m=match mx with|some v=>v.toNat|none=>s.cap) (i:∀v,mx=some v->0<=v/\v<=s.cap)
  (g:h=match hi with|some v=>v.toNat|none=>s.len) (d:∀v,hi=some v->0<=v/\v<=m) (hn:hi=none->mx=none)
  (b:l=match lo with|some v=>v.toNat|none=>0) (f:∀v,lo=some v->0<=v/\v<=h):
  (Instr.sliceAt T (.slice s.a s.len s.cap) (lo.map (Value.int .i64)) (hi.map (Value.int .i64)) (mx.map (Value.int .i64))).run P w=
    .ok (.slice (gJ s l h m sz).a (gJ s l h m sz).len (gJ s l h m sz).cap) w:=by
 have n:=λw=>cd _ p w
 have j:=λw=>cd _ k w
 have e:∀(v:Int) (y:Nat) (c:BoundsCode),0<=v/\v<=y->(Instr.sliceBound (.int .i64 v) y c).run P w=.ok v.toNat w:=by
  intro v y c r
  unfold Instr.sliceBound
  rw[da (a:=(IntKind.i64,v)) (w':=w) rfl]
  simp[r]
 have o:(Instr.sliceBounds true s.len s.cap (lo.map (Value.int .i64)) (hi.map (Value.int .i64)) (mx.map (Value.int .i64))).run P w=.ok (l,h,m) w:=by
  unfold Instr.sliceBounds
  cases mx with
  |none=>
   simp only[sP]at hm⊢
   subst hm
   cases hi with
   |none=>
    simp only[sP]at g⊢
    subst g
    cases lo with
    |none=>simp only at b;subst b;simp
    |some v=>simp only at b;subst b;simp[e v _ _ (f v rfl)]
   |some u=>
    simp only at g;subst g
    cases lo with
    |none=>simp only at b;subst b;simp[e u _ _ (d u rfl)]
    |some v=>simp only at b;subst b;simp[e u _ _ (d u rfl),e v _ _ (f v rfl)]
  |some x=>
   simp only at hm;subst hm
   cases hi with
   |none=>cases hn rfl
   |some u=>
    simp only at g;subst g
    cases lo with
    |none=>simp only at b;subst b;simp[e x _ _ (i x rfl),e u _ _ (d u rfl)]
    |some v=>simp only at b;subst b;simp[e x _ _ (i x rfl),e u _ _ (d u rfl),e v _ _ (f v rfl)]
 simp[Instr.sliceAt,Instr.slice,n,o,j,gJ]
theorem aiN {k:Sl->Pr} (c:aQ P (underlying T)=some (.slice Te)) (b:aQ P (sizeOf Te)=some sz)
  (d:0<=n) (e:n<=s.cap) (f:k (gJ s 0 n.toNat s.cap sz) w):fU P (vN (Instr.sliceAt T (.slice s.a s.len s.cap) none (some (.int .i64 n)) none)) aE k w:=
 ⟨_,λw=>eE (DW (w:=w) (lo:=none) (hi:=some n) (mx:=none) c b rfl (λ_ h=>by cases h) rfl (λv h=>by cases h;exact⟨d,e⟩) (λh=>by cases h) rfl (λ_ h=>by cases h)),f⟩
theorem aiL {k:Sl->Pr} (c:aQ P (underlying T)=some (.slice Te)) (b:aQ P (sizeOf Te)=some sz)
  (d:0<=n) (e:n<=s.len) (f:k (gJ s n.toNat s.len s.cap sz) w):fU P (vN (Instr.sliceAt T (.slice s.a s.len s.cap) (some (.int .i64 n)) none none)) aE k w:=
 ⟨_,λw=>eE (DW (w:=w) (lo:=some n) (hi:=none) (mx:=none) c b rfl (λ_ h=>by cases h) rfl (λv h=>by cases h) (λ_=>rfl) rfl (λv h=>by cases h;exact⟨d,e⟩)),f⟩
theorem akz {m:Int} {k:Sl->Pr} (c:aQ P (underlying T)=some (.slice Te)) (b:aQ P (sizeOf Te)=some sz)
  (d:0<=n) (g:n<=m) (e:m<=s.cap) (f:k (gJ s n.toNat m.toNat s.cap sz) w):fU P (vN (Instr.sliceAt T (.slice s.a s.len s.cap) (some (.int .i64 n)) (some (.int .i64 m)) none)) aE k w:=
 ⟨_,λw=>eE (DW (w:=w) (lo:=some n) (hi:=some m) (mx:=none) c b rfl (λ_ h=>by cases h) rfl (λv h=>by cases h;exact⟨by omega,e⟩) (λh=>by cases h) rfl (λv h=>by cases h;exact⟨d,by show n<=((m.toNat:Nat):Int);omega⟩)),f⟩
theorem aiM {m:Int} {k:Sl->Pr} (c:aQ P (underlying T)=some (.slice Te)) (b:aQ P (sizeOf Te)=some sz)
  (d:0<=n) (g:n<=m) (e:m<=s.cap) (f:k (gJ s 0 n.toNat m.toNat sz) w):fU P (vN (Instr.sliceAt T (.slice s.a s.len s.cap) none (some (.int .i64 n)) (some (.int .i64 m)))) aE k w:=
 ⟨_,λw=>eE (DW (w:=w) (lo:=none) (hi:=some n) (mx:=some m) c b rfl (λv h=>by cases h;exact⟨by omega,e⟩) rfl (λv h=>by cases h;exact⟨d,by show n<=((m.toNat:Nat):Int);omega⟩) (λh=>by cases h) rfl (λ_ h=>by cases h)),f⟩
theorem wD {len:Nat} {s:Sem Value} {k:Sl->Pr} (cs:List Value) (h:ab E w L)
  (hs:s.run P w=.ok (.slice (some ⟨w.heap.size,0,none⟩) len len) {w with heap:=w.heap.push (.cells ⟨cs⟩ Te (0,0))}) (c:cs.length=len*sz)
  (d:∀a b,a.len=len->ab E b (dV Te sz a cs::L)->k a b):eT P (vN s) aE k w:=by
 refine wE (l:=.slice) (x:=⟨some ⟨w.heap.size,0,none⟩,len,len⟩) h hs rfl λb e=>?_
 refine d _ _ rfl (uE (pre:=[]) (spare:=[]) (by simpa using e) rfl c (cV _) (by simp))
theorem tr {e:TypeId} {k:ByteArray->Pr} (hs:P.underlying Tb=some (.slice e)) (m:P.underlying e=some (.int .u8)) (hd:P.underlying Ts=some .string)
  (h:Reads w s 1 (bs.map λb=>.int .u8 b.toNat)) (o:k ⟨bs.toArray⟩ w):dQ P (vN (Go.convert Tb Ts (.slice s.a s.len s.cap))) an k w:=by
 refine⟨⟨bs.toArray⟩,eE ?_,o⟩
 rw[run_convert_bytes_string w Tb Ts e _ _ _ hs m hd]
 have d:bs.length=s.len:=by simpa using h.1
 obtain⟨a,f,g⟩:=s
 simp only at d⊢
 cases a with
 |none=>
  have:bs=[]:=by
   cases bs with
   |nil=>rfl
   |cons v z=>obtain⟨b,p,t⟩:=h.addr (by simp);cases t
  subst this
  rfl
 |some a=>
  have j:=sF (P:=P) h
  simp only[Builtin.firstCells,py]at j
  have u:=run_bytesToString (P:=P) w a f g (bs.map λb=>(b.toNat:Int)) (by rw[j];simp[rA])
  rw[u]
  have i:∀(l:List UInt8) (c:ByteArray),(l.map λb=>(b.toNat:Int)).foldl (λr n=>r.push (UInt8.ofNat n.toNat)) c=⟨c.data++l.toArray⟩:=by
   intro l
   induction l with
   |nil=>intro c;simp
   |cons x l y=>
    intro c
    simp only[eZ,kV,y]
    congr 1
    simp[ByteArray.push]
  rw[i bs ByteArray.empty]
  simp[Ty.val,cE.val,bD.val]
theorem IB {s:ByteArray} {k:ByteArray->Pr} (a:P.underlying T=some .string) (b:0<=n) (c:n<=s.size) (d:k (s.extract n.toNat s.size) w):
  fU P (vN (Instr.sliceAt T (.string s) (some (.int .i64 n)) none none)) an k w:=by
 refine⟨_,λw=>eE ?_,d⟩
 have:=run_slice_string_from_if (P:=P) w T s .i64 n a
 rw[ak ⟨b,c⟩]at this
 have e:=IU (P:=P) a
 simp[Instr.sliceAt,e,this,Ty.val,cE.val,bD.val]
theorem aiO {s:ByteArray} {k:ByteArray->Pr} (a:P.underlying T=some .string) (b:0<=n) (c:n<=s.size) (d:k (s.extract 0 n.toNat) w):
  fU P (vN (Instr.sliceAt T (.string s) none (some (.int .i64 n)) none)) an k w:=by
 refine⟨_,λw=>eE ?_,d⟩
 have:=run_slice_string_to_if (P:=P) w T s .i64 n a
 rw[ak ⟨b,c⟩]at this
 have e:=IU (P:=P) a
 simp[Instr.sliceAt,e,this,Ty.val,cE.val,bD.val]
theorem Q7 {x y:Operand} {a b:ByteArray} {k:ByteArray->Pr} (d:a.size+b.size<=9223372036854775807) (c:k (a++b) w):
  fU P (cL .add T x y (.string a) (.string b)) an k w:=by
 refine⟨_,λw=>eE ?_,c⟩
 rw[da (a:=()) (w':=w) rfl]
 have:¬(((a.size+b.size:Nat):Int)>IntKind.i64.max):=by
  have:IntKind.i64.max=9223372036854775807:=by rfl
  rw[this];omega
 simp only[Go.binOp,Op.stringOp]
 rw[ai this]
 rfl
theorem WG {i:TypeInfo} {k:Sl->Pr} (h:ab E w L) (d:P.underlying T=some (.slice Te)) (hi:P.info? Te=some i) (e:i.zero=some z)
  (f:i.size=1) (a:z.cells=#[z]) (g:0<=n) (l:(i.bytes:Int)*n<=281474976710656) (m:n<=9223372036854775807)
  (o:∀b c,b.len=n.toNat->ab E c (dV Te 1 b (List.replicate n.toNat z)::L)->k b c):
  eT P (vN (Instr.makeSlice T (.int .i64 n) (.int .i64 n))) aE k w:=by
 refine wD (sz:=1) (len:=n.toNat) (List.replicate n.toNat z) h ?_ (by simp) o
 rw[run_make w T Te i z d hi e .i64 .i64 n n g (mP _) l m]
 congr 1
 unfold World.alloc
 congr 3
 apply lr
 simp only[madeCells,f,a,py]
 refine List.ext_getElem (by simp) λj p r=>?_
 simp[Nat.mod_one]
structure dd (K V:Type)where
 key:K
 val:V
 born:Nat
structure uK (P:Program) (K:TypeId) (kl:bD) (bj:kl.den->kl.den->Bool):Prop where
 iff:∀x y,bj x y=true↔x=y
 find:∀x,∃d,aQ P (underlying K)=some d/\∀y,Instr.sameNow d (kl.val x) (kl.val y)=some (bj x y)
 gX:∀x e,aQ P (Instr.checkKey e 10000 K (kl.val x))=some ()
 bits:∀x,Instr.sameBits 10000 (kl.val x) (kl.val x)=true
variable {kl:bD} {vl:cE} {bj:kl.den->kl.den->Bool} {es:List (dd kl.den vl.den)} {a0:Addr} {ks:(kl.den×vl.den×Unit)->Pr} {e:dd kl.den vl.den}
def iM (kl:bD) (vl:cE) (e:dd kl.den vl.den):MapEntry:={key:=kl.val e.key,val:=vl.val e.val,born:=e.born}
def bG (kl:bD) (vl:cE) (r:Nat) (es:List (dd kl.den vl.den)) (a:Nat):aK:=aT r (.map ⟨es.map (iM kl vl)⟩ a)
def jy {K V:Type} (bj:K->K->Bool) (x:K):List (dd K V)->Nat->Option (Nat×V)
 |[],_=>none
 |e::a,i=>if bj x e.key then some (i,e.val)else jy bj x a (i+1)
def dz {K V:Type} (bj:K->K->Bool) (x:K):List (dd K V)->Option V
 |[]=>none
 |e::a=>if bj x e.key then some e.val else dz bj x a
def fk {K V:Type} (bj:K->K->Bool) (x:K) (v:V):List (dd K V)->Nat->List (dd K V)
 |[],a=>[⟨x,v,a⟩]
 |e::b,a=>if bj x e.key then⟨e.key,v,e.born⟩::b else e::fk bj x v b a
def iU {K:Type} (bj:K->K->Bool) (x:K) (es:List (dd K V)) (a:Nat):Nat:=if(dz bj x es).isSome then a else a+1
def lK {K V:Type} (bj:K->K->Bool) (x:K):List (dd K V)->List (dd K V)
 |[]=>[]
 |e::a=>if bj x e.key then a else e::lK bj x a
theorem yx {K V:Type} (bj:K->K->Bool) (x:K):∀(a:List (dd K V)) (i:Nat),(jy bj x a i).map (·.2)=dz bj x a
 |[],_=>rfl
 |e::a,i=>by
  simp only[jy,dz]
  split
  .rfl
  .exact yx bj x a (i+1)
theorem MR {d:TypeDesc} {x:kl.den} (hs:∀y,Instr.sameNow d (kl.val x) (kl.val y)=some (bj x y)):∀(a:List (dd kl.den vl.den)) (i:Nat),
  Instr.findNow d (kl.val x) (a.map (iM kl vl)) i=some ((jy bj x a i).map λp=>(p.1,vl.val p.2))
 |[],_=>rfl
 |e::a,i=>by
  simp only[eZ,Instr.findNow,jy]
  rw[show(iM kl vl e).key=kl.val e.key from rfl,hs e.key]
  cases bj x e.key with
  |true=>simp[iM]
  |false=>simpa using MR hs a (i+1)
theorem run_findKey {K:TypeId} (a:uK P K kl bj) (x:kl.den) (es:List (dd kl.den vl.den)):
  (Instr.findKey K (kl.val x) (es.map (iM kl vl))).run P w=.ok ((jy bj x es 0).map λp=>(p.1,vl.val p.2)) w:=by
 obtain⟨d,b,c⟩:=a.find x
 unfold Instr.findKey
 rw[da (cd _ b w),MR c]
 rfl
theorem xi {es:Array MapEntry} (h:w.heap[r]?=some (.map es clock)):(getObj r).run P w=.ok (.map es clock) w:=by
 simp[getObj,Sem.run,h]
theorem yC {es:Array MapEntry} (h:w.heap[r]?=some (.map es clock)):
  (setObj r (.map Gp LW)).run P w=.ok () {w with heap:=w.heap.setIfInBounds r (.map Gp LW)}:=by
 simp[setObj,Sem.run,h]
theorem yj {K V:TypeId} {x:kl.den} {z:vl.den} {k:(vl.den×Bool×Unit)->Pr}
  (e:aQ P (underlying M)=some (.map K V)) (c:uK P K kl bj) (f:aQ P (zeroValue V)=some (vl.val z)) (h:ab E w L) (p:b6 L (bG kl vl r es clock) L')
  (g:k (match dz bj x es with|some v=>(v,true,())|none=>(z,false,())) w):dQ P (vN (Instr.lookup M (.map (some r)) (kl.val x) true)) (.aG [vl,.leaf .bool]) k w:=by
 have i:=(h.pick p).own
 refine⟨_,eE ?_,g⟩
 unfold Instr.lookup
 rw[da (cd _ e w)]
 simp only[]
 rw[da (xi i)]
 simp only[]
 rw[da (a:=(⟨es.map (iM kl vl)⟩:Array MapEntry)) (w':=w) rfl]
 rw[da (cd _ (c.gX x _) w)]
 rw[da (run_findKey c x es)]
 have b:=yx bj x es 0
 cases d:jy bj x es 0 with
 |none=>
  rw[d]at b
  rw[<-b]
  simp only[sP]
  rw[da (cd _ f w)]
  rfl
 |some p=>
  rw[d]at b
  rw[<-b]
  rfl
theorem ON (x:kl.den) (v:vl.den):∀(d:List (dd kl.den vl.den)) (c i:Nat),(∀a b,bj a b=true↔a=b)->
  match jy bj x d i with
  |some (j,_)=>i<=j/\(d.map (iM kl vl)).modify (j-i) (λe=>{e with key:=kl.val x,val:=vl.val v})=(fk bj x v d c).map (iM kl vl)/\
    ((d.map (iM kl vl))[j-i]?).map (·.key)=some (kl.val x)
  |none=>fk bj x v d c=d++[⟨x,v,c⟩]
 |[],c,i,_=>rfl
 |e::d,c,i,f=>by
  simp only[jy,fk]
  by_cases k:bj x e.key=true
  .rw[ak k,ak k]
   have:=(f _ _).1 k
   subst this
   refine⟨cV _,?_,?_⟩<;>simp[iM]
  .rw[ai k,ai k]
   have g:=ON x v d c (i+1) f
   cases l:jy bj x d (i+1)with
   |none=>rw[l]at g;simp only at g⊢;rw[g];rfl
   |some q=>
    obtain⟨j,u⟩:=q
    rw[l]at g
    simp only at g⊢
    obtain⟨o,m,n⟩:=g
    have e:j-i=(j-(i+1))+1:=by omega
    refine⟨by omega,?_,?_⟩
    .rw[e,eZ,Rq,m];rfl
    .rw[e,eZ,yU,n]
theorem mw {K V:TypeId} {x:kl.den} {v:vl.den} {k:Pr}
  (m:aQ P (underlying M)=some (.map K V)) (d:uK P K kl bj) (h:ab E w L) (p:b6 L (bG kl vl r es clock) L')
  (n:∀w',ab E w' (bG kl vl r (fk bj x v es clock) (iU bj x es clock)::L')->k w'):lv P (uN (Instr.mapUpdate M (.map (some r)) (kl.val x) (vl.val v))) k w:=by
 have i:=h.pick p
 have f:=i.own
 have b:=ON (vl:=vl) x v es clock 0 d.iff
 have e:=yx bj x es 0
 refine⟨{w with heap:=w.heap.setIfInBounds r (.map ⟨(fk bj x v es clock).map (iM kl vl)⟩ (iU bj x es clock))},xk ?_,n _ i.set⟩
 unfold Instr.mapUpdate
 rw[da (cd _ m w)]
 simp only[]
 rw[da (xi f)]
 simp only[]
 rw[da (cd _ (d.gX x _) w),da (run_findKey d x es)]
 cases l:jy bj x es 0 with
 |none=>
  rw[l]at b e
  simp only at b
  simp only[sP]
  rw[yC f]
  have g:iU bj x es clock=clock+1:=by simp[iU,<-e]
  rw[g,b]
  congr 3
  simp[iM]
 |some q=>
  obtain⟨j,u⟩:=q
  rw[l]at b e
  simp only[pz]at b
  obtain⟨_,o,t⟩:=b
  simp only[rB]
  have c:(((⟨es.map (iM kl vl)⟩:Array MapEntry)[j]?).map (·.key)).getD (kl.val x)=kl.val x:=by
   simp only[oo]
   rw[t];rfl
  rw[c]
  rw[da (a:=kl.val x) (w':=w) (by unfold Instr.keyThatStays;rw[d.bits x];rfl)]
  rw[yC f]
  have g:iU bj x es clock=clock:=by simp[iU,<-e]
  rw[g,<-o]
  congr 4
  apply lr
  simp
theorem OH (x:kl.den):∀(a:List (dd kl.den vl.den)) (i:Nat),
  match jy bj x a i with
  |some (j,_)=>i<=j/\(a.map (iM kl vl)).eraseIdx (j-i)=(lK bj x a).map (iM kl vl)
  |none=>lK bj x a=a
 |[],i=>rfl
 |e::a,i=>by
  simp only[jy,lK]
  by_cases c:bj x e.key=true
  .rw[ak c,ak c]
   simp
  .rw[ai c,ai c]
   have b:=OH x a (i+1)
   cases d:jy bj x a (i+1)with
   |none=>rw[d]at b;simp only at b⊢;rw[b]
   |some q=>
    obtain⟨j,u⟩:=q
    rw[d]at b
    simp only at b⊢
    obtain⟨g,f⟩:=b
    have e:j-i=(j-(i+1))+1:=by omega
    refine⟨by omega,?_⟩
    rw[e,eZ,List.eraseIdx_cons_succ,f];rfl
theorem Gi {K V R:TypeId} {x:kl.den} {k:Unit->Pr}
  (g:aQ P (underlying M)=some (.map K V)) (c:uK P K kl bj) (h:ab E w L) (p:b6 L (bG kl vl r es clock) L')
  (i:∀d,ab E d (bG kl vl r (lK bj x es) clock::L')->k () d):eT P (vN (Builtin.delete_ #[M,K'] R #[.map (some r),kl.val x])) (.aG []) k w:=by
 have e:=h.pick p
 have b:=e.own
 have a:=OH (vl:=vl) (bj:=bj) x es 0
 refine⟨(),{w with heap:=w.heap.setIfInBounds r (.map ⟨(lK bj x es).map (iM kl vl)⟩ clock)},eE ?_,i _ e.set⟩
 unfold Builtin.delete_
 simp only[oo,Eh,yU]
 rw[da (cd _ g w)]
 simp only[]
 rw[da (xi b)]
 simp only[]
 rw[da (cd _ (c.gX x _) w),da (run_findKey c x es)]
 cases f:jy bj x es 0 with
 |none=>
  rw[f]at a
  simp only at a
  simp only[sP]
  rw[da (yC b),a]
  rfl
 |some q=>
  obtain⟨j,u⟩:=q
  rw[f]at a
  simp only[pz]at a
  simp only[rB]
  rw[da (yC b),<-a.2]
  have:(⟨es.map (iM kl vl)⟩:Array MapEntry).eraseIdxIfInBounds j=⟨(es.map (iM kl vl)).eraseIdx j⟩:=by
   apply lr
   simp
  rw[this]
  rfl
theorem sp {K V:Type} {bj:K->K->Bool} (d:∀a b,bj a b=true↔a=b) (x y:K) (v:V):∀(g:List (dd K V)) (c:Nat),
  dz bj y (fk bj x v g c)=if bj y x then some v else dz bj y g
 |[],c=>by simp[fk,dz]
 |e::g,c=>by
  simp only[fk]
  by_cases i:bj x e.key=true
  .rw[ak i]
   have:=(d _ _).1 i
   subst this
   simp only[dz]
   by_cases f:bj y e.key=true<;>simp[f]
  .rw[ai i]
   simp only[dz]
   rw[sp d x y v g c]
   by_cases f:bj y e.key=true
   .have j:=(d _ _).1 f
    have k:¬bj y x=true:=λh=>i ((d _ _).2 (((d _ _).1 h).symm.trans j))
    simp[f,k]
   .simp[f]
theorem OJ {K V:Type} {bj:K->K->Bool} (c:∀a b,bj a b=true↔a=b) (x:K):∀(d:List (dd K V)),x∉d.map (·.key)->dz bj x d=none
 |[],_=>rfl
 |e::d,h=>by
  simp only[eZ,nz,not_or]at h
  simp only[dz]
  rw[ai (λf=>h.1 ((c _ _).1 f))]
  exact OJ c x d h.2
theorem OG {K V:Type} (bj:K->K->Bool) (x:K):∀(a:List (dd K V)),∀k∈(lK bj x a).map (·.key),k∈a.map (·.key)
 |[],_,h=>h
 |e::a,k,h=>by
  simp only[lK]at h
  split at h
  .exact dH _ h
  .rcases List.mem_cons.1 h with h|h
   .exact h▸eo
   .exact dH _ (OG bj x a k h)
theorem Dr {K V:Type} {bj:K->K->Bool} (c:∀a b,bj a b=true↔a=b) (x y:K):∀(f:List (dd K V)),(f.map (·.key)).Nodup->
  dz bj y (lK bj x f)=if bj y x then none else dz bj y f
 |[],_=>by simp[lK,dz]
 |e::f,i=>by
  simp only[eZ,sN]at i
  simp only[lK]
  by_cases g:bj x e.key=true
  .rw[ak g]
   have:=(c _ _).1 g
   subst this
   by_cases d:bj y e.key=true
   .have j:=(c _ _).1 d
    subst j
    rw[ak d]
    exact OJ c _ f i.1
   .simp[dz,d]
  .rw[ai g]
   simp only[dz]
   rw[Dr c x y f i.2]
   by_cases d:bj y e.key=true
   .have j:=(c _ _).1 d
    have k:¬bj y x=true:=λh=>g ((c _ _).2 (((c _ _).1 h).symm.trans j))
    simp[d,k]
   .simp[d]
theorem Dp {K V:Type} (bj:K->K->Bool) (x:K):∀(a:List (dd K V)),(a.map (·.key)).Nodup->((lK bj x a).map (·.key)).Nodup
 |[],h=>h
 |e::a,b=>by
  simp only[eZ,sN]at b
  simp only[lK]
  split
  .exact b.2
  .simp only[eZ,sN]
   exact⟨λh=>b.1 (OG bj x a _ h),Dp bj x a b.2⟩
theorem OM {K V:Type} {bj:K->K->Bool} (d:∀a b,bj a b=true↔a=b) (x:K) (v:V):∀(f:List (dd K V)) (c:Nat),∀k∈(fk bj x v f c).map (·.key),k=x\/k∈f.map (·.key)
 |[],_,k,h=>by simp[fk]at h;exact .inl h
 |e::f,c,k,h=>by
  simp only[fk]at h
  split at h
  .exact .inr h
  .rcases List.mem_cons.1 h with h|h
   .exact .inr (h▸eo)
   .rcases OM d x v f c k h with h|h
    .exact .inl h
    .exact .inr (dH _ h)
theorem w7 {K V:Type} {bj:K->K->Bool} (d:∀a b,bj a b=true↔a=b) (x:K) (v:V):∀(f:List (dd K V)) (c:Nat),(f.map (·.key)).Nodup->((fk bj x v f c).map (·.key)).Nodup
 |[],_,_=>by simp[fk]
 |e::f,c,g=>by
  simp only[eZ,sN]at g
  simp only[fk]
  split
  .simp only[eZ,sN];exact g
  .rename_i i
   simp only[eZ,sN]
   refine⟨λh=>?_,w7 d x v f c g.2⟩
   rcases OM d x v f c _ h with h|h
   .exact i ((d _ _).2 h.symm)
   .exact g.1 h
theorem XB {l:bD} {k:l.den->Pr} {x:l.den}
  (h:ab E w L) (ha:a=⟨b,off,none⟩) (p:b6 L (aT b (.cells c T fr)) L') (d:aQ P (isAgg t)=some false)
  (hc:(c[off]?).bind l.parse=some x) (e:k x w):dQ P (vN (Instr.loadAt t (.pointer (some a)))) (.one (.leaf l)) k w:=
 Nb (h.pick p).own d ha hc e
theorem V4 {k:Pr}
  (h:ab E w L) (ha:a=⟨b,off,none⟩) (p:b6 L (aT b (.cells c T fr)) L') (d:aQ P (isAgg t)=some false)
  (hc:c[off]?=some v) (e:k w):oz P (vN (Instr.loadAt t (.pointer (some a)))) v k w:=
 LU (h.pick p).own d ha hc e
theorem WK {k:Pr}
  (h:ab E w L) (ha:a=⟨b,off,none⟩) (p:b6 L (aT b (.cells c T (0,0))) L') (hn:aQ P (sizeOf t)=some 1) (dy:Nat.blt off c.size=true) (hv:j9 v=true)
  (e:∀d,ab E d (aT b (.cells (c.setIfInBounds off v) T (0,0))::L')->k d):lv P (uN (Instr.storeAt t (.pointer (some a)) v)) k w:=
 Gj h p hn ha dy hv e
theorem zX {l:bD} {k:l.den->Pr} (x:l.den)
  (hr:Reads w s sz cs) (b:s.a=some a0) (ha:a=a0.add i) (c:aQ P (isAgg t)=some false)
  (hc:cs[i]?=some (l.val x)) (d:k x w):dQ P (vN (Instr.loadAt t (.pointer (some a)))) (.one (.leaf l)) k w:=by
 subst ha
 have e:i<cs.length:=by
  rcases kj i cs.length with h|h
  .exact h
  .rw[pA h]at hc;cases hc
 exact M9 x c (by rw[hr.cell b e,hc]) d
theorem Na {k:bK ls->Pr} (x:bK ls)
  (hr:Reads w s sz cs) (d:s.a=some a0) (ha:a=a0.add i) (m:aQ P (isAgg t)=some true) (hn:aQ P (sizeOf t)=some (ay ls x).length)
  (hc:∀j,j<(ay ls x).length->cs[i+j]?=(ay ls x)[j]?) (n:k x w):dQ P (vN (Instr.loadAt t (.pointer (some a)))) (.one (.agg ls)) k w:=by
 subst ha
 refine⟨x,eE ?_,n⟩
 unfold Instr.loadAt
 rw[da (a:=a0.add i) (w':=w) rfl]
 unfold loadVar
 rw[ke m]
 simp only[gr]
 rw[ke hn]
 rw[da (run_loadCells (λj e=>by
  have f:=hc j e
  have g:i+j<cs.length:=by
   rcases kj (i+j) cs.length with h|h
   .exact h
   .rw[pA h,fA e]at f;cases f
  have c:a0.spot=none:=by
   obtain⟨b,o,l⟩:=hr.addr (by intro p;rw[p]at g;simp at g)
   rw[d]at l;cases l;rfl
  rw[EP _ _ _ c,hr.cell d g,f,fA e]))]
 rfl
theorem WL {n:Nat} {vs:Array Value} {k:Pr}
  (h:ab E w L) (ha:a=⟨b,0,none⟩) (p:b6 L (aT b (.cells c T (0,0))) L') (hn:aQ P (sizeOf t)=some n) (hs:vs.size=n) (hc:c.size=n) (hv:∀v∈vs.toList,j9 v=true)
  (f:∀w',ab E w' (aT b (.cells vs T (0,0))::L')->k w'):lv P (uN (Instr.storeAt t (.pointer (some a)) (.agg vs))) k w:=by
 subst ha
 have e:=h.pick p
 obtain⟨g,i,m,l⟩:=xj (P:=P) (T:=T) (b:=b) vs.toList 0 0 c w e.own (by simp;omega) hv
 have d:g=vs:=by
  apply Bh
  intro j
  rw[l j]
  by_cases o:j<n
  .rw[ak ⟨by omega,by simp;omega⟩];simp
  .rw[ai (by simp;omega),xw (by omega),xw (by omega)]
 subst d
 refine⟨_,xk ?_,f _ e.set⟩
 unfold Instr.storeAt
 rw[da (a:=⟨b,0,none⟩) (w':=w) rfl]
 unfold storeVar
 rw[ke hn]
 simp only[Value.cells,hs,uo,Bg,fF]
 exact i
theorem CF {α:Type} (cg:α->List Value) (sz:Nat) (a:∀x,(cg x).length=sz):∀(b:List α) (i j:Nat),j<sz->
  (b.flatMap cg)[i*sz+j]?=(b[i]?).bind λx=>(cg x)[j]?
 |[],i,j,_=>by simp
 |x::b,0,j,c=>by
  simp only[fc,uq,qt,Eh,jZ]
  rw[g0 (by rw[a];exact c)]
 |x::b,i+1,j,c=>by
  simp only[fc,yU]
  rw[gZ (by rw[a,km];omega),a]
  rw[show(i+1)*sz+j-sz=i*sz+j from by rw[km];omega]
  exact CF cg sz a b i j c
theorem nS (cg:α->List Value) (sz:Nat) (a:∀x,(cg x).length=sz) (xs:List α):(xs.flatMap cg).length=xs.length*sz:=by
 induction xs with
 |nil=>simp
 |cons x xs b=>simp only[fc,aU,a,b,db,km];omega
inductive Sub:List aK->List aK->Prop where
 |done {L:List aK}:Sub L L
 |take {L L1 M:List aK} {A:aK} (p:b6 L A L1) (h:Sub L1 M):Sub L (A::M)
 |skip {L M:List aK} {X:aK} (h:Sub L M):Sub (X::L) M
theorem Sub.heap:∀{L M:List aK},Sub L M->∀h:Hp,nv L h->∃k:Hp,(∀b y,k b=some y->h b=some y)/\nv M k
 |_,_,.done,h,c=>⟨h,λ_ _ h=>h,c⟩
 |_,_,.take p s,h,c=>by
  obtain⟨f,l,g,rfl,n,i⟩:=tY p c
  obtain⟨m,e,j⟩:=Sub.heap s l i
  refine⟨iI f m,λb y a=>?_,f,m,λb=>?_,rfl,n,j⟩
  .cases d:f b with
   |none=>rw[mC d]at a⊢;exact e b y a
   |some z=>rw[j6 d]at a⊢;exact a
  .cases d:m b with
   |none=>exact .inr (.inl rfl)
   |some z=>
    have:=e b z d
    rcases g b with h|h|⟨h,o,r⟩
    .exact .inl h
    .rw[this]at h;cases h
    .exact .inr (.inr ⟨by rw[h,this],o,r⟩)
 |_,_,.skip s,h,c=>by
  obtain⟨d,t,g,rfl,_,i⟩:=c
  obtain⟨m,e,j⟩:=Sub.heap s t i
  refine⟨m,λb y a=>?_,j⟩
  have:=e b y a
  rcases g b with h|h|⟨h,_⟩
  .rw[mC h];exact this
  .rw[this]at h;cases h
  .rw[j6 (h.trans this)]
theorem ab.sub {M:List aK} (h:ab E w L) (s:Sub L M):ab E w M:=by
 obtain⟨x,a,c⟩:=h.heap
 obtain⟨m,d,e⟩:=s.heap x c
 exact⟨h.tape,h.os,h.output,m,λb y o f=>a b y o (d b _ f),e⟩
theorem ab.start (W:World):ab W W [Sh.gk W]:=by
 refine⟨rfl,rfl,rfl,λb=>(W.heap[b]?).map λo=>(true,o),λb x o h=>?_,_,λ_=>none,λ_=>.inr (.inl rfl),?_,rfl,rfl⟩
 .cases a:W.heap[b]? with
  |none=>simp[a]at h
  |some c=>simp[a]at h;rw[h.2]
 .funext b
  simp only[iI]
  cases W.heap[b]?<;>rfl
theorem cT {p:Prop} [Decidable p] (h:decide p=true):p:=lS h
theorem cF {p:Prop} [Decidable p] (h:decide p=false):¬p:=pB h
theorem ek {a b:Int} (h:(a==b)=true):a=b:=eq_of_beq h
theorem ei {a b:Int} (h:(a==b)=false):a≠b:=beq_eq_false_iff_ne.1 h
theorem OV {a b:Int} (h:(a !=b)=true):a≠b:=bne_iff_ne.1 h
theorem OU {a b:Int} (h:(a !=b)=false):a=b:=by simpa[bne]using h
def my:Int->Int->Bool:=λa b=>a==b
theorem aay {K:TypeId} (h:aQ P (underlying K)=some (.int .i64)):uK P K (.int .i64) my where
 iff:=λx y=>by simp[my]
 find:=λx=>⟨_,h,λy=>by simp[Instr.sameNow,bD.val,my]⟩
 gX:=λx e=>by
  have c:∀(s:Sem TypeDesc) (d:TypeDesc) (f:TypeDesc->Sem Unit),aQ P s=some d->aQ P (s>>=f)=aQ P (f d):=by
   intro s d f b
   show aQ P (Sem.bind s f)=_
   induction s with
   |pure a=>simp[aQ]at b;subst b;rfl
   |program k g=>simp only[aQ]at b;simp only[Sem.bind,aQ];exact g _ b
   |mark m k g=>simp only[aQ]at b;simp only[Sem.bind,aQ];exact g b
   |_=>simp[aQ]at b
  unfold Instr.checkKey
  rw[c _ _ _ h]
  rfl
 bits:=λx=>by simp[Instr.sameBits,bD.val]
theorem aV.num {S:Type} {F:(S->Pr)->S->Pr} {s:S} (I:Nat->S->World->Prop) (n:Nat) (d:I n s w)
  (e:∀(n:Nat) (next:S->Pr) (s:S) (w:World),I n s w->(∀m s' b,m<n->I m s' b->next s' b)->F next s w):aV F s w:=by
 refine⟨n+1,?_⟩
 have a:∀N n s w,I n s w->n<N->iter F N s w:=by
  intro N
  induction N with
  |zero=>intro n s w _ h;omega
  |succ N f=>
   intro n s w g i
   exact e n _ s w g λm s' b j c=>f m s' b c (by omega)
 exact a _ n s w d (IP _)
def sX:=@aV.num
structure Stamped {K V:Type} (es:List (dd K V)) (clock:Nat):Prop where
 lt:∀e∈es,e.born<clock
 nodup:(es.map (·.born)).Nodup
theorem Stamped.nil {K:Type}:Stamped ([]:List (dd K V)) clock:=⟨λe h=>by simp at h,qp⟩
def JH:=@Stamped.nil
theorem OL {K V:Type} (bj:K->K->Bool) (x:K) (v:V):∀(b:List (dd K V)) (a:Nat),
  (fk bj x v b a).map (·.born)=if(dz bj x b).isSome then b.map (·.born)else b.map (·.born)++[a]
 |[],a=>by simp[fk,dz]
 |e::b,a=>by
  simp only[fk,dz]
  by_cases h:bj x e.key=true
  .simp[h]
  .simp only[h,fF,eZ,OL bj x v b a,kk]
   split<;>simp
theorem Stamped.O2 {K:Type} {es:List (dd K V)} {bs:List Nat} (a:es.map (·.born)=bs) (dy:∀b∈bs,b<clock) (hn:bs.Nodup):Stamped es clock:=by
 subst a
 exact⟨λe h=>dy _ (List.mem_map.2 ⟨e,h,rfl⟩),hn⟩
theorem Stamped.Fl {K:Type} {es:List (dd K V)} (h:Stamped es clock):∀b∈es.map (·.born),b<clock:=by
 intro b a
 obtain⟨e,c,rfl⟩:=List.mem_map.1 a
 exact h.lt e c
theorem Stamped.set {K:Type} {es:List (dd K V)} (h:Stamped es clock) (bj:K->K->Bool) (x:K) (v:V):Stamped (fk bj x v es clock) (iU bj x es clock):=by
 have d:=OL bj x v es clock
 unfold iU
 by_cases e:(dz bj x es).isSome=true
 .rw[ak e]at d⊢
  exact Stamped.O2 d h.Fl h.nodup
 .rw[ai e]at d⊢
  refine Stamped.O2 d (λb c=>?_) ?_
  .rcases List.mem_append.1 c with c|c
   .have:=h.Fl b c;omega
   .simp at c;omega
  .rw[vK]
   refine⟨h.nodup,by simp,λa f b c=>?_⟩
   simp at c
   have:=h.Fl a f
   omega
theorem Dq {K V:Type} (bj:K->K->Bool) (x:K):∀a:List (dd K V),(lK bj x a).Sublist a
 |[]=>.slnil
 |e::a=>by
  simp only[lK]
  split
  .exact List.sublist_cons_self _ _
  .exact(Dq bj x a).cons_cons _
theorem Stamped.del {K:Type} {es:List (dd K V)} (h:Stamped es clock) (bj:K->K->Bool) (x:K):Stamped (lK bj x es) clock:=
 ⟨λe a=>h.lt e ((Dq bj x es).mem a),((Dq bj x es).map _).nodup h.nodup⟩
theorem sm {K V:Type} {bj:K->K->Bool} (c:∀a b,bj a b=true↔a=b):∀{d:List (dd K V)},(d.map (·.key)).Nodup->∀{e:dd K V},e∈d->dz bj e.key d=some e.val
 |[],_,e,he=>by simp at he
 |a::d,f,e,he=>by
  simp only[eZ,sN]at f
  simp only[dz]
  rcases List.mem_cons.1 he with rfl|he
  .rw[ak ((c _ _).2 rfl)]
  .rw[ai (λg=>f.1 (by rw[<-(c _ _).1 g];exact List.mem_map.2 ⟨e,he,rfl⟩))]
   exact sm c f.2 he
theorem tK {K V:Type} {bj:K->K->Bool} (c:∀a b,bj a b=true↔a=b) {x:K} {v:V}:∀{d:List (dd K V)},dz bj x d=some v->∃e∈d,e.key=x/\e.val=v
 |[],h=>by simp[dz]at h
 |a::d,h=>by
  simp only[dz]at h
  split at h
  .rename_i f
   exact⟨a,eo,((c _ _).1 f).symm,ja h⟩
  .obtain⟨e,g,i,j⟩:=tK c h
   exact⟨e,dH _ g,i,j⟩
theorem filter_lt {α:Type} {p q:α->Bool} (b:∀a,q a=true->p a=true) {e:α}:∀{l:List α},e∈l->p e=true->q e=false->(l.filter q).length<(l.filter p).length
 |[],he,_,_=>by simp at he
 |a::l,he,d,f=>by
  have i:(l.filter q).length<=(l.filter p).length:=by
   rw[<-Rr,<-Rr]
   exact List.countP_mono_left λx _ j=>b x j
  rcases List.mem_cons.1 he with rfl|he
  .rw[Ei d,IW (by rw[f];simp),db];omega
  .have k:=filter_lt b he d f
   by_cases c:q a=true
   .rw[Ei c,Ei (b a c),db,db];omega
   .rw[IW c]
    by_cases g:p a=true
    .rw[Ei g,db];omega
    .rw[IW g];exact k
def lP {K:Type} (es:List (dd K V)) (seen:Array Nat):Nat:=(es.filter λe=>!seen.contains e.born).length
theorem uf {K:Type} {es:List (dd K V)} {seen:Array Nat} {e:dd K V} (b:e∈es) (hs:e.born∉seen):lP es (seen.push e.born)<lP es seen:=
 filter_lt (by intro a;simp;exact λh _=>h) b (by simpa using hs) (by simp)
theorem WJ {k:Pr} (h:ab E w L) (p:b6 L (dV T sz s cs) L') (d:s.a=some a0) (ha:a=a0.add i)
  (hi:i<cs.length) (hn:aQ P (sizeOf t)=some 1) (hv:j9 v=true) (o:∀j,ab E j (dV T sz s (cs.set i v)::L')->k j):lv P (uN (Instr.storeAt t (.pointer (some a)) v)) k w:=by
 rcases(h.pick p).tL with⟨_,rfl,_⟩|⟨b,pre,c,f,r,l,m,u⟩
 .simp at hi
 .rw[d]at f
  obtain rfl:=ja f
  have n:pre.length+i<(pre++(cs++c)).length:=by simp;omega
  refine WK u (off:=pre.length+i) (by rw[ha];exact iC ..) .head hn (by simpa[Nat.blt,Nat.succ_le_iff]using n) hv λj g=>o j ?_
  have e:(⟨pre++(cs++c)⟩:Array Value).setIfInBounds (pre.length+i) v=⟨pre++(cs.set i v++c)⟩:=by
   simp only[IY]
   congr 1
   rw[vL _ _ (by omega),show pre.length+i-pre.length=i by omega,IZ _ _ hi]
  rw[e]at g
  exact g.Pe d (by rw[xy];exact r) l m
theorem qf (r:Nat):bG kl vl r [] 0=aT r (.map #[] 0):=rfl
theorem wF {K V:TypeId} {k:Addr->Pr} (h:ab E w L) (p:b6 L (bG kl vl m es clock) L') (b:P.underlying t=some (.map K V))
  (c:∀r a,ab E a (aT r (.mapIter (some m) clock #[] clock)::L)->k ⟨r,0,none⟩ a):eT P (vN (Instr.range t (.map (some m)))) dB k w:=
 wE (l:=.addr) (x:=⟨w.heap.size,0,none⟩) (o:=.mapIter (some m) clock #[] clock) h (run_range_map w t K V m _ clock b (h.pick p).own) rfl (c _)
theorem w9 {seen:Array Nat}
  (h:ab E w (aT r (.mapIter (some m) clock seen clock)::bG kl vl m es clock::L)) (k:Stamped es clock)
  (hn:(∀e∈es,e.born∈seen)->kn w)
  (hs:∀e∈es,e.born∉seen->∀i,ab E i (aT r (.mapIter (some m) clock (seen.push e.born) clock)::bG kl vl m es clock::L)->ks (e.key,e.val,()) i):
  zp P (vN (Instr.next (.pointer (some ⟨r,0,none⟩)) false ty)) [.leaf kl,vl] kn ks w:=by
 have l:=h.swap.own
 rcases run_next_at (P:=P) w ty r m clock clock seen ⟨es.map (iM kl vl)⟩ clock h.own l (by
  intro x n
  obtain⟨e,a,rfl⟩:=List.mem_map.1 n
  exact k.lt e a) (cV _)with⟨j,c⟩|⟨e,a,o,d,c⟩
 .refine⟨.inl ⟨w,eE c,hn λe a=>?_⟩⟩
  unfold leftOf at j
  have:(⟨es.map (iM kl vl)⟩:Array MapEntry).filter (λe=>!seen.contains e.born)=#[]:=I0 j
  rw[Rs]at this
  have:=this (iM kl vl e) (by simp;exact⟨e,a,rfl⟩)
  simpa[iM]using this
 .have b:e∈es.map (iM kl vl)/\e.born∉seen:=by
    have:e∈(leftOf ⟨es.map (iM kl vl)⟩ seen):=by simpa using a
    unfold leftOf at this
    rw[Rt]at this
    exact⟨by simpa using this.1,by simpa using this.2⟩
  obtain⟨f,g,rfl⟩:=List.mem_map.1 b.1
  refine⟨.inr ⟨(f.key,f.val,()),_,eE c,hs f g b.2 _ ?_⟩⟩
  rcases d with rfl|rfl
  .exact h.set
  .exact h.drew.set
theorem wH {seen:Array Nat} {k:(kl.den×vl.den×Unit)->Pr}
  (h:ab E w (aT r (.mapIter (some m) clock (seen.push e.born) clock)::bG kl vl m es clock::L)) (a:Stamped es clock) (b:e∈es) (c:k (e.key,e.val,()) w):
  dQ P (vN (Instr.entry (.pointer (some ⟨r,0,none⟩)))) (.aG [.leaf kl,vl]) k w:=by
 refine⟨(e.key,e.val,()),eE (run_entry_at (P:=P) w r m clock seen ⟨es.map (iM kl vl)⟩ clock (iM kl vl e) h.own h.swap.own (List.mem_map.2 ⟨e,b,rfl⟩) ?_),c⟩
 simp only[rA]
 exact a.nodup
def BP (h:Hp) (sz:Nat) (s:Sl) (cs:List Value):Prop:=
 cs.length=s.len*sz/\s.len<=s.cap/\(cs≠[]->∃b d c T e,s.a=some ⟨b,d,none⟩/\h b=some (true,.cells c T e)/\∀i,i<cs.length->c[d+i]?=cs[i]?)
def Ak (sz:Nat) (l:List (Sl×List Value)):aK:=λh=>(∀b x o,h b=some (x,o)->x=true)/\∀p∈l,BP h sz p.1 p.2
theorem BP.sub {x:Hp} (h:BP x sz s cs) {l:Nat} (p:l<=u) (r:u<=s.len) (F:u<=m):
  BP x sz (gJ s l u m sz) ((cs.drop (l*sz)).take ((u-l)*sz)):=by
 obtain⟨G,t,v⟩:=h
 have n:u*sz<=s.len*sz:=lR _ r
 have o:(u-l)*sz=u*sz-l*sz:=Bi ..
 have y:l*sz<=u*sz:=lR _ p
 have a:((cs.drop (l*sz)).take ((u-l)*sz)).length=(u-l)*sz:=by
  rw[cn,fq];omega
 refine⟨a,by simp only[gJ];omega,λd=>?_⟩
 have e:cs≠[]:=by rintro rfl;simp at d
 obtain⟨b,j,c,T,z,A,C,D⟩:=v e
 have f:0<(u-l)*sz:=by rw[<-a];exact List.length_pos_iff.2 d
 have k:m≠l:=by
  rintro rfl
  have:u-m=0:=by omega
  rw[this,uq]at f
  omega
 refine⟨b,j+l*sz,c,T,z,?_,C,λi g=>?_⟩
 .simp only[gJ]
  rw[ai k,A]
  exact gU some (iC ..)
 .rw[a]at g
  rw[pC g,nB,m7]
  exact D _ (by omega)
theorem Reads.sub (hr:Reads w s sz cs) {l h:Nat} (p:l<=h) (r:h<=s.len) (z:h<=m):
  Reads w (gJ s l h m sz) sz ((cs.drop (l*sz)).take ((h-l)*sz)):=by
 have n:h*sz<=s.len*sz:=lR _ r
 have o:(h-l)*sz=h*sz-l*sz:=Bi ..
 have t:l*sz<=h*sz:=lR _ p
 have A:=hr.1
 have a:((cs.drop (l*sz)).take ((h-l)*sz)).length=(h-l)*sz:=by
  rw[cn,fq];omega
 refine⟨a,λd=>?_⟩
 have e:cs≠[]:=by rintro rfl;simp at d
 obtain⟨b,j,c,T,u,v,x,y⟩:=hr.2 e
 have f:0<(h-l)*sz:=by rw[<-a];exact List.length_pos_iff.2 d
 have k:m≠l:=by
  rintro rfl
  have:h-m=0:=by omega
  rw[this,uq]at f
  omega
 refine⟨b,j+l*sz,c,T,u,?_,x,λi g=>?_⟩
 .simp only[gJ]
  rw[ai k,v]
  exact gU some (iC ..)
 .rw[a]at g
  rw[pC g,nB,m7]
  exact y _ (by omega)
theorem Reads.to (a:∀x,(cg x).length=sz) (hr:Reads w s sz (xs.flatMap cg)) {n:Nat} (b:n<=xs.length) (d:s.len=xs.length) (c:n<=s.cap):
  Reads w (gJ s 0 n s.cap sz) sz ((xs.take n).flatMap cg):=by
 have:=hr.sub (l:=0) (h:=n) (m:=s.cap) (by omega) (by omega) c
 rw[uq,mi,pz]at this
 rwa[show(xs.flatMap cg).take (n*sz)=(xs.take n).flatMap cg from ?_]at this
 have e:xs.flatMap cg=(xs.take n).flatMap cg++(xs.drop n).flatMap cg:=by rw[<-gM,oq]
 rw[e,I2 (by rw[nS cg sz a,cn,rC b];exact cV _)]
 rw[iP (by rw[nS cg sz a,cn,rC b];exact cV _)]
theorem Gu (cg:α->List Value) (sz:Nat) (a:∀x,(cg x).length=sz) (xs:List α) (n:Nat):(xs.flatMap cg).drop (n*sz)=(xs.drop n).flatMap cg:=by
 induction n generalizing xs with
 |zero=>simp
 |succ n b=>
  cases xs with
  |nil=>simp
  |cons x xs=>
   rw[fc,Ru,<-b xs,show(n+1)*sz=(cg x).length+n*sz by rw[a,km];omega,I3]
theorem MX (cg:α->List Value) (sz:Nat) (a:∀x,(cg x).length=sz) (xs:List α) (n:Nat):(xs.flatMap cg).take (n*sz)=(xs.take n).flatMap cg:=by
 induction n generalizing xs with
 |zero=>simp
 |succ n b=>
  cases xs with
  |nil=>simp
  |cons x xs=>
   rw[fc,yV,fc,<-b xs,show(n+1)*sz=(cg x).length+n*sz by rw[a,km];omega,I4]
theorem Reads.part (a:∀x,(cg x).length=sz) (hr:Reads w s sz (xs.flatMap cg)) {l h:Nat} (b:l<=h) (d:h<=xs.length) (e:s.len=xs.length) (c:h<=m):
  Reads w (gJ s l h m sz) sz (((xs.drop l).take (h-l)).flatMap cg):=by
 have:=hr.sub (l:=l) (h:=h) (m:=m) b (by omega) c
 rwa[Gu cg sz a,MX cg sz a]at this
theorem Reads.from_ (a:∀x,(cg x).length=sz) (hr:Reads w s sz (xs.flatMap cg)) {l:Nat} (d:l<=xs.length) (b:s.len=xs.length) (c:s.len<=m):
  Reads w (gJ s l s.len m sz) sz ((xs.drop l).flatMap cg):=by
 have:=hr.part a (l:=l) (h:=s.len) (m:=m) (by omega) (by omega) b c
 rwa[iP (by rw[fq];omega)]at this
theorem LS {k:Pr}
  (e:w.heap[b]?=some (.cells c T fr)) (f:aQ P (isAgg t)=some true) (hn:aQ P (sizeOf t)=some vs.length) (ha:a=⟨b,off,none⟩)
  (hc:∀j (d:j<vs.length),c[off+j]?=some vs[j]) (g:k w):oz P (vN (Instr.loadAt t (.pointer (some a)))) (.agg vs.toArray) k w:=by
 subst ha
 refine⟨eE ?_,g⟩
 unfold Instr.loadAt
 rw[da (a:=⟨b,off,none⟩) (w':=w) rfl]
 unfold loadVar
 rw[ke f]
 simp only[gr]
 rw[ke hn]
 rw[da (run_loadCells (λj d=>by rw[iC,rS e];exact hc j d))]
 rfl
theorem XD {k:bK ls->Pr} (x:bK ls)
  (h:ab E w L) (ha:a=⟨b,0,none⟩) (p:b6 L (aT b (.cells ⟨ay ls x⟩ T fr)) L') (c:aQ P (isAgg t)=some true) (hn:aQ P (sizeOf t)=some (ay ls x).length)
  (d:k x w):dQ P (vN (Instr.loadAt t (.pointer (some a)))) (.one (.agg ls)) k w:=
 CM x (h.pick p).own c hn ha (λj e=>by simp[e]) d
theorem H9 (a:w.heap[b]?=some (.cells ⟨vs⟩ T fr)) (c:aQ P (isAgg t)=some true) (hn:aQ P (sizeOf t)=some vs.length):
  (loadVar t ⟨b,0,none⟩).run P w=.ok (.agg ⟨vs⟩) w:=by
 unfold loadVar
 rw[ke c]
 simp only[gr]
 rw[ke hn]
 rw[da (run_loadCells (vs:=vs) (λj d=>by rw[iC,rS a];simp[d]))]
 rfl
theorem Nc {k:bK ls->Pr} (x:bK ls)
  (h:ab E w L) (p:b6 L (aT b (.cells ⟨ay ls x⟩ T fr)) L') (a:aQ P (isAgg t)=some true) (hn:aQ P (sizeOf t)=some (ay ls x).length)
  (c:k x w):dQ P (vN (gl [.cell (.pointer (some ⟨b,0,none⟩)) t])) (.one (.agg ls)) k w:=by
 refine⟨x,eE ?_,c⟩
 have d:=H9 (P:=P) (h.pick p).own a hn
 unfold gl
 simp[AJ,asAddr,d,Ty.val,cE.val]
theorem Mu {k:Pr} (h:ab E w L) (p:b6 L (dV T sz s cs) L') (d:s.a=some a0) (ha:a=a0.add i)
  (hi:i+vs.length<=cs.length) (r:0<cs.length) (hn:aQ P (sizeOf t)=some vs.length) (hv:∀v∈vs,j9 v=true)
  (u:∀w',ab E w' (dV T sz s (cs.take i++vs++cs.drop (i+vs.length))::L')->k w'):lv P (uN (Instr.storeAt t (.pointer (some a)) (.agg ⟨vs⟩))) k w:=by
 rcases(h.pick p).tL with⟨_,rfl,_⟩|⟨b,pre,spare,e,x,g,l,o⟩
 .simp at r
 .rw[d]at e
  obtain rfl:=ja e
  obtain⟨y,z,F,A⟩:=xj (P:=P) (T:=T) (b:=b) vs (pre.length+i) 0 _ w o.own (by simp;omega) hv
  have m:y=⟨pre++((cs.take i++vs++cs.drop (i+vs.length))++spare)⟩:=by
   apply Bh
   intro j
   rw[A j]
   simp only[oo,sO]
   by_cases f:j<pre.length
   .rw[ai (by omega),g0 f,g0 f]
   .rw[gZ (l₁:=pre) (by omega),gZ (l₁:=pre) (by omega)]
    have c:(cs.take i).length=i:=by rw[cn];omega
    by_cases C:j-pre.length<cs.length
    .rw[g0 C,g0 (by simp[c];omega)]
     by_cases n:j-pre.length<i
     .rw[ai (by omega),cP,g0 (by omega),pC n]
     .rw[cP,gZ (by omega),c]
      by_cases D:j-pre.length<i+vs.length
      .rw[ak (by omega),g0 (by omega)]
       congr 1;omega
      .rw[ai (by omega),gZ (by omega),nB]
       congr 1;omega
    .rw[ai (by omega),gZ (by omega),gZ (by simp[c];omega)]
     congr 1;simp[c];omega
  refine⟨_,xk ?_,u _ (uE (pre:=pre) (spare:=spare) (b:=b) (by rw[<-m];exact o.set) d ?_ g l)⟩
  .unfold Instr.storeAt
   rw[ha,iC,da (a:=⟨b,pre.length+i,none⟩) (w':=w) rfl]
   unfold storeVar
   rw[ke hn]
   simp only[Value.cells,Ej,uo,Bg,fF]
   exact z
  .simp only[aU,cn,fq]
   rw[<-x];omega
theorem Reads.Av (a:∀x,(cg x).length=sz) (b:0<sz) (hr:Reads w s sz (xs.flatMap cg)):s.len=xs.length:=by
 have:=hr.1
 rw[nS cg sz a]at this
 exact(Rv b this).symm
theorem aiK {k:Addr->Pr} (hr:Reads w s sz (xs.flatMap cg)) (c:∀x,(cg x).length=sz) (f:0<sz) (hi:i<xs.length)
  (j:aQ P (underlying T)=some (.slice Te)) (d:aQ P (sizeOf Te)=some sz)
  (l:∀e,s.a=some e->e.spot=none->k (e.add (i*sz)) w):fU P (vN (Instr.indexAt T (.slice s.a s.len s.cap) (.int .i64 i))) dB k w:=by
 have o:=hr.Av c f
 obtain⟨b,m,g⟩:=hr.addr (by
  intro n
  have:=nS cg sz c xs
  rw[n]at this
  have:0<xs.length*sz:=I5 (by omega) f
  simp_all)
 exact ui j d g (by omega) (by omega) (l _ g rfl)
theorem Gw (_:Reads w s sz (xs.flatMap cg)) (a:∀x,(cg x).length=sz) (hi:i<xs.length) (b:j<sz):(xs.flatMap cg)[i*sz+j]?=(cg xs[i])[j]?:=by
 rw[CF cg sz a xs i j b,fA hi];rfl
theorem bZ.via {S:Type} {J:S->Pr} {body:(S->Pr)->Pr} (A:S->World->Prop) (b:∀s w,A s w->J s w)
 (c:∀a:S->Pr,(∀s w,A s w->a s w)->body a w):bZ J body w:=⟨c J b⟩
def br:=@bZ.via
abbrev bh:=Nat->Option Obj
def lD (F:bh):Hp:=λb=>(F b).map λo=>(true,o)
variable {F G H:bh}
theorem CJ {o:Obj} (h:F b=some o):lD F b=some (true,o):=by simp[lD,h]
theorem Xq (h:F b=none):lD F b=none:=by simp[lD,h]
theorem Xp {x:Bool×Obj} (h:lD F b=some x):∃o,F b=some o/\x=(true,o):=by
 unfold lD at h
 cases a:F b with
 |none=>rw[a]at h;cases h
 |some o=>rw[a]at h;exact⟨o,rfl,(ja h).symm⟩
def ae (F:bh):aK:=λh=>h=lD F
def bh.le (F G:bh):Prop:=∀b o,F b=some o->G b=some o
theorem bh.le.refl (F:bh):F.le F:=λ_ _ h=>h
def dC:=@bh.le.refl
theorem bh.le.trans (a:F.le G) (c:G.le H):F.le H:=λb o h=>c b o (a b o h)
def bh.eH (F:bh) (b:Nat) (o:Obj):bh:=λx=>if x=b then some o else F x
def nj (w:World):bh:=λb=>w.heap[b]?
def mS (F:bh) (sz:Nat) (s:Sl) (cs:List Value):Prop:=
 cs.length=s.len*sz/\s.len<=s.cap/\(cs≠[]->∃b d c T e,s.a=some ⟨b,d,none⟩/\F b=some (.cells c T e)/\∀i,i<cs.length->c[d+i]?=cs[i]?)
theorem mS.up (h:mS F sz s cs) (a:F.le G):mS G sz s cs:=by
 obtain⟨f,g,i⟩:=h
 refine⟨f,g,λd=>?_⟩
 obtain⟨b,e,c,T,j,k,l,m⟩:=i d
 exact⟨b,e,c,T,j,k,a _ _ l,m⟩
theorem mS.nil:mS F sz ⟨none,0,0⟩ []:=⟨by simp,cV _,λh=>absurd rfl h⟩
theorem ab.yi {o:Obj} (h:ab E w (ae F::L)) (a:F b=some o):w.heap[b]?=some o:=by
 obtain⟨_,c,d,e,f,rfl,rfl,g⟩:=h.heap
 exact c b true o (j6 (CJ a))
theorem ab.rdF (h:ab E w (ae F::L)) (hr:mS F sz s cs):Reads w s sz cs:=by
 refine⟨hr.1,λa=>?_⟩
 obtain⟨b,d,c,T,e,f,g,i⟩:=hr.2.2 a
 exact⟨b,d,c,T,e,f,h.yi g,i⟩
theorem ab.Xv (W:World):ab W W [ae (nj W)]:=(ab.start W).mono λ_ a=>a
theorem ab.Xs (f:(nj W).le F) (h:ab E w (ae F::L)):ab E w (Sh.gk W::L):=by
 obtain⟨x,l,m⟩:=h.heap
 obtain⟨p,j,k,rfl,rfl,n⟩:=m
 have d:∀b y,lD (nj W) b=some y->lD F b=some y:=λb y c=>by
  obtain⟨o,g,rfl⟩:=Xp c
  exact CJ (f b o g)
 refine⟨h.tape,h.os,h.output,iI (lD (nj W)) j,λb y o c=>?_,lD (nj W),j,λb=>?_,rfl,rfl,n⟩
 .refine l b y o ?_
  cases e:lD (nj W) b with
  |none=>
   rw[mC e]at c
   rcases k b with a|a|⟨a,_⟩
   .rw[mC a];exact c
   .rw[a]at c;cases c
   .exact j6 (a.trans c)
  |some z=>
   rw[j6 e]at c
   exact j6 (by rw[<-c];exact d b z e)
 .cases e:lD (nj W) b with
  |none=>exact .inl rfl
  |some z=>
   have i:=d b z e
   rcases k b with a|a|⟨a,o,g⟩
   .rw[i]at a;cases a
   .exact .inr (.inl a)
   .exact .inr (.inr ⟨by rw[<-i,a],o,by rw[<-i,g]⟩)
theorem ab.Xu {o:Obj} (h:ab E w (ae F::aT b o::L)):F.le (F.eH b o)/\ab E w (ae (F.eH b o)::L):=by
 obtain⟨x,l,v⟩:=h.heap
 obtain⟨J,K,t,rfl,rfl,A⟩:=v
 obtain⟨C,c,m,rfl,rfl,D⟩:=A
 have d:iI (λx=>if x=b then some (false,o)else none) c b=some (false,o):=j6 (by simp)
 have j:F b=none:=by
  cases i:F b with
  |none=>rfl
  |some z=>
   have u:=CJ i
   rcases t b with a|a|⟨a,_⟩
   .rw[u]at a;cases a
   .rw[d]at a;cases a
   .rw[d,u]at a;cases a
 have n:F.le (F.eH b o):=λx y e=>by
  unfold bh.eH
  split
  .rename_i f;subst f;rw[j]at e;cases e
  .exact e
 have k:c b=none:=by
  rcases m b with a|a|⟨_,p,a⟩
  .simp at a
  .exact a
  .simp at a
 have g:∀x,x≠b->lD (F.eH b o) x=lD F x:=λx H=>by simp[lD,bh.eH,H]
 have r:lD (F.eH b o) b=some (true,o):=CJ (by simp[bh.eH])
 refine⟨n,h.tape,h.os,h.output,iI (lD (F.eH b o)) c,λx y p e=>?_,_,c,λx=>?_,rfl,rfl,D⟩
 .by_cases f:x=b
  .subst f
   rw[j6 r]at e
   cases e
   refine l x false o ?_
   rw[mC (Xq j)]
   exact d
  .cases i:lD F x with
   |none=>
    rw[mC (by rw[g x f];exact i)]at e
    refine l x y p ?_
    rw[mC i,mC (by simp[f])]
    exact e
   |some z=>
    rw[j6 (by rw[g x f];exact i)]at e
    exact l x y p (by rw[j6 i];exact e)
 .by_cases f:x=b
  .subst f;exact .inr (.inl k)
  .have I:iI (λx=>if x=b then some (false,o)else none) c x=c x:=mC (by simp[f])
   have:=t x
   rw[I]at this
   rw[g x f]
   exact this
theorem ab.Xt (h:ab E w (ae F::dV T sz s cs::L)):∃G:bh,F.le G/\ab E w (ae G::L)/\mS G sz s cs:=by
 rcases h.swap.tL with⟨rfl,rfl,c⟩|⟨b,pre,a,e,f,d,g,c⟩
 .exact⟨F,.refl _,c,.nil⟩
 .obtain⟨j,k⟩:=c.swap.Xu
  refine⟨_,j,k,f,d,λ_=>⟨b,pre.length,⟨pre++(cs++a)⟩,T,(0,0),e,by simp[bh.eH],λi l=>?_⟩⟩
  simp[gZ,g0 l]
theorem mS.sub (h:mS F sz s cs) {l:Nat} (p:l<=u) (r:u<=s.len) (D:u<=m):
  mS F sz (gJ s l u m sz) ((cs.drop (l*sz)).take ((u-l)*sz)):=by
 obtain⟨H,t,v⟩:=h
 have n:u*sz<=s.len*sz:=lR _ r
 have o:(u-l)*sz=u*sz-l*sz:=Bi ..
 have x:l*sz<=u*sz:=lR _ p
 have a:((cs.drop (l*sz)).take ((u-l)*sz)).length=(u-l)*sz:=by
  rw[cn,fq];omega
 refine⟨a,by simp only[gJ];omega,λd=>?_⟩
 have e:cs≠[]:=by rintro rfl;simp at d
 obtain⟨b,j,c,T,y,z,A,C⟩:=v e
 have f:0<(u-l)*sz:=by rw[<-a];exact List.length_pos_iff.2 d
 have k:m≠l:=by
  rintro rfl
  have:u-m=0:=by omega
  rw[this,uq]at f
  omega
 refine⟨b,j+l*sz,c,T,y,?_,A,λi g=>?_⟩
 .simp only[gJ]
  rw[ai k,z]
  exact gU some (iC ..)
 .rw[a]at g
  rw[pC g,nB,m7]
  exact C _ (by omega)
theorem mS.Av (a:∀x,(cg x).length=sz) (b:0<sz) (hr:mS F sz s (xs.flatMap cg)):s.len=xs.length:=by
 have:=hr.1
 rw[nS cg sz a]at this
 exact(Rv b this).symm
theorem mS.part (a:∀x,(cg x).length=sz) (hr:mS F sz s (xs.flatMap cg)) {l h:Nat} (b:l<=h) (d:h<=xs.length) (e:s.len=xs.length) (c:h<=m):
  mS F sz (gJ s l h m sz) (((xs.drop l).take (h-l)).flatMap cg):=by
 have:=hr.sub (l:=l) (u:=h) (m:=m) b (by omega) c
 rwa[Gu cg sz a,MX cg sz a]at this
inductive cw {α β:Type} (R:α->β->Prop):List α->List β->Prop where
 |nil:cw R [] []
 |cons {a:α} {b:β} {l:List α} {m:List β} (h:R a b) (t:cw R l m):cw R (a::l) (b::m)
variable {R S:α->β->Prop}
theorem cw.len {m:List β} (h:cw R l m):l.length=m.length:=by
 induction h with
 |nil=>rfl
 |cons _ _ a=>simp[a]
theorem cw.imp {m:List β} (h:cw R l m) (hi:∀a b,R a b->S a b):cw S l m:=by
 induction h with
 |nil=>exact .nil
 |cons h _ c=>exact .cons (hi _ _ h) c
theorem cw.app {m:List β} (h:cw R l m) (a:cw R l' m'):cw R (l++l') (m++m'):=by
 induction h with
 |nil=>exact a
 |cons h _ b=>exact .cons h b
theorem cw.get {m:List β} (h:cw R l m):∀(i:Nat) (a:i<l.length) (b:i<m.length),R l[i] m[i]:=by
 induction h with
 |nil=>intro i a;simp at a
 |cons h _ c=>
  intro i a b
  cases i with
  |zero=>exact h
  |succ i=>exact c i (by simpa using a) (by simpa using b)
theorem cw.take {m:List β} (h:cw R l m):∀n,cw R (l.take n) (m.take n):=by
 induction h with
 |nil=>intro n;simp[cw.nil]
 |cons h _ a=>
  intro n
  cases n with
  |zero=>exact .nil
  |succ n=>exact .cons h (a n)
theorem cw.drop {m:List β} (h:cw R l m):∀n,cw R (l.drop n) (m.drop n):=by
 induction h with
 |nil=>intro n;simp[cw.nil]
 |cons h t a=>
  intro n
  cases n with
  |zero=>exact .cons h t
  |succ n=>exact a n
theorem cw.one {a:α} {b:β} (h:R a b):cw R [a] [b]:=.cons h .nil
end Go.Sh
namespace Go.Sh
open Go.RowKit (Below)
variable {W w':World} {L:List aK} {w:World} {a:Addr} {len cap sz:Nat} {cs:List Value} {α:Type} {t e:TypeId} {fuel:Nat} {v:Value} {q:α->Prop} {p:Prop} {A:aK} {M:List aK} {Q:Prop}
theorem ab.below (h:ab W w' (Sh.gk W::L)):Below W.heap.size W w' where
 os:=h.os
 tape:=h.tape
 output:=h.output
 size:=by
  rcases vM W.heap.size with d|d
  .omega
  .have a:W.heap.size-1<W.heap.size:=by omega
   have:=h.gk (b:=W.heap.size-1) (o:=W.heap[W.heap.size-1]) (by simp[a])
   have:=abB this
   omega
 block:=λk c=>by
  have:=h.gk (b:=k) (o:=W.heap[k]) (by simp[c])
  rw[this];simp[c]
theorem agO (m:cs.length=len*sz) (h:∀i,i<cs.length->w.cell? (a.add i)=cs[i]?):Reads w ⟨some a,len,cap⟩ sz cs:=by
 refine⟨m,λl=>?_⟩
 have e:0<cs.length:=List.length_pos_iff.2 l
 have f:=h 0 e
 obtain⟨b,g,d⟩:=a
 have n:Addr.add ⟨b,g,d⟩ 0=⟨b,g,d⟩:=rfl
 rw[n,fA e]at f
 have j:d=none:=by
  cases d with
  |none=>rfl
  |some s=>
   unfold World.cell? at f
   cases k:w.heap[b]? with
   |none=>simp[k]at f
   |some o=>cases o<;>simp[k]at f
 subst j
 unfold World.cell? at f
 cases k:w.heap[b]? with
 |none=>simp[k]at f
 |some o=>
  cases o with
  |cells c T p=>
   refine⟨b,g,c,T,p,rfl,k,λi r=>?_⟩
   have:=h i r
   rw[iC,rS k]at this
   exact this
  |_=>simp[k]at f
theorem OB {α:Type} {p:Nat->α->Prop}:∀(n:Nat),(∀i,i<n->∃x,p i x)->∃l:List α,l.length=n/\∀i (h:i<l.length),p i l[i]
 |0,_=>⟨[],rfl,λi h=>by simp at h⟩
 |n+1,h=>by
  obtain⟨l,b,d⟩:=OB n λi c=>h i (by omega)
  obtain⟨x,e⟩:=h n (by omega)
  refine⟨l++[x],by simp[b],λi c=>?_⟩
  by_cases a:i<l.length
  .rw[ur a];exact d i a
  .have:i=n:=by simp at c;omega
   subst this
   rw[Ek (by omega)]
   simp only[b,xz,Bk]
   exact e
variable {H:Type} {cg:TypeId×Value->H} {P:Program} {spare:Nat->Bool} {held:Bool} {x:DataW H×List MemPlace}
theorem abr (c:α->List Value) (d:∀a,(c a).length=sz)
  (U:P.underlying t=some (.slice e)) (J:P.cellsOf e=sz)
  (K:∀(n:Nat) (I:List Value) (y:DataW H×List MemPlace),DataW.trod cg P w 0 spare held n e I=some y->∃a,I=c a/\q a)
  (h:DataW.trod cg P w 0 spare held fuel t v.cells.toList=some x):
  ∃(s:Sl) (l:List α),v.cells.toList=[.slice s.a s.len s.cap]/\Reads w s sz (l.flatMap c)/\s.len=l.length/\s.len<=s.cap/\s.cap<=maxLen/\∀a∈l,q a:=by
 rcases DataW.trod_slice U h with⟨o,_⟩|⟨a,u,M,f,Q,n,_,o,_,_,N,V,hl,W,_⟩
 .exact⟨⟨none,0,0⟩,[],o,⟨by simp,λh=>absurd rfl h⟩,rfl,cV _,jt _,λa h=>by cases h⟩
 .obtain⟨l,z,R⟩:=OB (p:=λi (b:α)=>(∀j,j<sz->w.cell? (a.add (i*sz+j))=(c b)[j]?)/\q b) u λi m=>by
      have k:=W i m
      rw[J]at k
      have r:f[i]?=some f[i]:=fA (by omega)
      rw[r]at k
      cases O:w.cells? 0 (a.add (i*sz)) sz with
      |none=>rw[O]at k;cases k
      |some I=>
       rw[O]at k
       obtain⟨b,rfl,X⟩:=K n I _ k
       obtain⟨_,_,g⟩:=World.cells?_some O
       refine⟨b,λj Y=>?_,X⟩
       rw[<-g j Y]
       congr 1
       obtain⟨bb,Z,A⟩:=a
       cases A with
       |none=>rw[iC,iC,iC,m7]
       |some s=>
        have C:=g 0 (by omega)
        by_cases D:i*sz=0
        .rw[D];simp only[qt];rfl
        .by_cases F:j=0
         .subst F;rfl
         .unfold Addr.add
          rw[ai (by omega),ai D]
          simp only[]
          rw[ai F]
          simp only[m7]
  refine⟨⟨some a,u,M⟩,l,o,agO (by rw[nS c sz d,z]) (λi m=>?_),z.symm,N,V,λb hb=>?_⟩
  .rw[nS c sz d]at m
   rcases vM sz with C|C
   .rw[C]at m;simp at m
   .have S:i/sz<l.length:=by rw[I6 C];exact m
    have G:i%sz<sz:=qu _ C
    have e:i=i/sz*sz+i%sz:=by rw[vO];exact(Nat.div_add_mod i sz).symm
    have k:=(R (i/sz) S).1 (i%sz) G
    rw[<-e]at k
    rw[k]
    have T:=CF c sz d l (i/sz) (i%sz) G
    rw[<-e,fA S]at T
    exact T.symm
  .obtain⟨i,m,rfl⟩:=sQ hb
   exact(R i m).2
theorem om (h:p:=by omega):p:=h
theorem dE (h:p:=by decide):p:=h
theorem sI (h:p:=by simp):p:=h
theorem kK (h:p:=by kernel_rfl):p:=h
theorem pK (h:b6 L A M:=by repeat (first|exact .head|apply b6.tail)):b6 L A M:=h
theorem sS (h:Sub L M:=by repeat (first|exact Sub.done|refine Sub.take (by repeat (first|exact .head|apply b6.tail)) ?_|refine Sub.skip ?_)):Sub L M:=h
theorem dD (s:p:=by repeat (first|exact h|replace h:=h.drop)):p:=s
theorem SB {p:Pr} (q:p w):ba (λ_=>p) w:=ao λ_=>q
theorem gA {P:Prop} (q:Q) (s:Q->P:=by first|exact λq=>SB q|exact λq=>vn q|exact λq=>yd q|exact λq=>eP q|exact λq=>ld h q|exact λq=>bN h q|exact λq=>fK h q|exact λq=>pf h q|exact λq=>nr h q|exact λq=>ace h q|exact λq=>acf h q|exact λq=>fJ h q|exact λq=>nU h q|exact λq=>nV h q|exact λq=>Xk h q|exact λq=>tn h q|exact λq=>lk h q|exact λq=>j8 h q):P:=s q
theorem gB {P:Prop} (q:Q) (s:Q->P:=by first|exact λq=>nu h q|exact λq=>st h q|exact λq=>bU h q|exact λq=>dr h q):P:=s q
theorem gC {P:Prop} (q:Q) (s:Q->P:=by first|exact λq=>al h q|exact λq=>bx h q):P:=s q
end Go.Sh
