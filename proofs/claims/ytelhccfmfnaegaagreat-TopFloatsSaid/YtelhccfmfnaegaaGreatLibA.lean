/- The library of the shallow reading: its soundness, the heap's assertions, slices, maps, loops. No conditions. -/
import Derived.Orders
import Derived.CallsIn
import Derived.LoopN
import Derived.KernelRfl
import Derived.OrdersIn
import Derived.LoopNIn
import Derived.Laws.Sem
import Derived.Laws.Strings3
import Derived.Laws.BytesString
import Derived.Laws.MakeOwn
import Derived.IntWalk
import Derived.Maps.RangeRun
import Derived.Laws.StructEq
import Derived.ProofKit
import Derived.Below
import Derived.Carry
section
/- A shallow reading of the model's code: typed values, primitives as propositions on worlds, and the annotated code whose reading the kernel computes. -/
namespace Go.Sh

/-! ### typed values -/

structure Sl where
  a : Option Addr
  len : Nat
  cap : Nat

inductive Leaf where
  | int (k : IntKind)
  | bool
  | float
  | str
  | ptr
  | addr
  | slice
  | map
  | raw

abbrev Leaf.den : Leaf → Type
  | .int _ => Int
  | .bool => Bool
  | .float => Nat
  | .str => ByteArray
  | .ptr => Option Addr
  | .addr => Addr
  | .slice => Sl
  | .map => Option Nat
  | .raw => Value

def Leaf.val : (l : Leaf) → l.den → Value
  | .int k, n => .int k n
  | .bool, b => .bool b
  | .float, n => .float .f64 n
  | .str, s => .string s
  | .ptr, p => .pointer p
  | .addr, p => .pointer (some p)
  | .slice, s => .slice s.a s.len s.cap
  | .map, m => .map m
  | .raw, v => v

def Leaf.parse : (l : Leaf) → Value → Option l.den
  | .int k, .int k' n => if k = k' then some n else none
  | .bool, .bool b => some b
  | .float, .float .f64 n => some n
  | .str, .string s => some s
  | .ptr, .pointer p => some p
  | .addr, .pointer (some p) => some p
  | .slice, .slice a n c => some ⟨a, n, c⟩
  | .map, .map m => some m
  | .raw, v => some v
  | _, _ => none

theorem Leaf.parse_val : ∀ (l : Leaf) (v : Value) (x : l.den), l.parse v = some x → v = l.val x
  | .int k, v, x, h => by
    cases v <;> simp [Leaf.parse] at h
    obtain ⟨rfl, rfl⟩ := h; rfl
  | .bool, v, x, h => by cases v <;> simp [Leaf.parse] at h; subst h; rfl
  | .float, v, x, h => by
    cases v <;> simp [Leaf.parse] at h
    rename_i k n
    cases k <;> simp at h
    subst h; rfl
  | .str, v, x, h => by cases v <;> simp [Leaf.parse] at h; subst h; rfl
  | .ptr, v, x, h => by cases v <;> simp [Leaf.parse] at h; subst h; rfl
  | .addr, v, x, h => by
    cases v <;> simp [Leaf.parse] at h
    rename_i a
    cases a <;> simp at h
    subst h; rfl
  | .slice, v, x, h => by cases v <;> simp [Leaf.parse] at h; subst h; rfl
  | .map, v, x, h => by cases v <;> simp [Leaf.parse] at h; subst h; rfl
  | .raw, v, x, h => by simp [Leaf.parse] at h; subst h; rfl

/-- the cells of a struct or an array -/
abbrev cellsDen : List Leaf → Type
  | [] => Unit
  | l :: ls => l.den × cellsDen ls

def cellsVal : (ls : List Leaf) → cellsDen ls → List Value
  | [], _ => []
  | l :: ls, x => l.val x.1 :: cellsVal ls x.2

def cellsParse : (ls : List Leaf) → List Value → Option (cellsDen ls)
  | [], [] => some ()
  | l :: ls, v :: vs =>
    match l.parse v, cellsParse ls vs with
    | some x, some xs => some (x, xs)
    | _, _ => none
  | _, _ => none

theorem cellsParse_val : ∀ (ls : List Leaf) (vs : List Value) (x : cellsDen ls), cellsParse ls vs = some x → vs = cellsVal ls x
  | [], vs, x, h => by cases vs <;> simp [cellsParse] at h; rfl
  | l :: ls, vs, x, h => by
    cases vs with
    | nil => simp [cellsParse] at h
    | cons v vs =>
      simp only [cellsParse] at h
      split at h
      · rename_i y ys hy hys
        simp at h; subst h
        rw [Leaf.parse_val l v y hy, cellsParse_val ls vs ys hys]; rfl
      · simp at h

/-- a value in a slot: of one cell, or a struct -/
inductive Comp where
  | leaf (l : Leaf)
  | agg (ls : List Leaf)

abbrev Comp.den : Comp → Type
  | .leaf l => l.den
  | .agg ls => cellsDen ls

def Comp.val : (c : Comp) → c.den → Value
  | .leaf l, x => l.val x
  | .agg ls, x => .agg ⟨cellsVal ls x⟩

def Comp.parse : (c : Comp) → Value → Option c.den
  | .leaf l, v => l.parse v
  | .agg ls, .agg cs => cellsParse ls cs.toList
  | .agg _, _ => none

theorem Comp.parse_val : ∀ (c : Comp) (v : Value) (x : c.den), c.parse v = some x → v = c.val x
  | .leaf l, v, x, h => Leaf.parse_val l v x h
  | .agg ls, v, x, h => by
    cases v <;> simp [Comp.parse] at h
    rename_i cs
    have := cellsParse_val ls _ x h
    cases cs
    simp at this
    subst this; rfl

/-- results: one, or a tuple -/
abbrev tupDen : List Comp → Type
  | [] => Unit
  | c :: cs => c.den × tupDen cs

def tupVal : (cs : List Comp) → tupDen cs → List Value
  | [], _ => []
  | c :: cs, x => c.val x.1 :: tupVal cs x.2

def tupParse : (cs : List Comp) → List Value → Option (tupDen cs)
  | [], [] => some ()
  | c :: cs, v :: vs =>
    match c.parse v, tupParse cs vs with
    | some x, some xs => some (x, xs)
    | _, _ => none
  | _, _ => none

theorem tupParse_val : ∀ (ls : List Comp) (vs : List Value) (x : tupDen ls), tupParse ls vs = some x → vs = tupVal ls x
  | [], vs, x, h => by cases vs <;> simp [tupParse] at h; rfl
  | l :: ls, vs, x, h => by
    cases vs with
    | nil => simp [tupParse] at h
    | cons v vs =>
      simp only [tupParse] at h
      split at h
      · rename_i y ys hy hys
        simp at h; subst h
        rw [Comp.parse_val l v y hy, tupParse_val ls vs ys hys]; rfl
      · simp at h

inductive Ty where
  | one (c : Comp)
  | tup (cs : List Comp)

abbrev Ty.den : Ty → Type
  | .one c => c.den
  | .tup cs => tupDen cs

def Ty.val : (t : Ty) → t.den → Value
  | .one c, x => c.val x
  | .tup cs, x => .tuple ⟨tupVal cs x⟩

def Ty.parse : (t : Ty) → Value → Option t.den
  | .one c, v => c.parse v
  | .tup cs, .tuple vs => tupParse cs vs.toList
  | .tup _, _ => none

theorem Ty.parse_val : ∀ (t : Ty) (v : Value) (x : t.den), t.parse v = some x → v = t.val x
  | .one c, v, x, h => Comp.parse_val c v x h
  | .tup ls, v, x, h => by
    cases v <;> simp [Ty.parse] at h
    rename_i cs
    have := tupParse_val ls _ x h
    cases cs
    simp at this
    subst this; rfl

abbrev tInt : Ty := .one (.leaf (.int .i64))
abbrev tBool : Ty := .one (.leaf .bool)
abbrev tStr : Ty := .one (.leaf .str)
abbrev tPtr : Ty := .one (.leaf .ptr)
abbrev tAddr : Ty := .one (.leaf .addr)
abbrev tSl : Ty := .one (.leaf .slice)
abbrev tMap : Ty := .one (.leaf .map)
abbrev tRaw : Ty := .one (.leaf .raw)

/-! ### the primitives -/

abbrev Pr := World → Prop

section
variable (P : Program)

/-- yields, whatever the world -/
structure ValP (s : Sem Next) (t : Ty) (k : t.den → Pr) (w : World) : Prop where
  out : ∃ x, (∀ w, s.run P w = .ok (.value (t.val x)) w) ∧ k x w
/-- reads -/
structure GetP (s : Sem Next) (t : Ty) (k : t.den → Pr) (w : World) : Prop where
  out : ∃ x, s.run P w = .ok (.value (t.val x)) w ∧ k x w
/-- acts, and yields -/
structure DoP (s : Sem Next) (t : Ty) (k : t.den → Pr) (w : World) : Prop where
  out : ∃ x w', s.run P w = .ok (.value (t.val x)) w' ∧ k x w'
/-- acts -/
structure DoU (s : Sem Next) (k : Pr) (w : World) : Prop where
  out : ∃ w', s.run P w = .ok .skip w' ∧ k w'
/-- the next of a range: none, or one -/
structure NextP (s : Sem Next) (t : List Comp) (kn : Pr) (ks : tupDen t → Pr) (w : World) : Prop where
  out : (∃ w', s.run P w = .ok (.value (.tuple ⟨[.bool false]⟩)) w' ∧ kn w') ∨
    (∃ x w', s.run P w = .ok (.value (.tuple ⟨.bool true :: tupVal t x⟩)) w' ∧ ks x w')
structure CallP (f : FuncId) (args : Array Value) (t : Ty) (k : t.den → Pr) (w : World) : Prop where
  out : Calls P f args w fun e w' => ∃ x, e = .returned (t.val x) ∧ k x w'
/-- a call of a function value: a round of a loop, or a function -/
structure InvP (s : Sem Next) (t : Ty) (k : t.den → Pr) (w : World) : Prop where
  out : (∃ l fn tmps assign body, s.run P w = .ok (.round l fn tmps assign body) w ∧
    RoundIn Fence.wide 0 P l fn tmps assign body w fun e w' => ∃ x, e = .returned (t.val x) ∧ k x w') ∨
    ∃ f args, s.run P w = .ok (.enter f args) w ∧ CallP P f args t k w
structure ChkP (s : Sem Next) (v : Value) (k : Pr) (w : World) : Prop where
  out : s.run P w = .ok (.value v) w ∧ k w
end

structure CondP (b : Bool) (x y : Pr) (w : World) : Prop where
  out : (b = true → x w) ∧ (b = false → y w)
structure JoinP {S : Type} (J : S → Pr) (body : (S → Pr) → Pr) (w : World) : Prop where
  out : body J w
def iter {S : Type} (F : (S → Pr) → S → Pr) : Nat → S → Pr
  | 0, _, _ => False
  | n + 1, s, w => F (iter F n) s w
structure LoopP {S : Type} (F : (S → Pr) → S → Pr) (s : S) (w : World) : Prop where
  out : ∃ n, iter F n s w
structure AnyP (k : List Value → Pr) (w : World) : Prop where
  out : ∀ us, k us w
structure DrewP (k : Pr) (w : World) : Prop where
  out : k { w with drawn := w.drawn + 1 }

/-- what an operation's make of a value is -/
def vN (s : Sem Value) : Sem Next := do pure (.value (← s))
def uN (s : Sem Unit) : Sem Next := do s; pure .skip

def nilN (v : Value) : Sem Next := execOp (fun _ => v) { dst := none, op := .nilCheck (.tmp 0), type := 0, pos := "", after := #[], guard := none }
/-- a call of a function value -/
def callN (f : Value) (args : Array Value) : Sem Next := do let d ← Deferred.ofValue f args; invoke d.target d.args
def cmpN (op : BinOp) (t : TypeId) (x y : Operand) (a b : Value) : Sem Next := vN (do eqGuard op t x y a b; Go.binOp op t a b)

/-- the run of what does not look at the world -/
def pureRun {α : Type} (P : Program) : Sem α → Option α
  | .pure a => some a
  | .program k => pureRun P (k P)
  | .mark _ k => pureRun P k
  | _ => none

theorem pureRun_sound {α : Type} {P : Program} {v : α} : ∀ (s : Sem α), pureRun P s = some v → ∀ w, s.run P w = .ok v w
  | .pure a, h, w => by simp [pureRun] at h; simp [Sem.run, h]
  | .program k, h, w => by simp only [pureRun] at h; simp only [Sem.run]; exact pureRun_sound (k P) h w
  | .mark m k, h, w => by simp only [pureRun] at h; simp only [Sem.run]; exact pureRun_sound k h w
  | .load .., h, _ | .store .., h, _ | .new .., h, _ | .shape .., h, _ | .freeze .., h, _ | .frozen .., h, _ | .getObj .., h, _ | .setObj .., h, _
  | .choose .., h, _ | .sys .., h, _ | .halt .., h, _ => by simp [pureRun] at h

/-! ### the annotated code -/

inductive Mode where
  | pure
  | val (t : Ty)
  | get (t : Ty)

inductive Steps where
  | nil
  | take (i : Nat) (m : Mode) (r : Steps)
  | eff (i : Nat) (t : Ty) (r : Steps)
  | effU (i : Nat) (r : Steps)
  | next (i : Nat) (t : List Comp) (r : Steps)
  | call (i : Nat) (t : Ty) (r : Steps)
  | inv (i : Nat) (t : Ty) (r : Steps)
  | guard (g : Tmp) (blk : Steps) (pick : Tmp) (dead : List Tmp) (r : Steps)

inductive DSteps where
  | nil
  | take (i : Nat) (m : Mode) (r : DSteps)
  | now (i : Nat) (m : Mode) (chk : List Nat) (r : DSteps)
  | eff (i : Nat) (t : Ty) (chk : List Nat) (r : DSteps)
  | effU (i : Nat) (chk : List Nat) (r : DSteps)
  | call (i : Nat) (t : Ty) (chk : List Nat) (r : DSteps)
  | inv (i : Nat) (t : Ty) (chk : List Nat) (r : DSteps)
  | split (g : Tmp) (r : DSteps)
  | alt (r1 r2 : DSteps)

/-- n operations without an act, from i on -/
def Steps.pu (i : Nat) : Nat → Steps → Steps
  | 0, r => r
  | n + 1, r => .take i .pure (Steps.pu (i + 1) n r)
def DSteps.pu (i : Nat) : Nat → DSteps → DSteps
  | 0, r => r
  | n + 1, r => .take i .pure (DSteps.pu (i + 1) n r)
/-- from a to b -/
def rg (a b : Nat) : List Nat := (List.range (b + 1 - a)).map (a + ·)

inductive SCode where
  | skip
  | region (id : Nat) (ops : Array Oper) (st : Steps)
  | draw (id : Nat) (ops : Array Oper) (ds : DSteps)
  | seq (x y : SCode)
  | join (x : SCode) (live : List (Tmp × Comp)) (dead : List Tmp) (y : SCode)
  | cond (c : Operand) (x y : SCode)
  | block (id : Nat) (x : SCode)
  | loop (live : List (Tmp × Comp)) (dead : List Tmp) (x : SCode)
  | exit (id : Nat)
  | ret
  | scope (x : SCode)
  | label (l : Nat)

/-- annotations alone -/
inductive SA where
  | none
  | region (st : Steps)
  | draw (ds : DSteps)
  | seq (x y : SA)
  | join (x : SA) (live : List (Tmp × Comp)) (dead : List Tmp) (y : SA)
  | cond (x y : SA)
  | block (x : SA)
  | loop (live : List (Tmp × Comp)) (dead : List Tmp) (x : SA)
  | scope (x : SA)

def SA.on : SA → Code → SCode
  | .none, .skip => .skip
  | .none, .exit id => .exit id
  | .none, .ret => .ret
  | .none, .label l => .label l
  | .scope x, .scope c => .scope (x.on c)
  | .region st, .region id ops _ => .region id ops st
  | .draw ds, .region id ops _ => .draw id ops ds
  | .seq x y, .seq c d => .seq (x.on c) (y.on d)
  | .join x live dead y, .seq c d => .join (x.on c) live dead (y.on d)
  | .cond x y, .cond o c d => .cond o (x.on c) (y.on d)
  | .block x, .block id c => .block id (x.on c)
  | .loop live dead x, .loop c => .loop live dead (x.on c)
  | _, _ => .skip

def bodyOf (fn : Func) : Code := fn.body.getD .skip

def SCode.erase : SCode → Code
  | .skip => .skip
  | .region id ops _ => .region id ops false
  | .draw id ops _ => .region id ops true
  | .seq x y => .seq x.erase y.erase
  | .join x _ _ y => .seq x.erase y.erase
  | .cond c x y => .cond c x.erase y.erase
  | .block id x => .block id x.erase
  | .loop _ _ x => .loop x.erase
  | .exit id => .exit id
  | .ret => .ret
  | .scope x => .scope x.erase
  | .label l => .label l

end Go.Sh
namespace Go
def Act.set (a : Act) (d : Tmp) (v : Value) : Act := { a with tmps := a.tmps.setIfInBounds d v }
end Go
namespace Go.Sh
def slot (a : Act) (d : Tmp) : Value := a.tmps.getD d undef

def junk : List Tmp → List Value → Act → Act
  | [], _, a => a
  | d :: ds, us, a => junk ds us.tail (a.set d (us.headD undef))

abbrev liveDen : List (Tmp × Comp) → Type
  | [] => Unit
  | [x] => x.2.den
  | x :: y :: r => x.2.den × liveDen (y :: r)

def setLive : (l : List (Tmp × Comp)) → liveDen l → Act → Act
  | [], _, a => a
  | [x], s, a => a.set x.1 (x.2.val s)
  | x :: y :: r, s, a => setLive (y :: r) s.2 (a.set x.1 (x.2.val s.1))

def parseLive : (l : List (Tmp × Comp)) → Act → Option (liveDen l)
  | [], _ => some ()
  | [x], a => x.2.parse (slot a x.1)
  | x :: y :: r, a =>
    match x.2.parse (slot a x.1), parseLive (y :: r) a with
    | some s, some t => some (s, t)
    | _, _ => none

section
variable (P : Program)

def takeV (m : Mode) (o : Oper) (a : Act) (next : Act → Pr) : Pr :=
  match m with
  | .pure =>
    match pureRun P (execOp a.eval o) with
    | some (.value v) => next (a.put o.dst v)
    | _ => fun _ => False
  | .val t => ValP P (execOp a.eval o) t fun x => next (a.put o.dst (t.val x))
  | .get t => GetP P (execOp a.eval o) t fun x => next (a.put o.dst (t.val x))

def callV (t : Ty) (o : Oper) (a : Act) (next : Act → Pr) : Pr :=
  match pureRun P (execOp a.eval o) with
  | some (.enter f args) => CallP P f args t fun x => next (a.put o.dst (t.val x))
  | _ => fun _ => False

/-- operation i, if it is wanted -/
def ifWanted (ops : Array Oper) (i : Nat) (a : Act) (next : Act → Pr) (run : Oper → Pr) : Pr :=
  match ops[i]? with
  | some o =>
    match Region.wanted o (yielded ops a.tmps) with
    | true => run o
    | false => next (a.put o.dst undef)
  | none => fun _ => False

def vcSteps (ops : Array Oper) : Steps → (Act → Pr) → Act → Pr
  | .nil, next, a => next a
  | .take i m r, next, a => ifWanted ops i a (vcSteps ops r next) fun o => takeV P m o a (vcSteps ops r next)
  | .eff i t r, next, a => ifWanted ops i a (vcSteps ops r next) fun o => DoP P (execOp a.eval o) t fun x => vcSteps ops r next (a.put o.dst (t.val x))
  | .effU i r, next, a => ifWanted ops i a (vcSteps ops r next) fun o => DoU P (execOp a.eval o) (vcSteps ops r next (a.put o.dst undef))
  | .next i t r, next, a => ifWanted ops i a (vcSteps ops r next) fun o => NextP P (execOp a.eval o) t
      (vcSteps ops r next (a.put o.dst (.tuple ⟨[.bool false]⟩))) fun x => vcSteps ops r next (a.put o.dst (.tuple ⟨.bool true :: tupVal t x⟩))
  | .inv i t r, next, a => ifWanted ops i a (vcSteps ops r next) fun o => InvP P (execOp a.eval o) t fun x => vcSteps ops r next (a.put o.dst (t.val x))
  | .call i t r, next, a => ifWanted ops i a (vcSteps ops r next) fun o => callV P t o a (vcSteps ops r next)
  | .guard g blk pick dead r, next, a =>
    match slot a g with
    | .bool c =>
      JoinP (S := Bool) (fun x => AnyP fun us => vcSteps ops r next ((junk dead us a).set pick (.bool x))) fun J =>
        CondP c
          (vcSteps ops blk (fun a' => match slot a' pick with | .bool x => J x | _ => fun _ => False) (a.set g (.bool true)))
          (vcSteps ops blk (fun a' => match slot a' pick with | .bool x => J x | _ => fun _ => False) (a.set g (.bool false)))
    | _ => vcSteps ops blk (vcSteps ops r next) a

def checksV (ops : Array Oper) (a : Act) (k : Pr) : List Nat → Pr
  | [] => k
  | j :: js =>
    match ops[j]? with
    | some o =>
      match Region.wanted o (yielded ops a.tmps) with
      | true => ChkP P (execOp a.eval o) (match o.dst with | some d => slot a d | none => undef) (checksV ops a k js)
      | false => checksV ops a k js
    | none => fun _ => False

/-- both ways -/
structure BothP (x y : Pr) (w : World) : Prop where
  out : x w ∧ y w

def vcDraw (ops : Array Oper) : DSteps → (Act → Pr) → Act → Pr
  | .nil, next, a => next a
  | .take i m r, next, a => ifWanted ops i a (vcDraw ops r next) fun o => takeV P m o a (vcDraw ops r next)
  | .now i m chk r, next, a => ifWanted ops i a (vcDraw ops r next) fun o => takeV P m o a fun a' => checksV P ops a' (vcDraw ops r next a') chk
  | .eff i t chk r, next, a => ifWanted ops i a (vcDraw ops r next) fun o =>
      DoP P (execOp a.eval o) t fun x => checksV P ops (a.put o.dst (t.val x)) (vcDraw ops r next (a.put o.dst (t.val x))) chk
  | .effU i chk r, next, a => ifWanted ops i a (vcDraw ops r next) fun o =>
      DoU P (execOp a.eval o) (checksV P ops (a.put o.dst undef) (vcDraw ops r next (a.put o.dst undef)) chk)
  | .call i t chk r, next, a => ifWanted ops i a (vcDraw ops r next) fun o =>
      callV P t o a fun a' => checksV P ops a' (vcDraw ops r next a') chk
  | .inv i t chk r, next, a => ifWanted ops i a (vcDraw ops r next) fun o =>
      InvP P (execOp a.eval o) t fun x => checksV P ops (a.put o.dst (t.val x)) (vcDraw ops r next (a.put o.dst (t.val x))) chk
  | .split g r, next, a =>
    match slot a g with
    | .bool c => CondP c (vcDraw ops r next (a.set g (.bool true))) (vcDraw ops r next (a.set g (.bool false)))
    | _ => vcDraw ops r next a
  | .alt r1 r2, next, a => BothP (vcDraw ops r1 next a) (vcDraw ops r2 next a)

def noGoto (Q : Exit → Act → Pr) : Exit → Act → Pr
  | .goto _, _ => fun _ => False
  | e, a => Q e a

def vc : SCode → (Exit → Act → Pr) → Act → Pr
  | .skip, Q, a => Q .normal a
  | .region _ ops st, Q, a => vcSteps P ops st (Q .normal) a
  | .draw _ ops ds, Q, a => DrewP (vcDraw P ops ds (Q .normal) a)
  | .seq x y, Q, a => vc x (Exit.then (vc y Q) Q) a
  | .join x live dead y, Q, a =>
    JoinP (S := liveDen live) (fun s => AnyP fun us => vc y Q (setLive live s (junk dead us a))) fun J =>
      vc x (Exit.then (fun a' => match parseLive live a' with | some s => J s | none => fun _ => False) Q) a
  | .cond c x y, Q, a =>
    match a.eval c with
    | .bool b => CondP b (vc x Q a) (vc y Q a)
    | _ => fun _ => False
  | .block id x, Q, a => vc x (Exit.inBlock id Q) a
  | .loop live dead x, Q, a =>
    match parseLive live a with
    | some s => LoopP (S := liveDen live) (fun next s => AnyP fun us =>
        vc x (Exit.then (fun a' => match parseLive live a' with | some s' => next s' | none => fun _ => False) Q) (setLive live s (junk dead us a))) s
    | none => fun _ => False
  | .exit id, Q, a => Q (.exit id) a
  | .ret, Q, a => Q .ret a
  | .scope x, Q, a => vc x (noGoto Q) a
  | .label _, Q, a => Q .normal a

/-- a result: a value, or a cell of a type -/
inductive ResRead
  | val (v : Value)
  | cell (a : Value) (t : TypeId)
def resGet : ResRead → Sem Value
  | .val v => pure v
  | .cell a t => do loadVar t (← asAddr a)
def resSem (l : List ResRead) : Sem Value := do
  let vs ← l.toArray.mapM resGet
  pure (if h : vs.size = 1 then vs[0] else .tuple vs)
def resRead (tmps : Array Value) : ResultVar → ResRead
  | .tmp t => .val (tmps.getD t undef)
  | .cell a t => .cell (tmps.getD a undef) t
def resOf (fn : Func) (tmps : Array Value) : List ResRead := fn.results.toList.map (resRead tmps)
def hasCell (fn : Func) : Bool := fn.results.toList.any fun | .tmp _ => false | .cell _ _ => true

def retV (fn : Func) (t : Ty) (k : t.den → Pr) (a : Act) : Pr :=
  match hasCell fn with
  | true => GetP P (vN (resSem (resOf fn a.tmps))) t k
  | false =>
    match pureRun P (results fn a.tmps) with
    | some v =>
      match t.parse v with
      | some x => k x
      | none => fun _ => False
    | none => fun _ => False

def bodyQ (fn : Func) (t : Ty) (k : t.den → Pr) : Exit → Act → Pr
  | .normal => retV P fn t k
  | .ret => retV P fn t k
  | _ => fun _ _ => False

def vcBody (fn : Func) (c : SCode) (t : Ty) (k : t.den → Pr) (args : List Value) : Pr :=
  vc P c (bodyQ P fn t k) { tmps := ⟨args ++ List.replicate (fn.ntmps - args.length) undef⟩, defers := [] }
end
end Go.Sh
end

section
/- The annotated code's reading is sound: what the kernel computes implies the model's own weakest precondition. Regions in the order of the text. -/
namespace Go.Sh

/-! ### frames -/

def Agree (D : List Tmp) (a a' : Act) : Prop :=
  a'.defers = a.defers ∧ a'.tmps.size = a.tmps.size ∧ ∀ x, x ∉ D → slot a' x = slot a x

theorem Agree.refl (D : List Tmp) (a : Act) : Agree D a a := ⟨rfl, rfl, fun _ _ => rfl⟩
theorem Agree.trans {D D' D'' : List Tmp} {a b c : Act} (h : Agree D a b) (h' : Agree D' b c) (h1 : ∀ x ∈ D, x ∈ D'') (h2 : ∀ x ∈ D', x ∈ D'') : Agree D'' a c :=
  ⟨h'.1.trans h.1, h'.2.1.trans h.2.1, fun x hx => (h'.2.2 x fun m => hx (h2 x m)).trans (h.2.2 x fun m => hx (h1 x m))⟩
theorem Agree.mono {D D' : List Tmp} {a b : Act} (h : Agree D a b) (h1 : ∀ x ∈ D, x ∈ D') : Agree D' a b :=
  ⟨h.1, h.2.1, fun x hx => h.2.2 x fun m => hx (h1 x m)⟩

theorem slot_set (a : Act) (d x : Tmp) (v : Value) : slot (a.set d v) x = if d = x ∧ d < a.tmps.size then v else slot a x := by
  unfold slot Act.set
  simp only [Array.getD_eq_getD_getElem?, Array.getElem?_setIfInBounds]
  by_cases h : d = x
  · subst h
    by_cases h' : d < a.tmps.size <;> simp [h']
  · simp [h]

theorem size_set (a : Act) (d : Tmp) (v : Value) : (a.set d v).tmps.size = a.tmps.size := by simp [Act.set]
theorem defers_set (a : Act) (d : Tmp) (v : Value) : (a.set d v).defers = a.defers := rfl

theorem put_some (a : Act) (d : Tmp) (v : Value) : a.put (some d) v = a.set d v := rfl

theorem Act.ext_slot {a b : Act} (hd : a.defers = b.defers) (hs : a.tmps.size = b.tmps.size) (h : ∀ x, x < a.tmps.size → slot a x = slot b x) : a = b := by
  cases a with
  | mk ta da =>
    cases b with
    | mk tb db =>
      simp only at hd hs
      subst hd
      congr 1
      refine Array.ext hs fun i h1 h2 => ?_
      have := h i h1
      simpa [slot, Array.getD_eq_getD_getElem?, h1, h2] using this

theorem Agree.put (a : Act) (d : Option Tmp) (v : Value) : Agree d.toList a (a.put d v) := by
  cases d with
  | none => exact Agree.refl _ _
  | some d =>
    refine ⟨rfl, size_set a d v, fun x hx => ?_⟩
    rw [put_some, slot_set, if_neg]
    intro h
    exact hx (by simp [h.1])

theorem slot_lt {a : Act} {d : Tmp} {b : Bool} (h : slot a d = .bool b) : d < a.tmps.size := by
  unfold slot at h
  by_cases hd : d < a.tmps.size
  · exact hd
  · simp [Array.getD_eq_getD_getElem?, hd, undef] at h

theorem set_slot {a : Act} {d : Tmp} {b : Bool} (h : slot a d = .bool b) : a.set d (.bool b) = a := by
  refine Act.ext_slot rfl (size_set _ _ _) fun x _ => ?_
  rw [slot_set]
  split
  · rename_i h'; rw [← h'.1, h]
  · rfl

theorem size_junk : ∀ (ds : List Tmp) (us : List Value) (a : Act), (junk ds us a).tmps.size = a.tmps.size
  | [], _, _ => rfl
  | d :: ds, us, a => by rw [junk, size_junk, size_set]
theorem defers_junk : ∀ (ds : List Tmp) (us : List Value) (a : Act), (junk ds us a).defers = a.defers
  | [], _, _ => rfl
  | d :: ds, us, a => by rw [junk, defers_junk, defers_set]

theorem slot_junk (f : Tmp → Value) (x : Tmp) : ∀ (ds : List Tmp) (a : Act),
    slot (junk ds (ds.map f) a) x = if x ∈ ds ∧ x < a.tmps.size then f x else slot a x
  | [], a => by simp [junk]
  | d :: ds, a => by
    simp only [junk, List.map_cons, List.tail_cons, List.headD_cons]
    rw [slot_junk f x ds, size_set, slot_set]
    by_cases h1 : x ∈ ds
    · by_cases h2 : x < a.tmps.size
      · simp [h1, h2]
      · rw [if_neg (fun h => h2 h.2), if_neg (fun (h : d = x ∧ d < a.tmps.size) => h2 (h.1 ▸ h.2)), if_neg (fun h => h2 h.2)]
    · by_cases h3 : d = x
      · subst h3; simp [h1]
      · simp [h1, h3, Ne.symm h3]

theorem size_setLive : ∀ (l : List (Tmp × Comp)) (s : liveDen l) (a : Act), (setLive l s a).tmps.size = a.tmps.size
  | [], _, _ => rfl
  | [x], s, a => size_set _ _ _
  | x :: y :: r, s, a => by rw [setLive, size_setLive (y :: r), size_set]
theorem defers_setLive : ∀ (l : List (Tmp × Comp)) (s : liveDen l) (a : Act), (setLive l s a).defers = a.defers
  | [], _, _ => rfl
  | [x], s, a => rfl
  | x :: y :: r, s, a => by rw [setLive, defers_setLive (y :: r), defers_set]

theorem slot_setLive (a' : Act) (x : Tmp) : ∀ (l : List (Tmp × Comp)) (s : liveDen l) (b : Act), parseLive l a' = some s →
    slot (setLive l s b) x = if x ∈ l.map (·.1) ∧ x < b.tmps.size then slot a' x else slot b x
  | [], s, b, _ => by simp [setLive]
  | [y], s, b, h => by
    simp only [setLive, slot_set, List.map_cons, List.map_nil, List.mem_singleton]
    have := Comp.parse_val _ _ _ h
    by_cases hx : y.1 = x
    · subst hx; simp [this]
    · simp [hx, Ne.symm hx]
  | y :: z :: r, s, b, h => by
    simp only [parseLive] at h
    split at h
    · rename_i u t hu ht
      simp at h; subst h
      rw [setLive, slot_setLive a' x (z :: r) t _ ht, size_set, slot_set]
      have := Comp.parse_val _ _ _ hu
      by_cases h1 : x ∈ (z :: r).map (·.1)
      · by_cases h2 : x < b.tmps.size
        · rw [if_pos ⟨h1, h2⟩, if_pos ⟨by rw [List.map_cons]; exact List.mem_cons_of_mem _ h1, h2⟩]
        · rw [if_neg (fun h => h2 h.2), if_neg (fun (h : y.1 = x ∧ y.1 < b.tmps.size) => h2 (h.1 ▸ h.2)), if_neg (fun h => h2 h.2)]
      · by_cases h3 : y.1 = x
        · subst h3
          rw [if_neg (fun h => h1 h.1)]
          by_cases h2 : y.1 < b.tmps.size <;> simp [h2, this]
        · rw [if_neg (fun h => h1 h.1), if_neg (fun h => h3 h.1), if_neg]
          intro h
          rw [List.map_cons, List.mem_cons] at h
          rcases h.1 with h | h
          · exact h3 h.symm
          · exact h1 h
    · simp at h

theorem frame_eq {D : List Tmp} {a a' : Act} {live : List (Tmp × Comp)} {dead : List Tmp} {s : liveDen live}
    (h : Agree D a a') (hD : ∀ x ∈ D, x ∈ live.map (·.1) ∨ x ∈ dead) (hp : parseLive live a' = some s) :
    a' = setLive live s (junk dead (dead.map (slot a')) a) := by
  refine Act.ext_slot ?_ ?_ fun x hx => ?_
  · rw [defers_setLive, defers_junk]; exact h.1
  · rw [size_setLive, size_junk]; exact h.2.1
  · rw [slot_setLive a' x live s _ hp, size_junk, slot_junk]
    rw [h.2.1] at hx
    by_cases h1 : x ∈ live.map (·.1)
    · rw [if_pos ⟨h1, hx⟩]
    · rw [if_neg (fun h => h1 h.1)]
      by_cases h2 : x ∈ dead
      · rw [if_pos ⟨h2, hx⟩]
      · rw [if_neg (fun h => h2 h.1)]
        exact h.2.2 x fun m => (hD x m).elim h1 h2

theorem frame_pick {D : List Tmp} {a a' : Act} {pick : Tmp} {dead : List Tmp} {v : Value}
    (h : Agree D a a') (hD : ∀ x ∈ D, x = pick ∨ x ∈ dead) (hp : slot a' pick = v) :
    a' = (junk dead (dead.map (slot a')) a).set pick v := by
  refine Act.ext_slot ?_ ?_ fun x hx => ?_
  · rw [defers_set, defers_junk]; exact h.1
  · rw [size_set, size_junk]; exact h.2.1
  · rw [slot_set, size_junk, slot_junk]
    rw [h.2.1] at hx
    by_cases h1 : pick = x
    · subst h1; rw [if_pos ⟨rfl, hx⟩, hp]
    · rw [if_neg (fun h => h1 h.1)]
      by_cases h2 : x ∈ dead
      · rw [if_pos ⟨h2, hx⟩]
      · rw [if_neg (fun h => h2 h.1)]
        exact h.2.2 x fun m => (hD x m).elim (fun h => h1 h.symm) h2

/-! ### one operation -/

section
variable {P : Program} {ops : Array Oper} {Q : Exit → Act → World → Prop}

/-- all functions, whatever the round -/
def Fr (ro : Option Nat) : Fence := { Fence.wide with round := ro }

theorem calls_fr {ro : Option Nat} {n : Nat} {f : FuncId} {args : Array Value} {w : World} {R : Ending → World → Prop} : CallsIn (Fr ro) n P f args w R ↔ Calls P f args w R :=
  Iff.trans (b := CallsIn Fence.wide n P f args w R) Iff.rfl callsIn_wide

theorem semAt_run {ro : Option Nat} {ρ : Operand → Value} {o : Oper} {x : Next} {w w' : World} (h : (execOp ρ o).run P w = .ok x w') (hx : ∀ d, x ≠ .defer d) : (o.semAt ro ρ).run P w = .ok x w' := by
  rw [Oper.semAt_eq ro ρ o fun c hc => ?_]
  · exact h
  · unfold execOp at h
    rw [hc] at h
    simp only [Sem.run_bind] at h
    cases hr : (resolve ρ c o.type).run P w with
    | ok d w1 => rw [hr] at h; cases h; exact hx d rfl
    | halt e w1 => rw [hr] at h; cases h

variable {ro : Option Nat}

theorem wp_value {o : Oper} {a : Act} {w w' : World} {v : Value} {K : Act → World → Prop} (h : (execOp a.eval o).run P w = .ok (.value v) w')
    (hk : K (a.put o.dst v) w') : o.wpIn (Fr ro) 0 P a w K Q := by
  refine ⟨fun _ _ => trivial, ?_⟩
  rw [semAt_run h (fun d hd => by cases hd)]; exact hk
theorem wp_skipped {o : Oper} {a : Act} {w w' : World} {K : Act → World → Prop} (h : (execOp a.eval o).run P w = .ok .skip w')
    (hk : K (a.put o.dst undef) w') : o.wpIn (Fr ro) 0 P a w K Q := by
  refine ⟨fun _ _ => trivial, ?_⟩
  rw [semAt_run h (fun d hd => by cases hd)]; exact hk

theorem takeV_wp {m : Mode} {o : Oper} {a : Act} {w : World} {next K : Act → World → Prop} (h : takeV P m o a next w)
    (hk : ∀ v, next (a.put o.dst v) w → K (a.put o.dst v) w) : o.wpIn (Fr ro) 0 P a w K Q := by
  cases m with
  | pure =>
    simp only [takeV] at h
    cases hv : pureRun P (execOp a.eval o) with
    | none => rw [hv] at h; exact h.elim
    | some n =>
      rw [hv] at h
      cases n <;> first | exact h.elim | exact wp_value (pureRun_sound _ hv w) (hk _ h)
  | val t => obtain ⟨x, hx, hn⟩ := h.out; exact wp_value (hx w) (hk _ hn)
  | get t => obtain ⟨x, hx, hn⟩ := h.out; exact wp_value hx (hk _ hn)

theorem callV_wp {t : Ty} {o : Oper} {a : Act} {w : World} {next K : Act → World → Prop} (h : callV P t o a next w)
    (hk : ∀ v w', next (a.put o.dst v) w' → K (a.put o.dst v) w') : o.wpIn (Fr ro) 0 P a w K Q := by
  simp only [callV] at h
  cases hv : pureRun P (execOp a.eval o) with
  | none => rw [hv] at h; exact h.elim
  | some n =>
    rw [hv] at h
    cases n
    case enter f args =>
      refine ⟨fun _ _ => trivial, ?_⟩
      rw [semAt_run (pureRun_sound _ hv w) (fun d hd => by cases hd), Oper.uponIn_enter]
      refine ⟨fun h => (by cases h), CallsIn.mono (calls_fr.2 h.out) fun e w' he => ?_⟩
      obtain ⟨x, rfl, hn⟩ := he
      exact hk _ _ hn
    all_goals exact h.elim

theorem invP_wp {t : Ty} {o : Oper} {aa ac : Act} {w : World} {K : Act → World → Prop} {next : t.den → Pr} (he : execOp aa.eval o = execOp ac.eval o) (h : InvP P (execOp ac.eval o) t next w)
    (hk : ∀ (x : t.den) w', next x w' → K (aa.put o.dst (t.val x)) w') : o.wpIn (Fr ro) 0 P aa w K Q := by
  rcases h.out with ⟨l, fn, tmps, assign, body, hx, hR⟩ | ⟨f, args, hx, hc⟩
  · refine ⟨fun _ _ => trivial, ?_⟩
    rw [semAt_run (by rw [he]; exact hx) (fun d hd => by cases hd), Oper.uponIn_round]
    refine ⟨fun h => (by cases h), ?_⟩
    refine RoundIn.mono (F := Fr ro) (show RoundIn (Fr ro) 0 P l fn tmps assign body w _ from hR) fun e w' he => ?_
    obtain ⟨x, rfl, hn⟩ := he
    exact hk _ _ hn
  · refine ⟨fun _ _ => trivial, ?_⟩
    rw [semAt_run (by rw [he]; exact hx) (fun d hd => by cases hd), Oper.uponIn_enter]
    refine ⟨fun h => (by cases h), CallsIn.mono (calls_fr.2 hc.out) fun e w' he => ?_⟩
    obtain ⟨x, rfl, hn⟩ := he
    exact hk _ _ hn

theorem ifWanted_wp {i : Nat} {a : Act} {w : World} {next K : Act → World → Prop} {run : Oper → Pr} (h : ifWanted ops i a next run w)
    (hr : ∀ o, ops[i]? = some o → run o w → o.wpIn (Fr ro) 0 P a w K Q) (hn : ∀ o, ops[i]? = some o → next (a.put o.dst undef) w → K (a.put o.dst undef) w) :
    wpOpIn (Fr ro) 0 P ops Q i K a w := by
  unfold ifWanted at h
  unfold wpOpIn
  cases ho : ops[i]? with
  | none => simp [ho] at h
  | some o =>
    simp only [ho] at h ⊢
    cases hw : Region.wanted o (yielded ops a.tmps) with
    | true => simp only [hw, if_true] at h ⊢; exact hr o ho h
    | false => simp only [hw] at h ⊢; exact ⟨fun _ _ => trivial, hn o ho h⟩

/-! ### a region in the order of the text -/

def Steps.idx : Steps → List Nat
  | .nil => []
  | .take i _ r => i :: r.idx
  | .eff i _ r => i :: r.idx
  | .effU i r => i :: r.idx
  | .next i _ r => i :: r.idx
  | .call i _ r => i :: r.idx
  | .inv i _ r => i :: r.idx
  | .guard _ blk _ _ r => blk.idx ++ r.idx

def dstOf (ops : Array Oper) (i : Nat) : List Tmp := ((ops[i]?).bind (·.dst)).toList
def dsts (ops : Array Oper) (l : List Nat) : List Tmp := l.flatMap (dstOf ops)

def stepsOk (ops : Array Oper) : Steps → Bool
  | .nil => true
  | .take _ _ r => stepsOk ops r
  | .eff _ _ r => stepsOk ops r
  | .effU _ r => stepsOk ops r
  | .next _ _ r => stepsOk ops r
  | .call _ _ r => stepsOk ops r
  | .inv _ _ r => stepsOk ops r
  | .guard _ blk pick dead r => stepsOk ops blk && stepsOk ops r && (dsts ops blk.idx).all fun x => x == pick || dead.contains x

theorem dstOf_some {i : Nat} {o : Oper} (h : ops[i]? = some o) : dstOf ops i = o.dst.toList := by simp [dstOf, h]

theorem agree_cons {i : Nat} {o : Oper} {l : List Nat} {a a' : Act} {v : Value} (ho : ops[i]? = some o) (h : Agree (dsts ops l) (a.put o.dst v) a') :
    Agree (dsts ops (i :: l)) a a' := by
  refine (Agree.put a o.dst v).trans h (fun x hx => ?_) (fun x hx => ?_)
  · simp only [dsts, List.flatMap_cons, List.mem_append]; left; rw [dstOf_some ho]; exact hx
  · simp only [dsts, List.flatMap_cons, List.mem_append]; right; exact hx

theorem steps_sound : ∀ (s : Steps) (next : Act → Pr) (a : Act) (w : World) (rest : List Nat), stepsOk ops s = true → vcSteps P ops s next a w →
    (∀ a' w', next a' w' → Agree (dsts ops s.idx) a a' → wpOpsIn (Fr ro) 0 P ops Q rest a' w') → wpOpsIn (Fr ro) 0 P ops Q (s.idx ++ rest) a w
  | .nil, next, a, w, rest, _, h, hk => hk a w h (Agree.refl _ _)
  | .take i m r, next, a, w, rest, hok, h, hk => by
    simp only [Steps.idx, List.cons_append, wpOpsIn_cons]
    refine ifWanted_wp h (fun o ho hr => takeV_wp hr fun v hn => ?_) fun o ho hn => ?_
    · exact steps_sound r next _ w rest hok hn fun a' w' h1 h2 => hk a' w' h1 (agree_cons ho h2)
    · exact steps_sound r next _ w rest hok hn fun a' w' h1 h2 => hk a' w' h1 (agree_cons ho h2)
  | .eff i t r, next, a, w, rest, hok, h, hk => by
    simp only [Steps.idx, List.cons_append, wpOpsIn_cons]
    refine ifWanted_wp h (fun o ho hr => ?_) fun o ho hn => ?_
    · obtain ⟨x, w', hx, hn⟩ := hr.out
      exact wp_value hx (steps_sound r next _ w' rest hok hn fun a' w' h1 h2 => hk a' w' h1 (agree_cons ho h2))
    · exact steps_sound r next _ w rest hok hn fun a' w' h1 h2 => hk a' w' h1 (agree_cons ho h2)
  | .effU i r, next, a, w, rest, hok, h, hk => by
    simp only [Steps.idx, List.cons_append, wpOpsIn_cons]
    refine ifWanted_wp h (fun o ho hr => ?_) fun o ho hn => ?_
    · obtain ⟨w', hx, hn⟩ := hr.out
      exact wp_skipped hx (steps_sound r next _ w' rest hok hn fun a' w' h1 h2 => hk a' w' h1 (agree_cons ho h2))
    · exact steps_sound r next _ w rest hok hn fun a' w' h1 h2 => hk a' w' h1 (agree_cons ho h2)
  | .next i t r, next, a, w, rest, hok, h, hk => by
    simp only [Steps.idx, List.cons_append, wpOpsIn_cons]
    refine ifWanted_wp h (fun o ho hr => ?_) fun o ho hn => ?_
    · rcases hr.out with ⟨w', hx, hn⟩ | ⟨x, w', hx, hn⟩
      · exact wp_value hx (steps_sound r next _ w' rest hok hn fun a' w' h1 h2 => hk a' w' h1 (agree_cons ho h2))
      · exact wp_value hx (steps_sound r next _ w' rest hok hn fun a' w' h1 h2 => hk a' w' h1 (agree_cons ho h2))
    · exact steps_sound r next _ w rest hok hn fun a' w' h1 h2 => hk a' w' h1 (agree_cons ho h2)
  | .call i t r, next, a, w, rest, hok, h, hk => by
    simp only [Steps.idx, List.cons_append, wpOpsIn_cons]
    refine ifWanted_wp h (fun o ho hr => callV_wp hr fun v w' hn => ?_) fun o ho hn => ?_
    · exact steps_sound r next _ w' rest hok hn fun a' w' h1 h2 => hk a' w' h1 (agree_cons ho h2)
    · exact steps_sound r next _ w rest hok hn fun a' w' h1 h2 => hk a' w' h1 (agree_cons ho h2)
  | .inv i t r, next, a, w, rest, hok, h, hk => by
    simp only [Steps.idx, List.cons_append, wpOpsIn_cons]
    refine ifWanted_wp h (fun o ho hr => invP_wp rfl hr fun v w' hn => ?_) fun o ho hn => ?_
    · exact steps_sound r next _ w' rest hok hn fun a' w' h1 h2 => hk a' w' h1 (agree_cons ho h2)
    · exact steps_sound r next _ w rest hok hn fun a' w' h1 h2 => hk a' w' h1 (agree_cons ho h2)
  | .guard g blk pick dead r, next, a, w, rest, hok, h, hk => by
    simp only [stepsOk, Bool.and_eq_true] at hok
    obtain ⟨⟨hb, hr⟩, hd⟩ := hok
    simp only [vcSteps] at h
    cases hc : slot a g
    case bool c =>
      rw [hc] at h
      obtain ⟨ht, hf⟩ := h.out.out
      simp only [Steps.idx, List.append_assoc]
      have main : ∀ (J : vcSteps P ops blk (fun a' => match slot a' pick with
            | .bool x => AnyP fun us => vcSteps P ops r next ((junk dead us a).set pick (.bool x))
            | _ => fun _ => False) a w), wpOpsIn (Fr ro) 0 P ops Q (blk.idx ++ (r.idx ++ rest)) a w := by
        intro J
        refine steps_sound blk _ a w (r.idx ++ rest) hb J fun a' w' h1 h2 => ?_
        cases hx : slot a' pick
        case bool x =>
          rw [hx] at h1
          have h3 := h1.out (dead.map (slot a'))
          have hD : ∀ y ∈ dsts ops blk.idx, y = pick ∨ y ∈ dead := fun y hy => by
            have := List.all_eq_true.1 hd y hy
            simpa using this
          rw [← frame_pick h2 hD hx] at h3
          exact steps_sound r next a' w' rest hr h3 fun a'' w'' h4 h5 => hk a'' w'' h4
            (h2.trans h5 (fun y hy => by simp only [Steps.idx, dsts, List.flatMap_append, List.mem_append]; exact .inl hy)
              (fun y hy => by simp only [Steps.idx, dsts, List.flatMap_append, List.mem_append]; exact .inr hy))
        all_goals (rw [hx] at h1; exact h1.elim)
      cases c with
      | true => exact main (by have := ht rfl; rwa [set_slot hc] at this)
      | false => exact main (by have := hf rfl; rwa [set_slot hc] at this)
    all_goals
      rw [hc] at h
      simp only [Steps.idx, List.append_assoc]
      exact steps_sound blk _ a w (r.idx ++ rest) hb h fun a' w' h1 h2 => steps_sound r next a' w' rest hr h1 fun a'' w'' h4 h5 => hk a'' w'' h4
        (h2.trans h5 (fun y hy => by simp only [Steps.idx, dsts, List.flatMap_append, List.mem_append]; exact .inl hy)
          (fun y hy => by simp only [Steps.idx, dsts, List.flatMap_append, List.mem_append]; exact .inr hy))
end
end Go.Sh
end

section
/- A region that draws its order: one canonical order serves all, if what was read early is read anew behind each act that may come between. -/
namespace Go.Sh
section
variable {ro : Option Nat} {P : Program} {ops : Array Oper} {Q : Exit → Act → World → Prop}

theorem slot_eq_getElem? {a a' : Act} {x : Tmp} (hsz : a'.tmps.size = a.tmps.size) (h : slot a' x = slot a x) : a'.tmps[x]? = a.tmps[x]? := by
  by_cases hx : x < a.tmps.size
  · have hx' : x < a'.tmps.size := by rw [hsz]; exact hx
    simp [slot, Array.getD_eq_getD_getElem?, hx, hx'] at h
    simp [hx, hx', h]
  · have hx' : ¬ x < a'.tmps.size := by rw [hsz]; exact hx
    simp [hx, hx']

theorem look_congr {o : Oper} (hs : ∀ cs b, o.op ≠ .select cs b) {a a' : Act} (hsz : a'.tmps.size = a.tmps.size)
    (h : ∀ x ∈ o.looksAt ops, slot a' x = slot a x) :
    execOp a'.eval o = execOp a.eval o ∧ Region.wanted o (yielded ops a'.tmps) = Region.wanted o (yielded ops a.tmps) := by
  constructor
  · refine execOp_congr o hs fun x hx => ?_
    cases x with
    | tmp t =>
      have : t ∈ o.looksAt ops := by
        unfold Oper.looksAt
        rw [List.mem_append]; left
        rw [List.mem_filterMap]
        exact ⟨.tmp t, by simpa using hx, rfl⟩
      exact h t this
    | _ => rfl
  · unfold Region.wanted
    cases hg : o.guard with
    | none => rfl
    | some gw =>
      obtain ⟨g, want⟩ := gw
      simp only
      congr 1
      unfold yielded
      cases hd : (ops[g]?).bind (·.dst) with
      | none => rfl
      | some d =>
        have : d ∈ o.looksAt ops := by
          unfold Oper.looksAt
          rw [List.mem_append]; right
          rw [hg]; simp [hd]
        simp only [Option.bind_some]
        rw [slot_eq_getElem? hsz (h d this)]

def DSteps.idx : DSteps → List Nat
  | .nil => []
  | .take i _ r => i :: r.idx
  | .now i _ _ r => i :: r.idx
  | .eff i _ _ r => i :: r.idx
  | .effU i _ r => i :: r.idx
  | .call i _ _ r => i :: r.idx
  | .inv i _ _ r => i :: r.idx
  | .split _ r => r.idx
  | .alt r1 _ => r1.idx

/-- the operations that o waits for -/
def preds (ops : Array Oper) (i : Nat) : List Nat :=
  match ops[i]? with
  | some o => (o.after.toList.filter (Region.binds .any)).map (·.on)
  | none => []

def looks (ops : Array Oper) (i : Nat) : List Tmp :=
  match ops[i]? with
  | some o => o.looksAt ops
  | none => []

def dstIs (ops : Array Oper) (i : Nat) : Option Tmp := (ops[i]?).bind (·.dst)

/-- j does not look at what i writes -/
def blind (ops : Array Oper) (i j : Nat) : Bool :=
  match dstIs ops i with
  | some d => !(looks ops j).contains d
  | none => true

def unlike (ops : Array Oper) (i j : Nat) : Bool :=
  match dstIs ops i, dstIs ops j with
  | some d, some e => d != e
  | _, _ => true

def Mode.isGet : Mode → Bool
  | .get _ => true
  | _ => false

/-- what an act (number i) asks of the order -/
def eventOk (ops : Array Oper) (i : Nat) (chk done : List Nat) (pend : List (Nat × Bool)) (al rest : List Nat) : Bool :=
  (ops[i]?).isSome && !done.contains i && (preds ops i).all (fun k => done.contains k) &&
  ((pend.filter fun k => !(preds ops i).contains k.1).all fun k => (!k.2 || chk.contains k.1) && blind ops i k.1 && blind ops k.1 i && unlike ops k.1 i) &&
  rest.all fun j => al.contains j || (preds ops j).any fun k => (i :: rest).contains k

def drawOk (ops : Array Oper) (N : Nat) : List Nat → List (Nat × Bool) → List Nat → DSteps → Bool
  | done, _, al, .nil => al.isEmpty && (List.range ops.size).all fun i => done.contains i
  | done, pend, al, .take i m r =>
    al.isEmpty && ((match dstIs ops i with | some d => decide (d < N) && blind ops i i | none => false) && !done.contains i && (preds ops i).all (fun k => done.contains k) &&
    (pend.all fun k => blind ops i k.1 && unlike ops k.1 i && ((preds ops i).contains k.1 || blind ops k.1 i)) &&
    drawOk ops N (i :: done) ((i, m.isGet) :: pend) [] r)
  | done, pend, al, .now i _ chk r => eventOk ops i chk done pend al r.idx && drawOk ops N (i :: done) (pend.filter fun k => !(preds ops i).contains k.1) [] r
  | done, pend, al, .eff i _ chk r => eventOk ops i chk done pend al r.idx && drawOk ops N (i :: done) (pend.filter fun k => !(preds ops i).contains k.1) [] r
  | done, pend, al, .effU i chk r => eventOk ops i chk done pend al r.idx && drawOk ops N (i :: done) (pend.filter fun k => !(preds ops i).contains k.1) [] r
  | done, pend, al, .call i _ chk r => eventOk ops i chk done pend al r.idx && drawOk ops N (i :: done) (pend.filter fun k => !(preds ops i).contains k.1) [] r
  | done, pend, al, .inv i _ chk r => eventOk ops i chk done pend al r.idx && drawOk ops N (i :: done) (pend.filter fun k => !(preds ops i).contains k.1) [] r
  | done, pend, al, .split _ r => al.isEmpty && drawOk ops N done pend [] r
  | done, pend, al, .alt r1 r2 => al.isEmpty && (decide (r1.idx ≠ []) && decide (r2.idx ≠ []) && drawOk ops N done pend (r2.idx.take 1) r1 && drawOk ops N done pend (r1.idx.take 1) r2 &&
    r1.idx.all (fun k => r2.idx.contains k) && r2.idx.all (fun k => r1.idx.contains k) && r1.idx.length == r2.idx.length)

/-! ### the proof -/

def OrdD (ops : Array Oper) : List Nat → Prop
  | [] => True
  | i :: l => (∀ k ∈ preds ops i, k ∈ l) ∧ OrdD ops l

theorem OrdD.first : ∀ (done : List Nat) (p : List Nat), OrdD ops done → (∀ k ∈ p, k ∈ done) → p ≠ [] →
    ∃ k ∈ p, ∀ j ∈ preds ops k, j ∈ done ∧ j ∉ p
  | [], p, _, hp, hne => by
    cases p with
    | nil => exact absurd rfl hne
    | cons k p => exact absurd (hp k (by simp)) (by simp)
  | i :: l, p, ho, hp, hne => by
    by_cases h : ∃ k ∈ p, k ∈ l
    · obtain ⟨k0, hk0, hk0l⟩ := h
      have hne' : p.filter (fun k => l.contains k) ≠ [] := by
        intro he
        have : k0 ∈ p.filter (fun k => l.contains k) := List.mem_filter.2 ⟨hk0, by simpa using hk0l⟩
        rw [he] at this; cases this
      obtain ⟨k, hk, hkp⟩ := OrdD.first l (p.filter fun k => l.contains k) ho.2 (fun k hk => by simpa using (List.mem_filter.1 hk).2) hne'
      refine ⟨k, (List.mem_filter.1 hk).1, fun j hj => ?_⟩
      obtain ⟨h1, h2⟩ := hkp j hj
      exact ⟨List.mem_cons_of_mem _ h1, fun hjp => h2 (List.mem_filter.2 ⟨hjp, by simpa using h1⟩)⟩
    · obtain ⟨k, hk⟩ := List.exists_mem_of_ne_nil p hne
      have hki : k = i := by
        rcases List.mem_cons.1 (hp k hk) with h' | h'
        · exact h'
        · exact absurd ⟨k, hk, h'⟩ h
      subst hki
      exact ⟨k, hk, fun j hj => ⟨List.mem_cons_of_mem _ (ho.1 j hj), fun hjp => h ⟨j, hjp, ho.1 j hj⟩⟩⟩

def Prom (P : Program) (ops : Array Oper) (k : Nat × Bool) (a : Act) (w : World) : Prop :=
  ∃ o d, ops[k.1]? = some o ∧ o.dst = some d ∧ d < a.tmps.size ∧
    ((Region.wanted o (yielded ops a.tmps) = true ∧ ∀ w', (k.2 = true → w' = w) → (execOp a.eval o).run P w' = .ok (.value (slot a d)) w') ∨
     (Region.wanted o (yielded ops a.tmps) = false ∧ slot a d = undef))

def Frames (ops : Array Oper) (p : List (Nat × Bool)) (aa ac : Act) : Prop :=
  aa.defers = ac.defers ∧ aa.tmps.size = ac.tmps.size ∧ ∀ x, (∀ k ∈ p, dstIs ops k.1 ≠ some x) → slot aa x = slot ac x

theorem noSel (hsel : Region.noSelect ops = true) {i : Nat} {o : Oper} (h : ops[i]? = some o) : ∀ cs b, o.op ≠ .select cs b :=
  fun cs b => Region.noSelect_spec hsel i o cs b h

theorem blind_spec {i j : Nat} (h : blind ops i j = true) {d : Tmp} (hd : dstIs ops i = some d) {o : Oper} (ho : ops[j]? = some o) : d ∉ o.looksAt ops := by
  unfold blind at h
  rw [hd] at h
  simpa [looks, ho] using h
theorem unlike_spec {i j : Nat} (h : unlike ops i j = true) {d : Tmp} (hd : dstIs ops i = some d) : dstIs ops j ≠ some d := by
  unfold unlike at h
  rw [hd] at h
  intro he
  rw [he] at h
  simp at h

/-- what does not look at a slot that is written is the same behind it -/
theorem put_look (hsel : Region.noSelect ops = true) {i j : Nat} {oi oj : Oper} (hi : ops[i]? = some oi) (hj : ops[j]? = some oj) (h : blind ops i j = true) (a : Act) (v : Value) :
    execOp (a.put oi.dst v).eval oj = execOp a.eval oj ∧ Region.wanted oj (yielded ops (a.put oi.dst v).tmps) = Region.wanted oj (yielded ops a.tmps) := by
  cases hd : oi.dst with
  | none => exact ⟨rfl, rfl⟩
  | some d =>
    have hdi : dstIs ops i = some d := by simp [dstIs, hi, hd]
    refine look_congr (noSel hsel hj) (by rw [put_some, size_set]) fun x hx => ?_
    rw [put_some, slot_set, if_neg]
    intro h'
    exact blind_spec h hdi hj (h'.1 ▸ hx)

theorem slot_put_ne {i k : Nat} {oi : Oper} (hi : ops[i]? = some oi) (h : unlike ops k i = true) {d : Tmp} (hd : dstIs ops k = some d) (a : Act) (v : Value) :
    slot (a.put oi.dst v) d = slot a d := by
  cases he : oi.dst with
  | none => rfl
  | some e =>
    rw [put_some, slot_set, if_neg]
    intro h'
    have := unlike_spec h hd
    apply this
    simp [dstIs, hi, he, h'.1]

theorem size_put (a : Act) (d : Option Tmp) (v : Value) : (a.put d v).tmps.size = a.tmps.size := by
  cases d with
  | none => rfl
  | some d => rw [put_some, size_set]

theorem Prom.put (hsel : Region.noSelect ops = true) {k : Nat × Bool} {a : Act} {w w' : World} {i : Nat} {oi : Oper} {v : Value} (hp : Prom P ops k a w) (hi : ops[i]? = some oi)
    (hb : blind ops i k.1 = true) (hu : unlike ops k.1 i = true)
    (hchk : k.2 = true → w' = w ∨ ∀ o, ops[k.1]? = some o → Region.wanted o (yielded ops (a.put oi.dst v).tmps) = true →
      (execOp (a.put oi.dst v).eval o).run P w' = .ok (.value (match o.dst with | some d => slot (a.put oi.dst v) d | none => undef)) w') :
    Prom P ops k (a.put oi.dst v) w' := by
  obtain ⟨o, d, ho, hd, hlt, hcase⟩ := hp
  obtain ⟨h1, h2⟩ := put_look hsel hi ho hb a v
  have hdk : dstIs ops k.1 = some d := by simp [dstIs, ho, hd]
  have h3 := slot_put_ne hi hu hdk a v
  refine ⟨o, d, ho, hd, by rw [size_put]; exact hlt, ?_⟩
  rcases hcase with ⟨hw, hr⟩ | ⟨hw, hs⟩
  · refine .inl ⟨by rw [h2]; exact hw, fun w1 hw1 => ?_⟩
    by_cases hg : k.2 = true
    · have hw1' := hw1 hg
      subst hw1'
      rcases hchk hg with he | hc
      · subst he
        rw [h1, h3]
        exact hr _ (fun _ => rfl)
      · have := hc o ho (by rw [h2]; exact hw)
        rw [hd] at this
        exact this
    · rw [h1, h3]
      exact hr w1 (fun h => absurd h hg)
  · exact .inr ⟨by rw [h2]; exact hw, by rw [h3]; exact hs⟩

theorem checks_out {a : Act} {k : Pr} {w : World} : ∀ (l : List Nat), checksV P ops a k l w →
    k w ∧ ∀ j ∈ l, ∀ o, ops[j]? = some o → Region.wanted o (yielded ops a.tmps) = true →
      (execOp a.eval o).run P w = .ok (.value (match o.dst with | some d => slot a d | none => undef)) w
  | [], h => ⟨h, fun j hj => by cases hj⟩
  | i :: l, h => by
    simp only [checksV] at h
    cases hi : ops[i]? with
    | none => rw [hi] at h; exact h.elim
    | some o =>
      rw [hi] at h
      simp only at h
      cases hw : Region.wanted o (yielded ops a.tmps) with
      | true =>
        rw [hw] at h
        obtain ⟨h1, h2⟩ := h.out
        obtain ⟨h3, h4⟩ := checks_out l h2
        refine ⟨h3, fun j hj o' ho' hw' => ?_⟩
        rcases List.mem_cons.1 hj with rfl | hj
        · rw [hi] at ho'; cases ho'; exact h1
        · exact h4 j hj o' ho' hw'
      | false =>
        rw [hw] at h
        obtain ⟨h3, h4⟩ := checks_out l h
        refine ⟨h3, fun j hj o' ho' hw' => ?_⟩
        rcases List.mem_cons.1 hj with rfl | hj
        · rw [hi] at ho'; cases ho'; rw [hw] at hw'; cases hw'
        · exact h4 j hj o' ho' hw'

theorem ifWanted_wp' {i : Nat} {aa ac : Act} {w : World} {next K : Act → World → Prop} {run : Oper → Pr} (h : ifWanted ops i ac next run w)
    (hsame : ∀ o, ops[i]? = some o → Region.wanted o (yielded ops aa.tmps) = Region.wanted o (yielded ops ac.tmps))
    (hr : ∀ o, ops[i]? = some o → run o w → o.wpIn (Fr ro) 0 P aa w K Q) (hn : ∀ o, ops[i]? = some o → next (ac.put o.dst undef) w → K (aa.put o.dst undef) w) :
    wpOpIn (Fr ro) 0 P ops Q i K aa w := by
  unfold ifWanted at h
  unfold wpOpIn
  cases ho : ops[i]? with
  | none => simp [ho] at h
  | some o =>
    simp only [ho] at h ⊢
    rw [hsame o ho]
    cases hw : Region.wanted o (yielded ops ac.tmps) with
    | true => simp only [hw, if_true] at h ⊢; exact hr o ho h
    | false => simp only [hw] at h ⊢; exact ⟨fun _ _ => trivial, hn o ho h⟩

theorem takeV_wp' {m : Mode} {o : Oper} {aa ac : Act} {w : World} {next K : Act → World → Prop} (he : execOp aa.eval o = execOp ac.eval o) (h : takeV P m o ac next w)
    (hk : ∀ v, next (ac.put o.dst v) w → K (aa.put o.dst v) w) : o.wpIn (Fr ro) 0 P aa w K Q := by
  cases m with
  | pure =>
    simp only [takeV] at h
    cases hv : pureRun P (execOp ac.eval o) with
    | none => rw [hv] at h; exact h.elim
    | some n =>
      rw [hv] at h
      cases n <;> first | exact h.elim | exact wp_value (by rw [he]; exact pureRun_sound _ hv w) (hk _ h)
  | val t => obtain ⟨x, hx, hn⟩ := h.out; exact wp_value (by rw [he]; exact hx w) (hk _ hn)
  | get t => obtain ⟨x, hx, hn⟩ := h.out; exact wp_value (by rw [he]; exact hx) (hk _ hn)

theorem callV_wp' {t : Ty} {o : Oper} {aa ac : Act} {w : World} {next K : Act → World → Prop} (he : execOp aa.eval o = execOp ac.eval o) (h : callV P t o ac next w)
    (hk : ∀ v w', next (ac.put o.dst v) w' → K (aa.put o.dst v) w') : o.wpIn (Fr ro) 0 P aa w K Q := by
  simp only [callV] at h
  cases hv : pureRun P (execOp ac.eval o) with
  | none => rw [hv] at h; exact h.elim
  | some n =>
    rw [hv] at h
    cases n
    case enter f args =>
      refine ⟨fun _ _ => trivial, ?_⟩
      rw [semAt_run (by rw [he]; exact pureRun_sound _ hv w) (fun d hd => by cases hd), Oper.uponIn_enter]
      refine ⟨fun h => (by cases h), CallsIn.mono (calls_fr.2 h.out) fun e w' he => ?_⟩
      obtain ⟨x, rfl, hn⟩ := he
      exact hk _ _ hn
    all_goals exact h.elim

/-- what a take leaves: its promise -/
theorem takeV_prom {m : Mode} {o : Oper} {a : Act} {w : World} {next : Act → World → Prop} (h : takeV P m o a next w) {d : Tmp}
    (hd : o.dst = some d) (hlt : d < a.tmps.size) :
    ∃ v, next (a.put o.dst v) w ∧ slot (a.put o.dst v) d = v ∧ ∀ w', (m.isGet = true → w' = w) → (execOp a.eval o).run P w' = .ok (.value v) w' := by
  have hs : ∀ v, slot (a.put o.dst v) d = v := fun v => by rw [hd, put_some, slot_set, if_pos ⟨rfl, hlt⟩]
  cases m with
  | pure =>
    simp only [takeV] at h
    cases hv : pureRun P (execOp a.eval o) with
    | none => rw [hv] at h; exact h.elim
    | some n =>
      rw [hv] at h
      cases n <;> first | exact h.elim | exact ⟨_, h, hs _, fun w' _ => pureRun_sound _ hv w'⟩
  | val t => obtain ⟨x, hx, hn⟩ := h.out; exact ⟨_, hn, hs _, fun w' _ => hx w'⟩
  | get t => obtain ⟨x, hx, hn⟩ := h.out; exact ⟨_, hn, hs _, fun w' hw' => by rw [hw' rfl]; exact hx⟩

theorem drawOk_fresh {N : Nat} : ∀ (ds : DSteps) (done : List Nat) (pend : List (Nat × Bool)) (al : List Nat), drawOk ops N done pend al ds = true → ∀ k ∈ ds.idx, k ∉ done
  | .nil, _, _, _, _, k, hk => by cases hk
  | .split _ r, done, pend, al, h, k, hk => by
    simp only [drawOk, Bool.and_eq_true] at h
    exact drawOk_fresh r done pend _ h.2 k hk
  | .alt r1 _, done, pend, al, h, k, hk => by
    simp only [drawOk, Bool.and_eq_true] at h
    exact drawOk_fresh r1 done pend _ h.2.1.1.1.1.2 k hk
  | .take i m r, done, pend, al, h, k, hk => by
    simp only [drawOk, Bool.and_eq_true] at h
    rcases List.mem_cons.1 hk with rfl | hk
    · simpa using h.2.1.1.1.2
    · exact fun hd => drawOk_fresh r _ _ _ h.2.2 k hk (List.mem_cons_of_mem _ hd)
  | .now i _ chk r, done, pend, al, h, k, hk => by
    simp only [drawOk, eventOk, Bool.and_eq_true] at h
    rcases List.mem_cons.1 hk with rfl | hk
    · simpa using h.1.1.1.1.2
    · exact fun hd => drawOk_fresh r _ _ _ h.2 k hk (List.mem_cons_of_mem _ hd)
  | .eff i _ chk r, done, pend, al, h, k, hk => by
    simp only [drawOk, eventOk, Bool.and_eq_true] at h
    rcases List.mem_cons.1 hk with rfl | hk
    · simpa using h.1.1.1.1.2
    · exact fun hd => drawOk_fresh r _ _ _ h.2 k hk (List.mem_cons_of_mem _ hd)
  | .effU i chk r, done, pend, al, h, k, hk => by
    simp only [drawOk, eventOk, Bool.and_eq_true] at h
    rcases List.mem_cons.1 hk with rfl | hk
    · simpa using h.1.1.1.1.2
    · exact fun hd => drawOk_fresh r _ _ _ h.2 k hk (List.mem_cons_of_mem _ hd)
  | .call i _ chk r, done, pend, al, h, k, hk => by
    simp only [drawOk, eventOk, Bool.and_eq_true] at h
    rcases List.mem_cons.1 hk with rfl | hk
    · simpa using h.1.1.1.1.2
    · exact fun hd => drawOk_fresh r _ _ _ h.2 k hk (List.mem_cons_of_mem _ hd)
  | .inv i _ chk r, done, pend, al, h, k, hk => by
    simp only [drawOk, eventOk, Bool.and_eq_true] at h
    rcases List.mem_cons.1 hk with rfl | hk
    · simpa using h.1.1.1.1.2
    · exact fun hd => drawOk_fresh r _ _ _ h.2 k hk (List.mem_cons_of_mem _ hd)

/-- the state of a walk: what is done (by the canonical order), what of it has not come up yet -/
structure St (P : Program) (ops : Array Oper) (N : Nat) (done : List Nat) (pend p : List (Nat × Bool)) (idx : List Nat) (listed : Array Bool) (aa ac : Act) (w : World) : Prop where
  sub : ∀ k ∈ p, k ∈ pend
  nodup : (p.map (·.1)).Nodup
  pdone : ∀ k ∈ pend, k.1 ∈ done
  ord : OrdD ops done
  cover : ∀ i, i < ops.size → i ∈ done ∨ i ∈ idx
  inb : ∀ i ∈ done, i < ops.size
  size : listed.size = ops.size
  mark : ∀ i, i < ops.size → (listed.getD i false = true ↔ i ∈ done ∧ i ∉ p.map (·.1))
  frames : Frames ops p aa ac
  acN : ac.tmps.size = N
  prom : ∀ k ∈ p, Prom P ops k ac w
  pair : ∀ x ∈ pend, ∀ y ∈ pend, x.1 = y.1 ∨ x.1 ∈ preds ops y.1 ∨ blind ops x.1 y.1 = true
  self : ∀ x ∈ pend, blind ops x.1 x.1 = true


theorem preds_some {i : Nat} {o : Oper} (h : ops[i]? = some o) {e : Edge} (he : e ∈ o.after) (hb : Region.binds .any e = true) : e.on ∈ preds ops i := by
  simp only [preds, h, List.mem_map, List.mem_filter]
  exact ⟨e, ⟨by simpa using he, hb⟩, rfl⟩
theorem mem_preds {i k : Nat} {o : Oper} (h : ops[i]? = some o) (hk : k ∈ preds ops i) : ∃ e ∈ o.after, Region.binds .any e = true ∧ e.on = k := by
  simp only [preds, h, List.mem_map, List.mem_filter] at hk
  obtain ⟨e, ⟨h1, h2⟩, h3⟩ := hk
  exact ⟨e, by simpa using h1, h2, h3⟩

theorem ready_preds {i : Nat} {listed : Array Bool} (h : i ∈ Region.ready .any ops listed) :
    (∃ o, ops[i]? = some o) ∧ listed.getD i true = false ∧ ∀ k ∈ preds ops i, listed.getD k false = true := by
  obtain ⟨hun, o, ho, hall⟩ := mem_ready.1 h
  refine ⟨⟨o, ho⟩, hun, fun k hk => ?_⟩
  obtain ⟨e, he, hb, rfl⟩ := mem_preds ho hk
  exact hall e he hb
theorem ready_of {i : Nat} {o : Oper} {listed : Array Bool} (ho : ops[i]? = some o) (hun : listed.getD i true = false) (h : ∀ k ∈ preds ops i, listed.getD k false = true) :
    i ∈ Region.ready .any ops listed :=
  mem_ready.2 ⟨hun, o, ho, fun _ he hb => h _ (preds_some ho he hb)⟩

theorem getD_tf {listed : Array Bool} {i : Nat} (h : i < listed.size) : listed.getD i true = false ↔ ¬ listed.getD i false = true := by
  simp [Array.getD_eq_getD_getElem?, h]
theorem lt_of_some {i : Nat} {o : Oper} (h : ops[i]? = some o) : i < ops.size := by
  rcases Nat.lt_or_ge i ops.size with h' | h'
  · exact h'
  · simp [Array.getElem?_eq_none h'] at h

section
variable {N : Nat} {done : List Nat} {pend p : List (Nat × Bool)} {idx : List Nat} {listed : Array Bool} {aa ac : Act} {w : World}

/-- what comes up is pending, or not done -/
theorem St.ready (h : St P ops N done pend p idx listed aa ac w) {j : Nat} (hj : j ∈ Region.ready .any ops listed) :
    j ∈ p.map (·.1) ∨ (j ∉ done ∧ j ∈ idx) := by
  obtain ⟨⟨o, ho⟩, hun, _⟩ := ready_preds hj
  have hlt := lt_of_some ho
  rw [getD_tf (h.size ▸ hlt), h.mark j hlt] at hun
  by_cases hp : j ∈ p.map (·.1)
  · exact .inl hp
  · have : j ∉ done := fun hd => hun ⟨hd, hp⟩
    exact .inr ⟨this, (h.cover j hlt).resolve_left this⟩

/-- of what is pending something comes up -/
theorem St.some_ready (h : St P ops N done pend p idx listed aa ac w) (hne : p ≠ []) : Region.ready .any ops listed ≠ [] := by
  obtain ⟨k, hk, hpre⟩ := OrdD.first done (p.map (·.1)) h.ord (fun k hk => by
    obtain ⟨x, hx, rfl⟩ := List.mem_map.1 hk
    exact h.pdone x (h.sub x hx)) (by simpa using hne)
  obtain ⟨x, hx, rfl⟩ := List.mem_map.1 hk
  obtain ⟨o, d, ho, _⟩ := h.prom x hx
  have hlt := lt_of_some ho
  have : x.1 ∈ Region.ready .any ops listed := by
    refine ready_of ho ?_ fun j hj => ?_
    · rw [getD_tf (h.size ▸ hlt), h.mark _ hlt]
      exact fun hh => hh.2 hk
    · obtain ⟨h1, h2⟩ := hpre j hj
      exact (h.mark j (h.inb j h1)).2 ⟨h1, h2⟩
  intro he
  rw [he] at this
  cases this

/-- pending operations look the same in both frames, once they come up -/
theorem St.same (hsel : Region.noSelect ops = true) (h : St P ops N done pend p idx listed aa ac w) {j : Nat} {o : Oper} (ho : ops[j]? = some o)
    (hb : ∀ k ∈ p, k.1 = j ∨ blind ops k.1 j = true) (hself : (∃ k ∈ p, k.1 = j) → blind ops j j = true) :
    execOp aa.eval o = execOp ac.eval o ∧ Region.wanted o (yielded ops aa.tmps) = Region.wanted o (yielded ops ac.tmps) := by
  refine look_congr (noSel hsel ho) h.frames.2.1 fun x hx => h.frames.2.2 x fun k hk he => ?_
  rcases hb k hk with hkj | hkj
  · have := blind_spec (hself ⟨k, hk, hkj⟩) (hkj ▸ he) ho
    exact this hx
  · exact blind_spec hkj he ho hx

/-- one pending operation comes up -/
theorem St.pop (h : St P ops N done pend p idx listed aa ac w) {k : Nat × Bool} (hk : k ∈ p) {o : Oper} {d : Tmp} (ho : ops[k.1]? = some o) (hd : o.dst = some d) :
    St P ops N done pend (p.filter fun x => x.1 != k.1) idx (listed.setIfInBounds k.1 true) (aa.put o.dst (slot ac d)) ac w where
  sub := fun x hx => h.sub x (List.mem_filter.1 hx).1
  nodup := by
    exact (List.filter_sublist.map _).nodup h.nodup
  pdone := h.pdone
  ord := h.ord
  cover := h.cover
  inb := h.inb
  size := by rw [Array.size_setIfInBounds]; exact h.size
  mark := fun i hi => by
    have hm := h.mark i hi
    have hkd := h.pdone k (h.sub k hk)
    have hlt := h.inb _ hkd
    by_cases he : k.1 = i
    · subst he
      have h1 : (listed.setIfInBounds k.1 true).getD k.1 false = true := by
        simp [Array.getD_eq_getD_getElem?, h.size, hlt]
      refine ⟨fun _ => ⟨hkd, ?_⟩, fun _ => h1⟩
      intro hmem
      obtain ⟨x, hx, hxe⟩ := List.mem_map.1 hmem
      have := (List.mem_filter.1 hx).2
      simp [hxe] at this
    · rw [getD_set_ne false he, hm]
      refine and_congr_right fun _ => not_congr ⟨fun hmem => ?_, fun hmem => ?_⟩
      · obtain ⟨x, hx, hxe⟩ := List.mem_map.1 hmem
        exact List.mem_map.2 ⟨x, List.mem_filter.2 ⟨hx, by simp [hxe, Ne.symm he]⟩, hxe⟩
      · obtain ⟨x, hx, hxe⟩ := List.mem_map.1 hmem
        exact List.mem_map.2 ⟨x, (List.mem_filter.1 hx).1, hxe⟩
  frames := by
    refine ⟨by rw [hd]; exact h.frames.1, by rw [size_put]; exact h.frames.2.1, fun x hx => ?_⟩
    rw [hd, put_some, slot_set]
    by_cases hdx : d = x
    · subst hdx
      by_cases hlt : d < aa.tmps.size
      · rw [if_pos ⟨rfl, hlt⟩]
      · rw [if_neg (fun h' => hlt h'.2)]
        have hlt' : ¬ d < ac.tmps.size := by rw [← h.frames.2.1]; exact hlt
        simp [slot, Array.getD_eq_getD_getElem?, hlt, hlt']
    · rw [if_neg (fun h' => hdx h'.1)]
      refine h.frames.2.2 x fun y hy he => ?_
      by_cases hyk : y.1 = k.1
      · rw [hyk] at he
        simp [dstIs, ho, hd] at he
        exact hdx he
      · exact hx y (List.mem_filter.2 ⟨hy, by simpa using hyk⟩) he
  acN := h.acN
  prom := fun x hx => h.prom x (List.mem_filter.1 hx).1
  pair := h.pair
  self := h.self

theorem length_pop : ∀ (p : List (Nat × Bool)) (k : Nat × Bool), (p.map (·.1)).Nodup → k ∈ p → (p.filter fun x => x.1 != k.1).length + 1 = p.length
  | [], k, _, hk => by cases hk
  | y :: p, k, hn, hk => by
    simp only [List.map_cons, List.nodup_cons] at hn
    rcases List.mem_cons.1 hk with rfl | hk
    · have : p.filter (fun x => x.1 != k.1) = p := by
        refine List.filter_eq_self.2 fun x hx => ?_
        have : x.1 ≠ k.1 := fun he => hn.1 (List.mem_map.2 ⟨x, hx, he⟩)
        simpa using this
      simp [this]
    · have hne : y.1 ≠ k.1 := fun he => hn.1 (List.mem_map.2 ⟨k, hk, he.symm⟩)
      have := length_pop p k hn.2 hk
      rw [List.filter_cons, if_pos (by simpa using hne)]
      simp only [List.length_cons]
      omega

/-- the pending one that comes up runs as promised -/
theorem St.run_pop (hsel : Region.noSelect ops = true) (h : St P ops N done pend p idx listed aa ac w) {j : Nat} (hj : j ∈ Region.ready .any ops listed)
    (hp : j ∈ p.map (·.1)) {K : Act → World → Prop}
    (hK : ∀ (k : Nat × Bool) (o : Oper) (d : Tmp), k ∈ p → k.1 = j → ops[k.1]? = some o → o.dst = some d → K (aa.put o.dst (slot ac d)) w) : wpOpIn (Fr ro) 0 P ops Q j K aa w := by
  obtain ⟨k, hk, rfl⟩ := List.mem_map.1 hp
  obtain ⟨o, d, ho, hd, hlt, hcase⟩ := h.prom k hk
  obtain ⟨_, hun, hpre⟩ := ready_preds hj
  have hnot : ∀ x ∈ p, x.1 ∉ preds ops k.1 := fun x hx hxp => by
    have h1 := hpre _ hxp
    have h2 := h.inb _ (h.pdone x (h.sub x hx))
    exact ((h.mark _ h2).1 h1).2 (List.mem_map.2 ⟨x, hx, rfl⟩)
  obtain ⟨he, hw⟩ := h.same hsel ho (fun x hx => by
    rcases h.pair x (h.sub x hx) k (h.sub k hk) with h1 | h1 | h1
    · exact .inl h1
    · exact absurd h1 (hnot x hx)
    · exact .inr h1) (fun _ => h.self k (h.sub k hk))
  have hK' := hK k o d hk rfl ho hd
  unfold wpOpIn
  simp only [ho]
  rcases hcase with ⟨h1, h2⟩ | ⟨h1, h2⟩
  · rw [hw, h1]
    simp only [if_true]
    exact wp_value (by rw [he]; exact h2 w (fun _ => rfl)) hK'
  · rw [hw, h1]
    simp only [Bool.false_eq_true, if_false]
    rw [← h2]; exact ⟨fun _ _ => trivial, hK'⟩

/-- behind an act -/
theorem St.event (hsel : Region.noSelect ops = true) {i : Nat} {chk al rest : List Nat} (h : St P ops N done pend p (i :: rest) listed aa ac w) (hok : eventOk ops i chk done pend al rest = true)
    (hi : i ∈ Region.ready .any ops listed) {o : Oper} (ho : ops[i]? = some o) (v : Value) {w' : World}
    (hchk : w' = w ∨ ∀ j ∈ chk, ∀ o', ops[j]? = some o' → Region.wanted o' (yielded ops (ac.put o.dst v).tmps) = true →
      (execOp (ac.put o.dst v).eval o').run P w' = .ok (.value (match o'.dst with | some d => slot (ac.put o.dst v) d | none => undef)) w') :
    St P ops N (i :: done) (pend.filter fun k => !(preds ops i).contains k.1) p rest (listed.setIfInBounds i true) (aa.put o.dst v) (ac.put o.dst v) w' := by
  simp only [eventOk, Bool.and_eq_true] at hok
  obtain ⟨⟨⟨⟨_, hfresh⟩, hpd⟩, hq⟩, hrest⟩ := hok
  have hfresh : i ∉ done := by simpa using hfresh
  obtain ⟨_, hun, hpre⟩ := ready_preds hi
  have hnot : ∀ x ∈ p, x.1 ∉ preds ops i := fun x hx hxp => by
    have h1 := hpre _ hxp
    have h2 := h.inb _ (h.pdone x (h.sub x hx))
    exact ((h.mark _ h2).1 h1).2 (List.mem_map.2 ⟨x, hx, rfl⟩)
  have hsub : ∀ k ∈ p, k ∈ pend.filter fun k => !(preds ops i).contains k.1 := fun k hk =>
    List.mem_filter.2 ⟨h.sub k hk, by simpa using hnot k hk⟩
  have hprop : ∀ k ∈ p, (k.2 = true → k.1 ∈ chk) ∧ blind ops i k.1 = true ∧ blind ops k.1 i = true ∧ unlike ops k.1 i = true := fun k hk => by
    have := List.all_eq_true.1 hq k (hsub k hk)
    simp only [Bool.and_eq_true, Bool.or_eq_true] at this
    refine ⟨fun hg => ?_, this.1.1.2, this.1.2, this.2⟩
    rcases this.1.1.1 with h1 | h1
    · rw [hg] at h1; simp at h1
    · simpa using h1
  have hlt := lt_of_some ho
  exact {
    sub := hsub
    nodup := h.nodup
    pdone := fun k hk => List.mem_cons_of_mem _ (h.pdone k (List.mem_filter.1 hk).1)
    ord := ⟨fun k hk => by simpa using List.all_eq_true.1 hpd k hk, h.ord⟩
    cover := fun j hj => by
      rcases h.cover j hj with h1 | h1
      · exact .inl (List.mem_cons_of_mem _ h1)
      · rcases List.mem_cons.1 h1 with rfl | h1
        · exact .inl (by simp)
        · exact .inr h1
    inb := fun j hj => by
      rcases List.mem_cons.1 hj with rfl | hj
      · exact hlt
      · exact h.inb j hj
    size := by rw [Array.size_setIfInBounds]; exact h.size
    mark := fun j hj => by
      by_cases he : i = j
      · subst he
        have h1 : (listed.setIfInBounds i true).getD i false = true := by simp [Array.getD_eq_getD_getElem?, h.size, hlt]
        refine ⟨fun _ => ⟨by simp, fun hm => ?_⟩, fun _ => h1⟩
        obtain ⟨x, hx, hxe⟩ := List.mem_map.1 hm
        exact hfresh (hxe ▸ h.pdone x (h.sub x hx))
      · rw [getD_set_ne false he, h.mark j hj]
        refine and_congr_left fun _ => ⟨fun h1 => List.mem_cons_of_mem _ h1, fun h1 => ?_⟩
        rcases List.mem_cons.1 h1 with h1 | h1
        · exact absurd h1.symm he
        · exact h1
    frames := by
      refine ⟨?_, by rw [size_put, size_put]; exact h.frames.2.1, fun x hx => ?_⟩
      · cases o.dst <;> exact h.frames.1
      · cases hd : o.dst with
        | none => exact h.frames.2.2 x hx
        | some d =>
          rw [put_some, put_some, slot_set, slot_set, h.frames.2.1]
          split
          · rfl
          · exact h.frames.2.2 x hx
    acN := by rw [size_put]; exact h.acN
    prom := fun k hk => by
      obtain ⟨h1, h2, h3, h4⟩ := hprop k hk
      refine (h.prom k hk).put hsel ho h2 h4 fun hg => ?_
      rcases hchk with hw | hc
      · exact .inl hw
      · exact .inr (hc k.1 (h1 hg))
    pair := fun x hx y hy => h.pair x (List.mem_filter.1 hx).1 y (List.mem_filter.1 hy).1
    self := fun x hx => h.self x (List.mem_filter.1 hx).1 }

/-- an act looks the same in both frames, when it comes up -/
theorem St.event_same (hsel : Region.noSelect ops = true) {i : Nat} {chk al rest : List Nat} (h : St P ops N done pend p (i :: rest) listed aa ac w) (hok : eventOk ops i chk done pend al rest = true)
    (hi : i ∈ Region.ready .any ops listed) {o : Oper} (ho : ops[i]? = some o) :
    execOp aa.eval o = execOp ac.eval o ∧ Region.wanted o (yielded ops aa.tmps) = Region.wanted o (yielded ops ac.tmps) := by
  simp only [eventOk, Bool.and_eq_true] at hok
  obtain ⟨⟨⟨⟨_, hfresh⟩, hpd⟩, hq⟩, hrest⟩ := hok
  have hfresh : i ∉ done := by simpa using hfresh
  obtain ⟨_, hun, hpre⟩ := ready_preds hi
  have hnot : ∀ x ∈ p, x.1 ∉ preds ops i := fun x hx hxp => by
    have h1 := hpre _ hxp
    have h2 := h.inb _ (h.pdone x (h.sub x hx))
    exact ((h.mark _ h2).1 h1).2 (List.mem_map.2 ⟨x, hx, rfl⟩)
  refine h.same hsel ho (fun k hk => .inr ?_) fun ⟨k, hk, hki⟩ => absurd (hki ▸ h.pdone k (h.sub k hk)) hfresh
  have := List.all_eq_true.1 hq k (List.mem_filter.2 ⟨h.sub k hk, by simpa using hnot k hk⟩)
  simp only [Bool.and_eq_true] at this
  exact this.1.2

/-- ahead of an act nothing else comes up -/
theorem St.only (h : St P ops N done pend p idx listed aa ac w) {i : Nat} {chk al rest : List Nat} (hidx : idx = i :: rest) (hok : eventOk ops i chk done pend al rest = true)
    (hfr : ∀ k ∈ i :: rest, k ∉ done) {j : Nat} (hj : j ∈ Region.ready .any ops listed) (hp : j ∉ p.map (·.1)) : j = i ∨ j ∈ al := by
  rcases h.ready hj with h1 | ⟨h1, h2⟩
  · exact absurd h1 hp
  · rw [hidx] at h2
    rcases List.mem_cons.1 h2 with h2 | h2
    · exact .inl h2
    · simp only [eventOk, Bool.and_eq_true] at hok
      have := List.all_eq_true.1 hok.2 j h2
      rw [Bool.or_eq_true] at this
      rcases this with this | this
      · exact .inr (by simpa using this)
      obtain ⟨k, hk, hk'⟩ := List.any_eq_true.1 this
      have hk' : k ∈ i :: rest := by simpa using hk'
      obtain ⟨⟨o, ho⟩, _, hpre⟩ := ready_preds hj
      have h3 := hpre k hk
      have hlt : k < ops.size := by
        rcases Nat.lt_or_ge k listed.size with h' | h'
        · rw [← h.size]; exact h'
        · rw [Array.getD_eq_getD_getElem?, Array.getElem?_eq_none h'] at h3; cases h3
      exact absurd ((h.mark k hlt).1 h3).1 (hfr k hk')

theorem St.event_ready {i : Nat} {chk al rest : List Nat} (h : St P ops N done pend p idx listed aa ac w) (hok : eventOk ops i chk done pend al rest = true) :
    Region.ready .any ops listed ≠ [] := by
  by_cases hp : p = []
  · simp only [eventOk, Bool.and_eq_true] at hok
    obtain ⟨⟨⟨⟨hs, hfresh⟩, hpd⟩, _⟩, _⟩ := hok
    have hfresh : i ∉ done := by simpa using hfresh
    obtain ⟨o, ho⟩ := Option.isSome_iff_exists.1 hs
    have hlt := lt_of_some ho
    have : i ∈ Region.ready .any ops listed := by
      refine ready_of ho ?_ fun k hk => ?_
      · rw [getD_tf (h.size ▸ hlt), h.mark _ hlt]
        exact fun hh => hfresh hh.1
      · have hkd : k ∈ done := by simpa using List.all_eq_true.1 hpd k hk
        exact (h.mark k (h.inb k hkd)).2 ⟨hkd, by rw [hp]; simp⟩
    intro he
    rw [he] at this
    cases this
  · exact h.some_ready hp

end

section
variable {N : Nat}

/-- taking one early -/
theorem St.take (hsel : Region.noSelect ops = true) {done : List Nat} {pend p : List (Nat × Bool)} {listed : Array Bool} {aa ac : Act} {w : World} {i : Nat} {m : Mode} {rest : List Nat}
    (h : St P ops N done pend p (i :: rest) listed aa ac w) {d : Tmp} (hlt : d < N) (hself : blind ops i i = true) (hfresh : i ∉ done) (hpd : ∀ k ∈ preds ops i, k ∈ done)
    (hp : ∀ k ∈ pend, blind ops i k.1 = true ∧ unlike ops k.1 i = true ∧ (k.1 ∈ preds ops i ∨ blind ops k.1 i = true))
    {o : Oper} (ho : ops[i]? = some o) (hd : o.dst = some d) (v : Value)
    (hrun : (Region.wanted o (yielded ops ac.tmps) = true ∧ ∀ w', (m.isGet = true → w' = w) → (execOp ac.eval o).run P w' = .ok (.value v) w') ∨
      (Region.wanted o (yielded ops ac.tmps) = false ∧ v = undef)) :
    St P ops N (i :: done) ((i, m.isGet) :: pend) ((i, m.isGet) :: p) rest listed aa (ac.put o.dst v) w where
  sub := fun k hk => by
    rcases List.mem_cons.1 hk with rfl | hk
    · simp
    · exact List.mem_cons_of_mem _ (h.sub k hk)
  nodup := by
    simp only [List.map_cons, List.nodup_cons]
    refine ⟨fun hm => ?_, h.nodup⟩
    obtain ⟨x, hx, hxe⟩ := List.mem_map.1 hm
    exact hfresh (hxe ▸ h.pdone x (h.sub x hx))
  pdone := fun k hk => by
    rcases List.mem_cons.1 hk with rfl | hk
    · simp
    · exact List.mem_cons_of_mem _ (h.pdone k hk)
  ord := ⟨hpd, h.ord⟩
  cover := fun j hj => by
    rcases h.cover j hj with h1 | h1
    · exact .inl (List.mem_cons_of_mem _ h1)
    · rcases List.mem_cons.1 h1 with rfl | h1
      · exact .inl (by simp)
      · exact .inr h1
  inb := fun j hj => by
    rcases List.mem_cons.1 hj with rfl | hj
    · exact lt_of_some ho
    · exact h.inb j hj
  size := h.size
  mark := fun j hj => by
    rw [h.mark j hj]
    simp only [List.map_cons, List.mem_cons, not_or]
    constructor
    · rintro ⟨h1, h2⟩
      exact ⟨.inr h1, fun he => hfresh (he ▸ h1), h2⟩
    · rintro ⟨h1 | h1, h2, h3⟩
      · exact absurd h1 h2
      · exact ⟨h1, h3⟩
  frames := by
    refine ⟨by rw [hd]; exact h.frames.1, by rw [size_put]; exact h.frames.2.1, fun x hx => ?_⟩
    have hxd : d ≠ x := fun he => hx (i, m.isGet) (by simp) (by simp [dstIs, ho, hd, he])
    rw [hd, put_some, slot_set, if_neg (fun h' => hxd h'.1)]
    exact h.frames.2.2 x fun k hk => hx k (List.mem_cons_of_mem _ hk)
  acN := by rw [size_put]; exact h.acN
  prom := fun k hk => by
    rcases List.mem_cons.1 hk with rfl | hk
    · obtain ⟨h1, h2⟩ := put_look hsel ho ho hself ac v
      have hs : slot (ac.put o.dst v) d = v := by rw [hd, put_some, slot_set, if_pos ⟨rfl, by rw [h.acN]; exact hlt⟩]
      refine ⟨o, d, ho, hd, by rw [size_put, h.acN]; exact hlt, ?_⟩
      rcases hrun with ⟨h3, h4⟩ | ⟨h3, h4⟩
      · exact .inl ⟨by rw [h2]; exact h3, fun w' hw' => by rw [h1, hs]; exact h4 w' hw'⟩
      · exact .inr ⟨by rw [h2]; exact h3, by rw [hs]; exact h4⟩
    · obtain ⟨h1, h2, _⟩ := hp k (h.sub k hk)
      exact (h.prom k hk).put hsel ho h1 h2 fun _ => .inl rfl
  pair := fun x hx y hy => by
    rcases List.mem_cons.1 hx with rfl | hx <;> rcases List.mem_cons.1 hy with rfl | hy
    · exact .inl rfl
    · exact .inr (.inr (hp y hy).1)
    · exact .inr ((hp x hx).2.2)
    · exact h.pair x hx y hy
  self := fun x hx => by
    rcases List.mem_cons.1 hx with rfl | hx
    · exact hself
    · exact h.self x hx

/-- what an act with checks leaves, or one that is passed over -/
def After (P : Program) (ops : Array Oper) (chk : List Nat) (V : Act → Pr) (o : Oper) (ac : Act) (w : World) (v : Value) (w' : World) : Prop :=
  checksV P ops (ac.put o.dst v) (V (ac.put o.dst v)) chk w' ∨ (w' = w ∧ V (ac.put o.dst v) w')

theorem After.fact {chk : List Nat} {V : Act → Pr} {o : Oper} {ac : Act} {w w' : World} {v : Value} (h : After P ops chk V o ac w v w') :
    V (ac.put o.dst v) w' ∧ (w' = w ∨ ∀ j ∈ chk, ∀ o', ops[j]? = some o' → Region.wanted o' (yielded ops (ac.put o.dst v).tmps) = true →
      (execOp (ac.put o.dst v).eval o').run P w' = .ok (.value (match o'.dst with | some d => slot (ac.put o.dst v) d | none => undef)) w') := by
  rcases h with h | ⟨h1, h2⟩
  · obtain ⟨h1, h2⟩ := checks_out chk h
    exact ⟨h1, .inr h2⟩
  · exact ⟨h2, .inl h1⟩

/-- **every order** -/
def isAct : DSteps → Bool
  | .now .. | .eff .. | .effU .. | .call .. | .inv .. => true
  | _ => false

theorem St.perm {done : List Nat} {pend p : List (Nat × Bool)} {idx idx' : List Nat} {listed : Array Bool} {aa ac : Act} {w : World} (h : St P ops N done pend p idx listed aa ac w) (hi : ∀ k ∈ idx, k ∈ idx') :
    St P ops N done pend p idx' listed aa ac w := { h with cover := fun i hl => (h.cover i hl).imp id (hi i) }

/-- what an act leads to, when it comes up -/
theorem act_step (hsel : Region.noSelect ops = true) (a0 : Act) (next : Act → Pr) {n : Nat}
    (agr : ∀ {i : Nat} {o : Oper} {ac : Act} (v : Value), ops[i]? = some o → Agree (dsts ops (List.range ops.size)) a0 ac → Agree (dsts ops (List.range ops.size)) a0 (ac.put o.dst v))
    (ihn : ∀ (ds : DSteps) (done : List Nat) (pend p : List (Nat × Bool)) (listed : Array Bool) (aa ac : Act) (w : World),
      drawOk ops N done pend [] ds = true → St P ops N done pend p ds.idx listed aa ac w → vcDraw P ops ds next ac w →
      Agree (dsts ops (List.range ops.size)) a0 ac → n = p.length + ds.idx.length → wpAnyIn (Fr ro) 0 P .any ops Q n listed aa w)
    (ds : DSteps) (hact : isAct ds = true) (al done : List Nat) (pend p : List (Nat × Bool)) (listed : Array Bool) (aa ac : Act) (w : World)
    (hok : drawOk ops N done pend al ds = true) (h : St P ops N done pend p ds.idx listed aa ac w) (hV : vcDraw P ops ds next ac w)
    (hag : Agree (dsts ops (List.range ops.size)) a0 ac) (hn : n + 1 = p.length + ds.idx.length) :
    ∃ i chk rest, ds.idx = i :: rest ∧ eventOk ops i chk done pend al rest = true ∧
      (i ∈ Region.ready .any ops listed → wpOpIn (Fr ro) 0 P ops Q i (wpAnyIn (Fr ro) 0 P .any ops Q n (listed.setIfInBounds i true)) aa w) := by
  have core : ∀ (i : Nat) (chk : List Nat) (r : DSteps), ds.idx = i :: r.idx → eventOk ops i chk done pend al r.idx = true → drawOk ops N (i :: done) (pend.filter fun k => !(preds ops i).contains k.1) [] r = true →
      (∀ K : Act → World → Prop, (∀ o, ops[i]? = some o → execOp aa.eval o = execOp ac.eval o ∧ Region.wanted o (yielded ops aa.tmps) = Region.wanted o (yielded ops ac.tmps)) →
          (∀ o v w', ops[i]? = some o → After P ops chk (vcDraw P ops r next) o ac w v w' → K (aa.put o.dst v) w') → wpOpIn (Fr ro) 0 P ops Q i K aa w) →
      ∃ i chk rest, ds.idx = i :: rest ∧ eventOk ops i chk done pend al rest = true ∧
      (i ∈ Region.ready .any ops listed → wpOpIn (Fr ro) 0 P ops Q i (wpAnyIn (Fr ro) 0 P .any ops Q n (listed.setIfInBounds i true)) aa w) := by
    intro i chk r hidx hev hokr hrun
    refine ⟨i, chk, r.idx, hidx, hev, fun hj => ?_⟩
    rw [hidx] at h
    refine hrun _ (fun o ho => h.event_same hsel hev hj ho) fun o v w' ho hafter => ?_
    obtain ⟨h1, h2⟩ := hafter.fact
    refine ihn r _ _ p _ _ _ w' hokr (h.event hsel hev hj ho v h2) h1 (agr v ho hag) ?_
    rw [hidx] at hn
    simp only [List.length_cons] at hn
    omega
  cases ds with
  | now i m chk r =>
    have hok' := hok
    simp only [drawOk, Bool.and_eq_true] at hok'
    refine core i chk r rfl hok'.1 hok'.2 fun K hs hK => ?_
    exact ifWanted_wp' hV (fun o ho => (hs o ho).2) (fun o ho hr => takeV_wp' (hs o ho).1 hr fun v hv => hK o v _ ho (.inl hv)) fun o ho hv => hK o _ _ ho (.inr ⟨rfl, hv⟩)
  | eff i t chk r =>
    have hok' := hok
    simp only [drawOk, Bool.and_eq_true] at hok'
    refine core i chk r rfl hok'.1 hok'.2 fun K hs hK => ?_
    refine ifWanted_wp' hV (fun o ho => (hs o ho).2) (fun o ho hr => ?_) fun o ho hv => hK o _ _ ho (.inr ⟨rfl, hv⟩)
    obtain ⟨x, w', hx, hv⟩ := hr.out
    exact wp_value (by rw [(hs o ho).1]; exact hx) (hK o _ _ ho (.inl hv))
  | effU i chk r =>
    have hok' := hok
    simp only [drawOk, Bool.and_eq_true] at hok'
    refine core i chk r rfl hok'.1 hok'.2 fun K hs hK => ?_
    refine ifWanted_wp' hV (fun o ho => (hs o ho).2) (fun o ho hr => ?_) fun o ho hv => hK o _ _ ho (.inr ⟨rfl, hv⟩)
    obtain ⟨w', hx, hv⟩ := hr.out
    exact wp_skipped (by rw [(hs o ho).1]; exact hx) (hK o _ _ ho (.inl hv))
  | call i t chk r =>
    have hok' := hok
    simp only [drawOk, Bool.and_eq_true] at hok'
    refine core i chk r rfl hok'.1 hok'.2 fun K hs hK => ?_
    exact ifWanted_wp' hV (fun o ho => (hs o ho).2) (fun o ho hr => callV_wp' (hs o ho).1 hr fun v w' hv => hK o v _ ho (.inl hv)) fun o ho hv => hK o _ _ ho (.inr ⟨rfl, hv⟩)
  | inv i t chk r =>
    have hok' := hok
    simp only [drawOk, Bool.and_eq_true] at hok'
    refine core i chk r rfl hok'.1 hok'.2 fun K hs hK => ?_
    exact ifWanted_wp' hV (fun o ho => (hs o ho).2) (fun o ho hr => invP_wp (hs o ho).1 hr fun x w' hv => hK o _ _ ho (.inl hv)) fun o ho hv => hK o _ _ ho (.inr ⟨rfl, hv⟩)
  | _ => cases hact

theorem draw_any (hsel : Region.noSelect ops = true) (a0 : Act) (next : Act → Pr)
    (hQ : ∀ a' w', next a' w' → Agree (dsts ops (List.range ops.size)) a0 a' → Q .normal a' w') :
    ∀ (n : Nat) (ds : DSteps) (done : List Nat) (pend p : List (Nat × Bool)) (listed : Array Bool) (aa ac : Act) (w : World),
      drawOk ops N done pend [] ds = true → St P ops N done pend p ds.idx listed aa ac w → vcDraw P ops ds next ac w →
      Agree (dsts ops (List.range ops.size)) a0 ac → n = p.length + ds.idx.length → wpAnyIn (Fr ro) 0 P .any ops Q n listed aa w := by
  have agr : ∀ {i : Nat} {o : Oper} {ac : Act} (v : Value), ops[i]? = some o → Agree (dsts ops (List.range ops.size)) a0 ac → Agree (dsts ops (List.range ops.size)) a0 (ac.put o.dst v) := by
    intro i o ac v ho h
    refine h.trans (Agree.put ac o.dst v) (fun _ h => h) fun x hx => ?_
    simp only [dsts, List.mem_flatMap, List.mem_range]
    exact ⟨i, lt_of_some ho, by rw [dstOf_some ho]; exact hx⟩
  intro n
  induction n with
  | zero =>
    intro ds
    induction ds with
    | nil =>
      intro done pend p listed aa ac w hok h hV hag hn
      have hp : p = [] := List.length_eq_zero_iff.1 (by simp only [DSteps.idx, List.length_nil] at hn; omega)
      subst hp
      refine ⟨?_, ?_⟩
      · rw [List.eq_nil_iff_forall_not_mem]
        intro j hj
        rcases h.ready hj with h1 | ⟨_, h1⟩
        · cases h1
        · cases h1
      · have : aa = ac := Act.ext_slot h.frames.1 h.frames.2.1 fun x _ => h.frames.2.2 x (fun k hk => by cases hk)
        subst this
        exact hQ _ _ hV hag
    | split g r ih =>
      intro done pend p listed aa ac w hok h hV hag hn
      simp only [vcDraw] at hV
      cases hc : slot ac g
      case bool c =>
        rw [hc] at hV
        refine ih done pend p listed aa ac w (by simp only [drawOk, Bool.and_eq_true] at hok; exact hok.2) h ?_ hag hn
        cases c with
        | true => have := hV.out.1 rfl; rwa [set_slot hc] at this
        | false => have := hV.out.2 rfl; rwa [set_slot hc] at this
      all_goals (rw [hc] at hV; exact ih done pend p listed aa ac w (by simp only [drawOk, Bool.and_eq_true] at hok; exact hok.2) h hV hag hn)
    | alt r1 r2 _ _ =>
      intro done pend p listed aa ac w hok h hV hag hn
      simp only [drawOk, Bool.and_eq_true, decide_eq_true_eq] at hok
      have := List.length_pos_iff.2 hok.2.1.1.1.1.1.1
      simp only [DSteps.idx] at hn
      omega
    | _ =>
      intro done pend p listed aa ac w hok h hV hag hn
      simp only [DSteps.idx, List.length_cons] at hn
      omega
  | succ n ihn =>
    intro ds
    -- an act comes up, or a pending one
    have top : ∀ (ds : DSteps) (done : List Nat) (pend p : List (Nat × Bool)) (listed : Array Bool) (aa ac : Act) (w : World),
        drawOk ops N done pend [] ds = true → St P ops N done pend p ds.idx listed aa ac w → vcDraw P ops ds next ac w →
        Agree (dsts ops (List.range ops.size)) a0 ac → n + 1 = p.length + ds.idx.length → Region.ready .any ops listed ≠ [] →
        (∀ j ∈ Region.ready .any ops listed, j ∉ p.map (·.1) → wpOpIn (Fr ro) 0 P ops Q j (wpAnyIn (Fr ro) 0 P .any ops Q n (listed.setIfInBounds j true)) aa w) →
        wpAnyIn (Fr ro) 0 P .any ops Q (n + 1) listed aa w := by
      intro ds done pend p listed aa ac w hds h hV hag hn hr hj'
      refine ⟨fun he => absurd he hr, fun j hj => ?_⟩
      by_cases hp : j ∈ p.map (·.1)
      · refine h.run_pop hsel hj hp fun k o d hk hkj ho hd => ?_
        subst hkj
        refine ihn ds done pend _ _ _ ac w hds (h.pop hk ho hd) hV hag ?_
        have := length_pop p k h.nodup hk
        omega
      · exact hj' j hj hp
    have act : ∀ (ds : DSteps), isAct ds = true → ∀ (done : List Nat) (pend p : List (Nat × Bool)) (listed : Array Bool) (aa ac : Act) (w : World),
        drawOk ops N done pend [] ds = true → St P ops N done pend p ds.idx listed aa ac w → vcDraw P ops ds next ac w →
        Agree (dsts ops (List.range ops.size)) a0 ac → n + 1 = p.length + ds.idx.length → wpAnyIn (Fr ro) 0 P .any ops Q (n + 1) listed aa w := by
      intro ds hact done pend p listed aa ac w hok h hV hag hn
      obtain ⟨i, chk, rest, hidx, hev, hrun⟩ := act_step hsel a0 next (fun v => agr v) ihn ds hact [] done pend p listed aa ac w hok h hV hag hn
      refine top ds done pend p listed aa ac w hok h hV hag hn (h.event_ready hev) fun j hj hp => ?_
      rcases h.only hidx hev (fun k hk => drawOk_fresh ds done pend _ hok k (hidx ▸ hk)) hj hp with rfl | hx
      · exact hrun hj
      · cases hx
    induction ds with
    | alt r1 r2 _ _ =>
      intro done pend p listed aa ac w hok h hV hag hn
      have hok0 := hok
      simp only [drawOk, Bool.and_eq_true, decide_eq_true_eq] at hok
      obtain ⟨_, ⟨⟨⟨⟨⟨hne1, hne2⟩, h1⟩, h2⟩, h12⟩, h21⟩, hlen⟩ := hok
      have hlen := eq_of_beq hlen
      have isA : ∀ (r : DSteps) (al : List Nat), al ≠ [] → drawOk ops N done pend al r = true → isAct r = true := by
        intro r al hal hr
        cases al with
        | nil => exact absurd rfl hal
        | cons x al => cases r <;> first | rfl | (simp [drawOk] at hr)
      have ht1 : r1.idx.take 1 ≠ [] := by cases hx : r1.idx with | nil => exact absurd hx hne1 | cons x l => simp
      have ht2 : r2.idx.take 1 ≠ [] := by cases hx : r2.idx with | nil => exact absurd hx hne2 | cons x l => simp
      have S1 : St P ops N done pend p r1.idx listed aa ac w := h
      have S2 : St P ops N done pend p r2.idx listed aa ac w := S1.perm fun k hk => by simpa using List.all_eq_true.1 h12 k hk
      have hn1 : n + 1 = p.length + r1.idx.length := hn
      obtain ⟨i, chk, rest, hidx, hev, hrun⟩ := act_step hsel a0 next (fun v => agr v) ihn r1 (isA _ _ ht2 h1) _ done pend p listed aa ac w h1 S1 hV.out.1 hag hn1
      obtain ⟨i2, chk2, rest2, hidx2, hev2, hrun2⟩ := act_step hsel a0 next (fun v => agr v) ihn r2 (isA _ _ ht1 h2) _ done pend p listed aa ac w h2 S2 hV.out.2 hag (by omega)
      refine top (.alt r1 r2) done pend p listed aa ac w hok0 h hV hag hn (S1.event_ready hev) fun j hj hp => ?_
      rcases S1.only hidx hev (fun k hk => drawOk_fresh r1 done pend _ h1 k (hidx ▸ hk)) hj hp with rfl | hx
      · exact hrun hj
      · rw [hidx2] at hx
        simp at hx
        subst hx
        exact hrun2 hj
    | nil =>
      intro done pend p listed aa ac w hok h hV hag hn
      have hp : p ≠ [] := fun he => by simp [he, DSteps.idx] at hn
      refine ⟨fun he => absurd he (h.some_ready hp), fun j hj => ?_⟩
      rcases h.ready hj with h1 | ⟨_, h1⟩
      · refine h.run_pop hsel hj h1 fun k o d hk hkj ho hd => ?_
        subst hkj
        refine ihn .nil done pend _ _ _ ac w hok (h.pop hk ho hd) hV hag ?_
        have := length_pop p k h.nodup hk
        omega
      · cases h1
    | split g r ih =>
      intro done pend p listed aa ac w hok h hV hag hn
      simp only [vcDraw] at hV
      cases hc : slot ac g
      case bool c =>
        rw [hc] at hV
        refine ih done pend p listed aa ac w (by simp only [drawOk, Bool.and_eq_true] at hok; exact hok.2) h ?_ hag hn
        cases c with
        | true => have := hV.out.1 rfl; rwa [set_slot hc] at this
        | false => have := hV.out.2 rfl; rwa [set_slot hc] at this
      all_goals (rw [hc] at hV; exact ih done pend p listed aa ac w (by simp only [drawOk, Bool.and_eq_true] at hok; exact hok.2) h hV hag hn)
    | take i m r ih =>
      intro done pend p listed aa ac w hok h hV hag hn
      simp only [drawOk, Bool.and_eq_true] at hok
      obtain ⟨_, ⟨⟨⟨hd0, hfresh⟩, hpd⟩, hpp⟩, hr⟩ := hok
      have hfresh : i ∉ done := by simpa using hfresh
      have hpd : ∀ k ∈ preds ops i, k ∈ done := fun k hk => by simpa using List.all_eq_true.1 hpd k hk
      have hpp : ∀ k ∈ pend, blind ops i k.1 = true ∧ unlike ops k.1 i = true ∧ (k.1 ∈ preds ops i ∨ blind ops k.1 i = true) := fun k hk => by
        have := List.all_eq_true.1 hpp k hk
        simp only [Bool.and_eq_true, Bool.or_eq_true] at this
        exact ⟨this.1.1, this.1.2, this.2.imp (fun h => by simpa using h) id⟩
      cases ho : ops[i]? with
      | none => simp [dstIs, ho] at hd0
      | some o =>
        cases hd : o.dst with
        | none => simp [dstIs, ho, hd] at hd0
        | some d =>
          simp [dstIs, ho, hd] at hd0
          simp only [vcDraw, ifWanted, ho] at hV
          have hlen : n + 1 = (((i, m.isGet) :: p).length) + r.idx.length := by
            simp only [DSteps.idx, List.length_cons] at hn ⊢; omega
          cases hw : Region.wanted o (yielded ops ac.tmps) with
          | true =>
            rw [hw] at hV
            obtain ⟨v, h1, h2, h3⟩ := takeV_prom hV hd (by rw [h.acN]; exact hd0.1)
            exact ih _ _ _ _ _ _ _ hr (h.take hsel hd0.1 hd0.2 hfresh hpd hpp ho hd v (.inl ⟨hw, h3⟩)) h1 (agr v ho hag) hlen
          | false =>
            rw [hw] at hV
            exact ih _ _ _ _ _ _ _ hr (h.take hsel hd0.1 hd0.2 hfresh hpd hpp ho hd undef (.inr ⟨hw, rfl⟩)) hV (agr undef ho hag) hlen
    | now i m chk r _ => exact act _ rfl
    | eff i t chk r _ => exact act _ rfl
    | effU i chk r _ => exact act _ rfl
    | call i t chk r _ => exact act _ rfl
    | inv i t chk r _ => exact act _ rfl

theorem draw_sound (hm : P.follows .mixedOrders = true) (hsel : Region.noSelect ops = true) {id : Nat} {ds : DSteps} {a : Act} {w : World} {next : Act → Pr} (hN : a.tmps.size = N)
    (hok : drawOk ops N [] [] [] ds = true) (hcov : ∀ i, i < ops.size → i ∈ ds.idx) (h : DrewP (vcDraw P ops ds next a) w)
    (hQ : ∀ a' w', next a' w' → Agree (dsts ops (List.range ops.size)) a a' → Q .normal a' w') : (Code.region id ops true).wpIn (Fr ro) 0 P Q a w := by
  have hnd : ∀ (ds : DSteps) (done : List Nat) (pend : List (Nat × Bool)) (al : List Nat), drawOk ops N done pend al ds = true → ds.idx.Nodup ∧ ∀ i ∈ ds.idx, i < ops.size := by
    intro ds
    have lt_ev : ∀ {i : Nat} {chk done al rest} {pend : List (Nat × Bool)}, eventOk ops i chk done pend al rest = true → i < ops.size := fun h => by
      simp only [eventOk, Bool.and_eq_true] at h
      obtain ⟨o, ho⟩ := Option.isSome_iff_exists.1 h.1.1.1.1
      exact lt_of_some ho
    induction ds with
    | nil => intro done pend al _; exact ⟨List.nodup_nil, fun i hi => by cases hi⟩
    | split g r ih => intro done pend al h; simp only [drawOk, Bool.and_eq_true] at h; exact ih done pend _ h.2
    | alt r1 r2 ih _ => intro done pend al h; simp only [drawOk, Bool.and_eq_true] at h; exact ih done pend _ h.2.1.1.1.1.2
    | take i m r ih =>
      intro done pend al h
      simp only [drawOk, Bool.and_eq_true] at h
      obtain ⟨h1, h2⟩ := ih _ _ _ h.2.2
      have hlt : i < ops.size := by
        cases ho : ops[i]? with
        | none => simp [dstIs, ho] at h
        | some o => exact lt_of_some ho
      refine ⟨List.nodup_cons.2 ⟨fun hi => drawOk_fresh r _ _ _ h.2.2 i hi (by simp), h1⟩, fun j hj => ?_⟩
      rcases List.mem_cons.1 hj with rfl | hj
      · exact hlt
      · exact h2 j hj
    | now i m chk r ih =>
      intro done pend al h
      simp only [drawOk, Bool.and_eq_true] at h
      obtain ⟨h1, h2⟩ := ih _ _ _ h.2
      refine ⟨List.nodup_cons.2 ⟨fun hi => drawOk_fresh r _ _ _ h.2 i hi (by simp), h1⟩, fun j hj => ?_⟩
      rcases List.mem_cons.1 hj with rfl | hj
      · exact lt_ev h.1
      · exact h2 j hj
    | eff i m chk r ih =>
      intro done pend al h
      simp only [drawOk, Bool.and_eq_true] at h
      obtain ⟨h1, h2⟩ := ih _ _ _ h.2
      refine ⟨List.nodup_cons.2 ⟨fun hi => drawOk_fresh r _ _ _ h.2 i hi (by simp), h1⟩, fun j hj => ?_⟩
      rcases List.mem_cons.1 hj with rfl | hj
      · exact lt_ev h.1
      · exact h2 j hj
    | effU i chk r ih =>
      intro done pend al h
      simp only [drawOk, Bool.and_eq_true] at h
      obtain ⟨h1, h2⟩ := ih _ _ _ h.2
      refine ⟨List.nodup_cons.2 ⟨fun hi => drawOk_fresh r _ _ _ h.2 i hi (by simp), h1⟩, fun j hj => ?_⟩
      rcases List.mem_cons.1 hj with rfl | hj
      · exact lt_ev h.1
      · exact h2 j hj
    | call i m chk r ih =>
      intro done pend al h
      simp only [drawOk, Bool.and_eq_true] at h
      obtain ⟨h1, h2⟩ := ih _ _ _ h.2
      refine ⟨List.nodup_cons.2 ⟨fun hi => drawOk_fresh r _ _ _ h.2 i hi (by simp), h1⟩, fun j hj => ?_⟩
      rcases List.mem_cons.1 hj with rfl | hj
      · exact lt_ev h.1
      · exact h2 j hj
    | inv i m chk r ih =>
      intro done pend al h
      simp only [drawOk, Bool.and_eq_true] at h
      obtain ⟨h1, h2⟩ := ih _ _ _ h.2
      refine ⟨List.nodup_cons.2 ⟨fun hi => drawOk_fresh r _ _ _ h.2 i hi (by simp), h1⟩, fun j hj => ?_⟩
      rcases List.mem_cons.1 hj with rfl | hj
      · exact lt_ev h.1
      · exact h2 j hj
  obtain ⟨h1, h2⟩ := hnd ds [] [] [] hok
  have hlen : ds.idx.length = ops.size := by
    have hperm : ds.idx.Perm (List.range ops.size) := (List.perm_ext_iff_of_nodup h1 List.nodup_range).2 fun i => by
      rw [List.mem_range]
      exact ⟨h2 i, hcov i⟩
    rw [hperm.length_eq, List.length_range]
  refine wpIn_region_any hm (draw_any (N := N) hsel a next hQ ops.size ds [] [] [] _ a a _ hok ?_ h.out (Agree.refl _ _) (by rw [hlen]; simp))
  exact {
    sub := fun _ h => by cases h
    nodup := List.nodup_nil
    pdone := fun _ h => by cases h
    ord := trivial
    cover := fun i hi => .inr (hcov i hi)
    inb := fun _ h => by cases h
    size := by simp
    mark := fun i hi => by simp [Array.getD_eq_getD_getElem?, hi]
    frames := ⟨rfl, rfl, fun _ _ => rfl⟩
    acN := hN
    prom := fun _ h => by cases h
    pair := fun _ h => by cases h
    self := fun _ h => by cases h }
end
end
end Go.Sh
end

section
/- The annotated code's reading implies the model's weakest precondition of the whole body, and a contract of the call. -/
namespace Go.Sh

def touched : SCode → List Tmp
  | .skip => []
  | .region _ ops _ => dsts ops (List.range ops.size)
  | .draw _ ops _ => dsts ops (List.range ops.size)
  | .seq x y => touched x ++ touched y
  | .join x _ _ y => touched x ++ touched y
  | .cond _ x y => touched x ++ touched y
  | .block _ x => touched x
  | .loop _ _ x => touched x
  | .exit _ => []
  | .ret => []
  | .scope x => touched x
  | .label _ => []

def coversB (live : List (Tmp × Comp)) (dead D : List Tmp) : Bool := D.all fun x => (live.map (·.1)).contains x || dead.contains x

def codeOk (N : Nat) : SCode → Bool
  | .skip => true
  | .region _ ops st => stepsOk ops st && st.idx == List.range ops.size
  | .draw _ ops ds => drawOk ops N [] [] [] ds && (List.range ops.size).all (fun i => ds.idx.contains i) && Region.noSelect ops
  | .seq x y => codeOk N x && codeOk N y
  | .join x live dead y => codeOk N x && codeOk N y && coversB live dead (touched x)
  | .cond _ x y => codeOk N x && codeOk N y
  | .block _ x => codeOk N x
  | .loop live dead x => codeOk N x && coversB live dead (touched x)
  | .exit _ => true
  | .ret => true
  | .scope x => codeOk N x
  | .label _ => true

theorem covers_spec {live : List (Tmp × Comp)} {dead D : List Tmp} (h : coversB live dead D = true) : ∀ x ∈ D, x ∈ live.map (·.1) ∨ x ∈ dead := fun x hx => by
  have := List.all_eq_true.1 h x hx
  simp only [Bool.or_eq_true, List.contains_iff_mem] at this
  exact this

section
variable {ro : Option Nat} {P : Program} {N : Nat}

theorem stepR_scope {b : Frame} {a : Act} {k : List Item} {cs : List Frame} {w : World} {c : Code} : step P (lone (b.atR a (.code (.scope c) :: k)) cs w) = .next (lone (b.atR a (.code c :: .inScope c :: k)) cs w) :=
  step_lone_go (by simp [stepG, stepG.exec, Frame.atR])
theorem stepR_inScope {b : Frame} {a : Act} {k : List Item} {cs : List Frame} {w : World} {c : Code} : step P (lone (b.atR a (.inScope c :: k)) cs w) = .next (lone (b.atR a k) cs w) :=
  step_lone_go (by simp [stepG, stepG.exec, Frame.atR])
theorem wpIn_scope {F : Fence} {n : Nat} {c : Code} {Q : Exit → Act → World → Prop} {a : Act} {w : World} (h : c.wpIn F n P (fun e a w => match e with | .goto _ => False | _ => Q e a w) a w) : (Code.scope c).wpIn F n P Q a w := by
  intro b k cs hro hb hr
  have h0 : (lone (b.atR a (.code (.scope c) :: k)) cs w).fenced P F := fenced_calm hb hr rfl
  obtain ⟨e, a₁, w₁, hq, harr⟩ := h b (.inScope c :: k) cs hro hb hr
  cases e with
  | normal => exact ⟨.normal, a₁, w₁, hq, .head h0 stepR_scope (StepsIn.trans harr (.one (fenced_calm hb hr rfl) stepR_inScope))⟩
  | exit id =>
    have hx : exitTo id (.inScope c :: k) = exitTo id k := by simp [exitTo]
    exact ⟨.exit id, a₁, w₁, hq, fun k' hk => .head h0 stepR_scope (harr.1 k' (by rw [hx]; exact hk)),
      fun hr' hk => let ⟨k₁, h1, h2⟩ := harr.2 hr' (by rw [hx]; exact hk); ⟨k₁, h1, .head h0 stepR_scope h2⟩⟩
  | goto l => exact hq.elim
  | ret => exact ⟨_, a₁, w₁, hq, .of_steps (.one h0 stepR_scope) harr⟩
  | panic ch => exact ⟨_, a₁, w₁, hq, .of_steps (.one h0 stepR_scope) harr⟩
  | outgrown => exact ⟨_, a₁, w₁, hq, .of_steps (.one h0 stepR_scope) harr⟩

theorem vc_sound (hm : P.follows .mixedOrders = true) : ∀ (c : SCode) (Q : Exit → Act → Pr) (a : Act) (w : World), codeOk N c = true → a.tmps.size = N → vc P c Q a w →
    c.erase.wpIn (Fr ro) 0 P (fun e a' w' => Q e a' w' ∧ Agree (touched c) a a') a w
  | .skip, Q, a, w, _, _, h => wpIn_skip ⟨h, Agree.refl _ _⟩
  | .exit id, Q, a, w, _, _, h => wpIn_exit ⟨h, Agree.refl _ _⟩
  | .ret, Q, a, w, _, _, h => wpIn_ret ⟨h, Agree.refl _ _⟩
  | .label l, Q, a, w, _, _, h => wpIn_label ⟨h, Agree.refl _ _⟩
  | .scope x, Q, a, w, hok, hN, h => by
    refine wpIn_scope (wpIn_mono (vc_sound hm x _ a w hok hN h) fun e a1 w1 ⟨h1, h2⟩ => ?_)
    cases e with
    | goto l => exact h1.elim
    | _ => exact ⟨h1, h2⟩
  | .region id ops st, Q, a, w, hok, hN, h => by
    simp only [codeOk, Bool.and_eq_true, beq_iff_eq] at hok
    refine wpIn_region ?_
    have := steps_sound (ro := ro) (P := P) (ops := ops) (Q := fun e a' w' => Q e a' w' ∧ Agree (touched (.region id ops st)) a a') st (Q .normal) a w [] hok.1 h
      fun a' w' h1 h2 => ⟨h1, by rw [hok.2] at h2; exact h2⟩
    rw [List.append_nil, hok.2] at this
    exact this
  | .draw id ops ds, Q, a, w, hok, hN, h => by
    simp only [codeOk, Bool.and_eq_true] at hok
    refine draw_sound hm hok.2 hN hok.1.1 (fun i hi => ?_) h fun a' w' h1 h2 => ⟨h1, h2⟩
    simpa using List.all_eq_true.1 hok.1.2 i (by simpa using hi)
  | .seq x y, Q, a, w, hok, hN, h => by
    simp only [codeOk, Bool.and_eq_true] at hok
    refine wpIn_seq (wpIn_mono (vc_sound hm x _ a w hok.1 hN h) fun e a1 w1 ⟨h1, h2⟩ => ?_)
    have key : ∀ a', Agree (touched y) a1 a' → Agree (touched (.seq x y)) a a' := fun a' h3 =>
      h2.trans h3 (fun z hz => List.mem_append.2 (.inl hz)) (fun z hz => List.mem_append.2 (.inr hz))
    cases e with
    | normal => exact wpIn_mono (vc_sound hm y Q a1 w1 hok.2 (h2.2.1.trans hN) h1) fun e a2 w2 ⟨h3, h4⟩ => ⟨h3, key a2 h4⟩
    | _ => exact ⟨h1, key a1 (Agree.refl _ _)⟩
  | .join x live dead y, Q, a, w, hok, hN, h => by
    simp only [codeOk, Bool.and_eq_true] at hok
    refine wpIn_seq (wpIn_mono (vc_sound hm x _ a w hok.1.1 hN h.out) fun e a1 w1 ⟨h1, h2⟩ => ?_)
    have key : ∀ a', Agree (touched y) a1 a' → Agree (touched (.join x live dead y)) a a' := fun a' h3 =>
      h2.trans h3 (fun z hz => List.mem_append.2 (.inl hz)) (fun z hz => List.mem_append.2 (.inr hz))
    cases e with
    | normal =>
      simp only [Exit.then] at h1 ⊢
      cases hp : parseLive live a1 with
      | none => rw [hp] at h1; exact h1.elim
      | some s =>
        rw [hp] at h1
        have h3 := h1.out (dead.map (slot a1))
        rw [← frame_eq h2 (covers_spec hok.2) hp] at h3
        exact wpIn_mono (vc_sound hm y Q a1 w1 hok.1.2 (h2.2.1.trans hN) h3) fun e a2 w2 ⟨h4, h5⟩ => ⟨h4, key a2 h5⟩
    | _ => exact ⟨h1, key a1 (Agree.refl _ _)⟩
  | .cond c x y, Q, a, w, hok, hN, h => by
    simp only [codeOk, Bool.and_eq_true] at hok
    simp only [vc] at h
    cases hc : a.eval c
    case bool b =>
      rw [hc] at h
      refine wpIn_cond (t := b) hc ?_
      cases b with
      | true =>
        refine wpIn_mono (vc_sound hm x Q a w hok.1 hN (h.out.1 rfl)) fun e a1 w1 ⟨h1, h2⟩ => ⟨h1, h2.mono fun z hz => List.mem_append.2 (.inl hz)⟩
      | false =>
        refine wpIn_mono (vc_sound hm y Q a w hok.2 hN (h.out.2 rfl)) fun e a1 w1 ⟨h1, h2⟩ => ⟨h1, h2.mono fun z hz => List.mem_append.2 (.inr hz)⟩
    all_goals (rw [hc] at h; exact h.elim)
  | .block id x, Q, a, w, hok, hN, h => by
    refine wpIn_block (wpIn_mono (vc_sound hm x _ a w hok hN h) fun e a1 w1 ⟨h1, h2⟩ => ?_)
    cases e with
    | exit id' =>
      simp only [Exit.inBlock] at h1 ⊢
      split
      · rename_i he; rw [if_pos he] at h1; exact ⟨h1, h2⟩
      · rename_i he; rw [if_neg he] at h1; exact ⟨h1, h2⟩
    | _ => exact ⟨h1, h2⟩
  | .loop live dead x, Q, a, w, hok, hN, h => by
    simp only [codeOk, Bool.and_eq_true] at hok
    simp only [vc] at h
    cases hp : parseLive live a with
    | none => rw [hp] at h; exact h.elim
    | some s =>
      rw [hp] at h
      obtain ⟨n, hn⟩ := h.out
      refine wpIn_loop_rounds n ?_
      have main : ∀ (n : Nat) (s : liveDen live) (a1 : Act) (w1 : World), parseLive live a1 = some s → Agree (touched x) a a1 →
          iter (fun next s => AnyP fun us => vc P x (Exit.then (fun a' => match parseLive live a' with | some s' => next s' | none => fun _ => False) Q) (setLive live s (junk dead us a))) n s w1 →
          Code.roundsIn (Fr ro) 0 P x.erase (fun e a' w' => Q e a' w' ∧ Agree (touched (.loop live dead x)) a a') n a1 w1 := by
        intro n
        induction n with
        | zero => intro s a1 w1 _ _ h; exact h
        | succ n ih =>
          intro s a1 w1 hp1 hag h
          rw [roundsIn_succ]
          have h3 := AnyP.out h (dead.map (slot a1))
          rw [← frame_eq hag (covers_spec hok.2) hp1] at h3
          refine wpIn_mono (vc_sound hm x _ a1 w1 hok.1 (hag.2.1.trans hN) h3) fun e a2 w2 ⟨h4, h5⟩ => ?_
          have hag2 : Agree (touched x) a a2 := hag.trans h5 (fun _ h => h) (fun _ h => h)
          cases e with
          | normal =>
            simp only [Exit.then] at h4 ⊢
            cases hp2 : parseLive live a2 with
            | none => rw [hp2] at h4; exact h4.elim
            | some s2 => rw [hp2] at h4; exact ih s2 a2 w2 hp2 hag2 h4
          | _ => exact ⟨h4, hag2⟩
      exact main n s a w hp (Agree.refl _ _) hn

theorem results_eq (fn : Func) (tmps : Array Value) : results fn tmps = resSem (resOf fn tmps) := by
  unfold results resSem resOf
  have e : (fn.results.toList.map (resRead tmps)).toArray = fn.results.map (resRead tmps) := by
    apply Array.ext'
    simp
  rw [e, Array.mapM_map]
  congr 2
  funext r
  cases r <;> rfl
theorem run_of_vN {P : Program} {s : Sem Value} {v : Value} {w w' : World} (h : (vN s).run P w = .ok (.value v) w') : s.run P w = .ok v w' := by
  unfold vN at h
  rw [Sem.run_bind] at h
  cases hs : s.run P w with
  | ok x w1 =>
    rw [hs] at h
    simp only [Result.andThen] at h
    cases h
    rfl
  | halt _ _ => rw [hs] at h; cases h

theorem CallP.of_vc (hm : P.follows .mixedOrders = true) {f : FuncId} {fn : Func} {c : SCode} {t : Ty} {k : t.den → Pr} {args : List Value} {w : World}
    (hf : P.funcs[f]? = some fn) (hb : fn.body = some c.erase) (hok : codeOk fn.ntmps c = true) (hargs : args.length ≤ fn.ntmps)
    (h : vcBody P fn c t k args w) : CallP P f ⟨args⟩ t k w := by
  refine ⟨calls_of_wp hf hb ((wpIn_wide (n := 0)).1 ?_)⟩
  have h' : vc P c (bodyQ P fn t k) { tmps := (⟨args⟩ : Array Value) ++ Array.replicate (fn.ntmps - args.length) undef, defers := [] } w := by
    have e : (⟨args ++ List.replicate (fn.ntmps - args.length) undef⟩ : Array Value) = (⟨args⟩ : Array Value) ++ Array.replicate (fn.ntmps - args.length) undef := by
      apply Array.ext'
      simp
    rw [← e]; exact h
  have hsz : ((⟨args⟩ : Array Value) ++ Array.replicate (fn.ntmps - args.length) undef).size = fn.ntmps := by
    rw [Array.size_append, Array.size_replicate, List.size_toArray]; omega
  refine wpIn_mono (vc_sound (ro := none) hm c _ _ w hok hsz h') fun e a' w' ⟨h1, h2⟩ => ?_
  have hret : retV P fn t k a' w' → a'.defers = [] ∧ ∃ v, (results fn a'.tmps).run P w' = .ok v w' ∧ ∃ x, Ending.returned v = .returned (t.val x) ∧ k x w' := by
    intro hr
    refine ⟨h2.1, ?_⟩
    simp only [retV] at hr
    cases hc : hasCell fn with
    | true =>
      rw [hc] at hr
      obtain ⟨x, hx, hn⟩ := hr.out
      rw [results_eq]
      exact ⟨t.val x, run_of_vN hx, x, rfl, hn⟩
    | false =>
    rw [hc] at hr
    dsimp only at hr
    cases hv : pureRun P (results fn a'.tmps) with
    | none => rw [hv] at hr; exact hr.elim
    | some v =>
      rw [hv] at hr
      dsimp only at hr
      cases hx : t.parse v with
      | none => rw [hx] at hr; exact hr.elim
      | some x =>
        rw [hx] at hr
        exact ⟨v, pureRun_sound _ hv w', x, by rw [Ty.parse_val t v x hx], hr⟩
  cases e with
  | normal => exact hret h1
  | ret => exact hret h1
  | _ => exact h1.elim
end

/-- a contract by the reading that the kernel computes -/
theorem CallP.of_eq {P : Program} (hm : P.follows .mixedOrders = true) {f : FuncId} {fn : Func} {c : SCode} {t : Ty} {k : t.den → Pr} {args : List Value} {w : World} {S : Pr}
    (hf : P.funcs[f]? = some fn) (hb : fn.body = some c.erase) (hok : codeOk fn.ntmps c = true) (hargs : Nat.ble args.length fn.ntmps = true)
    (heq : vcBody P fn c t k args = S) (h : S w) : CallP P f ⟨args⟩ t k w :=
  CallP.of_vc hm hf hb hok (Nat.le_of_ble_eq_true hargs) (by rw [heq]; exact h)
end Go.Sh
end

section
/- Assertions on the heap: blocks that are one's own, blocks that stay as they are, and the list of what holds. -/
namespace Go.Sh

abbrev Hp := Nat → Option (Bool × Obj)
abbrev HProp := Hp → Prop

def compat (h1 h2 : Hp) : Prop := ∀ b, h1 b = none ∨ h2 b = none ∨ (h1 b = h2 b ∧ ∃ o, h1 b = some (true, o))
def hunion (h1 h2 : Hp) : Hp := fun b => (h1 b).or (h2 b)

theorem compat.symm {h1 h2 : Hp} (h : compat h1 h2) : compat h2 h1 := fun b => by
  rcases h b with h | h | ⟨h, o, ho⟩
  · exact .inr (.inl h)
  · exact .inl h
  · exact .inr (.inr ⟨h.symm, o, h ▸ ho⟩)
theorem hunion_comm {h1 h2 : Hp} (h : compat h1 h2) : hunion h1 h2 = hunion h2 h1 := by
  funext b
  simp only [hunion]
  rcases h b with h | h | ⟨h, o, ho⟩
  · rw [h]; simp
  · rw [h]; simp
  · rw [h]
theorem hunion_assoc (h1 h2 h3 : Hp) : hunion (hunion h1 h2) h3 = hunion h1 (hunion h2 h3) := by
  funext b; simp only [hunion]; cases h1 b <;> simp
theorem hunion_none_left {h1 h2 : Hp} {b : Nat} (h : h1 b = none) : hunion h1 h2 b = h2 b := by simp [hunion, h]
theorem hunion_some_left {h1 h2 : Hp} {b : Nat} {x : Bool × Obj} (h : h1 b = some x) : hunion h1 h2 b = some x := by simp [hunion, h]

def hstar (A B : HProp) : HProp := fun h => ∃ h1 h2, compat h1 h2 ∧ h = hunion h1 h2 ∧ A h1 ∧ B h2
def hemp : HProp := fun h => h = fun _ => none
def hpure (φ : Prop) : HProp := fun h => φ ∧ h = fun _ => none
def hex {α : Type} (A : α → HProp) : HProp := fun h => ∃ x, A x h
/-- a block of one's own -/
def pto (b : Nat) (o : Obj) : HProp := fun h => h = fun x => if x = b then some (false, o) else none
/-- a block that stays as it is -/
def rob (b : Nat) (o : Obj) : HProp := fun h => h = fun x => if x = b then some (true, o) else none
/-- all blocks of a world, as they are -/
def old (w0 : World) : HProp := fun h => h = fun b => (w0.heap[b]?).map fun o => (true, o)

def stars : List HProp → HProp
  | [] => hemp
  | A :: L => hstar A (stars L)

theorem compat_union_left {h1 h2 h3 : Hp} (h12 : compat h1 h2) (h : compat (hunion h1 h2) h3) : compat h1 h3 ∧ compat h2 h3 := by
  constructor
  · intro b
    rcases h b with h | h | ⟨h, o, ho⟩
    · left
      simp only [hunion] at h
      cases hb : h1 b with
      | none => rfl
      | some x => rw [hb] at h; simp at h
    · exact .inr (.inl h)
    · cases hb : h1 b with
      | none => exact .inl rfl
      | some x =>
        rw [hunion_some_left hb] at h ho
        exact .inr (.inr ⟨h, o, ho⟩)
  · intro b
    rcases h b with h | h | ⟨h, o, ho⟩
    · left
      simp only [hunion] at h
      cases hb : h1 b with
      | none => rw [hb] at h; simpa using h
      | some x => rw [hb] at h; simp at h
    · exact .inr (.inl h)
    · cases hb : h1 b with
      | none => rw [hunion_none_left hb] at h ho; exact .inr (.inr ⟨h, o, ho⟩)
      | some x =>
        rw [hunion_some_left hb] at h ho
        rcases h12 b with h' | h' | ⟨h', _⟩
        · rw [hb] at h'; cases h'
        · exact .inl h'
        · right; right
          rw [← h', hb]
          exact ⟨h, o, ho⟩

theorem compat_union_of {h1 h2 h3 : Hp} (h13 : compat h1 h3) (h23 : compat h2 h3) : compat (hunion h1 h2) h3 := by
  intro b
  cases hb : h1 b with
  | none => rw [hunion_none_left hb]; exact h23 b
  | some x =>
    rw [hunion_some_left hb]
    rcases h13 b with h | h | ⟨h, o, ho⟩
    · rw [hb] at h; cases h
    · exact .inr (.inl h)
    · rw [hb] at h ho; exact .inr (.inr ⟨h, o, ho⟩)

theorem hstar_comm {A B : HProp} {h : Hp} (hh : hstar A B h) : hstar B A h := by
  obtain ⟨h1, h2, hc, rfl, ha, hb⟩ := hh
  exact ⟨h2, h1, hc.symm, hunion_comm hc, hb, ha⟩
theorem hstar_assoc {A B C : HProp} {h : Hp} (hh : hstar (hstar A B) C h) : hstar A (hstar B C) h := by
  obtain ⟨_, h3, hc, rfl, ⟨h1, h2, hc12, rfl, ha, hb⟩, hcc⟩ := hh
  obtain ⟨h13, h23⟩ := compat_union_left hc12 hc
  exact ⟨h1, hunion h2 h3, (compat_union_of hc12.symm h13.symm).symm, hunion_assoc _ _ _, ha, h2, h3, h23, rfl, hb, hcc⟩
theorem hstar_assoc' {A B C : HProp} {h : Hp} (hh : hstar A (hstar B C) h) : hstar (hstar A B) C h := by
  have h1 := hstar_comm hh
  have h2 : hstar (hstar C B) A h := by
    obtain ⟨x, y, hc, he, hx, hy⟩ := h1
    exact ⟨x, y, hc, he, hstar_comm hx, hy⟩
  have h3 := hstar_comm (hstar_assoc h2)
  obtain ⟨x, y, hc, he, hx, hy⟩ := h3
  exact ⟨x, y, hc, he, hstar_comm hx, hy⟩
theorem hstar_mono {A A' B B' : HProp} (ha : ∀ h, A h → A' h) (hb : ∀ h, B h → B' h) {h : Hp} (hh : hstar A B h) : hstar A' B' h := by
  obtain ⟨h1, h2, hc, he, h3, h4⟩ := hh
  exact ⟨h1, h2, hc, he, ha _ h3, hb _ h4⟩
theorem hstar_swap {A B C : HProp} {h : Hp} (hh : hstar A (hstar B C) h) : hstar B (hstar A C) h :=
  hstar_assoc (hstar_mono (fun _ h => hstar_comm h) (fun _ h => h) (hstar_assoc' hh))

/-- A stands in L; L' is the rest -/
inductive Pick : List HProp → HProp → List HProp → Prop where
  | head {A : HProp} {L : List HProp} : Pick (A :: L) A L
  | tail {A B : HProp} {L L' : List HProp} (h : Pick L A L') : Pick (B :: L) A (B :: L')

theorem stars_pick : ∀ {L : List HProp} {A : HProp} {L' : List HProp}, Pick L A L' → ∀ {h : Hp}, stars L h → stars (A :: L') h
  | _, _, _, .head, _, hh => hh
  | _, _, _, .tail p, _, hh => hstar_swap (hstar_mono (fun _ h => h) (fun _ h => stars_pick p h) hh)
theorem stars_unpick : ∀ {L : List HProp} {A : HProp} {L' : List HProp}, Pick L A L' → ∀ {h : Hp}, stars (A :: L') h → stars L h
  | _, _, _, .head, _, hh => hh
  | _, _, _, .tail p, _, hh => hstar_mono (fun _ h => h) (fun _ h => stars_unpick p h) (hstar_swap hh)

structure Holds (E : World) (w : World) (L : List HProp) : Prop where
  tape : w.tape = E.tape
  os : w.os = E.os
  output : w.output = E.output
  heap : ∃ h : Hp, (∀ b x o, h b = some (x, o) → w.heap[b]? = some o) ∧ stars L h

section
variable {E w : World} {L L' : List HProp} {A B : HProp}

theorem Holds.imp (h : Holds E w L) (hi : ∀ h, stars L h → stars L' h) : Holds E w L' :=
  ⟨h.tape, h.os, h.output, let ⟨x, h1, h2⟩ := h.heap; ⟨x, h1, hi x h2⟩⟩
theorem Holds.pick (h : Holds E w L) (p : Pick L A L') : Holds E w (A :: L') := h.imp fun _ => stars_pick p
theorem Holds.unpick (h : Holds E w (A :: L')) (p : Pick L A L') : Holds E w L := h.imp fun _ => stars_unpick p
theorem Holds.mono (h : Holds E w (A :: L)) (hi : ∀ h, A h → B h) : Holds E w (B :: L) := h.imp fun _ => hstar_mono hi fun _ h => h
theorem Holds.swap {B : HProp} (h : Holds E w (A :: B :: L)) : Holds E w (B :: A :: L) := h.imp fun _ => hstar_swap
theorem Holds.drop (h : Holds E w (A :: L)) : Holds E w L :=
  ⟨h.tape, h.os, h.output, by
    obtain ⟨_, h1, h2, h3, hc, rfl, h5, h6⟩ := h.heap
    refine ⟨h3, fun b x o hb => h1 b x o ?_, h6⟩
    rcases hc b with h | h | ⟨h, _⟩
    · rw [hunion_none_left h]; exact hb
    · rw [h] at hb; cases hb
    · rw [hunion_some_left (h.trans hb)]⟩
theorem Holds.star_out (h : Holds E w (hstar A B :: L)) : Holds E w (A :: B :: L) := h.imp fun _ => hstar_assoc
theorem Holds.star_in (h : Holds E w (A :: B :: L)) : Holds E w (hstar A B :: L) := h.imp fun _ => hstar_assoc'
theorem Holds.star3_in {C : HProp} (h : Holds E w (A :: B :: C :: L)) : Holds E w (hstar A (hstar B C) :: L) :=
  h.imp fun _ hx => hstar_assoc' (hstar_mono (fun _ h => h) (fun _ h => hstar_assoc' h) hx)
theorem Holds.star3_out {C : HProp} (h : Holds E w (hstar A (hstar B C) :: L)) : Holds E w (A :: B :: C :: L) :=
  h.imp fun _ hx => hstar_mono (fun _ h => h) (fun _ h => hstar_assoc h) (hstar_assoc hx)
theorem Holds.ex_out {α : Type} {A : α → HProp} (h : Holds E w (hex A :: L)) : ∃ x, Holds E w (A x :: L) := by
  obtain ⟨_, h1, h2, h3, hc, rfl, ⟨x, hx⟩, h6⟩ := h.heap
  exact ⟨x, h.tape, h.os, h.output, _, h1, h2, h3, hc, rfl, hx, h6⟩
theorem Holds.ex_in {α : Type} {A : α → HProp} (x : α) (h : Holds E w (A x :: L)) : Holds E w (hex A :: L) := h.mono fun _ ha => ⟨x, ha⟩
theorem Holds.pure_out {φ : Prop} (h : Holds E w (hpure φ :: L)) : φ ∧ Holds E w L := by
  refine ⟨?_, h.drop⟩
  obtain ⟨_, _, _, _, _, _, hφ, _⟩ := h.heap
  exact hφ.1
theorem Holds.pure_in {φ : Prop} (hφ : φ) (h : Holds E w L) : Holds E w (hpure φ :: L) :=
  h.imp fun x hx => ⟨fun _ => none, x, fun _ => .inl rfl, by funext b; simp [hunion], ⟨hφ, rfl⟩, hx⟩
theorem Holds.emp_in (h : Holds E w L) : Holds E w (hemp :: L) :=
  h.imp fun x hx => ⟨fun _ => none, x, fun _ => .inl rfl, by funext b; simp [hunion], rfl, hx⟩

theorem Holds.own {b : Nat} {o : Obj} (h : Holds E w (pto b o :: L)) : w.heap[b]? = some o := by
  obtain ⟨_, h1, h2, h3, hc, rfl, rfl, h6⟩ := h.heap
  exact h1 b false o (hunion_some_left (by simp))
theorem Holds.ro {b : Nat} {o : Obj} (h : Holds E w (rob b o :: L)) : w.heap[b]? = some o := by
  obtain ⟨_, h1, h2, h3, hc, rfl, rfl, h6⟩ := h.heap
  exact h1 b true o (hunion_some_left (by simp))
theorem Holds.old {w0 : World} (h : Holds E w (Sh.old w0 :: L)) {b : Nat} {o : Obj} (hb : w0.heap[b]? = some o) : w.heap[b]? = some o := by
  obtain ⟨_, h1, h2, h3, hc, rfl, rfl, h6⟩ := h.heap
  exact h1 b true o (hunion_some_left (by simp [hb]))

theorem Holds.freeze {b : Nat} {o : Obj} (h : Holds E w (pto b o :: L)) : Holds E w (rob b o :: L) := by
  obtain ⟨_, h1, h2, h3, hc, rfl, rfl, h6⟩ := h.heap
  have hb : h3 b = none := by
    rcases hc b with h | h | ⟨_, o', h⟩
    · simp at h
    · exact h
    · simp at h
  refine ⟨h.tape, h.os, h.output, _, ?_, fun x => if x = b then some (true, o) else none, h3, ?_, rfl, rfl, h6⟩
  · intro x y o' hx
    by_cases he : x = b
    · subst he
      rw [hunion_some_left (x := (true, o)) (by simp)] at hx
      cases hx
      exact h1 x false o (hunion_some_left (by simp))
    · rw [hunion_none_left (by simp [he])] at hx
      exact h1 x y o' (by rw [hunion_none_left (by simp [he])]; exact hx)
  · intro x
    by_cases he : x = b
    · subst he; exact .inr (.inl hb)
    · exact .inl (by simp [he])

theorem Holds.dup {b : Nat} {o : Obj} (h : Holds E w (rob b o :: L)) : Holds E w (rob b o :: rob b o :: L) :=
  h.imp fun x hx => by
    obtain ⟨h1, h2, hc, rfl, rfl, h3⟩ := hx
    refine ⟨_, _, ?_, ?_, rfl, _, h2, hc, rfl, rfl, h3⟩
    · intro x
      by_cases he : x = b
      · subst he; exact .inr (.inr ⟨by rw [hunion_some_left (x := (true, o)) (by simp)]; simp, o, by simp⟩)
      · exact .inl (by simp [he])
    · funext x
      by_cases he : x = b
      · subst he; simp [hunion]
      · simp [hunion, he]
theorem Holds.dup_old {w0 : World} (h : Holds E w (Sh.old w0 :: L)) : Holds E w (Sh.old w0 :: Sh.old w0 :: L) :=
  h.imp fun x hx => by
    obtain ⟨h1, h2, hc, rfl, rfl, h3⟩ := hx
    refine ⟨_, _, ?_, ?_, rfl, _, h2, hc, rfl, rfl, h3⟩
    · intro x
      cases he : w0.heap[x]? with
      | none => exact .inl (by dsimp only; rw [he]; rfl)
      | some o => exact .inr (.inr ⟨by simp only [hunion]; rw [he]; rfl, o, by dsimp only; rw [he]; rfl⟩)
    · funext x
      cases he : w0.heap[x]? with
      | none => simp [hunion, he]
      | some o => simp [hunion, he]

/-- a block's content is turned -/
theorem Holds.set {b : Nat} {o o' : Obj} (h : Holds E w (pto b o :: L)) : Holds E { w with heap := w.heap.setIfInBounds b o' } (pto b o' :: L) := by
  obtain ⟨_, h1, h2, h3, hc, rfl, rfl, h6⟩ := h.heap
  have hown := h.own
  have hlt : b < w.heap.size := by
    rcases Nat.lt_or_ge b w.heap.size with h' | h'
    · exact h'
    · simp [Array.getElem?_eq_none h'] at hown
  have hb : h3 b = none := by
    rcases hc b with h | h | ⟨_, o', h⟩
    · simp at h
    · exact h
    · simp at h
  refine ⟨h.tape, h.os, h.output, _, ?_, fun x => if x = b then some (false, o') else none, h3, ?_, rfl, rfl, h6⟩
  · intro x y o'' hx
    simp only [Array.getElem?_setIfInBounds]
    by_cases he : x = b
    · subst he
      rw [hunion_some_left (x := (false, o')) (by simp)] at hx
      cases hx
      simp [hlt]
    · rw [hunion_none_left (by simp [he])] at hx
      rw [if_neg (Ne.symm he)]
      exact h1 x y o'' (by rw [hunion_none_left (by simp [he])]; exact hx)
  · intro x
    by_cases he : x = b
    · subst he; exact .inr (.inl hb)
    · exact .inl (by simp [he])

theorem Holds.new {o : Obj} (h : Holds E w L) : Holds E { w with heap := w.heap.push o } (pto w.heap.size o :: L) := by
  obtain ⟨h3, h1, h6⟩ := h.heap
  have hb : h3 w.heap.size = none := by
    cases hx : h3 w.heap.size with
    | none => rfl
    | some p =>
      have := h1 _ p.1 p.2 hx
      simp at this
  refine ⟨h.tape, h.os, h.output, _, ?_, fun x => if x = w.heap.size then some (false, o) else none, h3, ?_, rfl, rfl, h6⟩
  · intro x y o'' hx
    by_cases he : x = w.heap.size
    · subst he
      rw [hunion_some_left (x := (false, o)) (by simp)] at hx
      cases hx
      simp
    · rw [hunion_none_left (by simp [he])] at hx
      have := h1 x y o'' hx
      rw [Array.getElem?_push, if_neg he]
      exact this
  · intro x
    by_cases he : x = w.heap.size
    · subst he; exact .inr (.inl hb)
    · exact .inl (by simp [he])

theorem Holds.drew (h : Holds E w L) : Holds E { w with drawn := w.drawn + 1 } L := ⟨h.tape, h.os, h.output, h.heap⟩

theorem Holds.ne {b b' : Nat} {o o' : Obj} (h : Holds E w (pto b o :: pto b' o' :: L)) : b ≠ b' := by
  intro he
  subst he
  obtain ⟨_, h1, h2, h3, hc, rfl, rfl, h4, h5, hc', rfl, rfl, h7⟩ := h.heap
  rcases hc b with h | h | ⟨_, o', h⟩
  · simp at h
  · rw [hunion_some_left (x := (false, o')) (by simp)] at h; cases h
  · simp at h
end
end Go.Sh
end

section
/- What the primitives ask, and what they leave: pointers, cells, new blocks. -/
namespace Go.Sh
section
variable {P : Program} {E w : World} {L L' : List HProp}

/-! ### the run of a bind -/
theorem run_bind {α β : Type} (s : Sem α) (f : α → Sem β) (w : World) :
    (s >>= f).run P w = match s.run P w with | .ok a w' => (f a).run P w' | .halt h w' => .halt h w' := by
  rw [Sem.run_bind]
  cases s.run P w <;> rfl

theorem run_vN {s : Sem Value} {v : Value} {w w' : World} (h : s.run P w = .ok v w') : (vN s).run P w = .ok (.value v) w' := by
  unfold vN; rw [run_bind, h]; rfl
theorem run_uN {s : Sem Unit} {w w' : World} (h : s.run P w = .ok () w') : (uN s).run P w = .ok .skip w' := by
  unfold uN; rw [run_bind, h]; rfl
theorem run_ok {α β : Type} {s : Sem α} {f : α → Sem β} {a : α} {w w' : World} (h : s.run P w = .ok a w') : (s >>= f).run P w = (f a).run P w' := by
  rw [run_bind, h]
theorem run_pureRun {α β : Type} {s : Sem α} {f : α → Sem β} {a : α} {w : World} (h : pureRun P s = some a) : (s >>= f).run P w = (f a).run P w :=
  run_ok (pureRun_sound s h w)

/-! ### control -/
theorem CondP.mk' {b : Bool} {x y : Pr} {w : World} (hx : b = true → x w) (hy : b = false → y w) : CondP b x y w := ⟨⟨hx, hy⟩⟩
theorem CondP.yes {b : Bool} {x y : Pr} {w : World} (hb : b = true) (hx : x w) : CondP b x y w := ⟨⟨fun _ => hx, fun h => (by rw [hb] at h; cases h)⟩⟩
theorem CondP.no {b : Bool} {x y : Pr} {w : World} (hb : b = false) (hy : y w) : CondP b x y w := ⟨⟨fun h => (by rw [hb] at h; cases h), fun _ => hy⟩⟩
theorem JoinP.go {S : Type} {J : S → Pr} {body : (S → Pr) → Pr} {w : World} (h : body J w) : JoinP J body w := ⟨h⟩
/-- meet behind a join by an assertion -/
theorem JoinP.cut {S : Type} {J : S → Pr} {body : (S → Pr) → Pr} {w : World} (A : S → World → Prop) (hJ : ∀ s w, A s w → J s w)
    (hb : body A w) (hmono : ∀ J1 J2 : S → Pr, (∀ s w, J1 s w → J2 s w) → body J1 w → body J2 w) : JoinP J body w := ⟨hmono A J hJ hb⟩
theorem AnyP.go {k : List Value → Pr} {w : World} (h : ∀ us, k us w) : AnyP k w := ⟨h⟩

/-- a loop, by a relation and a number that goes down -/
theorem LoopP.inv {S : Type} {F : (S → Pr) → S → Pr} {s : S} {w : World} (I : S → World → Prop) (μ : S → World → Nat) (h0 : I s w)
    (hF : ∀ (next : S → Pr) (s : S) (w : World), I s w → (∀ s' w', I s' w' → μ s' w' < μ s w → next s' w') → F next s w) : LoopP F s w := by
  refine ⟨μ s w + 1, ?_⟩
  have main : ∀ n s w, I s w → μ s w < n → iter F n s w := by
    intro n
    induction n with
    | zero => intro s w _ h; omega
    | succ n ih =>
      intro s w hI hlt
      exact hF _ s w hI fun s' w' hI' hlt' => ih s' w' hI' (by omega)
  exact main _ s w h0 (Nat.lt_succ_self _)

theorem DrewP.go {k : Pr} {w : World} (h : Holds E w L) (hk : ∀ w', Holds E w' L → k w') : DrewP k w := ⟨hk _ h.drew⟩

/-! ### pointers and cells -/

theorem val_nil {a : Addr} {k : Addr → Pr} {w : World} (h : k a w) : ValP P (nilN (.pointer (some a))) tAddr k w := ⟨a, fun _ => rfl, h⟩

theorem cell_of {b off : Nat} {c : Array Value} {T : TypeId} {fr : Nat × Nat} (hb : w.heap[b]? = some (.cells c T fr)) : w.cell? ⟨b, off, none⟩ = c[off]? := by
  simp [World.cell?, hb]

theorem run_load_cell {a : Addr} {v : Value} (h : w.cell? a = some v) : (load a).run P w = .ok v w := by
  simp [load, Sem.run, h]

theorem run_loadVar {t : TypeId} {a : Addr} {v : Value} (ht : pureRun P (isAgg t) = some false) (h : w.cell? a = some v) : (loadVar t a).run P w = .ok v w := by
  unfold loadVar
  rw [run_pureRun ht]
  exact run_load_cell h

theorem get_cell {t : TypeId} {l : Leaf} {a : Addr} {k : l.den → Pr} (x : l.den) (ht : pureRun P (isAgg t) = some false)
    (hc : w.cell? a = some (l.val x)) (hk : k x w) : GetP P (vN (Instr.loadAt t (.pointer (some a)))) (.one (.leaf l)) k w :=
  ⟨x, run_vN (by unfold Instr.loadAt; rw [run_ok (a := a) (w' := w) rfl]; exact run_loadVar ht hc), hk⟩

/-- a field, or an element, of a block that is known -/
theorem get_load {t : TypeId} {l : Leaf} {a : Addr} {b off : Nat} {c : Array Value} {T : TypeId} {fr : Nat × Nat} {k : l.den → Pr} {x : l.den}
    (hb : w.heap[b]? = some (.cells c T fr)) (ht : pureRun P (isAgg t) = some false) (ha : a = ⟨b, off, none⟩)
    (hc : c[off]? = some (l.val x)) (hk : k x w) : GetP P (vN (Instr.loadAt t (.pointer (some a)))) (.one (.leaf l)) k w := by
  subst ha
  exact get_cell x ht (by rw [cell_of hb, hc]) hk
theorem get_load' {t : TypeId} {l : Leaf} {a : Addr} {b off : Nat} {c : Array Value} {T : TypeId} {fr : Nat × Nat} {k : l.den → Pr} {x : l.den}
    (hb : w.heap[b]? = some (.cells c T fr)) (ht : pureRun P (isAgg t) = some false) (ha : a = ⟨b, off, none⟩)
    (hc : (c[off]?).bind l.parse = some x) (hk : k x w) : GetP P (vN (Instr.loadAt t (.pointer (some a)))) (.one (.leaf l)) k w := by
  cases hv : c[off]? with
  | none => rw [hv] at hc; cases hc
  | some v =>
    rw [hv] at hc
    exact get_load hb ht ha (by rw [hv, Leaf.parse_val l v x hc]) hk
theorem chk_load {t : TypeId} {a : Addr} {b off : Nat} {c : Array Value} {T : TypeId} {fr : Nat × Nat} {k : Pr} {v : Value}
    (hb : w.heap[b]? = some (.cells c T fr)) (ht : pureRun P (isAgg t) = some false) (ha : a = ⟨b, off, none⟩)
    (hc : c[off]? = some v) (hk : k w) : ChkP P (vN (Instr.loadAt t (.pointer (some a)))) v k w := by
  subst ha
  exact ⟨run_vN (by unfold Instr.loadAt; rw [run_ok (a := ⟨b, off, none⟩) (w' := w) rfl]; exact run_loadVar ht (by rw [cell_of hb, hc])), hk⟩

theorem run_loadCellsFrom {a : Addr} : ∀ (vs : List Value) (i : Nat) (acc : Array Value),
    (∀ j (hj : j < vs.length), w.cell? (a.add (i + j)) = some vs[j]) → (loadCellsFrom a i vs.length acc).run P w = .ok (acc ++ vs.toArray) w
  | [], i, acc, _ => by simp [loadCellsFrom]
  | v :: vs, i, acc, h => by
    simp only [List.length_cons, loadCellsFrom]
    rw [run_ok (run_load_cell (v := v) (by have := h 0 (by simp); simpa using this))]
    rw [run_loadCellsFrom vs (i + 1) (acc.push v) (fun j hj => by have := h (j + 1) (by simpa using hj); simpa [Nat.add_assoc, Nat.add_comm 1 j] using this)]
    simp

theorem run_loadCells {a : Addr} {vs : List Value} (h : ∀ j (hj : j < vs.length), w.cell? (a.add j) = some vs[j]) : (loadCells a vs.length).run P w = .ok vs.toArray w := by
  have := run_loadCellsFrom (P := P) (w := w) (a := a) vs 0 #[] (by simpa using h)
  simpa [loadCells] using this

theorem Addr.add_mk (b o n : Nat) : Addr.add ⟨b, o, none⟩ n = ⟨b, o + n, none⟩ := by
  unfold Addr.add; split
  · rename_i h; subst h; rfl
  · rfl
theorem Addr.add_add (a : Addr) (m n : Nat) (h : a.spot = none) : Addr.add (Addr.add a m) n = Addr.add a (m + n) := by
  cases a with
  | mk b o s => simp only at h; subst h; rw [Addr.add_mk, Addr.add_mk, Addr.add_mk, Nat.add_assoc]

theorem get_agg {t : TypeId} {ls : List Leaf} {a : Addr} {b off : Nat} {c : Array Value} {T : TypeId} {fr : Nat × Nat} {k : cellsDen ls → Pr} (x : cellsDen ls)
    (hb : w.heap[b]? = some (.cells c T fr)) (ht : pureRun P (isAgg t) = some true) (hn : pureRun P (sizeOf t) = some (cellsVal ls x).length) (ha : a = ⟨b, off, none⟩)
    (hc : ∀ j (hj : j < (cellsVal ls x).length), c[off + j]? = some (cellsVal ls x)[j]) (hk : k x w) :
    GetP P (vN (Instr.loadAt t (.pointer (some a)))) (.one (.agg ls)) k w := by
  subst ha
  refine ⟨x, run_vN ?_, hk⟩
  unfold Instr.loadAt
  rw [run_ok (a := ⟨b, off, none⟩) (w' := w) rfl]
  unfold loadVar
  rw [run_pureRun ht]
  simp only [if_true]
  rw [run_pureRun hn]
  rw [run_ok (run_loadCells (fun j hj => by rw [Addr.add_mk, cell_of hb]; exact hc j hj))]
  rfl

/-! ### stores -/
def notAgg : Value → Bool
  | .agg _ => false
  | .tuple _ => false
  | _ => true

theorem run_store_cell {b off : Nat} {c : Array Value} {T : TypeId} {v : Value} (hb : w.heap[b]? = some (.cells c T (0, 0))) (hlt : off < c.size) (hv : notAgg v = true) :
    (store ⟨b, off, none⟩ v).run P w = .ok () { w with heap := w.heap.setIfInBounds b (.cells (c.setIfInBounds off v) T (0, 0)) } := by
  have hc : w.cell? ⟨b, off, none⟩ = some c[off] := by rw [cell_of hb]; simp [hlt]
  have hf : w.frozen? ⟨b, off, none⟩ = false := by simp [World.frozen?, hb]
  have hs : w.setCell ⟨b, off, none⟩ v = { w with heap := w.heap.setIfInBounds b (.cells (c.setIfInBounds off v) T (0, 0)) } := by
    unfold World.setCell
    congr 1
    refine Array.ext (by simp) fun i h1 h2 => ?_
    have hi : i < w.heap.size := by simpa using h2
    simp only [Array.getElem_modify]
    by_cases he : b = i
    · subst he
      have : w.heap[b] = .cells c T (0, 0) := by simpa [hi] using hb
      simp [this]
    · rw [if_neg he, Array.getElem_setIfInBounds_ne hi he]
  cases v <;> simp_all [store, Sem.run, notAgg]

theorem run_storeCells {b : Nat} {T : TypeId} : ∀ (vs : List Value) (off i : Nat) (c : Array Value) (w : World), w.heap[b]? = some (.cells c T (0, 0)) → off + i + vs.length ≤ c.size → (∀ v ∈ vs, notAgg v = true) →
    ∃ c', (storeCells ⟨b, off, none⟩ vs i).run P w = .ok () { w with heap := w.heap.setIfInBounds b (.cells c' T (0, 0)) } ∧ c'.size = c.size ∧
      ∀ j, c'[j]? = if off + i ≤ j ∧ j < off + i + vs.length then vs[j - (off + i)]? else c[j]?
  | [], off, i, c, w, hb, _, _ => by
    refine ⟨c, ?_, rfl, fun j => by simp; intro h1 h2; omega⟩
    have : w.heap.setIfInBounds b (.cells c T (0, 0)) = w.heap := by
      refine Array.ext (by simp) fun i h1 h2 => ?_
      by_cases he : b = i
      · subst he
        simpa [h2] using hb.symm
      · rw [Array.getElem_setIfInBounds_ne h2 he]
    rw [this]; rfl
  | v :: vs, off, i, c, w, hb, hlen, hv => by
    simp only [List.length_cons] at hlen
    simp only [storeCells, Addr.add_mk]
    rw [run_ok (run_store_cell hb (by omega) (hv v (by simp)))]
    have hlt : b < w.heap.size := by
      rcases Nat.lt_or_ge b w.heap.size with h' | h'
      · exact h'
      · simp [Array.getElem?_eq_none h'] at hb
    obtain ⟨c', h1, h2, h3⟩ := run_storeCells (T := T) (b := b) vs off (i + 1) (c.setIfInBounds (off + i) v) { w with heap := w.heap.setIfInBounds b (.cells (c.setIfInBounds (off + i) v) T (0, 0)) }
      (by simp [hlt]) (by simp; omega) (fun u hu => hv u (List.mem_cons_of_mem _ hu))
    refine ⟨c', ?_, by simpa using h2, fun j => ?_⟩
    · rw [h1]
      congr 2
      simp
    · rw [h3 j]
      simp only [List.length_cons]
      by_cases hj : j = off + i
      · subst hj
        rw [if_neg (by omega), if_pos (by omega)]
        simp [show off + i < c.size by omega]
      · by_cases hj2 : off + (i + 1) ≤ j ∧ j < off + (i + 1) + vs.length
        · rw [if_pos hj2, if_pos (by omega)]
          have : j - (off + i) = (j - (off + (i + 1))) + 1 := by omega
          rw [this]; simp
        · rw [if_neg hj2, if_neg (by omega)]
          rw [Array.getElem?_setIfInBounds, if_neg (by omega)]

theorem do_store {t : TypeId} {a : Addr} {b off : Nat} {c : Array Value} {T : TypeId} {v : Value} {k : Pr}
    (h : Holds E w L) (p : Pick L (pto b (.cells c T (0, 0))) L') (hn : pureRun P (sizeOf t) = some 1) (ha : a = ⟨b, off, none⟩) (hlt : Nat.blt off c.size = true) (hv : notAgg v = true)
    (hk : ∀ w', Holds E w' (pto b (.cells (c.setIfInBounds off v) T (0, 0)) :: L') → k w') : DoU P (uN (Instr.storeAt t (.pointer (some a)) v)) k w := by
  subst ha
  have hp := h.pick p
  have hlt : off < c.size := by simpa [Nat.blt, Nat.succ_le_iff] using hlt
  refine ⟨_, run_uN ?_, hk _ hp.set⟩
  unfold Instr.storeAt
  rw [run_ok (a := ⟨b, off, none⟩) (w' := w) rfl]
  unfold storeVar
  rw [run_pureRun hn]
  have hsz : v.cells.size = 1 := by cases v <;> first | rfl | cases hv
  have hcs : v.cells.toList = [v] := by cases v <;> first | rfl | cases hv
  simp only [hsz, ne_eq, not_true_eq_false, if_false]
  rw [hcs]
  simp only [storeCells]
  rw [Addr.add_mk, Nat.add_zero, run_ok (run_store_cell hp.own hlt hv)]
  rfl

/-! ### new blocks -/
theorem do_new {o : Obj} {b : Nat} {s : Sem Value} {l : Leaf} {x : l.den} {k : l.den → Pr} (h : Holds E w L)
    (hs : s.run P w = .ok (l.val x) { w with heap := w.heap.push o }) (hb : w.heap.size = b) (hk : ∀ w', Holds E w' (pto b o :: L) → k x w') :
    DoP P (vN s) (.one (.leaf l)) k w := by
  subst hb
  exact ⟨x, _, run_vN hs, hk _ h.new⟩

theorem do_alloc {t : TypeId} {z : Value} {k : Addr → Pr} (h : Holds E w L) (hz : pureRun P (zeroValue t) = some z)
    (hk : ∀ b w', Holds E w' (pto b (.cells z.cells t (0, 0)) :: L) → k ⟨b, 0, none⟩ w') : DoP P (vN (Instr.alloc t true (.tuple #[]))) tAddr k w := by
  refine do_new (l := .addr) (x := ⟨w.heap.size, 0, none⟩) (o := .cells z.cells t (0, 0)) h ?_ rfl (hk _)
  unfold Instr.alloc
  rw [run_pureRun hz]
  rfl
theorem do_box {t : TypeId} {v : Value} {k : Addr → Pr} (h : Holds E w L)
    (hk : ∀ b w', Holds E w' (pto b (.cells v.cells t (0, 0)) :: L) → k ⟨b, 0, none⟩ w') : DoP P (vN (Instr.box t v)) tAddr k w :=
  do_new (l := .addr) (x := ⟨w.heap.size, 0, none⟩) (o := .cells v.cells t (0, 0)) h rfl rfl (hk _)
theorem do_makeMap {t : TypeId} {k : Option Nat → Pr} (h : Holds E w L)
    (hk : ∀ b w', Holds E w' (pto b (.map #[] 0) :: L) → k (some b) w') : DoP P (vN (Instr.makeMap t none)) tMap k w :=
  do_new (l := .map) (x := some w.heap.size) (o := .map #[] 0) h rfl rfl (hk _)

/-! ### comparisons with nil -/
theorem get_pure {s : Sem Next} {t : Ty} {k : t.den → Pr} (x : t.den) (hs : pureRun P s = some (.value (t.val x))) (hk : k x w) : GetP P s t k w :=
  ⟨x, pureRun_sound s hs w, hk⟩
theorem val_pure {s : Sem Next} {t : Ty} {k : t.den → Pr} (x : t.den) (hs : pureRun P s = some (.value (t.val x))) (hk : k x w) : ValP P s t k w :=
  ⟨x, fun w => pureRun_sound s hs w, hk⟩
theorem do_pure {s : Sem Next} {t : Ty} {k : t.den → Pr} (x : t.den) (hs : pureRun P s = some (.value (t.val x))) (hk : k x w) : DoP P s t k w :=
  ⟨x, w, pureRun_sound s hs w, hk⟩
end
end Go.Sh
end

section
/- Slices: those of one's own, those that stay as they are; index, reslice, append. -/
namespace Go.Sh

/-- the cells of a slice's elements, as they lie -/
def Reads (w : World) (s : Sl) (sz : Nat) (cs : List Value) : Prop :=
  cs.length = s.len * sz ∧ (cs ≠ [] → ∃ b off c T fr, s.a = some ⟨b, off, none⟩ ∧ w.heap[b]? = some (.cells c T fr) ∧ ∀ i, i < cs.length → c[off + i]? = cs[i]?)

def ownS (T : TypeId) (sz : Nat) (s : Sl) (cs : List Value) : HProp := fun h =>
  (s.a = none ∧ s.len = 0 ∧ s.cap = 0 ∧ cs = [] ∧ h = fun _ => none) ∨
  (∃ b pre spare, s.a = some ⟨b, pre.length, none⟩ ∧ cs.length = s.len * sz ∧ s.len ≤ s.cap ∧ (s.cap - s.len) * sz ≤ spare.length ∧ pto b (.cells ⟨pre ++ (cs ++ spare)⟩ T (0, 0)) h)

def roS (sz : Nat) (s : Sl) (cs : List Value) : HProp := fun h =>
  (cs = [] ∧ s.len * sz = 0 ∧ s.len ≤ s.cap ∧ h = fun _ => none) ∨
  (∃ b off c T fr, s.a = some ⟨b, off, none⟩ ∧ cs.length = s.len * sz ∧ s.len ≤ s.cap ∧ (∀ i, i < cs.length → c[off + i]? = cs[i]?) ∧ rob b (.cells c T fr) h)

section
variable {P : Program} {E w : World} {L L' : List HProp}

theorem Holds.own_cases {T : TypeId} {sz : Nat} {s : Sl} {cs : List Value} (h : Holds E w (ownS T sz s cs :: L)) :
    (s = ⟨none, 0, 0⟩ ∧ cs = [] ∧ Holds E w L) ∨
    ∃ b pre spare, s.a = some ⟨b, pre.length, none⟩ ∧ cs.length = s.len * sz ∧ s.len ≤ s.cap ∧ (s.cap - s.len) * sz ≤ spare.length ∧ Holds E w (pto b (.cells ⟨pre ++ (cs ++ spare)⟩ T (0, 0)) :: L) := by
  obtain ⟨_, h1, h2, h3, hc, rfl, hs, h6⟩ := h.heap
  rcases hs with ⟨ha, hl, hcp, hcs, rfl⟩ | ⟨b, pre, spare, ha, hl, hle, hsp, hp⟩
  · left
    cases s with
    | mk a len cap =>
      simp only at ha hl hcp
      subst ha; subst hl; subst hcp
      exact ⟨rfl, hcs, h.drop⟩
  · exact .inr ⟨b, pre, spare, ha, hl, hle, hsp, h.tape, h.os, h.output, _, h1, h2, h3, hc, rfl, hp, h6⟩

theorem Holds.own_nil {T : TypeId} {sz : Nat} (h : Holds E w L) : Holds E w (ownS T sz ⟨none, 0, 0⟩ [] :: L) :=
  h.imp fun x hx => ⟨fun _ => none, x, fun _ => .inl rfl, by funext b; simp [hunion], .inl ⟨rfl, rfl, rfl, rfl, rfl⟩, hx⟩
theorem Holds.own_mk {T : TypeId} {sz : Nat} {s : Sl} {pre cs spare : List Value} {b : Nat} (h : Holds E w (pto b (.cells ⟨pre ++ (cs ++ spare)⟩ T (0, 0)) :: L)) (ha : s.a = some ⟨b, pre.length, none⟩)
    (hl : cs.length = s.len * sz) (hle : s.len ≤ s.cap) (hsp : (s.cap - s.len) * sz ≤ spare.length) : Holds E w (ownS T sz s cs :: L) :=
  h.mono fun _ hx => .inr ⟨b, pre, spare, ha, hl, hle, hsp, hx⟩

theorem Holds.reads_own {T : TypeId} {sz : Nat} {s : Sl} {cs : List Value} (h : Holds E w (ownS T sz s cs :: L)) : Reads w s sz cs := by
  rcases h.own_cases with ⟨rfl, rfl, _⟩ | ⟨b, pre, spare, ha, hl, hle, hsp, hh⟩
  · exact ⟨by simp, fun h => absurd rfl h⟩
  · refine ⟨hl, fun _ => ⟨b, pre.length, _, _, _, ha, hh.own, fun i hi => ?_⟩⟩
    simp [List.getElem?_append_right, List.getElem?_append_left hi]

theorem Holds.own_len {T : TypeId} {sz : Nat} {s : Sl} {cs : List Value} (h : Holds E w (ownS T sz s cs :: L)) : cs.length = s.len * sz ∧ s.len ≤ s.cap := by
  rcases h.own_cases with ⟨rfl, rfl, _⟩ | ⟨b, pre, spare, ha, hl, hle, hsp, hh⟩
  · exact ⟨by simp, Nat.le_refl _⟩
  · exact ⟨hl, hle⟩

theorem Holds.ro_cases {sz : Nat} {s : Sl} {cs : List Value} (h : Holds E w (roS sz s cs :: L)) : cs.length = s.len * sz ∧ s.len ≤ s.cap ∧ Reads w s sz cs := by
  obtain ⟨_, h1, h2, h3, hc, rfl, hs, h6⟩ := h.heap
  rcases hs with ⟨rfl, hl, hle, rfl⟩ | ⟨b, off, c, T, fr, ha, hl, hle, hcs, hp⟩
  · exact ⟨by simp [hl], hle, by simp [hl], fun h => absurd rfl h⟩
  · refine ⟨hl, hle, hl, fun _ => ⟨b, off, c, T, fr, ha, ?_, hcs⟩⟩
    have : Holds E w (rob b (.cells c T fr) :: L) := ⟨h.tape, h.os, h.output, _, h1, h2, h3, hc, rfl, hp, h6⟩
    exact this.ro

theorem Holds.own_freeze {T : TypeId} {sz : Nat} {s : Sl} {cs : List Value} (h : Holds E w (ownS T sz s cs :: L)) : Holds E w (roS sz s cs :: L) := by
  rcases h.own_cases with ⟨rfl, rfl, hh⟩ | ⟨b, pre, spare, ha, hl, hle, hsp, hh⟩
  · exact hh.imp fun x hx => ⟨fun _ => none, x, fun _ => .inl rfl, by funext b; simp [hunion], .inl ⟨rfl, by simp, Nat.le_refl _, rfl⟩, hx⟩
  · exact hh.freeze.mono fun x hx => .inr ⟨b, pre.length, _, T, (0, 0), ha, hl, hle, fun i hi => by simp [List.getElem?_append_right, List.getElem?_append_left hi], hx⟩

/-! ### what a slice reads as, cell by cell -/
theorem Reads.cell {s : Sl} {sz : Nat} {cs : List Value} (h : Reads w s sz cs) {a : Addr} (ha : s.a = some a) {i : Nat} (hi : i < cs.length) : w.cell? (a.add i) = cs[i]? := by
  obtain ⟨b, off, c, T, fr, ha', hb, hc⟩ := h.2 (by intro he; rw [he] at hi; simp at hi)
  rw [ha] at ha'
  cases ha'
  rw [Addr.add_mk, cell_of hb, hc i hi]
theorem Reads.addr {s : Sl} {sz : Nat} {cs : List Value} (h : Reads w s sz cs) (hne : cs ≠ []) : ∃ b off, s.a = some ⟨b, off, none⟩ := by
  obtain ⟨b, off, _, _, _, ha, _⟩ := h.2 hne
  exact ⟨b, off, ha⟩

theorem run_firstCells {s : Sl} {sz : Nat} {cs : List Value} (h : Reads w s sz cs) : (Builtin.firstCells sz s.len (.slice s.a s.len s.cap)).run P w = .ok cs.toArray w := by
  obtain ⟨a, len, cap⟩ := s
  cases a with
  | none =>
    have : cs = [] := by
      cases cs with
      | nil => rfl
      | cons v cs => obtain ⟨b, off, ha⟩ := h.addr (by simp); cases ha
    subst this
    rfl
  | some a =>
    simp only [Builtin.firstCells]
    rw [← h.1]
    exact run_loadCells fun j hj => by
      have := h.cell (a := a) rfl hj
      rw [this]; simp [hj]

/-! ### index and reslice -/
theorem run_indexAt {T Te : TypeId} {sz : Nat} {s : Sl} {i : Int} {a : Addr} (hT : pureRun P (underlying T) = some (.slice Te)) (hsz : pureRun P (sizeOf Te) = some sz)
    (ha : s.a = some a) (h0 : 0 ≤ i) (h1 : i < s.len) : (Instr.indexAt T (.slice s.a s.len s.cap) (.int .i64 i)).run P w = .ok (.pointer (some (a.add (i.toNat * sz)))) w := by
  have hT' := pureRun_sound _ hT w
  have hsz' := pureRun_sound _ hsz w
  unfold Instr.indexAt
  rw [run_ok (a := (IntKind.i64, i)) (w' := w) rfl]
  simp only [run_bind, hT', ha]
  simp only [Sem.run_pure, hT']
  rw [if_pos ⟨h0, h1⟩]
  simp only [run_bind, hsz']
  rfl

theorem val_index {T Te : TypeId} {sz : Nat} {s : Sl} {i : Int} {a : Addr} {k : Addr → Pr} (hT : pureRun P (underlying T) = some (.slice Te)) (hsz : pureRun P (sizeOf Te) = some sz)
    (ha : s.a = some a) (h0 : 0 ≤ i) (h1 : i < s.len) (hk : k (a.add (i.toNat * sz)) w) : ValP P (vN (Instr.indexAt T (.slice s.a s.len s.cap) (.int .i64 i))) tAddr k w :=
  ⟨_, fun _ => run_vN (run_indexAt hT hsz ha h0 h1), hk⟩

end
end Go.Sh
end

section
/- Append, and new slices. -/
namespace Go.Sh
section
variable {P : Program} {E w : World} {L L' : List HProp}

theorem growBy_le (n : Nat) : ∀ (r c : Nat), c ≤ 2 * n + 192 → Builtin.growBy n r c ≤ 2 * n + 192
  | 0, c, h => h
  | r + 1, c, h => by
    unfold Builtin.growBy
    split
    · exact h
    · refine growBy_le n r _ ?_
      omega
theorem nextslicecap_le (need old : Nat) (h : old ≤ need) : Builtin.nextslicecap need old ≤ 2 * need + 192 := by
  unfold Builtin.nextslicecap
  split
  · omega
  · split
    · omega
    · exact growBy_le need 4 old (by omega)

theorem run_mark {m : Mark} {w : World} : (mark m).run P w = .ok () w := rfl
theorem run_askRoom {n : Nat} {w : World} : (askRoom n).run P w = .ok () w := by unfold askRoom; split <;> rfl

theorem size_zeroCells (z : Array Value) (n : Nat) : (Builtin.zeroCells z n).size = n * z.size := by simp [Builtin.zeroCells]

/-- what an element's type is -/
structure ElemT (P : Program) (Te : TypeId) (sz by_ : Nat) : Prop where
  size : pureRun P (sizeOf Te) = some sz
  bytes : ((pureRun P (typeInfo Te)).map (·.bytes)) = some by_
  zero : ((pureRun P (zeroValue Te)).map (·.cells.size)) = some sz

theorem ElemT.info {Te : TypeId} {sz by_ : Nat} (h : ElemT P Te sz by_) : ∃ i, pureRun P (typeInfo Te) = some i ∧ i.bytes = by_ := by
  have := h.bytes
  cases hi : pureRun P (typeInfo Te) with
  | none => rw [hi] at this; cases this
  | some i => rw [hi] at this; simp at this; exact ⟨i, rfl, this⟩
theorem ElemT.zeros {Te : TypeId} {sz by_ : Nat} (h : ElemT P Te sz by_) : ∃ z, pureRun P (zeroValue Te) = some z ∧ z.cells.size = sz := by
  have := h.zero
  cases hi : pureRun P (zeroValue Te) with
  | none => rw [hi] at this; cases this
  | some i => rw [hi] at this; simp at this; exact ⟨i, rfl, this⟩

theorem own_size_lt {b : Nat} {o : Obj} {w : World} (h : w.heap[b]? = some o) : b < w.heap.size := by
  rcases Nat.lt_or_ge b w.heap.size with h' | h'
  · exact h'
  · simp [Array.getElem?_eq_none h'] at h

theorem do_append {T1 T2 R Te Te2 : TypeId} {sz by_ : Nat} {s t : Sl} {cs ds : List Value} {k : Sl → Pr}
    (h : Holds E w L) (p : Pick L (ownS Te sz s cs) L') (hT1 : pureRun P (underlying T1) = some (.slice Te)) (hT2 : pureRun P (underlying T2) = some (.slice Te2)) (hE : ElemT P Te sz by_)
    (ht : Reads w t sz ds) (hds : ∀ v ∈ ds, notAgg v = true) (hneed : s.len + t.len ≤ 2 ^ 40) (hbytes : (2 * (s.len + t.len) + 192) * by_ ≤ 2 ^ 48)
    (hk : ∀ s' w', s'.len = s.len + t.len → Holds E w' (ownS Te sz s' (cs ++ ds) :: L') → k s' w') :
    DoP P (vN (Builtin.append_ #[T1, T2] R #[.slice s.a s.len s.cap, .slice t.a t.len t.cap])) tSl k w := by
  have hp := h.pick p
  have hT1' := fun w => pureRun_sound _ hT1 w
  have hT2' := fun w => pureRun_sound _ hT2 w
  have hsz := fun w => pureRun_sound _ hE.size w
  obtain ⟨inf, hinf, hby⟩ := hE.info
  obtain ⟨z, hz, hzs⟩ := hE.zeros
  have hinf' := fun w => pureRun_sound _ hinf w
  have hz' := fun w => pureRun_sound _ hz w
  have hcl := hp.own_len
  have hread := hp.reads_own
  by_cases hfit : s.len + t.len ≤ s.cap
  · -- there is room
    rcases hp.own_cases with ⟨rfl, rfl, hh⟩ | ⟨b, pre, spare, ha, hl, hle, hsp, hh⟩
    · have ht0 : t.len = 0 := by simpa using hfit
      have hd0 : ds = [] := by
        have := ht.1
        rw [ht0] at this
        simpa using this
      subst hd0
      have hf := run_firstCells (P := P) ht
      rw [ht0] at hf
      refine ⟨⟨none, 0, 0⟩, w, run_vN ?_, hk _ _ (by simp [ht0]) (by simpa using hp)⟩
      simp [Builtin.append_, hT1', hsz, hT2', Builtin.lenOf, ht0, hf, Ty.val, Comp.val, Leaf.val]
    · have hf := run_firstCells (P := P) ht
      obtain ⟨c', h1, h2, h3⟩ := run_storeCells (P := P) (T := Te) (b := b) ds pre.length (s.len * sz) ⟨pre ++ (cs ++ spare)⟩ w hh.own
        (by simp [hl, ht.1]
            have : t.len * sz ≤ (s.cap - s.len) * sz := Nat.mul_le_mul_right _ (by omega)
            omega) hds
      have hc' : c' = ⟨pre ++ ((cs ++ ds) ++ (spare.drop ds.length))⟩ := by
        apply Array.ext_getElem?
        intro j
        rw [h3 j]
        simp only [List.getElem?_toArray, List.append_assoc, ← hl]
        by_cases hj0 : j < pre.length
        · rw [if_neg (by omega), List.getElem?_append_left hj0, List.getElem?_append_left hj0]
        · rw [List.getElem?_append_right (l₁ := pre) (by omega), List.getElem?_append_right (l₁ := pre) (by omega)]
          by_cases hj : j - pre.length < cs.length
          · rw [if_neg (by omega), List.getElem?_append_left hj, List.getElem?_append_left hj]
          · rw [List.getElem?_append_right (l₁ := cs) (by omega), List.getElem?_append_right (l₁ := cs) (by omega)]
            by_cases hj2 : j - pre.length < cs.length + ds.length
            · rw [if_pos (by omega), List.getElem?_append_left (by omega)]
              congr 1; omega
            · rw [if_neg (by omega), List.getElem?_append_right (l₁ := ds) (by omega), List.getElem?_drop]
              congr 1; omega
      refine ⟨⟨s.a, s.len + t.len, s.cap⟩, { w with heap := w.heap.setIfInBounds b (.cells c' Te (0, 0)) }, run_vN ?_, hk _ _ rfl ?_⟩
      · have hst : (storeCells ((⟨b, pre.length, none⟩ : Addr).add (s.len * sz)) ds).run P w = .ok () { w with heap := w.heap.setIfInBounds b (.cells c' Te (0, 0)) } := by
          have : ∀ (vs : List Value) (i n : Nat) (w : World), (storeCells ((⟨b, pre.length, none⟩ : Addr).add n) vs i).run P w = (storeCells ⟨b, pre.length, none⟩ vs (n + i)).run P w := by
            intro vs
            induction vs with
            | nil => intro i n w; rfl
            | cons v vs ih =>
              intro i n w
              simp only [storeCells]
              rw [run_bind, run_bind, Addr.add_add _ _ _ rfl]
              cases (store ((⟨b, pre.length, none⟩ : Addr).add (n + i)) v).run P w with
              | ok u w' => simpa [Nat.add_assoc] using ih (i + 1) n w'
              | halt x w' => rfl
          rw [this ds 0 (s.len * sz) w]; exact h1
        simp [Builtin.append_, hT1', hsz, hT2', Builtin.lenOf, hfit, hf, ha, hst, Ty.val, Comp.val, Leaf.val]
      · rw [hc']
        have hlen : (s.cap - (s.len + t.len)) * sz ≤ (spare.drop ds.length).length := by
          have e : s.cap - (s.len + t.len) = (s.cap - s.len) - t.len := by omega
          rw [List.length_drop, ht.1, e, Nat.sub_mul]; omega
        refine Holds.own_mk (pre := pre) (spare := spare.drop ds.length) (b := b) ?_ ha (by simp [hl, ht.1, Nat.add_mul]) hfit hlen
        exact hh.set
  · -- a new block
    have hcap : ¬ ((s.len + t.len : Nat) : Int) > IntKind.i64.max := by
      have : IntKind.i64.max = 9223372036854775807 := by rfl
      rw [this]
      have : (2 : Nat) ^ 40 = 1099511627776 := by decide
      omega
    have hnext : ¬ Builtin.nextslicecap (s.len + t.len) s.cap * inf.bytes > 2 ^ 48 := by
      have h1 := nextslicecap_le (s.len + t.len) s.cap (by omega)
      have h2 : Builtin.nextslicecap (s.len + t.len) s.cap * inf.bytes ≤ (2 * (s.len + t.len) + 192) * by_ := by rw [hby]; exact Nat.mul_le_mul_right _ h1
      omega
    have hL : Holds E { w with drawn := w.drawn + 1 } (ownS Te sz s cs :: L') := hp.drew
    obtain ⟨newCap, hnc, hle⟩ : ∃ n, (Question.appendCap (s.len + t.len) s.cap Te).cut (w.tape w.drawn (.appendCap (s.len + t.len) s.cap Te)) = n ∧ s.len + t.len ≤ n := ⟨_, rfl, Nat.le_add_right _ _⟩
    have hf1 : (Builtin.firstCells sz s.len (.slice s.a s.len s.cap)).run P w.drew = .ok cs.toArray w.drew := run_firstCells hL.reads_own
    have hf2 : (Builtin.firstCells sz t.len (.slice t.a t.len t.cap)).run P w.drew = .ok ds.toArray w.drew := run_firstCells ⟨ht.1, ht.2⟩
    refine ⟨⟨some ⟨w.heap.size, 0, none⟩, s.len + t.len, newCap⟩,
      { w with drawn := w.drawn + 1, heap := w.heap.push (.cells (cs.toArray ++ ds.toArray ++ Builtin.zeroCells z.cells (newCap - (s.len + t.len))) Te (0, 0)) }, run_vN ?_, hk _ _ rfl ?_⟩
    · have hcap' : ¬ (9223372036854775807 < ((s.len : Int) + (t.len : Int))) := by omega
      have hnext' : ¬ (281474976710656 < Builtin.nextslicecap (s.len + t.len) s.cap * inf.bytes) := by omega
      simp [Builtin.append_, hT1', hsz, hT2', Builtin.lenOf, hfit, hinf', hcap', hnext', Question.forced, hnc, hf1, hf2, hz', newRow, Ty.val, Comp.val, Leaf.val]
      rw [← Array.append_assoc, show cs.toArray ++ ds.toArray = (cs ++ ds).toArray from by simp]
      rfl
    · have hnew := (hL.drop).new (o := .cells (cs.toArray ++ ds.toArray ++ Builtin.zeroCells z.cells (newCap - (s.len + t.len))) Te (0, 0))
      have e : cs.toArray ++ ds.toArray ++ Builtin.zeroCells z.cells (newCap - (s.len + t.len)) = ⟨(cs ++ ds) ++ (Builtin.zeroCells z.cells (newCap - (s.len + t.len))).toList⟩ := by
        apply Array.ext'
        simp
      rw [e] at hnew ⊢
      refine Holds.own_mk (pre := []) hnew rfl (by simp [hcl.1, ht.1, Nat.add_mul]) hle ?_
      simp only [Array.length_toList]
      rw [size_zeroCells, hzs]
      exact Nat.le_refl _
end
end Go.Sh
end

section
/- Reslices, new slices, bytes and strings. -/
namespace Go.Sh
section
variable {P : Program} {E w : World} {L L' : List HProp}

/-! ### reslices -/
def subS (s : Sl) (l h m sz : Nat) : Sl := ⟨if m = l then s.a else s.a.map (·.add (l * sz)), h - l, m - l⟩

theorem run_sliceAt {T Te : TypeId} {sz : Nat} {s : Sl} {lo hi mx : Option Int} {l h m : Nat} (hT : pureRun P (underlying T) = some (.slice Te)) (hsz : pureRun P (sizeOf Te) = some sz)
    (hm : m = match mx with | some v => v.toNat | none => s.cap) (hm' : ∀ v, mx = some v → 0 ≤ v ∧ v ≤ s.cap)
    (hh : h = match hi with | some v => v.toNat | none => s.len) (hh' : ∀ v, hi = some v → 0 ≤ v ∧ v ≤ m) (hn : hi = none → mx = none)
    (hl : l = match lo with | some v => v.toNat | none => 0) (hl' : ∀ v, lo = some v → 0 ≤ v ∧ v ≤ h) :
    (Instr.sliceAt T (.slice s.a s.len s.cap) (lo.map (Value.int .i64)) (hi.map (Value.int .i64)) (mx.map (Value.int .i64))).run P w =
      .ok (.slice (subS s l h m sz).a (subS s l h m sz).len (subS s l h m sz).cap) w := by
  have hT' := fun w => pureRun_sound _ hT w
  have hsz' := fun w => pureRun_sound _ hsz w
  have hb : ∀ (v : Int) (y : Nat) (c : BoundsCode), 0 ≤ v ∧ v ≤ y → (Instr.sliceBound (.int .i64 v) y c).run P w = .ok v.toNat w := by
    intro v y c hv
    unfold Instr.sliceBound
    rw [run_ok (a := (IntKind.i64, v)) (w' := w) rfl]
    simp [hv]
  have hbs : (Instr.sliceBounds true s.len s.cap (lo.map (Value.int .i64)) (hi.map (Value.int .i64)) (mx.map (Value.int .i64))).run P w = .ok (l, h, m) w := by
    unfold Instr.sliceBounds
    cases mx with
    | none =>
      simp only [Option.map_none] at hm ⊢
      subst hm
      cases hi with
      | none =>
        simp only [Option.map_none] at hh ⊢
        subst hh
        cases lo with
        | none => simp only at hl; subst hl; simp
        | some v => simp only at hl; subst hl; simp [hb v _ _ (hl' v rfl)]
      | some u =>
        simp only at hh; subst hh
        cases lo with
        | none => simp only at hl; subst hl; simp [hb u _ _ (hh' u rfl)]
        | some v => simp only at hl; subst hl; simp [hb u _ _ (hh' u rfl), hb v _ _ (hl' v rfl)]
    | some x =>
      simp only at hm; subst hm
      cases hi with
      | none => cases hn rfl
      | some u =>
        simp only at hh; subst hh
        cases lo with
        | none => simp only at hl; subst hl; simp [hb x _ _ (hm' x rfl), hb u _ _ (hh' u rfl)]
        | some v => simp only at hl; subst hl; simp [hb x _ _ (hm' x rfl), hb u _ _ (hh' u rfl), hb v _ _ (hl' v rfl)]
  simp [Instr.sliceAt, Instr.slice, hT', hbs, hsz', subS]

theorem val_slice_to {T Te : TypeId} {sz : Nat} {s : Sl} {n : Int} {k : Sl → Pr} (hT : pureRun P (underlying T) = some (.slice Te)) (hsz : pureRun P (sizeOf Te) = some sz)
    (h0 : 0 ≤ n) (h1 : n ≤ s.cap) (hk : k (subS s 0 n.toNat s.cap sz) w) : ValP P (vN (Instr.sliceAt T (.slice s.a s.len s.cap) none (some (.int .i64 n)) none)) tSl k w :=
  ⟨_, fun w => run_vN (run_sliceAt (w := w) (lo := none) (hi := some n) (mx := none) hT hsz rfl (fun _ h => by cases h) rfl (fun v h => by cases h; exact ⟨h0, h1⟩) (fun h => by cases h) rfl (fun _ h => by cases h)), hk⟩
theorem val_slice_from {T Te : TypeId} {sz : Nat} {s : Sl} {n : Int} {k : Sl → Pr} (hT : pureRun P (underlying T) = some (.slice Te)) (hsz : pureRun P (sizeOf Te) = some sz)
    (h0 : 0 ≤ n) (h1 : n ≤ s.len) (hk : k (subS s n.toNat s.len s.cap sz) w) : ValP P (vN (Instr.sliceAt T (.slice s.a s.len s.cap) (some (.int .i64 n)) none none)) tSl k w :=
  ⟨_, fun w => run_vN (run_sliceAt (w := w) (lo := some n) (hi := none) (mx := none) hT hsz rfl (fun _ h => by cases h) rfl (fun v h => by cases h) (fun _ => rfl) rfl (fun v h => by cases h; exact ⟨h0, h1⟩)), hk⟩
theorem val_slice_both {T Te : TypeId} {sz : Nat} {s : Sl} {n m : Int} {k : Sl → Pr} (hT : pureRun P (underlying T) = some (.slice Te)) (hsz : pureRun P (sizeOf Te) = some sz)
    (h0 : 0 ≤ n) (h1 : n ≤ m) (h2 : m ≤ s.cap) (hk : k (subS s n.toNat m.toNat s.cap sz) w) : ValP P (vN (Instr.sliceAt T (.slice s.a s.len s.cap) (some (.int .i64 n)) (some (.int .i64 m)) none)) tSl k w :=
  ⟨_, fun w => run_vN (run_sliceAt (w := w) (lo := some n) (hi := some m) (mx := none) hT hsz rfl (fun _ h => by cases h) rfl (fun v h => by cases h; exact ⟨by omega, h2⟩) (fun h => by cases h) rfl (fun v h => by cases h; exact ⟨h0, by show n ≤ ((m.toNat : Nat) : Int); omega⟩)), hk⟩
theorem val_slice_three {T Te : TypeId} {sz : Nat} {s : Sl} {n m : Int} {k : Sl → Pr} (hT : pureRun P (underlying T) = some (.slice Te)) (hsz : pureRun P (sizeOf Te) = some sz)
    (h0 : 0 ≤ n) (h1 : n ≤ m) (h2 : m ≤ s.cap) (hk : k (subS s 0 n.toNat m.toNat sz) w) : ValP P (vN (Instr.sliceAt T (.slice s.a s.len s.cap) none (some (.int .i64 n)) (some (.int .i64 m)))) tSl k w :=
  ⟨_, fun w => run_vN (run_sliceAt (w := w) (lo := none) (hi := some n) (mx := some m) hT hsz rfl (fun v h => by cases h; exact ⟨by omega, h2⟩) rfl (fun v h => by cases h; exact ⟨h0, by show n ≤ ((m.toNat : Nat) : Int); omega⟩) (fun h => by cases h) rfl (fun _ h => by cases h)), hk⟩

theorem Holds.own_sub {Te : TypeId} {sz : Nat} {s : Sl} {cs : List Value} (hh : Holds E w (ownS Te sz s cs :: L)) {l h m : Nat} (h1 : l ≤ h) (h2 : h ≤ s.len) (h3 : h ≤ m) (h4 : m ≤ s.cap) :
    Holds E w (ownS Te sz (subS s l h m sz) ((cs.drop (l * sz)).take ((h - l) * sz)) :: L) := by
  rcases hh.own_cases with ⟨rfl, rfl, h'⟩ | ⟨b, pre, spare, ha, hl, hle, hsp, h'⟩
  · simp only at h2 h4
    have e1 : h = 0 := by omega
    have e2 : m = 0 := by omega
    have e3 : l = 0 := by omega
    subst e1; subst e2; subst e3
    simpa [subS] using h'.own_nil (T := Te) (sz := sz)
  · by_cases hml : m = l
    · have e1 : h = l := by omega
      subst e1
      have e : subS s h h m sz = ⟨s.a, 0, 0⟩ := by simp [subS, hml]
      rw [e]
      simp only [Nat.sub_self, Nat.zero_mul, List.take_zero]
      exact Holds.own_mk (pre := pre) (cs := []) (spare := cs ++ spare) (by simpa using h') ha (by simp) (Nat.le_refl _) (by simp)
    · have hmul : h * sz ≤ cs.length := by rw [hl]; exact Nat.mul_le_mul_right _ h2
      have hmul' : l * sz ≤ h * sz := Nat.mul_le_mul_right _ h1
      have hsub : (h - l) * sz = h * sz - l * sz := Nat.sub_mul _ _ _
      refine Holds.own_mk (pre := pre ++ cs.take (l * sz)) (spare := cs.drop (h * sz) ++ spare) (b := b) ?_ ?_ ?_ ?_ ?_
      · have e : pre ++ (cs ++ spare) = pre ++ cs.take (l * sz) ++ ((cs.drop (l * sz)).take ((h - l) * sz) ++ (cs.drop (h * sz) ++ spare)) := by
          have e1 : cs = cs.take (l * sz) ++ ((cs.drop (l * sz)).take ((h - l) * sz) ++ cs.drop (h * sz)) := by
            have e2 : cs.drop (h * sz) = (cs.drop (l * sz)).drop ((h - l) * sz) := by rw [List.drop_drop]; congr 1; omega
            rw [e2, List.take_append_drop, List.take_append_drop]
          conv => lhs; rw [e1]
          simp [List.append_assoc]
        rw [← e]; exact h'
      · simp only [subS, hml, if_false, ha, Option.map_some, Addr.add_mk, List.length_append, List.length_take]
        congr 2; omega
      · simp only [subS, List.length_take, List.length_drop]; omega
      · simp only [subS]; omega
      · simp only [subS, List.length_append, List.length_drop]
        have e1 : (m - l - (h - l)) = m - h := by omega
        rw [e1]
        have e2 : (m - h) * sz ≤ (s.cap - h) * sz := Nat.mul_le_mul_right _ (by omega)
        have e3 : (s.cap - h) * sz = (s.cap - s.len) * sz + (s.len - h) * sz := by rw [← Nat.add_mul]; congr 1; omega
        have e4 : (s.len - h) * sz = s.len * sz - h * sz := Nat.sub_mul _ _ _
        omega

/-! ### new slices -/
theorem do_build {Te : TypeId} {sz len : Nat} {s : Sem Value} {k : Sl → Pr} (cs : List Value) (h : Holds E w L)
    (hs : s.run P w = .ok (.slice (some ⟨w.heap.size, 0, none⟩) len len) { w with heap := w.heap.push (.cells ⟨cs⟩ Te (0, 0)) }) (hl : cs.length = len * sz)
    (hk : ∀ s' w', s'.len = len → Holds E w' (ownS Te sz s' cs :: L) → k s' w') : DoP P (vN s) tSl k w := by
  refine do_new (l := .slice) (x := ⟨some ⟨w.heap.size, 0, none⟩, len, len⟩) h hs rfl fun w' h' => ?_
  refine hk _ _ rfl (Holds.own_mk (pre := []) (spare := []) (by simpa using h') rfl hl (Nat.le_refl _) (by simp))

/-! ### bytes and strings -/
theorem get_bytesStr {Tb Ts e : TypeId} {s : Sl} {bs : List UInt8} {k : ByteArray → Pr} (hs : P.underlying Tb = some (.slice e)) (he : P.underlying e = some (.int .u8)) (hd : P.underlying Ts = some .string)
    (h : Reads w s 1 (bs.map fun b => .int .u8 b.toNat)) (hk : k ⟨bs.toArray⟩ w) : GetP P (vN (Go.convert Tb Ts (.slice s.a s.len s.cap))) tStr k w := by
  refine ⟨⟨bs.toArray⟩, run_vN ?_, hk⟩
  rw [run_convert_bytes_string w Tb Ts e _ _ _ hs he hd]
  have hlen : bs.length = s.len := by simpa using h.1
  obtain ⟨a, len, cap⟩ := s
  simp only at hlen ⊢
  cases a with
  | none =>
    have : bs = [] := by
      cases bs with
      | nil => rfl
      | cons v cs => obtain ⟨b, off, ha⟩ := h.addr (by simp); cases ha
    subst this
    rfl
  | some a =>
    have hf := run_firstCells (P := P) h
    simp only [Builtin.firstCells, Nat.mul_one] at hf
    have hb := run_bytesToString (P := P) w a len cap (bs.map fun b => (b.toNat : Int)) (by rw [hf]; simp [List.map_map])
    rw [hb]
    have key : ∀ (l : List UInt8) (acc : ByteArray), (l.map fun b => (b.toNat : Int)).foldl (fun r n => r.push (UInt8.ofNat n.toNat)) acc = ⟨acc.data ++ l.toArray⟩ := by
      intro l
      induction l with
      | nil => intro acc; simp
      | cons x l ih =>
        intro acc
        simp only [List.map_cons, List.foldl_cons, ih]
        congr 1
        simp [ByteArray.push]
    rw [key bs ByteArray.empty]
    simp [Ty.val, Comp.val, Leaf.val]

theorem val_strFrom {T : TypeId} {s : ByteArray} {n : Int} {k : ByteArray → Pr} (hT : P.underlying T = some .string) (h0 : 0 ≤ n) (h1 : n ≤ s.size) (hk : k (s.extract n.toNat s.size) w) :
    ValP P (vN (Instr.sliceAt T (.string s) (some (.int .i64 n)) none none)) tStr k w := by
  refine ⟨_, fun w => run_vN ?_, hk⟩
  have := run_slice_string_from_if (P := P) w T s .i64 n hT
  rw [if_pos ⟨h0, h1⟩] at this
  have hu := run_underlying (P := P) hT
  simp [Instr.sliceAt, hu, this, Ty.val, Comp.val, Leaf.val]

theorem val_strTo {T : TypeId} {s : ByteArray} {n : Int} {k : ByteArray → Pr} (hT : P.underlying T = some .string) (h0 : 0 ≤ n) (h1 : n ≤ s.size) (hk : k (s.extract 0 n.toNat) w) :
    ValP P (vN (Instr.sliceAt T (.string s) none (some (.int .i64 n)) none)) tStr k w := by
  refine ⟨_, fun w => run_vN ?_, hk⟩
  have := run_slice_string_to_if (P := P) w T s .i64 n hT
  rw [if_pos ⟨h0, h1⟩] at this
  have hu := run_underlying (P := P) hT
  simp [Instr.sliceAt, hu, this, Ty.val, Comp.val, Leaf.val]

theorem val_concat {T : TypeId} {x y : Operand} {a b : ByteArray} {k : ByteArray → Pr} (hb : a.size + b.size ≤ 9223372036854775807) (hk : k (a ++ b) w) :
    ValP P (cmpN .add T x y (.string a) (.string b)) tStr k w := by
  refine ⟨_, fun w => run_vN ?_, hk⟩
  rw [run_ok (a := ()) (w' := w) rfl]
  have : ¬ (((a.size + b.size : Nat) : Int) > IntKind.i64.max) := by
    have : IntKind.i64.max = 9223372036854775807 := by rfl
    rw [this]; omega
  simp only [Go.binOp, Op.stringOp]
  rw [if_neg this]
  rfl

/-- a new array of a size that is reckoned; elements of one cell -/
theorem do_makeSlice {T Te : TypeId} {i : TypeInfo} {z : Value} {n : Int} {k : Sl → Pr} (h : Holds E w L) (ht : P.underlying T = some (.slice Te)) (hi : P.info? Te = some i) (hz : i.zero = some z)
    (h1 : i.size = 1) (hzc : z.cells = #[z]) (h0 : 0 ≤ n) (hb : (i.bytes : Int) * n ≤ 281474976710656) (h2 : n ≤ 9223372036854775807)
    (hk : ∀ s' w', s'.len = n.toNat → Holds E w' (ownS Te 1 s' (List.replicate n.toNat z) :: L) → k s' w') :
    DoP P (vN (Instr.makeSlice T (.int .i64 n) (.int .i64 n))) tSl k w := by
  refine do_build (sz := 1) (len := n.toNat) (List.replicate n.toNat z) h ?_ (by simp) hk
  rw [run_make w T Te i z ht hi hz .i64 .i64 n n h0 (Int.le_refl _) hb h2]
  congr 1
  unfold World.alloc
  congr 3
  apply Array.ext'
  simp only [madeCells, h1, hzc, Nat.mul_one]
  refine List.ext_getElem (by simp) fun j h3 h4 => ?_
  simp [Nat.mod_one]
end
end Go.Sh
end

section
/- Maps: what a block of entries reads as; lookup, store, delete, range. -/
namespace Go.Sh

structure MEnt (K V : Type) where
  key : K
  val : V
  born : Nat

/-- a key's kind: what the model's search needs of it -/
structure KeyOK (P : Program) (K : TypeId) (kl : Leaf) (eqk : kl.den → kl.den → Bool) : Prop where
  iff : ∀ x y, eqk x y = true ↔ x = y
  find : ∀ x, ∃ d, pureRun P (underlying K) = some d ∧ ∀ y, Instr.sameNow d (kl.val x) (kl.val y) = some (eqk x y)
  chk : ∀ x e, pureRun P (Instr.checkKey e 10000 K (kl.val x)) = some ()
  bits : ∀ x, Instr.sameBits 10000 (kl.val x) (kl.val x) = true

section
variable {P : Program} {E w : World} {L L' : List HProp} {kl : Leaf} {vl : Comp} {eqk : kl.den → kl.den → Bool}

def toEnt (kl : Leaf) (vl : Comp) (e : MEnt kl.den vl.den) : MapEntry := { key := kl.val e.key, val := vl.val e.val, born := e.born }
def mapB (kl : Leaf) (vl : Comp) (r : Nat) (es : List (MEnt kl.den vl.den)) (clock : Nat) : HProp := pto r (.map ⟨es.map (toEnt kl vl)⟩ clock)

def mfindAt {K V : Type} (eqk : K → K → Bool) (x : K) : List (MEnt K V) → Nat → Option (Nat × V)
  | [], _ => none
  | e :: es, i => if eqk x e.key then some (i, e.val) else mfindAt eqk x es (i + 1)
def mlook {K V : Type} (eqk : K → K → Bool) (x : K) : List (MEnt K V) → Option V
  | [] => none
  | e :: es => if eqk x e.key then some e.val else mlook eqk x es
/-- a store -/
def mset {K V : Type} (eqk : K → K → Bool) (x : K) (v : V) : List (MEnt K V) → Nat → List (MEnt K V)
  | [], clock => [⟨x, v, clock⟩]
  | e :: es, clock => if eqk x e.key then ⟨e.key, v, e.born⟩ :: es else e :: mset eqk x v es clock
def mclock {K V : Type} (eqk : K → K → Bool) (x : K) (es : List (MEnt K V)) (clock : Nat) : Nat := if (mlook eqk x es).isSome then clock else clock + 1
def mdel {K V : Type} (eqk : K → K → Bool) (x : K) : List (MEnt K V) → List (MEnt K V)
  | [] => []
  | e :: es => if eqk x e.key then es else e :: mdel eqk x es

theorem mfindAt_look {K V : Type} (eqk : K → K → Bool) (x : K) : ∀ (es : List (MEnt K V)) (i : Nat), (mfindAt eqk x es i).map (·.2) = mlook eqk x es
  | [], _ => rfl
  | e :: es, i => by
    simp only [mfindAt, mlook]
    split
    · rfl
    · exact mfindAt_look eqk x es (i + 1)

theorem findNow_eq {d : TypeDesc} {x : kl.den} (hs : ∀ y, Instr.sameNow d (kl.val x) (kl.val y) = some (eqk x y)) : ∀ (es : List (MEnt kl.den vl.den)) (i : Nat),
    Instr.findNow d (kl.val x) (es.map (toEnt kl vl)) i = some ((mfindAt eqk x es i).map fun p => (p.1, vl.val p.2))
  | [], _ => rfl
  | e :: es, i => by
    simp only [List.map_cons, Instr.findNow, mfindAt]
    rw [show (toEnt kl vl e).key = kl.val e.key from rfl, hs e.key]
    cases eqk x e.key with
    | true => simp [toEnt]
    | false => simpa using findNow_eq hs es (i + 1)

theorem run_findKey {K : TypeId} (hK : KeyOK P K kl eqk) (x : kl.den) (es : List (MEnt kl.den vl.den)) :
    (Instr.findKey K (kl.val x) (es.map (toEnt kl vl))).run P w = .ok ((mfindAt eqk x es 0).map fun p => (p.1, vl.val p.2)) w := by
  obtain ⟨d, hd, hs⟩ := hK.find x
  unfold Instr.findKey
  rw [run_ok (pureRun_sound _ hd w), findNow_eq hs]
  rfl

theorem run_getMap {r : Nat} {es : Array MapEntry} {clock : Nat} (h : w.heap[r]? = some (.map es clock)) : (getObj r).run P w = .ok (.map es clock) w := by
  simp [getObj, Sem.run, h]
theorem run_setMap {r : Nat} {es es' : Array MapEntry} {clock clock' : Nat} (h : w.heap[r]? = some (.map es clock)) :
    (setObj r (.map es' clock')).run P w = .ok () { w with heap := w.heap.setIfInBounds r (.map es' clock') } := by
  simp [setObj, Sem.run, h]

theorem get_lookup_ok {M K V : TypeId} {r : Nat} {es : List (MEnt kl.den vl.den)} {clock : Nat} {x : kl.den} {z : vl.den} {k : (vl.den × Bool × Unit) → Pr}
    (hM : pureRun P (underlying M) = some (.map K V)) (hK : KeyOK P K kl eqk) (hz : pureRun P (zeroValue V) = some (vl.val z)) (h : Holds E w L) (p : Pick L (mapB kl vl r es clock) L')
    (hk : k (match mlook eqk x es with | some v => (v, true, ()) | none => (z, false, ())) w) : GetP P (vN (Instr.lookup M (.map (some r)) (kl.val x) true)) (.tup [vl, .leaf .bool]) k w := by
  have hr := (h.pick p).own
  refine ⟨_, run_vN ?_, hk⟩
  unfold Instr.lookup
  rw [run_ok (pureRun_sound _ hM w)]
  simp only []
  rw [run_ok (run_getMap hr)]
  simp only []
  rw [run_ok (a := (⟨es.map (toEnt kl vl)⟩ : Array MapEntry)) (w' := w) rfl]
  rw [run_ok (pureRun_sound _ (hK.chk x _) w)]
  rw [run_ok (run_findKey hK x es)]
  have hl := mfindAt_look eqk x es 0
  cases hm : mfindAt eqk x es 0 with
  | none =>
    rw [hm] at hl
    rw [← hl]
    simp only [Option.map_none]
    rw [run_ok (pureRun_sound _ hz w)]
    rfl
  | some p =>
    rw [hm] at hl
    rw [← hl]
    rfl

theorem mset_spec (x : kl.den) (v : vl.den) : ∀ (es : List (MEnt kl.den vl.den)) (clock i : Nat), (∀ a b, eqk a b = true ↔ a = b) →
    match mfindAt eqk x es i with
    | some (j, _) => i ≤ j ∧ (es.map (toEnt kl vl)).modify (j - i) (fun e => { e with key := kl.val x, val := vl.val v }) = (mset eqk x v es clock).map (toEnt kl vl) ∧
        ((es.map (toEnt kl vl))[j - i]?).map (·.key) = some (kl.val x)
    | none => mset eqk x v es clock = es ++ [⟨x, v, clock⟩]
  | [], clock, i, _ => rfl
  | e :: es, clock, i, hiff => by
    simp only [mfindAt, mset]
    by_cases hx : eqk x e.key = true
    · rw [if_pos hx, if_pos hx]
      have := (hiff _ _).1 hx
      subst this
      refine ⟨Nat.le_refl _, ?_, ?_⟩ <;> simp [toEnt]
    · rw [if_neg hx, if_neg hx]
      have ih := mset_spec x v es clock (i + 1) hiff
      cases hm : mfindAt eqk x es (i + 1) with
      | none => rw [hm] at ih; simp only at ih ⊢; rw [ih]; rfl
      | some q =>
        obtain ⟨j, u⟩ := q
        rw [hm] at ih
        simp only at ih ⊢
        obtain ⟨h1, h2, h3⟩ := ih
        have e : j - i = (j - (i + 1)) + 1 := by omega
        refine ⟨by omega, ?_, ?_⟩
        · rw [e, List.map_cons, List.modify_succ_cons, h2]; rfl
        · rw [e, List.map_cons, List.getElem?_cons_succ, h3]

theorem do_mapUpdate {M K V : TypeId} {r : Nat} {es : List (MEnt kl.den vl.den)} {clock : Nat} {x : kl.den} {v : vl.den} {k : Pr}
    (hM : pureRun P (underlying M) = some (.map K V)) (hK : KeyOK P K kl eqk) (h : Holds E w L) (p : Pick L (mapB kl vl r es clock) L')
    (hk : ∀ w', Holds E w' (mapB kl vl r (mset eqk x v es clock) (mclock eqk x es clock) :: L') → k w') : DoU P (uN (Instr.mapUpdate M (.map (some r)) (kl.val x) (vl.val v))) k w := by
  have hp := h.pick p
  have hr := hp.own
  have hspec := mset_spec (vl := vl) x v es clock 0 hK.iff
  have hl := mfindAt_look eqk x es 0
  refine ⟨{ w with heap := w.heap.setIfInBounds r (.map ⟨(mset eqk x v es clock).map (toEnt kl vl)⟩ (mclock eqk x es clock)) }, run_uN ?_, hk _ hp.set⟩
  unfold Instr.mapUpdate
  rw [run_ok (pureRun_sound _ hM w)]
  simp only []
  rw [run_ok (run_getMap hr)]
  simp only []
  rw [run_ok (pureRun_sound _ (hK.chk x _) w), run_ok (run_findKey hK x es)]
  cases hm : mfindAt eqk x es 0 with
  | none =>
    rw [hm] at hspec hl
    simp only at hspec
    simp only [Option.map_none]
    rw [run_setMap hr]
    have hc : mclock eqk x es clock = clock + 1 := by simp [mclock, ← hl]
    rw [hc, hspec]
    congr 3
    simp [toEnt]
  | some q =>
    obtain ⟨j, u⟩ := q
    rw [hm] at hspec hl
    simp only [Nat.sub_zero] at hspec
    obtain ⟨_, h2, h3⟩ := hspec
    simp only [Option.map_some]
    have hold : (((⟨es.map (toEnt kl vl)⟩ : Array MapEntry)[j]?).map (·.key)).getD (kl.val x) = kl.val x := by
      simp only [List.getElem?_toArray]
      rw [h3]; rfl
    rw [hold]
    rw [run_ok (a := kl.val x) (w' := w) (by unfold Instr.keyThatStays; rw [hK.bits x]; rfl)]
    rw [run_setMap hr]
    have hc : mclock eqk x es clock = clock := by simp [mclock, ← hl]
    rw [hc, ← h2]
    congr 4
    apply Array.ext'
    simp

theorem mdel_spec (x : kl.den) : ∀ (es : List (MEnt kl.den vl.den)) (i : Nat),
    match mfindAt eqk x es i with
    | some (j, _) => i ≤ j ∧ (es.map (toEnt kl vl)).eraseIdx (j - i) = (mdel eqk x es).map (toEnt kl vl)
    | none => mdel eqk x es = es
  | [], i => rfl
  | e :: es, i => by
    simp only [mfindAt, mdel]
    by_cases hx : eqk x e.key = true
    · rw [if_pos hx, if_pos hx]
      simp
    · rw [if_neg hx, if_neg hx]
      have ih := mdel_spec x es (i + 1)
      cases hm : mfindAt eqk x es (i + 1) with
      | none => rw [hm] at ih; simp only at ih ⊢; rw [ih]
      | some q =>
        obtain ⟨j, u⟩ := q
        rw [hm] at ih
        simp only at ih ⊢
        obtain ⟨h1, h2⟩ := ih
        have e : j - i = (j - (i + 1)) + 1 := by omega
        refine ⟨by omega, ?_⟩
        rw [e, List.map_cons, List.eraseIdx_cons_succ, h2]; rfl

theorem do_delete {M K V K' R : TypeId} {r : Nat} {es : List (MEnt kl.den vl.den)} {clock : Nat} {x : kl.den} {k : Unit → Pr}
    (hM : pureRun P (underlying M) = some (.map K V)) (hK : KeyOK P K kl eqk) (h : Holds E w L) (p : Pick L (mapB kl vl r es clock) L')
    (hk : ∀ w', Holds E w' (mapB kl vl r (mdel eqk x es) clock :: L') → k () w') : DoP P (vN (Builtin.delete_ #[M, K'] R #[.map (some r), kl.val x])) (.tup []) k w := by
  have hp := h.pick p
  have hr := hp.own
  have hspec := mdel_spec (vl := vl) (eqk := eqk) x es 0
  refine ⟨(), { w with heap := w.heap.setIfInBounds r (.map ⟨(mdel eqk x es).map (toEnt kl vl)⟩ clock) }, run_vN ?_, hk _ hp.set⟩
  unfold Builtin.delete_
  simp only [List.getElem?_toArray, List.getElem?_cons_zero, List.getElem?_cons_succ]
  rw [run_ok (pureRun_sound _ hM w)]
  simp only []
  rw [run_ok (run_getMap hr)]
  simp only []
  rw [run_ok (pureRun_sound _ (hK.chk x _) w), run_ok (run_findKey hK x es)]
  cases hm : mfindAt eqk x es 0 with
  | none =>
    rw [hm] at hspec
    simp only at hspec
    simp only [Option.map_none]
    rw [run_ok (run_setMap hr), hspec]
    rfl
  | some q =>
    obtain ⟨j, u⟩ := q
    rw [hm] at hspec
    simp only [Nat.sub_zero] at hspec
    simp only [Option.map_some]
    rw [run_ok (run_setMap hr), ← hspec.2]
    have : (⟨es.map (toEnt kl vl)⟩ : Array MapEntry).eraseIdxIfInBounds j = ⟨(es.map (toEnt kl vl)).eraseIdx j⟩ := by
      apply Array.ext'
      simp
    rw [this]
    rfl

/-! ### the plain laws -/
theorem mlook_set {K V : Type} {eqk : K → K → Bool} (hiff : ∀ a b, eqk a b = true ↔ a = b) (x y : K) (v : V) : ∀ (es : List (MEnt K V)) (clock : Nat),
    mlook eqk y (mset eqk x v es clock) = if eqk y x then some v else mlook eqk y es
  | [], clock => by simp [mset, mlook]
  | e :: es, clock => by
    simp only [mset]
    by_cases hx : eqk x e.key = true
    · rw [if_pos hx]
      have := (hiff _ _).1 hx
      subst this
      simp only [mlook]
      by_cases hy : eqk y e.key = true <;> simp [hy]
    · rw [if_neg hx]
      simp only [mlook]
      rw [mlook_set hiff x y v es clock]
      by_cases hy : eqk y e.key = true
      · have h1 := (hiff _ _).1 hy
        have h2 : ¬ eqk y x = true := fun h => hx ((hiff _ _).2 (((hiff _ _).1 h).symm.trans h1))
        simp [hy, h2]
      · simp [hy]

theorem mlook_none {K V : Type} {eqk : K → K → Bool} (hiff : ∀ a b, eqk a b = true ↔ a = b) (x : K) : ∀ (es : List (MEnt K V)), x ∉ es.map (·.key) → mlook eqk x es = none
  | [], _ => rfl
  | e :: es, h => by
    simp only [List.map_cons, List.mem_cons, not_or] at h
    simp only [mlook]
    rw [if_neg (fun hh => h.1 ((hiff _ _).1 hh))]
    exact mlook_none hiff x es h.2

theorem mdel_keys {K V : Type} (eqk : K → K → Bool) (x : K) : ∀ (es : List (MEnt K V)), ∀ k ∈ (mdel eqk x es).map (·.key), k ∈ es.map (·.key)
  | [], _, h => h
  | e :: es, k, h => by
    simp only [mdel] at h
    split at h
    · exact List.mem_cons_of_mem _ h
    · rcases List.mem_cons.1 h with h | h
      · exact h ▸ List.mem_cons_self
      · exact List.mem_cons_of_mem _ (mdel_keys eqk x es k h)

theorem mlook_del {K V : Type} {eqk : K → K → Bool} (hiff : ∀ a b, eqk a b = true ↔ a = b) (x y : K) : ∀ (es : List (MEnt K V)), (es.map (·.key)).Nodup →
    mlook eqk y (mdel eqk x es) = if eqk y x then none else mlook eqk y es
  | [], _ => by simp [mdel, mlook]
  | e :: es, hn => by
    simp only [List.map_cons, List.nodup_cons] at hn
    simp only [mdel]
    by_cases hx : eqk x e.key = true
    · rw [if_pos hx]
      have := (hiff _ _).1 hx
      subst this
      by_cases hy : eqk y e.key = true
      · have h1 := (hiff _ _).1 hy
        subst h1
        rw [if_pos hy]
        exact mlook_none hiff _ es hn.1
      · simp [mlook, hy]
    · rw [if_neg hx]
      simp only [mlook]
      rw [mlook_del hiff x y es hn.2]
      by_cases hy : eqk y e.key = true
      · have h1 := (hiff _ _).1 hy
        have h2 : ¬ eqk y x = true := fun h => hx ((hiff _ _).2 (((hiff _ _).1 h).symm.trans h1))
        simp [hy, h2]
      · simp [hy]

theorem mdel_nodup {K V : Type} (eqk : K → K → Bool) (x : K) : ∀ (es : List (MEnt K V)), (es.map (·.key)).Nodup → ((mdel eqk x es).map (·.key)).Nodup
  | [], h => h
  | e :: es, hn => by
    simp only [List.map_cons, List.nodup_cons] at hn
    simp only [mdel]
    split
    · exact hn.2
    · simp only [List.map_cons, List.nodup_cons]
      exact ⟨fun h => hn.1 (mdel_keys eqk x es _ h), mdel_nodup eqk x es hn.2⟩

theorem mset_keys {K V : Type} {eqk : K → K → Bool} (hiff : ∀ a b, eqk a b = true ↔ a = b) (x : K) (v : V) : ∀ (es : List (MEnt K V)) (clock : Nat), ∀ k ∈ (mset eqk x v es clock).map (·.key), k = x ∨ k ∈ es.map (·.key)
  | [], _, k, h => by simp [mset] at h; exact .inl h
  | e :: es, clock, k, h => by
    simp only [mset] at h
    split at h
    · exact .inr h
    · rcases List.mem_cons.1 h with h | h
      · exact .inr (h ▸ List.mem_cons_self)
      · rcases mset_keys hiff x v es clock k h with h | h
        · exact .inl h
        · exact .inr (List.mem_cons_of_mem _ h)
theorem mset_nodup {K V : Type} {eqk : K → K → Bool} (hiff : ∀ a b, eqk a b = true ↔ a = b) (x : K) (v : V) : ∀ (es : List (MEnt K V)) (clock : Nat), (es.map (·.key)).Nodup → ((mset eqk x v es clock).map (·.key)).Nodup
  | [], _, _ => by simp [mset]
  | e :: es, clock, hn => by
    simp only [List.map_cons, List.nodup_cons] at hn
    simp only [mset]
    split
    · simp only [List.map_cons, List.nodup_cons]; exact hn
    · rename_i hx
      simp only [List.map_cons, List.nodup_cons]
      refine ⟨fun h => ?_, mset_nodup hiff x v es clock hn.2⟩
      rcases mset_keys hiff x v es clock _ h with h | h
      · exact hx ((hiff _ _).2 h.symm)
      · exact hn.1 h
end
end Go.Sh
end

section
/- The walk's own forms: each primitive by what holds. -/
namespace Go.Sh
section
variable {P : Program} {E w : World} {L L' : List HProp}

theorem get_ld {t : TypeId} {l : Leaf} {a : Addr} {b off : Nat} {c : Array Value} {T : TypeId} {fr : Nat × Nat} {k : l.den → Pr} {x : l.den}
    (h : Holds E w L) (ha : a = ⟨b, off, none⟩) (p : Pick L (pto b (.cells c T fr)) L') (ht : pureRun P (isAgg t) = some false)
    (hc : (c[off]?).bind l.parse = some x) (hk : k x w) : GetP P (vN (Instr.loadAt t (.pointer (some a)))) (.one (.leaf l)) k w :=
  get_load' (h.pick p).own ht ha hc hk
theorem get_ld_ro {t : TypeId} {l : Leaf} {a : Addr} {b off : Nat} {c : Array Value} {T : TypeId} {fr : Nat × Nat} {k : l.den → Pr} {x : l.den}
    (h : Holds E w L) (ha : a = ⟨b, off, none⟩) (p : Pick L (rob b (.cells c T fr)) L') (ht : pureRun P (isAgg t) = some false)
    (hc : (c[off]?).bind l.parse = some x) (hk : k x w) : GetP P (vN (Instr.loadAt t (.pointer (some a)))) (.one (.leaf l)) k w :=
  get_load' (h.pick p).ro ht ha hc hk
theorem chk_ld {t : TypeId} {a : Addr} {b off : Nat} {c : Array Value} {T : TypeId} {fr : Nat × Nat} {k : Pr} {v : Value}
    (h : Holds E w L) (ha : a = ⟨b, off, none⟩) (p : Pick L (pto b (.cells c T fr)) L') (ht : pureRun P (isAgg t) = some false)
    (hc : c[off]? = some v) (hk : k w) : ChkP P (vN (Instr.loadAt t (.pointer (some a)))) v k w :=
  chk_load (h.pick p).own ht ha hc hk
theorem do_st {t : TypeId} {a : Addr} {b off : Nat} {c : Array Value} {T : TypeId} {v : Value} {k : Pr}
    (h : Holds E w L) (ha : a = ⟨b, off, none⟩) (p : Pick L (pto b (.cells c T (0, 0))) L') (hn : pureRun P (sizeOf t) = some 1) (hlt : Nat.blt off c.size = true) (hv : notAgg v = true)
    (hk : ∀ w', Holds E w' (pto b (.cells (c.setIfInBounds off v) T (0, 0)) :: L') → k w') : DoU P (uN (Instr.storeAt t (.pointer (some a)) v)) k w :=
  do_store h p hn ha hlt hv hk

/-- a cell of a slice's element -/
theorem get_el {t : TypeId} {l : Leaf} {a : Addr} {s : Sl} {sz : Nat} {cs : List Value} {a0 : Addr} {i : Nat} {k : l.den → Pr} (x : l.den)
    (hr : Reads w s sz cs) (ha0 : s.a = some a0) (ha : a = a0.add i) (ht : pureRun P (isAgg t) = some false)
    (hc : cs[i]? = some (l.val x)) (hk : k x w) : GetP P (vN (Instr.loadAt t (.pointer (some a)))) (.one (.leaf l)) k w := by
  subst ha
  have hi : i < cs.length := by
    rcases Nat.lt_or_ge i cs.length with h | h
    · exact h
    · rw [List.getElem?_eq_none h] at hc; cases hc
  exact get_cell x ht (by rw [hr.cell ha0 hi, hc]) hk

theorem get_el_agg {t : TypeId} {ls : List Leaf} {a : Addr} {s : Sl} {sz : Nat} {cs : List Value} {a0 : Addr} {i : Nat} {k : cellsDen ls → Pr} (x : cellsDen ls)
    (hr : Reads w s sz cs) (ha0 : s.a = some a0) (ha : a = a0.add i) (ht : pureRun P (isAgg t) = some true) (hn : pureRun P (sizeOf t) = some (cellsVal ls x).length)
    (hc : ∀ j, j < (cellsVal ls x).length → cs[i + j]? = (cellsVal ls x)[j]?) (hk : k x w) : GetP P (vN (Instr.loadAt t (.pointer (some a)))) (.one (.agg ls)) k w := by
  subst ha
  refine ⟨x, run_vN ?_, hk⟩
  unfold Instr.loadAt
  rw [run_ok (a := a0.add i) (w' := w) rfl]
  unfold loadVar
  rw [run_pureRun ht]
  simp only [if_true]
  rw [run_pureRun hn]
  rw [run_ok (run_loadCells (fun j hj => by
    have h1 := hc j hj
    have hi : i + j < cs.length := by
      rcases Nat.lt_or_ge (i + j) cs.length with h | h
      · exact h
      · rw [List.getElem?_eq_none h, List.getElem?_eq_getElem hj] at h1; cases h1
    have hspot : a0.spot = none := by
      obtain ⟨b, off, hb⟩ := hr.addr (by intro he; rw [he] at hi; simp at hi)
      rw [ha0] at hb; cases hb; rfl
    rw [Addr.add_add _ _ _ hspot, hr.cell ha0 hi, h1, List.getElem?_eq_getElem hj]))]
  rfl

/-- a whole struct is stored into its block -/
theorem do_st_all {t : TypeId} {a : Addr} {b n : Nat} {c : Array Value} {T : TypeId} {vs : Array Value} {k : Pr}
    (h : Holds E w L) (ha : a = ⟨b, 0, none⟩) (p : Pick L (pto b (.cells c T (0, 0))) L') (hn : pureRun P (sizeOf t) = some n) (hs : vs.size = n) (hc : c.size = n) (hv : ∀ v ∈ vs.toList, notAgg v = true)
    (hk : ∀ w', Holds E w' (pto b (.cells vs T (0, 0)) :: L') → k w') : DoU P (uN (Instr.storeAt t (.pointer (some a)) (.agg vs))) k w := by
  subst ha
  have hp := h.pick p
  obtain ⟨c', h1, h2, h3⟩ := run_storeCells (P := P) (T := T) (b := b) vs.toList 0 0 c w hp.own (by simp; omega) hv
  have hc' : c' = vs := by
    apply Array.ext_getElem?
    intro j
    rw [h3 j]
    by_cases hj : j < n
    · rw [if_pos ⟨by omega, by simp; omega⟩]; simp
    · rw [if_neg (by simp; omega), Array.getElem?_eq_none (by omega), Array.getElem?_eq_none (by omega)]
  subst hc'
  refine ⟨_, run_uN ?_, hk _ hp.set⟩
  unfold Instr.storeAt
  rw [run_ok (a := ⟨b, 0, none⟩) (w' := w) rfl]
  unfold storeVar
  rw [run_pureRun hn]
  simp only [Value.cells, hs, ne_eq, not_true_eq_false, if_false]
  exact h1

theorem Pick.two {A B : HProp} {L : List HProp} : Pick (A :: B :: L) B (A :: L) := .tail .head

/-- element i of a list of structs, cell j of it -/
theorem flat_get {α : Type} (enc : α → List Value) (sz : Nat) (henc : ∀ x, (enc x).length = sz) : ∀ (xs : List α) (i j : Nat), j < sz →
    (xs.flatMap enc)[i * sz + j]? = (xs[i]?).bind fun x => (enc x)[j]?
  | [], i, j, _ => by simp
  | x :: xs, 0, j, hj => by
    simp only [List.flatMap_cons, Nat.zero_mul, Nat.zero_add, List.getElem?_cons_zero, Option.bind_some]
    rw [List.getElem?_append_left (by rw [henc]; exact hj)]
  | x :: xs, i + 1, j, hj => by
    simp only [List.flatMap_cons, List.getElem?_cons_succ]
    rw [List.getElem?_append_right (by rw [henc, Nat.add_mul]; omega), henc]
    rw [show (i + 1) * sz + j - sz = i * sz + j from by rw [Nat.add_mul]; omega]
    exact flat_get enc sz henc xs i j hj
theorem flat_len {α : Type} (enc : α → List Value) (sz : Nat) (henc : ∀ x, (enc x).length = sz) (xs : List α) : (xs.flatMap enc).length = xs.length * sz := by
  induction xs with
  | nil => simp
  | cons x xs ih => simp only [List.flatMap_cons, List.length_append, henc, ih, List.length_cons, Nat.add_mul]; omega
end

/-! ### what is wanted of what holds -/
inductive Sub : List HProp → List HProp → Prop where
  | done {L : List HProp} : Sub L L
  | take {L L1 M : List HProp} {A : HProp} (p : Pick L A L1) (h : Sub L1 M) : Sub L (A :: M)
  | skip {L M : List HProp} {X : HProp} (h : Sub L M) : Sub (X :: L) M
theorem Sub.heap : ∀ {L M : List HProp}, Sub L M → ∀ h : Hp, stars L h → ∃ h1 : Hp, (∀ b y, h1 b = some y → h b = some y) ∧ stars M h1
  | _, _, .done, h, hs => ⟨h, fun _ _ h => h, hs⟩
  | _, _, .take p s, h, hs => by
    obtain ⟨ha, hb, hc, rfl, hA, hL⟩ := stars_pick p hs
    obtain ⟨m, hm, hM⟩ := Sub.heap s hb hL
    refine ⟨hunion ha m, fun b y hy => ?_, ha, m, fun b => ?_, rfl, hA, hM⟩
    · cases hx : ha b with
      | none => rw [hunion_none_left hx] at hy ⊢; exact hm b y hy
      | some z => rw [hunion_some_left hx] at hy ⊢; exact hy
    · cases hx : m b with
      | none => exact .inr (.inl rfl)
      | some z =>
        have := hm b z hx
        rcases hc b with h | h | ⟨h, o, ho⟩
        · exact .inl h
        · rw [this] at h; cases h
        · exact .inr (.inr ⟨by rw [h, this], o, ho⟩)
  | _, _, .skip s, h, hs => by
    obtain ⟨hx, hl, hc, rfl, _, hL⟩ := hs
    obtain ⟨m, hm, hM⟩ := Sub.heap s hl hL
    refine ⟨m, fun b y hy => ?_, hM⟩
    have := hm b y hy
    rcases hc b with h | h | ⟨h, _⟩
    · rw [hunion_none_left h]; exact this
    · rw [this] at h; cases h
    · rw [hunion_some_left (h.trans this)]
theorem Holds.sub {E w : World} {L M : List HProp} (h : Holds E w L) (s : Sub L M) : Holds E w M := by
  obtain ⟨x, hx, hs⟩ := h.heap
  obtain ⟨m, hm, hM⟩ := s.heap x hs
  exact ⟨h.tape, h.os, h.output, m, fun b y o hb => hx b y o (hm b _ hb), hM⟩

theorem Holds.reads_old {E w W : World} {L : List HProp} {s : Sl} {sz : Nat} {cs : List Value} (h : Holds E w (Sh.old W :: L)) (hr : Reads W s sz cs) : Reads w s sz cs := by
  refine ⟨hr.1, fun hne => ?_⟩
  obtain ⟨b, off, c, T, fr, ha, hb, hc⟩ := hr.2 hne
  exact ⟨b, off, c, T, fr, ha, h.old hb, hc⟩
theorem Holds.start (W : World) : Holds W W [Sh.old W] := by
  refine ⟨rfl, rfl, rfl, fun b => (W.heap[b]?).map fun o => (true, o), fun b x o h => ?_, _, fun _ => none, fun _ => .inr (.inl rfl), ?_, rfl, rfl⟩
  · cases hb : W.heap[b]? with
    | none => simp [hb] at h
    | some o' => simp [hb] at h; rw [h.2]
  · funext b
    simp only [hunion]
    cases W.heap[b]? <;> rfl

/-! ### tests -/
theorem cT {p : Prop} [Decidable p] (h : decide p = true) : p := of_decide_eq_true h
theorem cF {p : Prop} [Decidable p] (h : decide p = false) : ¬ p := of_decide_eq_false h
theorem eqT {a b : Int} (h : (a == b) = true) : a = b := eq_of_beq h
theorem eqF {a b : Int} (h : (a == b) = false) : a ≠ b := beq_eq_false_iff_ne.1 h
theorem neT {a b : Int} (h : (a != b) = true) : a ≠ b := bne_iff_ne.1 h
theorem neF {a b : Int} (h : (a != b) = false) : a = b := by simpa [bne] using h

/-! ### the two commonest keys -/
def eqInt : Int → Int → Bool := fun a b => a == b
theorem keyInt {P : Program} {K : TypeId} (h : pureRun P (underlying K) = some (.int .i64)) : KeyOK P K (.int .i64) eqInt where
  iff := fun x y => by simp [eqInt]
  find := fun x => ⟨_, h, fun y => by simp [Instr.sameNow, Leaf.val, eqInt]⟩
  chk := fun x e => by
    have key : ∀ (s : Sem TypeDesc) (d : TypeDesc) (f : TypeDesc → Sem Unit), pureRun P s = some d → pureRun P (s >>= f) = pureRun P (f d) := by
      intro s d f hs
      show pureRun P (Sem.bind s f) = _
      induction s with
      | pure a => simp [pureRun] at hs; subst hs; rfl
      | program k ih => simp only [pureRun] at hs; simp only [Sem.bind, pureRun]; exact ih _ hs
      | mark m k ih => simp only [pureRun] at hs; simp only [Sem.bind, pureRun]; exact ih hs
      | _ => simp [pureRun] at hs
    unfold Instr.checkKey
    rw [key _ _ _ h]
    rfl
  bits := fun x => by simp [Instr.sameBits, Leaf.val]
end Go.Sh
end

section
/- Maps: range over a map; what a map's stamps keep. -/
namespace Go.Sh

/-- a loop, by a relation that carries a number that goes down -/
theorem LoopP.num {S : Type} {F : (S → Pr) → S → Pr} {s : S} {w : World} (I : Nat → S → World → Prop) (n : Nat) (h0 : I n s w)
    (hF : ∀ (n : Nat) (next : S → Pr) (s : S) (w : World), I n s w → (∀ m s' w', m < n → I m s' w' → next s' w') → F next s w) : LoopP F s w := by
  refine ⟨n + 1, ?_⟩
  have main : ∀ N n s w, I n s w → n < N → iter F N s w := by
    intro N
    induction N with
    | zero => intro n s w _ h; omega
    | succ N ih =>
      intro n s w hI hlt
      exact hF n _ s w hI fun m s' w' hm hI' => ih m s' w' hI' (by omega)
  exact main _ n s w h0 (Nat.lt_succ_self _)

section
variable {P : Program} {E w : World} {L L' : List HProp} {kl : Leaf} {vl : Comp} {eqk : kl.den → kl.den → Bool}

/-- what a map's entries keep: no stamp twice, each below the clock -/
structure Stamped {K V : Type} (es : List (MEnt K V)) (clock : Nat) : Prop where
  lt : ∀ e ∈ es, e.born < clock
  nodup : (es.map (·.born)).Nodup

theorem Stamped.nil {K V : Type} {clock : Nat} : Stamped ([] : List (MEnt K V)) clock := ⟨fun e h => by simp at h, List.nodup_nil⟩

theorem mset_born {K V : Type} (eqk : K → K → Bool) (x : K) (v : V) : ∀ (es : List (MEnt K V)) (clock : Nat),
    (mset eqk x v es clock).map (·.born) = if (mlook eqk x es).isSome then es.map (·.born) else es.map (·.born) ++ [clock]
  | [], clock => by simp [mset, mlook]
  | e :: es, clock => by
    simp only [mset, mlook]
    by_cases h : eqk x e.key = true
    · simp [h]
    · simp only [h, if_false, List.map_cons, mset_born eqk x v es clock, Bool.false_eq_true]
      split <;> simp

theorem Stamped.of_born {K V : Type} {es : List (MEnt K V)} {clock : Nat} {bs : List Nat} (he : es.map (·.born) = bs) (hlt : ∀ b ∈ bs, b < clock) (hn : bs.Nodup) : Stamped es clock := by
  subst he
  exact ⟨fun e h => hlt _ (List.mem_map.2 ⟨e, h, rfl⟩), hn⟩
theorem Stamped.borns {K V : Type} {es : List (MEnt K V)} {clock : Nat} (h : Stamped es clock) : ∀ b ∈ es.map (·.born), b < clock := by
  intro b hb
  obtain ⟨e, he, rfl⟩ := List.mem_map.1 hb
  exact h.lt e he

theorem Stamped.set {K V : Type} {es : List (MEnt K V)} {clock : Nat} (h : Stamped es clock) (eqk : K → K → Bool) (x : K) (v : V) : Stamped (mset eqk x v es clock) (mclock eqk x es clock) := by
  have he := mset_born eqk x v es clock
  unfold mclock
  by_cases hs : (mlook eqk x es).isSome = true
  · rw [if_pos hs] at he ⊢
    exact Stamped.of_born he h.borns h.nodup
  · rw [if_neg hs] at he ⊢
    refine Stamped.of_born he (fun b hb => ?_) ?_
    · rcases List.mem_append.1 hb with hb | hb
      · have := h.borns b hb; omega
      · simp at hb; omega
    · rw [List.nodup_append]
      refine ⟨h.nodup, by simp, fun a ha b hb => ?_⟩
      simp at hb
      have := h.borns a ha
      omega

theorem mdel_sub {K V : Type} (eqk : K → K → Bool) (x : K) : ∀ es : List (MEnt K V), (mdel eqk x es).Sublist es
  | [] => .slnil
  | e :: es => by
    simp only [mdel]
    split
    · exact List.sublist_cons_self _ _
    · exact (mdel_sub eqk x es).cons_cons _
theorem Stamped.del {K V : Type} {es : List (MEnt K V)} {clock : Nat} (h : Stamped es clock) (eqk : K → K → Bool) (x : K) : Stamped (mdel eqk x es) clock :=
  ⟨fun e he => h.lt e ((mdel_sub eqk x es).mem he), ((mdel_sub eqk x es).map _).nodup h.nodup⟩

theorem mlook_mem {K V : Type} {eqk : K → K → Bool} (hiff : ∀ a b, eqk a b = true ↔ a = b) : ∀ {es : List (MEnt K V)}, (es.map (·.key)).Nodup → ∀ {e : MEnt K V}, e ∈ es → mlook eqk e.key es = some e.val
  | [], _, e, he => by simp at he
  | a :: es, hn, e, he => by
    simp only [List.map_cons, List.nodup_cons] at hn
    simp only [mlook]
    rcases List.mem_cons.1 he with rfl | he
    · rw [if_pos ((hiff _ _).2 rfl)]
    · rw [if_neg (fun hh => hn.1 (by rw [← (hiff _ _).1 hh]; exact List.mem_map.2 ⟨e, he, rfl⟩))]
      exact mlook_mem hiff hn.2 he
theorem mlook_some {K V : Type} {eqk : K → K → Bool} (hiff : ∀ a b, eqk a b = true ↔ a = b) {x : K} {v : V} : ∀ {es : List (MEnt K V)}, mlook eqk x es = some v → ∃ e ∈ es, e.key = x ∧ e.val = v
  | [], h => by simp [mlook] at h
  | a :: es, h => by
    simp only [mlook] at h
    split at h
    · rename_i hh
      exact ⟨a, List.mem_cons_self, ((hiff _ _).1 hh).symm, Option.some.inj h⟩
    · obtain ⟨e, he, h1, h2⟩ := mlook_some hiff h
      exact ⟨e, List.mem_cons_of_mem _ he, h1, h2⟩

theorem nodup_map_inj {α β : Type} {f : α → β} : ∀ {l : List α}, (l.map f).Nodup → ∀ {a b : α}, a ∈ l → b ∈ l → f a = f b → a = b
  | [], _, a, _, ha, _, _ => by simp at ha
  | x :: l, hn, a, b, ha, hb, e => by
    simp only [List.map_cons, List.nodup_cons] at hn
    rcases List.mem_cons.1 ha with rfl | ha
    · rcases List.mem_cons.1 hb with rfl | hb
      · rfl
      · exact absurd (List.mem_map.2 ⟨b, hb, e.symm⟩) hn.1
    · rcases List.mem_cons.1 hb with hx | hb
      · exact absurd (List.mem_map.2 ⟨a, ha, by rw [e, hx]⟩) hn.1
      · exact nodup_map_inj hn.2 ha hb e
theorem filter_lt {α : Type} {p q : α → Bool} (hpq : ∀ a, q a = true → p a = true) {e : α} : ∀ {l : List α}, e ∈ l → p e = true → q e = false → (l.filter q).length < (l.filter p).length
  | [], he, _, _ => by simp at he
  | a :: l, he, h1, h2 => by
    have hle : (l.filter q).length ≤ (l.filter p).length := by
      rw [← List.countP_eq_length_filter, ← List.countP_eq_length_filter]
      exact List.countP_mono_left fun x _ hx => hpq x hx
    rcases List.mem_cons.1 he with rfl | he
    · rw [List.filter_cons_of_pos h1, List.filter_cons_of_neg (by rw [h2]; simp), List.length_cons]; omega
    · have ih := filter_lt hpq he h1 h2
      by_cases hq : q a = true
      · rw [List.filter_cons_of_pos hq, List.filter_cons_of_pos (hpq a hq), List.length_cons, List.length_cons]; omega
      · rw [List.filter_cons_of_neg hq]
        by_cases hp : p a = true
        · rw [List.filter_cons_of_pos hp, List.length_cons]; omega
        · rw [List.filter_cons_of_neg hp]; exact ih
/-- what is still to come -/
def toCome {K V : Type} (es : List (MEnt K V)) (seen : Array Nat) : Nat := (es.filter fun e => !seen.contains e.born).length
theorem toCome_lt {K V : Type} {es : List (MEnt K V)} {seen : Array Nat} {e : MEnt K V} (he : e ∈ es) (hs : e.born ∉ seen) : toCome es (seen.push e.born) < toCome es seen :=
  filter_lt (by intro a; simp; exact fun h _ => h) he (by simpa using hs) (by simp)

/-- a store into an element of a slice -/
theorem do_set_el {t T : TypeId} {sz : Nat} {s : Sl} {cs : List Value} {a a0 : Addr} {i : Nat} {v : Value} {k : Pr} (h : Holds E w L) (p : Pick L (ownS T sz s cs) L') (ha0 : s.a = some a0) (ha : a = a0.add i)
    (hi : i < cs.length) (hn : pureRun P (sizeOf t) = some 1) (hv : notAgg v = true) (hk : ∀ w', Holds E w' (ownS T sz s (cs.set i v) :: L') → k w') : DoU P (uN (Instr.storeAt t (.pointer (some a)) v)) k w := by
  rcases (h.pick p).own_cases with ⟨_, rfl, _⟩ | ⟨b, pre, spare, hsa, hl, hle, hsp, h'⟩
  · simp at hi
  · rw [ha0] at hsa
    obtain rfl := Option.some.inj hsa
    have hlt : pre.length + i < (pre ++ (cs ++ spare)).length := by simp; omega
    refine do_st h' (off := pre.length + i) (by rw [ha]; exact Addr.add_mk ..) .head hn (by simpa [Nat.blt, Nat.succ_le_iff] using hlt) hv fun w' h'' => hk w' ?_
    have e : (⟨pre ++ (cs ++ spare)⟩ : Array Value).setIfInBounds (pre.length + i) v = ⟨pre ++ (cs.set i v ++ spare)⟩ := by
      simp only [List.setIfInBounds_toArray]
      congr 1
      rw [List.set_append_right _ _ (by omega), show pre.length + i - pre.length = i by omega, List.set_append_left _ _ hi]
    rw [e] at h''
    exact h''.own_mk ha0 (by rw [List.length_set]; exact hl) hle hsp

theorem mapB_nil (r : Nat) : mapB kl vl r [] 0 = pto r (.map #[] 0) := rfl

/-- 'range m' -/
theorem do_range {t K V : TypeId} {m : Nat} {es : List (MEnt kl.den vl.den)} {clock : Nat} {k : Addr → Pr} (h : Holds E w L) (p : Pick L (mapB kl vl m es clock) L') (ht : P.underlying t = some (.map K V))
    (hk : ∀ r w', Holds E w' (pto r (.mapIter (some m) clock #[] clock) :: L) → k ⟨r, 0, none⟩ w') : DoP P (vN (Instr.range t (.map (some m)))) tAddr k w :=
  do_new (l := .addr) (x := ⟨w.heap.size, 0, none⟩) (o := .mapIter (some m) clock #[] clock) h (run_range_map w t K V m _ clock ht (h.pick p).own) rfl (hk _)

/-- the next of a range over a map -/
theorem next_map {ty : TypeId} {r m : Nat} {es : List (MEnt kl.den vl.den)} {clock : Nat} {seen : Array Nat} {kn : Pr} {ks : (kl.den × vl.den × Unit) → Pr}
    (h : Holds E w (pto r (.mapIter (some m) clock seen clock) :: mapB kl vl m es clock :: L)) (hS : Stamped es clock)
    (hn : (∀ e ∈ es, e.born ∈ seen) → kn w)
    (hs : ∀ e ∈ es, e.born ∉ seen → ∀ w', Holds E w' (pto r (.mapIter (some m) clock (seen.push e.born) clock) :: mapB kl vl m es clock :: L) → ks (e.key, e.val, ()) w') :
    NextP P (vN (Instr.next (.pointer (some ⟨r, 0, none⟩)) false ty)) [.leaf kl, vl] kn ks w := by
  have hb := h.swap.own
  rcases run_next_at (P := P) w ty r m clock clock seen ⟨es.map (toEnt kl vl)⟩ clock h.own hb (by
    intro x hx
    obtain ⟨e, he, rfl⟩ := List.mem_map.1 hx
    exact hS.lt e he) (Nat.le_refl _) with ⟨h0, hr⟩ | ⟨e, he, w1, hw1, hr⟩
  · refine ⟨.inl ⟨w, run_vN hr, hn fun e he => ?_⟩⟩
    unfold leftOf at h0
    have : (⟨es.map (toEnt kl vl)⟩ : Array MapEntry).filter (fun e => !seen.contains e.born) = #[] := Array.eq_empty_of_size_eq_zero h0
    rw [Array.filter_eq_empty_iff] at this
    have := this (toEnt kl vl e) (by simp; exact ⟨e, he, rfl⟩)
    simpa [toEnt] using this
  · have he' : e ∈ es.map (toEnt kl vl) ∧ e.born ∉ seen := by
      have : e ∈ (leftOf ⟨es.map (toEnt kl vl)⟩ seen) := by simpa using he
      unfold leftOf at this
      rw [Array.mem_filter] at this
      exact ⟨by simpa using this.1, by simpa using this.2⟩
    obtain ⟨e0, he0, rfl⟩ := List.mem_map.1 he'.1
    refine ⟨.inr ⟨(e0.key, e0.val, ()), _, run_vN hr, hs e0 he0 he'.2 _ ?_⟩⟩
    rcases hw1 with rfl | rfl
    · exact h.set
    · exact h.drew.set

/-- the key and the value of the round -/
theorem get_entry {r m : Nat} {es : List (MEnt kl.den vl.den)} {clock : Nat} {seen : Array Nat} {e : MEnt kl.den vl.den} {k : (kl.den × vl.den × Unit) → Pr}
    (h : Holds E w (pto r (.mapIter (some m) clock (seen.push e.born) clock) :: mapB kl vl m es clock :: L)) (hS : Stamped es clock) (he : e ∈ es) (hk : k (e.key, e.val, ()) w) :
    GetP P (vN (Instr.entry (.pointer (some ⟨r, 0, none⟩)))) (.tup [.leaf kl, vl]) k w := by
  refine ⟨(e.key, e.val, ()), run_vN (run_entry_at (P := P) w r m clock seen ⟨es.map (toEnt kl vl)⟩ clock (toEnt kl vl e) h.own h.swap.own (List.mem_map.2 ⟨e, he, rfl⟩) ?_), hk⟩
  simp only [List.map_map]
  exact hS.nodup
end
end Go.Sh
end

section
/- A set of slices that stay as they are: they may share their arrays. -/
namespace Go.Sh

/-- a slice reads so in a piece of the heap that stays as it is -/
def RdH (h : Hp) (sz : Nat) (s : Sl) (cs : List Value) : Prop :=
  cs.length = s.len * sz ∧ s.len ≤ s.cap ∧ (cs ≠ [] → ∃ b off c T fr, s.a = some ⟨b, off, none⟩ ∧ h b = some (true, .cells c T fr) ∧ ∀ i, i < cs.length → c[off + i]? = cs[i]?)

def hro (sz : Nat) (l : List (Sl × List Value)) : HProp := fun h => (∀ b x o, h b = some (x, o) → x = true) ∧ ∀ p ∈ l, RdH h sz p.1 p.2

section
variable {E w : World} {L L' : List HProp} {sz : Nat}

theorem Holds.hro_nil (h : Holds E w L) : Holds E w (hro sz [] :: L) :=
  h.imp fun x hx => ⟨fun _ => none, x, fun _ => .inl rfl, by funext b; simp [hunion], ⟨fun b y o hb => (by cases hb), fun p hp => (by cases hp)⟩, hx⟩

theorem Holds.hro_reads {l : List (Sl × List Value)} (h : Holds E w (hro sz l :: L)) {s : Sl} {cs : List Value} (hp : (s, cs) ∈ l) : Reads w s sz cs ∧ s.len ≤ s.cap := by
  obtain ⟨_, h1, h2, h3, hc, rfl, hs, h6⟩ := h.heap
  obtain ⟨hl, hle, hr⟩ := hs.2 _ hp
  refine ⟨⟨hl, fun hne => ?_⟩, hle⟩
  obtain ⟨b, off, c, T, fr, ha, hb, hi⟩ := hr hne
  exact ⟨b, off, c, T, fr, ha, h1 b true _ (hunion_some_left hb), hi⟩

theorem Holds.hro_weak {l l' : List (Sl × List Value)} (h : Holds E w (hro sz l :: L)) (hi : ∀ x : Hp, (∀ p ∈ l, RdH x sz p.1 p.2) → ∀ p ∈ l', RdH x sz p.1 p.2) : Holds E w (hro sz l' :: L) :=
  h.mono fun x hx => ⟨hx.1, hi x hx.2⟩

theorem Holds.hro_ro {l : List (Sl × List Value)} {s : Sl} {cs : List Value} (h : Holds E w (roS sz s cs :: hro sz l :: L)) : Holds E w (hro sz ((s, cs) :: l) :: L) := by
  refine h.imp fun x hx => ?_
  have hx' := hstar_assoc' hx
  refine hstar_mono (fun y hy => ?_) (fun _ h => h) hx'
  obtain ⟨h1, h2, hc, rfl, hr, ht, hs⟩ := hy
  have hle : ∀ b o, h2 b = some (true, o) → hunion h1 h2 b = some (true, o) := by
    intro b o hb
    rcases hc b with hn | hn | ⟨he, _⟩
    · rw [hunion_none_left hn]; exact hb
    · rw [hb] at hn; cases hn
    · exact hunion_some_left (he.trans hb)
  have htrue : ∀ b x o, hunion h1 h2 b = some (x, o) → x = true := by
    intro b x o hb
    cases h1b : h1 b with
    | none => rw [hunion_none_left h1b] at hb; exact ht b x o hb
    | some y =>
      rw [hunion_some_left h1b] at hb
      cases hb
      rcases hr with ⟨_, _, _, rfl⟩ | ⟨b0, off, c, T, fr, _, _, _, _, rfl⟩
      · cases h1b
      · by_cases he : b = b0
        · simp [he] at h1b; exact h1b.1
        · simp [he] at h1b
  refine ⟨htrue, fun p hp => ?_⟩
  rcases List.mem_cons.1 hp with rfl | hp
  · rcases hr with ⟨rfl, hz, hle', rfl⟩ | ⟨b0, off, c, T, fr, ha, hl, hle', hi, rfl⟩
    · exact ⟨by simp [hz], hle', fun hne => absurd rfl hne⟩
    · exact ⟨hl, hle', fun _ => ⟨b0, off, c, T, fr, ha, hunion_some_left (by simp), hi⟩⟩
  · obtain ⟨hl, hle', hr'⟩ := hs p hp
    refine ⟨hl, hle', fun hne => ?_⟩
    obtain ⟨b, off, c, T, fr, ha, hb, hi⟩ := hr' hne
    exact ⟨b, off, c, T, fr, ha, hle b _ hb, hi⟩

theorem Holds.hro_own {T : TypeId} {l : List (Sl × List Value)} {s : Sl} {cs : List Value} (h : Holds E w (ownS T sz s cs :: hro sz l :: L)) : Holds E w (hro sz ((s, cs) :: l) :: L) := h.own_freeze.hro_ro

/-- a part of a slice -/
theorem RdH.sub {x : Hp} {s : Sl} {cs : List Value} (h : RdH x sz s cs) {l u m : Nat} (h1 : l ≤ u) (h2 : u ≤ s.len) (h3 : u ≤ m) :
    RdH x sz (subS s l u m sz) ((cs.drop (l * sz)).take ((u - l) * sz)) := by
  obtain ⟨hl, hle, hr⟩ := h
  have hmul : u * sz ≤ s.len * sz := Nat.mul_le_mul_right _ h2
  have hsub : (u - l) * sz = u * sz - l * sz := Nat.sub_mul ..
  have hll : l * sz ≤ u * sz := Nat.mul_le_mul_right _ h1
  have hlen : ((cs.drop (l * sz)).take ((u - l) * sz)).length = (u - l) * sz := by
    rw [List.length_take, List.length_drop]; omega
  refine ⟨hlen, by simp only [subS]; omega, fun hne => ?_⟩
  have hne' : cs ≠ [] := by rintro rfl; simp at hne
  obtain ⟨b, off, c, T, fr, ha, hb, hi⟩ := hr hne'
  have hpos : 0 < (u - l) * sz := by rw [← hlen]; exact List.length_pos_iff.2 hne
  have hml : m ≠ l := by
    rintro rfl
    have : u - m = 0 := by omega
    rw [this, Nat.zero_mul] at hpos
    omega
  refine ⟨b, off + l * sz, c, T, fr, ?_, hb, fun i hi' => ?_⟩
  · simp only [subS]
    rw [if_neg hml, ha]
    exact congrArg some (Addr.add_mk ..)
  · rw [hlen] at hi'
    rw [List.getElem?_take_of_lt hi', List.getElem?_drop, Nat.add_assoc]
    exact hi _ (by omega)
end
end Go.Sh
end

section
/- Parts of slices, whole structs as elements, results in cells, reads that must still hold. -/
namespace Go.Sh
section
variable {P : Program} {E w : World} {L L' : List HProp}

theorem Reads.sub {s : Sl} {sz : Nat} {cs : List Value} (hr : Reads w s sz cs) {l h m : Nat} (h1 : l ≤ h) (h2 : h ≤ s.len) (h3 : h ≤ m) :
    Reads w (subS s l h m sz) sz ((cs.drop (l * sz)).take ((h - l) * sz)) := by
  have hmul : h * sz ≤ s.len * sz := Nat.mul_le_mul_right _ h2
  have hsub : (h - l) * sz = h * sz - l * sz := Nat.sub_mul ..
  have hll : l * sz ≤ h * sz := Nat.mul_le_mul_right _ h1
  have hl := hr.1
  have hlen : ((cs.drop (l * sz)).take ((h - l) * sz)).length = (h - l) * sz := by
    rw [List.length_take, List.length_drop]; omega
  refine ⟨hlen, fun hne => ?_⟩
  have hne' : cs ≠ [] := by rintro rfl; simp at hne
  obtain ⟨b, off, c, T, fr, ha, hb, hi⟩ := hr.2 hne'
  have hpos : 0 < (h - l) * sz := by rw [← hlen]; exact List.length_pos_iff.2 hne
  have hml : m ≠ l := by
    rintro rfl
    have : h - m = 0 := by omega
    rw [this, Nat.zero_mul] at hpos
    omega
  refine ⟨b, off + l * sz, c, T, fr, ?_, hb, fun i hi' => ?_⟩
  · simp only [subS]
    rw [if_neg hml, ha]
    exact congrArg some (Addr.add_mk ..)
  · rw [hlen] at hi'
    rw [List.getElem?_take_of_lt hi', List.getElem?_drop, Nat.add_assoc]
    exact hi _ (by omega)
theorem Reads.to {s : Sl} {sz : Nat} {α : Type} {enc : α → List Value} (henc : ∀ x, (enc x).length = sz) {xs : List α} (hr : Reads w s sz (xs.flatMap enc)) {n : Nat} (h2 : n ≤ xs.length) (hl : s.len = xs.length) (h3 : n ≤ s.cap) :
    Reads w (subS s 0 n s.cap sz) sz ((xs.take n).flatMap enc) := by
  have := hr.sub (l := 0) (h := n) (m := s.cap) (by omega) (by omega) h3
  rw [Nat.zero_mul, List.drop_zero, Nat.sub_zero] at this
  rwa [show (xs.flatMap enc).take (n * sz) = (xs.take n).flatMap enc from ?_] at this
  have e : xs.flatMap enc = (xs.take n).flatMap enc ++ (xs.drop n).flatMap enc := by rw [← List.flatMap_append, List.take_append_drop]
  rw [e, List.take_append_of_le_length (by rw [flat_len enc sz henc, List.length_take, Nat.min_eq_left h2]; exact Nat.le_refl _)]
  rw [List.take_of_length_le (by rw [flat_len enc sz henc, List.length_take, Nat.min_eq_left h2]; exact Nat.le_refl _)]
theorem flat_drop {α : Type} (enc : α → List Value) (sz : Nat) (henc : ∀ x, (enc x).length = sz) (xs : List α) (n : Nat) : (xs.flatMap enc).drop (n * sz) = (xs.drop n).flatMap enc := by
  induction n generalizing xs with
  | zero => simp
  | succ n ih =>
    cases xs with
    | nil => simp
    | cons x xs =>
      rw [List.flatMap_cons, List.drop_succ_cons, ← ih xs, show (n + 1) * sz = (enc x).length + n * sz by rw [henc, Nat.add_mul]; omega, List.drop_length_add_append]
theorem flat_take {α : Type} (enc : α → List Value) (sz : Nat) (henc : ∀ x, (enc x).length = sz) (xs : List α) (n : Nat) : (xs.flatMap enc).take (n * sz) = (xs.take n).flatMap enc := by
  induction n generalizing xs with
  | zero => simp
  | succ n ih =>
    cases xs with
    | nil => simp
    | cons x xs =>
      rw [List.flatMap_cons, List.take_succ_cons, List.flatMap_cons, ← ih xs, show (n + 1) * sz = (enc x).length + n * sz by rw [henc, Nat.add_mul]; omega, List.take_length_add_append]
theorem Reads.part {s : Sl} {sz : Nat} {α : Type} {enc : α → List Value} (henc : ∀ x, (enc x).length = sz) {xs : List α} (hr : Reads w s sz (xs.flatMap enc)) {l h m : Nat} (h1 : l ≤ h) (h2 : h ≤ xs.length) (hl : s.len = xs.length) (h3 : h ≤ m) :
    Reads w (subS s l h m sz) sz (((xs.drop l).take (h - l)).flatMap enc) := by
  have := hr.sub (l := l) (h := h) (m := m) h1 (by omega) h3
  rwa [flat_drop enc sz henc, flat_take enc sz henc] at this
theorem Reads.from_ {s : Sl} {sz : Nat} {α : Type} {enc : α → List Value} (henc : ∀ x, (enc x).length = sz) {xs : List α} (hr : Reads w s sz (xs.flatMap enc)) {l m : Nat} (h1 : l ≤ xs.length) (hl : s.len = xs.length) (h3 : s.len ≤ m) :
    Reads w (subS s l s.len m sz) sz ((xs.drop l).flatMap enc) := by
  have := hr.part henc (l := l) (h := s.len) (m := m) (by omega) (by omega) hl h3
  rwa [List.take_of_length_le (by rw [List.length_drop]; omega)] at this

/-! ### reads that must still hold -/
theorem chk_agg {t : TypeId} {a : Addr} {b off : Nat} {c : Array Value} {T : TypeId} {fr : Nat × Nat} {vs : List Value} {k : Pr}
    (hb : w.heap[b]? = some (.cells c T fr)) (ht : pureRun P (isAgg t) = some true) (hn : pureRun P (sizeOf t) = some vs.length) (ha : a = ⟨b, off, none⟩)
    (hc : ∀ j (hj : j < vs.length), c[off + j]? = some vs[j]) (hk : k w) : ChkP P (vN (Instr.loadAt t (.pointer (some a)))) (.agg vs.toArray) k w := by
  subst ha
  refine ⟨run_vN ?_, hk⟩
  unfold Instr.loadAt
  rw [run_ok (a := ⟨b, off, none⟩) (w' := w) rfl]
  unfold loadVar
  rw [run_pureRun ht]
  simp only [if_true]
  rw [run_pureRun hn]
  rw [run_ok (run_loadCells (fun j hj => by rw [Addr.add_mk, cell_of hb]; exact hc j hj))]
  rfl
theorem chk_el {t : TypeId} {a : Addr} {s : Sl} {sz : Nat} {cs : List Value} {a0 : Addr} {i : Nat} {v : Value} {k : Pr}
    (hr : Reads w s sz cs) (ha0 : s.a = some a0) (ha : a = a0.add i) (ht : pureRun P (isAgg t) = some false)
    (hc : cs[i]? = some v) (hk : k w) : ChkP P (vN (Instr.loadAt t (.pointer (some a)))) v k w := by
  subst ha
  have hi : i < cs.length := by
    rcases Nat.lt_or_ge i cs.length with h | h
    · exact h
    · rw [List.getElem?_eq_none h] at hc; cases hc
  exact ⟨run_vN (by unfold Instr.loadAt; rw [run_ok (a := a0.add i) (w' := w) rfl]; exact run_loadVar ht (by rw [hr.cell ha0 hi, hc])), hk⟩

/-! ### structs in blocks of their own -/
theorem get_ld_agg {t : TypeId} {ls : List Leaf} {a : Addr} {b : Nat} {T : TypeId} {fr : Nat × Nat} {k : cellsDen ls → Pr} (x : cellsDen ls)
    (h : Holds E w L) (ha : a = ⟨b, 0, none⟩) (p : Pick L (pto b (.cells ⟨cellsVal ls x⟩ T fr)) L') (ht : pureRun P (isAgg t) = some true) (hn : pureRun P (sizeOf t) = some (cellsVal ls x).length)
    (hk : k x w) : GetP P (vN (Instr.loadAt t (.pointer (some a)))) (.one (.agg ls)) k w :=
  get_agg x (h.pick p).own ht hn ha (fun j hj => by simp [hj]) hk
theorem chk_ld_agg {t : TypeId} {a : Addr} {b : Nat} {T : TypeId} {fr : Nat × Nat} {vs : List Value} {k : Pr}
    (h : Holds E w L) (ha : a = ⟨b, 0, none⟩) (p : Pick L (pto b (.cells ⟨vs⟩ T fr)) L') (ht : pureRun P (isAgg t) = some true) (hn : pureRun P (sizeOf t) = some vs.length)
    (hk : k w) : ChkP P (vN (Instr.loadAt t (.pointer (some a)))) (.agg ⟨vs⟩) k w :=
  chk_agg (h.pick p).own ht hn ha (fun j hj => by simp [hj]) hk

/-! ### results in cells -/
theorem run_loadVar_agg {t : TypeId} {b : Nat} {T : TypeId} {fr : Nat × Nat} {vs : List Value} (hb : w.heap[b]? = some (.cells ⟨vs⟩ T fr)) (ht : pureRun P (isAgg t) = some true) (hn : pureRun P (sizeOf t) = some vs.length) :
    (loadVar t ⟨b, 0, none⟩).run P w = .ok (.agg ⟨vs⟩) w := by
  unfold loadVar
  rw [run_pureRun ht]
  simp only [if_true]
  rw [run_pureRun hn]
  rw [run_ok (run_loadCells (vs := vs) (fun j hj => by rw [Addr.add_mk, cell_of hb]; simp [hj]))]
  rfl
theorem get_res1 {t : TypeId} {ls : List Leaf} {b : Nat} {T : TypeId} {fr : Nat × Nat} {k : cellsDen ls → Pr} (x : cellsDen ls)
    (h : Holds E w L) (p : Pick L (pto b (.cells ⟨cellsVal ls x⟩ T fr)) L') (ht : pureRun P (isAgg t) = some true) (hn : pureRun P (sizeOf t) = some (cellsVal ls x).length)
    (hk : k x w) : GetP P (vN (resSem [.cell (.pointer (some ⟨b, 0, none⟩)) t])) (.one (.agg ls)) k w := by
  refine ⟨x, run_vN ?_, hk⟩
  have hl := run_loadVar_agg (P := P) (h.pick p).own ht hn
  unfold resSem
  simp [resGet, asAddr, hl, Ty.val, Comp.val]
theorem get_res2 {t : TypeId} {ls : List Leaf} {b : Nat} {T : TypeId} {fr : Nat × Nat} {kd : IntKind} {n : Int} {k : cellsDen ls × Int × Unit → Pr} (x : cellsDen ls)
    (h : Holds E w L) (p : Pick L (pto b (.cells ⟨cellsVal ls x⟩ T fr)) L') (ht : pureRun P (isAgg t) = some true) (hn : pureRun P (sizeOf t) = some (cellsVal ls x).length)
    (hk : k (x, n, ()) w) : GetP P (vN (resSem [.cell (.pointer (some ⟨b, 0, none⟩)) t, .val (.int kd n)])) (.tup [.agg ls, .leaf (.int kd)]) k w := by
  refine ⟨(x, n, ()), run_vN ?_, hk⟩
  have hl := run_loadVar_agg (P := P) (h.pick p).own ht hn
  unfold resSem
  simp [resGet, asAddr, hl, Ty.val, Comp.val, tupVal, Leaf.val]

/-- a whole struct is stored into an element of a slice -/
theorem do_set_agg {t T : TypeId} {sz i : Nat} {s : Sl} {cs : List Value} {a a0 : Addr} {vs : List Value} {k : Pr} (h : Holds E w L) (p : Pick L (ownS T sz s cs) L') (ha0 : s.a = some a0) (ha : a = a0.add i)
    (hi : i + vs.length ≤ cs.length) (h0 : 0 < cs.length) (hn : pureRun P (sizeOf t) = some vs.length) (hv : ∀ v ∈ vs, notAgg v = true)
    (hk : ∀ w', Holds E w' (ownS T sz s (cs.take i ++ vs ++ cs.drop (i + vs.length)) :: L') → k w') : DoU P (uN (Instr.storeAt t (.pointer (some a)) (.agg ⟨vs⟩))) k w := by
  rcases (h.pick p).own_cases with ⟨_, rfl, _⟩ | ⟨b, pre, spare, hsa, hl, hle, hsp, h'⟩
  · simp at h0
  · rw [ha0] at hsa
    obtain rfl := Option.some.inj hsa
    obtain ⟨c', h1, h2, h3⟩ := run_storeCells (P := P) (T := T) (b := b) vs (pre.length + i) 0 _ w h'.own (by simp; omega) hv
    have hc' : c' = ⟨pre ++ ((cs.take i ++ vs ++ cs.drop (i + vs.length)) ++ spare)⟩ := by
      apply Array.ext_getElem?
      intro j
      rw [h3 j]
      simp only [List.getElem?_toArray, Nat.add_zero]
      by_cases hj0 : j < pre.length
      · rw [if_neg (by omega), List.getElem?_append_left hj0, List.getElem?_append_left hj0]
      · rw [List.getElem?_append_right (l₁ := pre) (by omega), List.getElem?_append_right (l₁ := pre) (by omega)]
        have htl : (cs.take i).length = i := by rw [List.length_take]; omega
        by_cases hj : j - pre.length < cs.length
        · rw [List.getElem?_append_left hj, List.getElem?_append_left (by simp [htl]; omega)]
          by_cases hj1 : j - pre.length < i
          · rw [if_neg (by omega), List.append_assoc, List.getElem?_append_left (by omega), List.getElem?_take_of_lt hj1]
          · rw [List.append_assoc, List.getElem?_append_right (by omega), htl]
            by_cases hj2 : j - pre.length < i + vs.length
            · rw [if_pos (by omega), List.getElem?_append_left (by omega)]
              congr 1; omega
            · rw [if_neg (by omega), List.getElem?_append_right (by omega), List.getElem?_drop]
              congr 1; omega
        · rw [if_neg (by omega), List.getElem?_append_right (by omega), List.getElem?_append_right (by simp [htl]; omega)]
          congr 1; simp [htl]; omega
    refine ⟨_, run_uN ?_, hk _ (Holds.own_mk (pre := pre) (spare := spare) (b := b) (by rw [← hc']; exact h'.set) ha0 ?_ hle hsp)⟩
    · unfold Instr.storeAt
      rw [ha, Addr.add_mk, run_ok (a := ⟨b, pre.length + i, none⟩) (w' := w) rfl]
      unfold storeVar
      rw [run_pureRun hn]
      simp only [Value.cells, List.size_toArray, ne_eq, not_true_eq_false, if_false]
      exact h1
    · simp only [List.length_append, List.length_take, List.length_drop]
      rw [← hl]; omega

/-! ### elements of a slice of things -/
variable {α : Type} {enc : α → List Value} {sz : Nat} {s : Sl} {xs : List α}

theorem Reads.len_eq (henc : ∀ x, (enc x).length = sz) (h0 : 0 < sz) (hr : Reads w s sz (xs.flatMap enc)) : s.len = xs.length := by
  have := hr.1
  rw [flat_len enc sz henc] at this
  exact (Nat.eq_of_mul_eq_mul_right h0 this).symm

theorem val_idx {T Te : TypeId} {i : Nat} {k : Addr → Pr} (hr : Reads w s sz (xs.flatMap enc)) (henc : ∀ x, (enc x).length = sz) (h0 : 0 < sz) (hi : i < xs.length)
    (hT : pureRun P (underlying T) = some (.slice Te)) (hsz : pureRun P (sizeOf Te) = some sz)
    (hk : ∀ a0, s.a = some a0 → a0.spot = none → k (a0.add (i * sz)) w) : ValP P (vN (Instr.indexAt T (.slice s.a s.len s.cap) (.int .i64 i))) tAddr k w := by
  have hl := hr.len_eq henc h0
  obtain ⟨b, off, ha⟩ := hr.addr (by
    intro he
    have := flat_len enc sz henc xs
    rw [he] at this
    have : 0 < xs.length * sz := Nat.mul_pos (by omega) h0
    simp_all)
  exact val_index hT hsz ha (by omega) (by omega) (hk _ ha rfl)

theorem fld_at (_ : Reads w s sz (xs.flatMap enc)) (henc : ∀ x, (enc x).length = sz) {i j : Nat} (hi : i < xs.length) (hj : j < sz) : (xs.flatMap enc)[i * sz + j]? = (enc xs[i])[j]? := by
  rw [flat_get enc sz henc xs i j hj, List.getElem?_eq_getElem hi]; rfl

theorem get_fld {t : TypeId} {l : Leaf} {a0 : Addr} {i j : Nat} {k : l.den → Pr} (x : l.den) (hr : Reads w s sz (xs.flatMap enc)) (henc : ∀ x, (enc x).length = sz) (ha0 : s.a = some a0) (hs : a0.spot = none)
    (hi : i < xs.length) (hj : j < sz) (ht : pureRun P (isAgg t) = some false) (hx : (enc xs[i])[j]? = some (l.val x)) (hk : k x w) :
    GetP P (vN (Instr.loadAt t (.pointer (some (Addr.add (Addr.add a0 (i * sz)) j))))) (.one (.leaf l)) k w :=
  get_el x hr ha0 (Addr.add_add _ _ _ hs) ht (by rw [fld_at hr henc hi hj]; exact hx) hk
theorem get_one {t : TypeId} {l : Leaf} {a0 : Addr} {i : Nat} {k : l.den → Pr} (x : l.den) (hr : Reads w s 1 (xs.flatMap enc)) (henc : ∀ x, (enc x).length = 1) (ha0 : s.a = some a0)
    (hi : i < xs.length) (ht : pureRun P (isAgg t) = some false) (hx : (enc xs[i])[0]? = some (l.val x)) (hk : k x w) :
    GetP P (vN (Instr.loadAt t (.pointer (some (Addr.add a0 (i * 1)))))) (.one (.leaf l)) k w :=
  get_el x hr ha0 rfl ht (by have := fld_at hr henc hi (j := 0) (by omega); rw [Nat.add_zero] at this; rw [this]; exact hx) hk
theorem chk_fld {t : TypeId} {a0 : Addr} {i j : Nat} {v : Value} {k : Pr} (hr : Reads w s sz (xs.flatMap enc)) (henc : ∀ x, (enc x).length = sz) (ha0 : s.a = some a0) (hs : a0.spot = none)
    (hi : i < xs.length) (hj : j < sz) (ht : pureRun P (isAgg t) = some false) (hx : (enc xs[i])[j]? = some v) (hk : k w) :
    ChkP P (vN (Instr.loadAt t (.pointer (some (Addr.add (Addr.add a0 (i * sz)) j))))) v k w :=
  chk_el hr ha0 (Addr.add_add _ _ _ hs) ht (by rw [fld_at hr henc hi hj]; exact hx) hk
theorem get_elt {t : TypeId} {ls : List Leaf} {a0 : Addr} {i : Nat} {k : cellsDen ls → Pr} (x : cellsDen ls) (hr : Reads w s sz (xs.flatMap enc)) (henc : ∀ x, (enc x).length = sz) (ha0 : s.a = some a0)
    (hi : i < xs.length) (ht : pureRun P (isAgg t) = some true) (hn : pureRun P (sizeOf t) = some sz) (hx : enc xs[i] = cellsVal ls x) (hk : k x w) :
    GetP P (vN (Instr.loadAt t (.pointer (some (Addr.add a0 (i * sz)))))) (.one (.agg ls)) k w := by
  have hsz : (cellsVal ls x).length = sz := by rw [← hx, henc]
  exact get_el_agg x hr ha0 rfl ht (by rw [hsz]; exact hn) (fun j hj => by rw [fld_at hr henc hi (by omega), hx]) hk

theorem JoinP.via {S : Type} {J : S → Pr} {body : (S → Pr) → Pr} {w : World} (A : S → World → Prop) (hJ : ∀ s w, A s w → J s w)
    (hb : ∀ J' : S → Pr, (∀ s w, A s w → J' s w) → body J' w) : JoinP J body w := ⟨hb J hJ⟩
theorem Holds.own_le {T : TypeId} {cs : List Value} (h : Holds E w (ownS T sz s cs :: L)) : s.len ≤ s.cap := h.own_len.2

/-- reading that lasts: whatever world in which L holds -/
abbrev Oracle (E : World) (L : List HProp) (s : Sl) (sz : Nat) (cs : List Value) : Prop := ∀ w, Holds E w L → Reads w s sz cs
end
end Go.Sh
end

section
/- The frozen heap: blocks that stay for good, and what is known of them whatever comes. -/
namespace Go.Sh

abbrev FHp := Nat → Option Obj
/-- the frozen heap, as a piece of the heap -/
def froH (F : FHp) : Hp := fun b => (F b).map fun o => (true, o)
theorem froH_some {F : FHp} {b : Nat} {o : Obj} (h : F b = some o) : froH F b = some (true, o) := by simp [froH, h]
theorem froH_none {F : FHp} {b : Nat} (h : F b = none) : froH F b = none := by simp [froH, h]
theorem froH_inv {F : FHp} {b : Nat} {x : Bool × Obj} (h : froH F b = some x) : ∃ o, F b = some o ∧ x = (true, o) := by
  unfold froH at h
  cases hF : F b with
  | none => rw [hF] at h; cases h
  | some o => rw [hF] at h; exact ⟨o, rfl, (Option.some.inj h).symm⟩
def fro (F : FHp) : HProp := fun h => h = froH F
def FHp.le (F G : FHp) : Prop := ∀ b o, F b = some o → G b = some o
theorem FHp.le.refl (F : FHp) : F.le F := fun _ _ h => h
theorem FHp.le.trans {F G H : FHp} (h1 : F.le G) (h2 : G.le H) : F.le H := fun b o h => h2 b o (h1 b o h)
def FHp.upd (F : FHp) (b : Nat) (o : Obj) : FHp := fun x => if x = b then some o else F x
def heapF (w : World) : FHp := fun b => w.heap[b]?

/-- a slice reads so in the frozen heap -/
def RdF (F : FHp) (sz : Nat) (s : Sl) (cs : List Value) : Prop :=
  cs.length = s.len * sz ∧ s.len ≤ s.cap ∧ (cs ≠ [] → ∃ b off c T fr, s.a = some ⟨b, off, none⟩ ∧ F b = some (.cells c T fr) ∧ ∀ i, i < cs.length → c[off + i]? = cs[i]?)
theorem RdF.up {F G : FHp} {sz : Nat} {s : Sl} {cs : List Value} (h : RdF F sz s cs) (hFG : F.le G) : RdF G sz s cs := by
  obtain ⟨h1, h2, h3⟩ := h
  refine ⟨h1, h2, fun hne => ?_⟩
  obtain ⟨b, off, c, T, fr, ha, hb, hc⟩ := h3 hne
  exact ⟨b, off, c, T, fr, ha, hFG _ _ hb, hc⟩
theorem RdF.nil {F : FHp} {sz : Nat} : RdF F sz ⟨none, 0, 0⟩ [] := ⟨by simp, Nat.le_refl _, fun h => absurd rfl h⟩

section
variable {E w : World} {L L' : List HProp} {F G : FHp} {sz : Nat} {s : Sl} {cs : List Value}

theorem Holds.fro_at {b : Nat} {o : Obj} (h : Holds E w (fro F :: L)) (hb : F b = some o) : w.heap[b]? = some o := by
  obtain ⟨_, h1, h2, h3, hc, rfl, rfl, h6⟩ := h.heap
  exact h1 b true o (hunion_some_left (froH_some hb))
theorem Holds.rdF (h : Holds E w (fro F :: L)) (hr : RdF F sz s cs) : Reads w s sz cs := by
  refine ⟨hr.1, fun hne => ?_⟩
  obtain ⟨b, off, c, T, fr, ha, hb, hc⟩ := hr.2.2 hne
  exact ⟨b, off, c, T, fr, ha, h.fro_at hb, hc⟩
theorem Holds.fro_start (W : World) : Holds W W [fro (heapF W)] := (Holds.start W).mono fun _ hx => hx
theorem Holds.fro_old {W : World} (hle : (heapF W).le F) (h : Holds E w (fro F :: L)) : Holds E w (Sh.old W :: L) := by
  obtain ⟨x, h1, h2⟩ := h.heap
  obtain ⟨ha, hb, hc, rfl, rfl, hL⟩ := h2
  have hsub : ∀ b y, froH (heapF W) b = some y → froH F b = some y := fun b y hy => by
    obtain ⟨o, ho, rfl⟩ := froH_inv hy
    exact froH_some (hle b o ho)
  refine ⟨h.tape, h.os, h.output, hunion (froH (heapF W)) hb, fun b y o hy => ?_, froH (heapF W), hb, fun b => ?_, rfl, rfl, hL⟩
  · refine h1 b y o ?_
    cases hw : froH (heapF W) b with
    | none =>
      rw [hunion_none_left hw] at hy
      rcases hc b with hh | hh | ⟨hh, _⟩
      · rw [hunion_none_left hh]; exact hy
      · rw [hh] at hy; cases hy
      · exact hunion_some_left (hh.trans hy)
    | some z =>
      rw [hunion_some_left hw] at hy
      exact hunion_some_left (by rw [← hy]; exact hsub b z hw)
  · cases hw : froH (heapF W) b with
    | none => exact .inl rfl
    | some z =>
      have hF := hsub b z hw
      rcases hc b with hh | hh | ⟨hh, o, ho⟩
      · rw [hF] at hh; cases hh
      · exact .inr (.inl hh)
      · exact .inr (.inr ⟨by rw [← hF, hh], o, by rw [← hF, ho]⟩)

/-- a block is frozen -/
theorem Holds.fro_pto {b : Nat} {o : Obj} (h : Holds E w (fro F :: pto b o :: L)) : F.le (F.upd b o) ∧ Holds E w (fro (F.upd b o) :: L) := by
  obtain ⟨x, h1, h2⟩ := h.heap
  obtain ⟨ha, hb, hc, rfl, rfl, h3⟩ := h2
  obtain ⟨hb1, hb2, hc2, rfl, rfl, hL⟩ := h3
  have hown : hunion (fun x => if x = b then some (false, o) else none) hb2 b = some (false, o) := hunion_some_left (by simp)
  have hFb : F b = none := by
    cases hF : F b with
    | none => rfl
    | some z =>
      have hz := froH_some hF
      rcases hc b with hh | hh | ⟨hh, _⟩
      · rw [hz] at hh; cases hh
      · rw [hown] at hh; cases hh
      · rw [hown, hz] at hh; cases hh
  have hle : F.le (F.upd b o) := fun x y hy => by
    unfold FHp.upd
    split
    · rename_i he; subst he; rw [hFb] at hy; cases hy
    · exact hy
  have hb2b : hb2 b = none := by
    rcases hc2 b with hh | hh | ⟨_, o', hh⟩
    · simp at hh
    · exact hh
    · simp at hh
  have hne : ∀ x, x ≠ b → froH (F.upd b o) x = froH F x := fun x hx => by simp [froH, FHp.upd, hx]
  have hat : froH (F.upd b o) b = some (true, o) := froH_some (by simp [FHp.upd])
  refine ⟨hle, h.tape, h.os, h.output, hunion (froH (F.upd b o)) hb2, fun x y o' hy => ?_, _, hb2, fun x => ?_, rfl, rfl, hL⟩
  · by_cases he : x = b
    · subst he
      rw [hunion_some_left hat] at hy
      cases hy
      refine h1 x false o ?_
      rw [hunion_none_left (froH_none hFb)]
      exact hown
    · cases hF : froH F x with
      | none =>
        rw [hunion_none_left (by rw [hne x he]; exact hF)] at hy
        refine h1 x y o' ?_
        rw [hunion_none_left hF, hunion_none_left (by simp [he])]
        exact hy
      | some z =>
        rw [hunion_some_left (by rw [hne x he]; exact hF)] at hy
        exact h1 x y o' (by rw [hunion_some_left hF]; exact hy)
  · by_cases he : x = b
    · subst he; exact .inr (.inl hb2b)
    · have hr : hunion (fun x => if x = b then some (false, o) else none) hb2 x = hb2 x := hunion_none_left (by simp [he])
      have := hc x
      rw [hr] at this
      rw [hne x he]
      exact this

/-- a slice of one's own is frozen -/
theorem Holds.fro_own {T : TypeId} (h : Holds E w (fro F :: ownS T sz s cs :: L)) : ∃ G : FHp, F.le G ∧ Holds E w (fro G :: L) ∧ RdF G sz s cs := by
  rcases h.swap.own_cases with ⟨rfl, rfl, hh⟩ | ⟨b, pre, spare, ha, hl, hle, hsp, hh⟩
  · exact ⟨F, .refl _, hh, .nil⟩
  · obtain ⟨h1, h2⟩ := hh.swap.fro_pto
    refine ⟨_, h1, h2, hl, hle, fun _ => ⟨b, pre.length, ⟨pre ++ (cs ++ spare)⟩, T, (0, 0), ha, by simp [FHp.upd], fun i hi => ?_⟩⟩
    simp [List.getElem?_append_right, List.getElem?_append_left hi]

/-- a part of a frozen slice -/
theorem RdF.sub (h : RdF F sz s cs) {l u m : Nat} (h1 : l ≤ u) (h2 : u ≤ s.len) (h3 : u ≤ m) :
    RdF F sz (subS s l u m sz) ((cs.drop (l * sz)).take ((u - l) * sz)) := by
  obtain ⟨hl, hle, hr⟩ := h
  have hmul : u * sz ≤ s.len * sz := Nat.mul_le_mul_right _ h2
  have hsub : (u - l) * sz = u * sz - l * sz := Nat.sub_mul ..
  have hll : l * sz ≤ u * sz := Nat.mul_le_mul_right _ h1
  have hlen : ((cs.drop (l * sz)).take ((u - l) * sz)).length = (u - l) * sz := by
    rw [List.length_take, List.length_drop]; omega
  refine ⟨hlen, by simp only [subS]; omega, fun hne => ?_⟩
  have hne' : cs ≠ [] := by rintro rfl; simp at hne
  obtain ⟨b, off, c, T, fr, ha, hb, hi⟩ := hr hne'
  have hpos : 0 < (u - l) * sz := by rw [← hlen]; exact List.length_pos_iff.2 hne
  have hml : m ≠ l := by
    rintro rfl
    have : u - m = 0 := by omega
    rw [this, Nat.zero_mul] at hpos
    omega
  refine ⟨b, off + l * sz, c, T, fr, ?_, hb, fun i hi' => ?_⟩
  · simp only [subS]
    rw [if_neg hml, ha]
    exact congrArg some (Addr.add_mk ..)
  · rw [hlen] at hi'
    rw [List.getElem?_take_of_lt hi', List.getElem?_drop, Nat.add_assoc]
    exact hi _ (by omega)

variable {α : Type} {enc : α → List Value} {xs : List α}
theorem RdF.len_eq (henc : ∀ x, (enc x).length = sz) (h0 : 0 < sz) (hr : RdF F sz s (xs.flatMap enc)) : s.len = xs.length := by
  have := hr.1
  rw [flat_len enc sz henc] at this
  exact (Nat.eq_of_mul_eq_mul_right h0 this).symm
theorem RdF.part (henc : ∀ x, (enc x).length = sz) (hr : RdF F sz s (xs.flatMap enc)) {l h m : Nat} (h1 : l ≤ h) (h2 : h ≤ xs.length) (hl : s.len = xs.length) (h3 : h ≤ m) :
    RdF F sz (subS s l h m sz) (((xs.drop l).take (h - l)).flatMap enc) := by
  have := hr.sub (l := l) (u := h) (m := m) h1 (by omega) h3
  rwa [flat_drop enc sz henc, flat_take enc sz henc] at this
end

/-- two lists, related place by place -/
inductive All2 {α β : Type} (R : α → β → Prop) : List α → List β → Prop where
  | nil : All2 R [] []
  | cons {a : α} {b : β} {l : List α} {m : List β} (h : R a b) (t : All2 R l m) : All2 R (a :: l) (b :: m)
section
variable {α β : Type} {R S : α → β → Prop}
theorem All2.len {l : List α} {m : List β} (h : All2 R l m) : l.length = m.length := by
  induction h with
  | nil => rfl
  | cons _ _ ih => simp [ih]
theorem All2.imp {l : List α} {m : List β} (h : All2 R l m) (hi : ∀ a b, R a b → S a b) : All2 S l m := by
  induction h with
  | nil => exact .nil
  | cons h _ ih => exact .cons (hi _ _ h) ih
theorem All2.app {l l' : List α} {m m' : List β} (h : All2 R l m) (h' : All2 R l' m') : All2 R (l ++ l') (m ++ m') := by
  induction h with
  | nil => exact h'
  | cons h _ ih => exact .cons h ih
theorem All2.get {l : List α} {m : List β} (h : All2 R l m) : ∀ (i : Nat) (h1 : i < l.length) (h2 : i < m.length), R l[i] m[i] := by
  induction h with
  | nil => intro i h1; simp at h1
  | cons h _ ih =>
    intro i h1 h2
    cases i with
    | zero => exact h
    | succ i => exact ih i (by simpa using h1) (by simpa using h2)
theorem All2.take {l : List α} {m : List β} (h : All2 R l m) : ∀ n, All2 R (l.take n) (m.take n) := by
  induction h with
  | nil => intro n; simp [All2.nil]
  | cons h _ ih =>
    intro n
    cases n with
    | zero => exact .nil
    | succ n => exact .cons h (ih n)
theorem All2.drop {l : List α} {m : List β} (h : All2 R l m) : ∀ n, All2 R (l.drop n) (m.drop n) := by
  induction h with
  | nil => intro n; simp [All2.nil]
  | cons h t ih =>
    intro n
    cases n with
    | zero => exact .cons h t
    | succ n => exact ih n
theorem All2.one {a : α} {b : β} (h : R a b) : All2 R [a] [b] := .cons h .nil
end
end Go.Sh
end

section
/- From what holds to the row: below the old heap nothing has turned; arguments that came in, opened. -/
namespace Go.Sh
open Go.RowKit (Below)

theorem Holds.below {W w' : World} {L : List HProp} (h : Holds W w' (Sh.old W :: L)) : Below W.heap.size W w' where
  os := h.os
  tape := h.tape
  output := h.output
  size := by
    rcases Nat.eq_zero_or_pos W.heap.size with h0 | h0
    · omega
    · have hlt : W.heap.size - 1 < W.heap.size := by omega
      have := h.old (b := W.heap.size - 1) (o := W.heap[W.heap.size - 1]) (by simp [hlt])
      have := own_size_lt this
      omega
  block := fun k hk => by
    have := h.old (b := k) (o := W.heap[k]) (by simp [hk])
    rw [this]; simp [hk]

theorem reads_of_cells {w : World} {a : Addr} {len cap sz : Nat} {cs : List Value} (hl : cs.length = len * sz) (h : ∀ i, i < cs.length → w.cell? (a.add i) = cs[i]?) : Reads w ⟨some a, len, cap⟩ sz cs := by
  refine ⟨hl, fun hne => ?_⟩
  have hpos : 0 < cs.length := List.length_pos_iff.2 hne
  have h0 := h 0 hpos
  obtain ⟨b, off, spot⟩ := a
  have e0 : Addr.add ⟨b, off, spot⟩ 0 = ⟨b, off, spot⟩ := rfl
  rw [e0, List.getElem?_eq_getElem hpos] at h0
  have hspot : spot = none := by
    cases spot with
    | none => rfl
    | some s =>
      unfold World.cell? at h0
      cases hb : w.heap[b]? with
      | none => simp [hb] at h0
      | some o => cases o <;> simp [hb] at h0
  subst hspot
  unfold World.cell? at h0
  cases hb : w.heap[b]? with
  | none => simp [hb] at h0
  | some o =>
    cases o with
    | cells c T fr =>
      refine ⟨b, off, c, T, fr, rfl, hb, fun i hi => ?_⟩
      have := h i hi
      rw [Addr.add_mk, cell_of hb] at this
      exact this
    | _ => simp [hb] at h0

theorem list_choose {α : Type} {p : Nat → α → Prop} : ∀ (n : Nat), (∀ i, i < n → ∃ x, p i x) → ∃ l : List α, l.length = n ∧ ∀ i (h : i < l.length), p i l[i]
  | 0, _ => ⟨[], rfl, fun i h => by simp at h⟩
  | n + 1, h => by
    obtain ⟨l, hl, hp⟩ := list_choose n fun i hi => h i (by omega)
    obtain ⟨x, hx⟩ := h n (by omega)
    refine ⟨l ++ [x], by simp [hl], fun i hi => ?_⟩
    by_cases hin : i < l.length
    · rw [List.getElem_append_left hin]; exact hp i hin
    · have : i = n := by simp at hi; omega
      subst this
      rw [List.getElem_append_right (by omega)]
      simp only [hl, Nat.sub_self, List.getElem_cons_zero]
      exact hx

section
variable {H : Type} {enc : TypeId × Value → H} {P : Program} {w : World} {spare : Nat → Bool} {held : Bool}

/-- a slice that came in: what its elements are, element by element -/
theorem open_sl {α : Type} {t e : TypeId} {fuel sz : Nat} {v : Value} {x : DataW H × List MemPlace} {q : α → Prop} (encα : α → List Value) (hlen : ∀ a, (encα a).length = sz)
    (ht : P.underlying t = some (.slice e)) (hsz : P.cellsOf e = sz)
    (hel : ∀ (n : Nat) (cs : List Value) (y : DataW H × List MemPlace), DataW.trod enc P w 0 spare held n e cs = some y → ∃ a, cs = encα a ∧ q a)
    (h : DataW.trod enc P w 0 spare held fuel t v.cells.toList = some x) :
    ∃ (s : Sl) (l : List α), v.cells.toList = [.slice s.a s.len s.cap] ∧ Reads w s sz (l.flatMap encα) ∧ s.len = l.length ∧ s.len ≤ s.cap ∧ s.cap ≤ maxLen ∧ ∀ a ∈ l, q a := by
  rcases DataW.trod_slice ht h with ⟨hcs, _⟩ | ⟨a, len, cap, elems, rest, n, _, hcs, _, _, hle, hm, hl, hx, _⟩
  · exact ⟨⟨none, 0, 0⟩, [], hcs, ⟨by simp, fun h => absurd rfl h⟩, rfl, Nat.le_refl _, Nat.zero_le _, fun a h => by cases h⟩
  · obtain ⟨l, hll, hp⟩ := list_choose (p := fun i (b : α) => (∀ j, j < sz → w.cell? (a.add (i * sz + j)) = (encα b)[j]?) ∧ q b) len fun i hi => by
      have h1 := hx i hi
      rw [hsz] at h1
      have hsome : elems[i]? = some elems[i] := List.getElem?_eq_getElem (by omega)
      rw [hsome] at h1
      cases hc : w.cells? 0 (a.add (i * sz)) sz with
      | none => rw [hc] at h1; cases h1
      | some cs =>
        rw [hc] at h1
        obtain ⟨b, rfl, hq⟩ := hel n cs _ h1
        obtain ⟨_, _, hcell⟩ := World.cells?_some hc
        refine ⟨b, fun j hj => ?_, hq⟩
        rw [← hcell j hj]
        congr 1
        obtain ⟨bb, off, spot⟩ := a
        cases spot with
        | none => rw [Addr.add_mk, Addr.add_mk, Addr.add_mk, Nat.add_assoc]
        | some s =>
          -- an address within a byte reads as nothing
          have h0 := hcell 0 (by omega)
          by_cases hi0 : i * sz = 0
          · rw [hi0]; simp only [Nat.zero_add]; rfl
          · by_cases hj0 : j = 0
            · subst hj0; rfl
            · unfold Addr.add
              rw [if_neg (by omega), if_neg hi0]
              simp only []
              rw [if_neg hj0]
              simp only [Nat.add_assoc]
    refine ⟨⟨some a, len, cap⟩, l, hcs, reads_of_cells (by rw [flat_len encα sz hlen, hll]) (fun i hi => ?_), hll.symm, hle, hm, fun b hb => ?_⟩
    · rw [flat_len encα sz hlen] at hi
      rcases Nat.eq_zero_or_pos sz with h0 | h0
      · rw [h0] at hi; simp at hi
      · have hd : i / sz < l.length := by rw [Nat.div_lt_iff_lt_mul h0]; exact hi
        have hm' : i % sz < sz := Nat.mod_lt _ h0
        have e : i = i / sz * sz + i % sz := by rw [Nat.mul_comm]; exact (Nat.div_add_mod i sz).symm
        have h1 := (hp (i / sz) hd).1 (i % sz) hm'
        rw [← e] at h1
        rw [h1]
        have h2 := flat_get encα sz hlen l (i / sz) (i % sz) hm'
        rw [← e, List.getElem?_eq_getElem hd] at h2
        exact h2.symm
    · obtain ⟨i, hi, rfl⟩ := List.getElem_of_mem hb
      exact (hp i hi).2
end
end Go.Sh
end
