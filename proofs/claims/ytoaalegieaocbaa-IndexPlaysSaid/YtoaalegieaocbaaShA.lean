/- A shallow reading of the model's code: typed values, primitives as propositions on worlds, and the annotated code whose reading the kernel computes. -/
import Derived.Orders
import Derived.CallsIn
import Derived.LoopN
import Derived.KernelRfl
namespace Go.Sh

/-! ### typed values -/

structure Sl where
  a : Option Addr
  len : Nat
  cap : Nat

inductive Leaf where
  | int (k : IntKind)
  | bool
  | float
  | str
  | ptr
  | addr
  | slice
  | map
  | raw

abbrev Leaf.den : Leaf → Type
  | .int _ => Int
  | .bool => Bool
  | .float => Nat
  | .str => ByteArray
  | .ptr => Option Addr
  | .addr => Addr
  | .slice => Sl
  | .map => Option Nat
  | .raw => Value

def Leaf.val : (l : Leaf) → l.den → Value
  | .int k, n => .int k n
  | .bool, b => .bool b
  | .float, n => .float .f64 n
  | .str, s => .string s
  | .ptr, p => .pointer p
  | .addr, p => .pointer (some p)
  | .slice, s => .slice s.a s.len s.cap
  | .map, m => .map m
  | .raw, v => v

def Leaf.parse : (l : Leaf) → Value → Option l.den
  | .int k, .int k' n => if k = k' then some n else none
  | .bool, .bool b => some b
  | .float, .float .f64 n => some n
  | .str, .string s => some s
  | .ptr, .pointer p => some p
  | .addr, .pointer (some p) => some p
  | .slice, .slice a n c => some ⟨a, n, c⟩
  | .map, .map m => some m
  | .raw, v => some v
  | _, _ => none

theorem Leaf.parse_val : ∀ (l : Leaf) (v : Value) (x : l.den), l.parse v = some x → v = l.val x
  | .int k, v, x, h => by
    cases v <;> simp [Leaf.parse] at h
    obtain ⟨rfl, rfl⟩ := h; rfl
  | .bool, v, x, h => by cases v <;> simp [Leaf.parse] at h; subst h; rfl
  | .float, v, x, h => by
    cases v <;> simp [Leaf.parse] at h
    rename_i k n
    cases k <;> simp at h
    subst h; rfl
  | .str, v, x, h => by cases v <;> simp [Leaf.parse] at h; subst h; rfl
  | .ptr, v, x, h => by cases v <;> simp [Leaf.parse] at h; subst h; rfl
  | .addr, v, x, h => by
    cases v <;> simp [Leaf.parse] at h
    rename_i a
    cases a <;> simp at h
    subst h; rfl
  | .slice, v, x, h => by cases v <;> simp [Leaf.parse] at h; subst h; rfl
  | .map, v, x, h => by cases v <;> simp [Leaf.parse] at h; subst h; rfl
  | .raw, v, x, h => by simp [Leaf.parse] at h; subst h; rfl

/-- the cells of a struct or an array -/
abbrev cellsDen : List Leaf → Type
  | [] => Unit
  | l :: ls => l.den × cellsDen ls

def cellsVal : (ls : List Leaf) → cellsDen ls → List Value
  | [], _ => []
  | l :: ls, x => l.val x.1 :: cellsVal ls x.2

def cellsParse : (ls : List Leaf) → List Value → Option (cellsDen ls)
  | [], [] => some ()
  | l :: ls, v :: vs =>
    match l.parse v, cellsParse ls vs with
    | some x, some xs => some (x, xs)
    | _, _ => none
  | _, _ => none

theorem cellsParse_val : ∀ (ls : List Leaf) (vs : List Value) (x : cellsDen ls), cellsParse ls vs = some x → vs = cellsVal ls x
  | [], vs, x, h => by cases vs <;> simp [cellsParse] at h; rfl
  | l :: ls, vs, x, h => by
    cases vs with
    | nil => simp [cellsParse] at h
    | cons v vs =>
      simp only [cellsParse] at h
      split at h
      · rename_i y ys hy hys
        simp at h; subst h
        rw [Leaf.parse_val l v y hy, cellsParse_val ls vs ys hys]; rfl
      · simp at h

/-- a value in a slot: of one cell, or a struct -/
inductive Comp where
  | leaf (l : Leaf)
  | agg (ls : List Leaf)

abbrev Comp.den : Comp → Type
  | .leaf l => l.den
  | .agg ls => cellsDen ls

def Comp.val : (c : Comp) → c.den → Value
  | .leaf l, x => l.val x
  | .agg ls, x => .agg ⟨cellsVal ls x⟩

def Comp.parse : (c : Comp) → Value → Option c.den
  | .leaf l, v => l.parse v
  | .agg ls, .agg cs => cellsParse ls cs.toList
  | .agg _, _ => none

theorem Comp.parse_val : ∀ (c : Comp) (v : Value) (x : c.den), c.parse v = some x → v = c.val x
  | .leaf l, v, x, h => Leaf.parse_val l v x h
  | .agg ls, v, x, h => by
    cases v <;> simp [Comp.parse] at h
    rename_i cs
    have := cellsParse_val ls _ x h
    cases cs
    simp at this
    subst this; rfl

/-- results: one, or a tuple -/
abbrev tupDen : List Comp → Type
  | [] => Unit
  | c :: cs => c.den × tupDen cs

def tupVal : (cs : List Comp) → tupDen cs → List Value
  | [], _ => []
  | c :: cs, x => c.val x.1 :: tupVal cs x.2

def tupParse : (cs : List Comp) → List Value → Option (tupDen cs)
  | [], [] => some ()
  | c :: cs, v :: vs =>
    match c.parse v, tupParse cs vs with
    | some x, some xs => some (x, xs)
    | _, _ => none
  | _, _ => none

theorem tupParse_val : ∀ (ls : List Comp) (vs : List Value) (x : tupDen ls), tupParse ls vs = some x → vs = tupVal ls x
  | [], vs, x, h => by cases vs <;> simp [tupParse] at h; rfl
  | l :: ls, vs, x, h => by
    cases vs with
    | nil => simp [tupParse] at h
    | cons v vs =>
      simp only [tupParse] at h
      split at h
      · rename_i y ys hy hys
        simp at h; subst h
        rw [Comp.parse_val l v y hy, tupParse_val ls vs ys hys]; rfl
      · simp at h

inductive Ty where
  | one (c : Comp)
  | tup (cs : List Comp)

abbrev Ty.den : Ty → Type
  | .one c => c.den
  | .tup cs => tupDen cs

def Ty.val : (t : Ty) → t.den → Value
  | .one c, x => c.val x
  | .tup cs, x => .tuple ⟨tupVal cs x⟩

def Ty.parse : (t : Ty) → Value → Option t.den
  | .one c, v => c.parse v
  | .tup cs, .tuple vs => tupParse cs vs.toList
  | .tup _, _ => none

theorem Ty.parse_val : ∀ (t : Ty) (v : Value) (x : t.den), t.parse v = some x → v = t.val x
  | .one c, v, x, h => Comp.parse_val c v x h
  | .tup ls, v, x, h => by
    cases v <;> simp [Ty.parse] at h
    rename_i cs
    have := tupParse_val ls _ x h
    cases cs
    simp at this
    subst this; rfl

abbrev tInt : Ty := .one (.leaf (.int .i64))
abbrev tBool : Ty := .one (.leaf .bool)
abbrev tStr : Ty := .one (.leaf .str)
abbrev tPtr : Ty := .one (.leaf .ptr)
abbrev tAddr : Ty := .one (.leaf .addr)
abbrev tSl : Ty := .one (.leaf .slice)
abbrev tMap : Ty := .one (.leaf .map)
abbrev tRaw : Ty := .one (.leaf .raw)

/-! ### the primitives -/

abbrev Pr := World → Prop

section
variable (P : Program)

/-- yields, whatever the world -/
structure ValP (s : Sem Next) (t : Ty) (k : t.den → Pr) (w : World) : Prop where
  out : ∃ x, (∀ w, s.run P w = .ok (.value (t.val x)) w) ∧ k x w
/-- reads -/
structure GetP (s : Sem Next) (t : Ty) (k : t.den → Pr) (w : World) : Prop where
  out : ∃ x, s.run P w = .ok (.value (t.val x)) w ∧ k x w
/-- acts, and yields -/
structure DoP (s : Sem Next) (t : Ty) (k : t.den → Pr) (w : World) : Prop where
  out : ∃ x w', s.run P w = .ok (.value (t.val x)) w' ∧ k x w'
/-- acts -/
structure DoU (s : Sem Next) (k : Pr) (w : World) : Prop where
  out : ∃ w', s.run P w = .ok .skip w' ∧ k w'
/-- the next of a range: none, or one -/
structure NextP (s : Sem Next) (t : List Comp) (kn : Pr) (ks : tupDen t → Pr) (w : World) : Prop where
  out : (∃ w', s.run P w = .ok (.value (.tuple ⟨[.bool false]⟩)) w' ∧ kn w') ∨
    (∃ x w', s.run P w = .ok (.value (.tuple ⟨.bool true :: tupVal t x⟩)) w' ∧ ks x w')
structure CallP (f : FuncId) (args : Array Value) (t : Ty) (k : t.den → Pr) (w : World) : Prop where
  out : Calls P f args w fun e w' => ∃ x, e = .returned (t.val x) ∧ k x w'
/-- a call of a function value that is a round of a loop -/
structure InvP (s : Sem Next) (t : Ty) (k : t.den → Pr) (w : World) : Prop where
  out : ∃ l fn tmps assign body, s.run P w = .ok (.round l fn tmps assign body) w ∧
    RoundIn Fence.wide 0 P l fn tmps assign body w fun e w' => ∃ x, e = .returned (t.val x) ∧ k x w'
structure ChkP (s : Sem Next) (v : Value) (k : Pr) (w : World) : Prop where
  out : s.run P w = .ok (.value v) w ∧ k w
end

structure CondP (b : Bool) (x y : Pr) (w : World) : Prop where
  out : (b = true → x w) ∧ (b = false → y w)
structure JoinP {S : Type} (J : S → Pr) (body : (S → Pr) → Pr) (w : World) : Prop where
  out : body J w
def iter {S : Type} (F : (S → Pr) → S → Pr) : Nat → S → Pr
  | 0, _, _ => False
  | n + 1, s, w => F (iter F n) s w
structure LoopP {S : Type} (F : (S → Pr) → S → Pr) (s : S) (w : World) : Prop where
  out : ∃ n, iter F n s w
structure AnyP (k : List Value → Pr) (w : World) : Prop where
  out : ∀ us, k us w
structure DrewP (k : Pr) (w : World) : Prop where
  out : k { w with drawn := w.drawn + 1 }

/-- what an operation's make of a value is -/
def vN (s : Sem Value) : Sem Next := do pure (.value (← s))
def uN (s : Sem Unit) : Sem Next := do s; pure .skip

def nilN (v : Value) : Sem Next := execOp (fun _ => v) { dst := none, op := .nilCheck (.tmp 0), type := 0, pos := "", after := #[], guard := none }
/-- a call of a function value -/
def callN (f : Value) (args : Array Value) : Sem Next := do let d ← Deferred.ofValue f args; invoke d.target d.args
def cmpN (op : BinOp) (t : TypeId) (x y : Operand) (a b : Value) : Sem Next := vN (do eqGuard op t x y a b; Go.binOp op t a b)

/-- the run of what does not look at the world -/
def pureRun {α : Type} (P : Program) : Sem α → Option α
  | .pure a => some a
  | .program k => pureRun P (k P)
  | .mark _ k => pureRun P k
  | _ => none

theorem pureRun_sound {α : Type} {P : Program} {v : α} : ∀ (s : Sem α), pureRun P s = some v → ∀ w, s.run P w = .ok v w
  | .pure a, h, w => by simp [pureRun] at h; simp [Sem.run, h]
  | .program k, h, w => by simp only [pureRun] at h; simp only [Sem.run]; exact pureRun_sound (k P) h w
  | .mark m k, h, w => by simp only [pureRun] at h; simp only [Sem.run]; exact pureRun_sound k h w
  | .load .., h, _ | .store .., h, _ | .new .., h, _ | .shape .., h, _ | .freeze .., h, _ | .frozen .., h, _ | .getObj .., h, _ | .setObj .., h, _
  | .choose .., h, _ | .sys .., h, _ | .halt .., h, _ => by simp [pureRun] at h

/-! ### the annotated code -/

inductive Mode where
  | pure
  | val (t : Ty)
  | get (t : Ty)

inductive Steps where
  | nil
  | take (i : Nat) (m : Mode) (r : Steps)
  | eff (i : Nat) (t : Ty) (r : Steps)
  | effU (i : Nat) (r : Steps)
  | next (i : Nat) (t : List Comp) (r : Steps)
  | call (i : Nat) (t : Ty) (r : Steps)
  | inv (i : Nat) (t : Ty) (r : Steps)
  | guard (g : Tmp) (blk : Steps) (pick : Tmp) (dead : List Tmp) (r : Steps)

inductive DSteps where
  | nil
  | take (i : Nat) (m : Mode) (r : DSteps)
  | now (i : Nat) (m : Mode) (chk : List Nat) (r : DSteps)
  | eff (i : Nat) (t : Ty) (chk : List Nat) (r : DSteps)
  | effU (i : Nat) (chk : List Nat) (r : DSteps)
  | call (i : Nat) (t : Ty) (chk : List Nat) (r : DSteps)
  | split (g : Tmp) (r : DSteps)
  | alt (r1 r2 : DSteps)

inductive SCode where
  | skip
  | region (id : Nat) (ops : Array Oper) (st : Steps)
  | draw (id : Nat) (ops : Array Oper) (ds : DSteps)
  | seq (x y : SCode)
  | join (x : SCode) (live : List (Tmp × Comp)) (dead : List Tmp) (y : SCode)
  | cond (c : Operand) (x y : SCode)
  | block (id : Nat) (x : SCode)
  | loop (live : List (Tmp × Comp)) (dead : List Tmp) (x : SCode)
  | exit (id : Nat)
  | ret

/-- annotations alone -/
inductive SA where
  | none
  | region (st : Steps)
  | draw (ds : DSteps)
  | seq (x y : SA)
  | join (x : SA) (live : List (Tmp × Comp)) (dead : List Tmp) (y : SA)
  | cond (x y : SA)
  | block (x : SA)
  | loop (live : List (Tmp × Comp)) (dead : List Tmp) (x : SA)

def SA.on : SA → Code → SCode
  | .none, .skip => .skip
  | .none, .exit id => .exit id
  | .none, .ret => .ret
  | .region st, .region id ops _ => .region id ops st
  | .draw ds, .region id ops _ => .draw id ops ds
  | .seq x y, .seq c d => .seq (x.on c) (y.on d)
  | .join x live dead y, .seq c d => .join (x.on c) live dead (y.on d)
  | .cond x y, .cond o c d => .cond o (x.on c) (y.on d)
  | .block x, .block id c => .block id (x.on c)
  | .loop live dead x, .loop c => .loop live dead (x.on c)
  | _, _ => .skip

def bodyOf (fn : Func) : Code := fn.body.getD .skip

def SCode.erase : SCode → Code
  | .skip => .skip
  | .region id ops _ => .region id ops false
  | .draw id ops _ => .region id ops true
  | .seq x y => .seq x.erase y.erase
  | .join x _ _ y => .seq x.erase y.erase
  | .cond c x y => .cond c x.erase y.erase
  | .block id x => .block id x.erase
  | .loop _ _ x => .loop x.erase
  | .exit id => .exit id
  | .ret => .ret

end Go.Sh
namespace Go
def Act.set (a : Act) (d : Tmp) (v : Value) : Act := { a with tmps := a.tmps.setIfInBounds d v }
end Go
namespace Go.Sh
def slot (a : Act) (d : Tmp) : Value := a.tmps.getD d undef

def junk : List Tmp → List Value → Act → Act
  | [], _, a => a
  | d :: ds, us, a => junk ds us.tail (a.set d (us.headD undef))

abbrev liveDen : List (Tmp × Comp) → Type
  | [] => Unit
  | [x] => x.2.den
  | x :: y :: r => x.2.den × liveDen (y :: r)

def setLive : (l : List (Tmp × Comp)) → liveDen l → Act → Act
  | [], _, a => a
  | [x], s, a => a.set x.1 (x.2.val s)
  | x :: y :: r, s, a => setLive (y :: r) s.2 (a.set x.1 (x.2.val s.1))

def parseLive : (l : List (Tmp × Comp)) → Act → Option (liveDen l)
  | [], _ => some ()
  | [x], a => x.2.parse (slot a x.1)
  | x :: y :: r, a =>
    match x.2.parse (slot a x.1), parseLive (y :: r) a with
    | some s, some t => some (s, t)
    | _, _ => none

section
variable (P : Program)

def takeV (m : Mode) (o : Oper) (a : Act) (next : Act → Pr) : Pr :=
  match m with
  | .pure =>
    match pureRun P (execOp a.eval o) with
    | some (.value v) => next (a.put o.dst v)
    | _ => fun _ => False
  | .val t => ValP P (execOp a.eval o) t fun x => next (a.put o.dst (t.val x))
  | .get t => GetP P (execOp a.eval o) t fun x => next (a.put o.dst (t.val x))

def callV (t : Ty) (o : Oper) (a : Act) (next : Act → Pr) : Pr :=
  match pureRun P (execOp a.eval o) with
  | some (.enter f args) => CallP P f args t fun x => next (a.put o.dst (t.val x))
  | _ => fun _ => False

/-- operation i, if it is wanted -/
def ifWanted (ops : Array Oper) (i : Nat) (a : Act) (next : Act → Pr) (run : Oper → Pr) : Pr :=
  match ops[i]? with
  | some o =>
    match Region.wanted o (yielded ops a.tmps) with
    | true => run o
    | false => next (a.put o.dst undef)
  | none => fun _ => False

def vcSteps (ops : Array Oper) : Steps → (Act → Pr) → Act → Pr
  | .nil, next, a => next a
  | .take i m r, next, a => ifWanted ops i a (vcSteps ops r next) fun o => takeV P m o a (vcSteps ops r next)
  | .eff i t r, next, a => ifWanted ops i a (vcSteps ops r next) fun o => DoP P (execOp a.eval o) t fun x => vcSteps ops r next (a.put o.dst (t.val x))
  | .effU i r, next, a => ifWanted ops i a (vcSteps ops r next) fun o => DoU P (execOp a.eval o) (vcSteps ops r next (a.put o.dst undef))
  | .next i t r, next, a => ifWanted ops i a (vcSteps ops r next) fun o => NextP P (execOp a.eval o) t
      (vcSteps ops r next (a.put o.dst (.tuple ⟨[.bool false]⟩))) fun x => vcSteps ops r next (a.put o.dst (.tuple ⟨.bool true :: tupVal t x⟩))
  | .inv i t r, next, a => ifWanted ops i a (vcSteps ops r next) fun o => InvP P (execOp a.eval o) t fun x => vcSteps ops r next (a.put o.dst (t.val x))
  | .call i t r, next, a => ifWanted ops i a (vcSteps ops r next) fun o => callV P t o a (vcSteps ops r next)
  | .guard g blk pick dead r, next, a =>
    match slot a g with
    | .bool c =>
      JoinP (S := Bool) (fun x => AnyP fun us => vcSteps ops r next ((junk dead us a).set pick (.bool x))) fun J =>
        CondP c
          (vcSteps ops blk (fun a' => match slot a' pick with | .bool x => J x | _ => fun _ => False) (a.set g (.bool true)))
          (vcSteps ops blk (fun a' => match slot a' pick with | .bool x => J x | _ => fun _ => False) (a.set g (.bool false)))
    | _ => vcSteps ops blk (vcSteps ops r next) a

def checksV (ops : Array Oper) (a : Act) (k : Pr) : List Nat → Pr
  | [] => k
  | j :: js =>
    match ops[j]? with
    | some o =>
      match Region.wanted o (yielded ops a.tmps) with
      | true => ChkP P (execOp a.eval o) (match o.dst with | some d => slot a d | none => undef) (checksV ops a k js)
      | false => checksV ops a k js
    | none => fun _ => False

/-- both ways -/
structure BothP (x y : Pr) (w : World) : Prop where
  out : x w ∧ y w

def vcDraw (ops : Array Oper) : DSteps → (Act → Pr) → Act → Pr
  | .nil, next, a => next a
  | .take i m r, next, a => ifWanted ops i a (vcDraw ops r next) fun o => takeV P m o a (vcDraw ops r next)
  | .now i m chk r, next, a => ifWanted ops i a (vcDraw ops r next) fun o => takeV P m o a fun a' => checksV P ops a' (vcDraw ops r next a') chk
  | .eff i t chk r, next, a => ifWanted ops i a (vcDraw ops r next) fun o =>
      DoP P (execOp a.eval o) t fun x => checksV P ops (a.put o.dst (t.val x)) (vcDraw ops r next (a.put o.dst (t.val x))) chk
  | .effU i chk r, next, a => ifWanted ops i a (vcDraw ops r next) fun o =>
      DoU P (execOp a.eval o) (checksV P ops (a.put o.dst undef) (vcDraw ops r next (a.put o.dst undef)) chk)
  | .call i t chk r, next, a => ifWanted ops i a (vcDraw ops r next) fun o =>
      callV P t o a fun a' => checksV P ops a' (vcDraw ops r next a') chk
  | .split g r, next, a =>
    match slot a g with
    | .bool c => CondP c (vcDraw ops r next (a.set g (.bool true))) (vcDraw ops r next (a.set g (.bool false)))
    | _ => vcDraw ops r next a
  | .alt r1 r2, next, a => BothP (vcDraw ops r1 next a) (vcDraw ops r2 next a)

def vc : SCode → (Exit → Act → Pr) → Act → Pr
  | .skip, Q, a => Q .normal a
  | .region _ ops st, Q, a => vcSteps P ops st (Q .normal) a
  | .draw _ ops ds, Q, a => DrewP (vcDraw P ops ds (Q .normal) a)
  | .seq x y, Q, a => vc x (Exit.then (vc y Q) Q) a
  | .join x live dead y, Q, a =>
    JoinP (S := liveDen live) (fun s => AnyP fun us => vc y Q (setLive live s (junk dead us a))) fun J =>
      vc x (Exit.then (fun a' => match parseLive live a' with | some s => J s | none => fun _ => False) Q) a
  | .cond c x y, Q, a =>
    match a.eval c with
    | .bool b => CondP b (vc x Q a) (vc y Q a)
    | _ => fun _ => False
  | .block id x, Q, a => vc x (Exit.inBlock id Q) a
  | .loop live dead x, Q, a =>
    match parseLive live a with
    | some s => LoopP (S := liveDen live) (fun next s => AnyP fun us =>
        vc x (Exit.then (fun a' => match parseLive live a' with | some s' => next s' | none => fun _ => False) Q) (setLive live s (junk dead us a))) s
    | none => fun _ => False
  | .exit id, Q, a => Q (.exit id) a
  | .ret, Q, a => Q .ret a

/-- a result: a value, or a cell of a type -/
inductive ResRead
  | val (v : Value)
  | cell (a : Value) (t : TypeId)
def resGet : ResRead → Sem Value
  | .val v => pure v
  | .cell a t => do loadVar t (← asAddr a)
def resSem (l : List ResRead) : Sem Value := do
  let vs ← l.toArray.mapM resGet
  pure (if h : vs.size = 1 then vs[0] else .tuple vs)
def resRead (tmps : Array Value) : ResultVar → ResRead
  | .tmp t => .val (tmps.getD t undef)
  | .cell a t => .cell (tmps.getD a undef) t
def resOf (fn : Func) (tmps : Array Value) : List ResRead := fn.results.toList.map (resRead tmps)
def hasCell (fn : Func) : Bool := fn.results.toList.any fun | .tmp _ => false | .cell _ _ => true

def retV (fn : Func) (t : Ty) (k : t.den → Pr) (a : Act) : Pr :=
  match hasCell fn with
  | true => GetP P (vN (resSem (resOf fn a.tmps))) t k
  | false =>
    match pureRun P (results fn a.tmps) with
    | some v =>
      match t.parse v with
      | some x => k x
      | none => fun _ => False
    | none => fun _ => False

def bodyQ (fn : Func) (t : Ty) (k : t.den → Pr) : Exit → Act → Pr
  | .normal => retV P fn t k
  | .ret => retV P fn t k
  | _ => fun _ _ => False

def vcBody (fn : Func) (c : SCode) (t : Ty) (k : t.den → Pr) (args : List Value) : Pr :=
  vc P c (bodyQ P fn t k) { tmps := ⟨args ++ List.replicate (fn.ntmps - args.length) undef⟩, defers := [] }
end
end Go.Sh
