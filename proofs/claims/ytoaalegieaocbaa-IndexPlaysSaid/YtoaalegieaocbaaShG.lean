/- A round of a range over a function: its reading, and what it implies. -/
import Derived.Test.YtoaalegieaocbaaShC
import Derived.RangeFuncOwn
import Derived.RangeFuncLeaves
namespace Go.Sh
section
variable (P : Program)

structure BeginP (l : Nat) (k : Pr) (w : World) : Prop where
  out : ∃ w', (Instr.beginRound l).run P w = .ok () w' ∧ k w'
structure EndRP (l : Nat) (k : Pr) (w : World) : Prop where
  out : ∃ w', (Instr.endRound l none).run P w = .ok (.bool true) w' ∧ k w'

def vcRound (asg body : SCode) (l : Nat) (k : Pr) (a : Act) : Pr :=
  vc P asg (fun e => match e with
    | .normal => fun a1 => BeginP P l (vc P body (fun e => match e with | .normal => fun _ => EndRP P l k | _ => fun _ _ => False) a1)
    | _ => fun _ _ => False) a
end

theorem round_sound {P : Program} (hm : P.follows .mixedOrders = true) {asg body : SCode} {l N : Nat} {fn : FuncId} {k : Pr} {tmps : Array Value} {w : World}
    (h1 : codeOk N asg = true) (h2 : codeOk N body = true) (hN : tmps.size = N) (h : vcRound P asg body l k { tmps := tmps, defers := [] } w) :
    RoundIn Fence.wide 0 P l fn tmps asg.erase body.erase w fun e w' => e = .returned (.bool true) ∧ k w' := by
  refine roundIn_of_wpIn trivial ?_
  change asg.erase.wpIn (Fr (some l)) 0 P _ _ w
  refine wpIn_mono (vc_sound (ro := some l) hm asg _ _ w h1 hN h) fun e a1 w1 ⟨hq, hag⟩ => ?_
  cases e with
  | normal =>
    obtain ⟨w2, hb, hv⟩ := hq.out
    refine ⟨w2, hb, ?_⟩
    change body.erase.wpIn (Fr (some l)) 0 P _ _ w2
    refine wpIn_mono (vc_sound (ro := some l) hm body _ _ w2 h2 (hag.2.1.trans hN) hv) fun e a2 w3 ⟨hq2, _⟩ => ?_
    cases e with
    | normal =>
      obtain ⟨w4, he, hk⟩ := hq2.out
      exact ⟨_, w4, he, rfl, hk⟩
    | _ => exact hq2.elim
  | _ => exact hq.elim

section
variable (P : Program)
structure EndLP (l : Nat) (k : Pr) (w : World) : Prop where
  out : ∃ w', (Instr.endLoop l).run P w = .ok none w' ∧ k w'
structure LeaveP (D : Nat) (k : Pr) (w : World) : Prop where
  out : ∃ w', (Instr.takeDeferred D).run P w = .ok [] w' ∧ k w'

/-- a range over the function gf with what it holds: B is what a round does with an element -/
structure RangeP (gv : Value) (t : Comp) (B : Nat → t.den → Pr → Pr) (k : Nat → Pr) (w : World) : Prop where
  out : ∃ gf lb, gv = .func (.func gf) #[] ⟨lb⟩ ∧ (∀ args w, (callFunc gf args).run P w = .ok (.enter gf args) w) ∧ ∀ rec : Loop, rec.state = .ready → rec.pending = none → rec.defers = w.heap.size → rec.params.size = 1 →
    (∀ l x kb w', B l x kb w' → RoundIn Fence.wide 0 P l rec.fn ((rec.params.zip #[t.val x]).foldl (fun tmps (p, v) => tmps.setIfInBounds p v) rec.tmps) rec.assign rec.body w' fun e w'' => e = .returned (.bool true) ∧ kb w'') →
    CallP P gf ⟨.func (.yield (w.heap.size + 1)) #[] #[] :: lb⟩ (.tup []) (fun _ => EndLP P (w.heap.size + 1) (k w.heap.size)) ((w.alloc (.deferred (some []))).alloc (.loop rec))
end

theorem range_sound {P : Program} (hm : P.follows .mixedOrders = true) {g : Operand} {p : Tmp} {asg body : SCode} {Q : Exit → Act → World → Prop} {a : Act} {w : World} {t : Comp} {k : Nat → Pr} {N : Nat}
    (h1 : codeOk N asg = true) (h2 : codeOk N body = true) (hN : a.tmps.size = N)
    (h : RangeP P (a.eval g) t (fun l x kb => vcRound P asg body l kb { tmps := a.tmps.setIfInBounds p (t.val x), defers := [] }) k w)
    (hQ : ∀ D w', k D w' → Q .normal { a with defers := { target := .collected D, args := #[] } :: a.defers } w') :
    (Code.rangeFunc g #[p] asg.erase body.erase).wpIn Fence.wide 0 P Q a w := by
  obtain ⟨gf, lb, hg, he, h⟩ := h.out
  refine wpIn_rangeFunc fun fn _ => ?_
  obtain ⟨rec, hrec⟩ : ∃ rec : Loop, rec = { state := .ready, pending := none, fn, tmps := a.tmps, params := #[p], assign := asg.erase, body := body.erase, defers := w.heap.size } := ⟨_, rfl⟩
  have hc := h rec (by rw [hrec]) (by rw [hrec]) (by rw [hrec]) (by rw [hrec]; rfl) (fun l x kb w' hB => by
    have e : (rec.params.zip #[t.val x]).foldl (fun tmps (p, v) => tmps.setIfInBounds p v) rec.tmps = a.tmps.setIfInBounds p (t.val x) := by rw [hrec]; simp
    rw [e, hrec]
    exact round_sound hm h1 h2 (by simpa using hN) hB)
  refine ⟨w.heap.size + 1, [{ target := .collected w.heap.size, args := #[] }], (w.alloc (.deferred (some []))).alloc (.loop rec), { target := .fn (.func gf) ⟨lb⟩, args := #[.func (.yield (w.heap.size + 1)) #[] #[]] },
    (w.alloc (.deferred (some []))).alloc (.loop rec), gf, #[.func (.yield (w.heap.size + 1)) #[] #[]] ++ ⟨lb⟩, (w.alloc (.deferred (some []))).alloc (.loop rec), ?_, ?_, fun _ _ => trivial, ?_, fun h => (by cases h), ?_⟩
  · rw [hrec]; exact run_enterLoop_outer _ _ _ _ _
  · simp only [resolve, hg]
    simp [go_sem]
  · simp [invoke, go_sem, he]
  · refine callsIn_wide.2 ?_
    have e : (#[.func (.yield (w.heap.size + 1)) #[] #[]] ++ ⟨lb⟩ : Array Value) = ⟨.func (.yield (w.heap.size + 1)) #[] #[] :: lb⟩ := by apply Array.ext'; simp
    rw [e]
    refine hc.out.mono fun e w' ⟨x, he', hk⟩ => ?_
    subst he'
    obtain ⟨w4, h4, h5⟩ := hk.out
    exact ⟨none, w4, h4, hQ _ _ h5⟩

/-- the parts of a body: A; B; {C; block (range)}; D; return -/
def sqL : Code → Code
  | .seq x _ => x
  | c => c
def sqR : Code → Code
  | .seq _ y => y
  | c => c
def rgRange : Code → Code
  | .block _ x => x
  | c => c
def rgA (c : Code) : Code := sqL c
def rgB (c : Code) : Code := sqL (sqR c)
def rgC (c : Code) : Code := sqL (sqL (sqR (sqR c)))
def rgD (c : Code) : Code := sqL (sqR (sqR (sqR c)))
def rgAsg (c : Code) : Code := match rgRange (sqR (sqL (sqR (sqR c)))) with
  | .rangeFunc _ _ x _ => x
  | c => c
def rgBody (c : Code) : Code := match rgRange (sqR (sqL (sqR (sqR c)))) with
  | .rangeFunc _ _ _ y => y
  | c => c

def nrm (f : Act → Pr) : Exit → Act → Pr
  | .normal => f
  | _ => fun _ _ => False

section
variable (P : Program)
def rangeV (g : Operand) (p : Tmp) (asg body : SCode) (t : Comp) (k : Nat → Act → Pr) (a : Act) : Pr :=
  RangeP P (a.eval g) t (fun l x kb => vcRound P asg body l kb { tmps := a.tmps.setIfInBounds p (t.val x), defers := [] })
    (fun D => k D { tmps := a.tmps, defers := [{ target := .collected D, args := #[] }] })
/-- the reading of a function whose body is: A, B, C, the range, D, return -/
def vcRanged (fn : Func) (A B C D asg body : SCode) (g : Operand) (p : Tmp) (t : Comp) (ty : Ty) (k : ty.den → Pr) (args : List Value) : Pr :=
  vc P A (nrm (vc P B (nrm (vc P C (nrm (rangeV P g p asg body t fun d => vc P D (nrm fun a => LeaveP P d (retV P fn ty k a))))))))
    { tmps := ⟨args ++ List.replicate (fn.ntmps - args.length) undef⟩, defers := [] }
end

theorem nrm_then {f : Act → Pr} {c : SCode} {N : Nat} {P : Program} {x : Code} {a0 : Act} {w : World} {R : Exit → Act → World → Prop} (hm : P.follows .mixedOrders = true) (hok : codeOk N c = true) (hN : a0.tmps.size = N)
    (h : vc P c (nrm f) a0 w) (hx : ∀ a w, f a w → a.defers = a0.defers → a.tmps.size = N → x.wpIn Fence.wide 0 P R a w) : (Code.seq c.erase x).wpIn Fence.wide 0 P R a0 w := by
  refine wpIn_seq ?_
  change c.erase.wpIn (Fr none) 0 P _ _ w
  refine wpIn_mono (vc_sound (ro := none) hm c _ _ w hok hN h) fun e a1 w1 ⟨hq, hag⟩ => ?_
  cases e with
  | normal => exact hx a1 w1 hq hag.1 (hag.2.1.trans hN)
  | _ => exact hq.elim

theorem ret_sound {P : Program} {fn : Func} {t : Ty} {k : t.den → Pr} {a : Act} {w : World} (hr : retV P fn t k a w) : ∃ v, (results fn a.tmps).run P w = .ok v w ∧ ∃ x, v = t.val x ∧ k x w := by
  simp only [retV] at hr
  cases hc : hasCell fn with
  | true =>
    rw [hc] at hr
    obtain ⟨x, hx, hn⟩ := hr.out
    rw [results_eq]
    exact ⟨t.val x, run_of_vN hx, x, rfl, hn⟩
  | false =>
    rw [hc] at hr
    dsimp only at hr
    cases hv : pureRun P (results fn a.tmps) with
    | none => rw [hv] at hr; exact hr.elim
    | some v =>
      rw [hv] at hr
      dsimp only at hr
      cases hx : t.parse v with
      | none => rw [hx] at hr; exact hr.elim
      | some x =>
        rw [hx] at hr
        exact ⟨v, pureRun_sound _ hv w, x, Ty.parse_val t v x hx, hr⟩

theorem CallP.of_range {P : Program} (hm : P.follows .mixedOrders = true) {f : FuncId} {fn : Func} {A B C D asg body : SCode} {id : Nat} {g : Operand} {p : Tmp} {t : Comp} {ty : Ty} {k : ty.den → Pr} {args : List Value} {w : World} {S : Pr}
    (hf : P.funcs[f]? = some fn) (hb : fn.body = some (.seq A.erase (.seq B.erase (.seq (.seq C.erase (.block id (.rangeFunc g #[p] asg.erase body.erase))) (.seq D.erase .ret)))))
    (hA : codeOk fn.ntmps A = true) (hB : codeOk fn.ntmps B = true) (hC : codeOk fn.ntmps C = true) (hD : codeOk fn.ntmps D = true) (ha : codeOk fn.ntmps asg = true) (hbd : codeOk fn.ntmps body = true)
    (hargs : Nat.ble args.length fn.ntmps = true)
    (heq : vcRanged P fn A B C D asg body g p t ty k args = S) (h : S w) : CallP P f ⟨args⟩ ty k w := by
  rw [← heq] at h
  have hargs := Nat.le_of_ble_eq_true hargs
  refine ⟨callsIn_wide (n := 0).1 (callsIn_of_wp_marks hf hb trivial ?_)⟩
  have e : (⟨args⟩ : Array Value) ++ Array.replicate (fn.ntmps - (⟨args⟩ : Array Value).size) undef = (⟨args ++ List.replicate (fn.ntmps - args.length) undef⟩ : Array Value) := by
    apply Array.ext'
    simp
  rw [e]
  refine nrm_then hm hA (by simp; omega) h fun a1 w1 h1 d1 n1 => ?_
  refine nrm_then hm hB n1 h1 fun a2 w2 h2 d2 n2 => ?_
  refine wpIn_seq ?_
  refine nrm_then hm hC n2 h2 fun a3 w3 h3 d3 n3 => ?_
  refine wpIn_block ?_
  refine range_sound hm ha hbd n3 h3 fun d w4 h4 => ?_
  rw [d3, d2, d1]
  refine nrm_then hm hD n3 h4 fun a5 w5 h5 d5 n5 => ?_
  refine wpIn_ret ?_
  obtain ⟨w6, ht, hr⟩ := h5.out
  show LeavesInM Fence.wide 0 P fn a5.tmps _ a5.defers .returning w5
  rw [d5]
  refine ⟨by simp, .inl ⟨d, w6, rfl, ht, ?_⟩⟩
  obtain ⟨v, hv, x, rfl, hk⟩ := ret_sound hr
  exact ⟨_, hv, x, rfl, hk⟩
end Go.Sh
