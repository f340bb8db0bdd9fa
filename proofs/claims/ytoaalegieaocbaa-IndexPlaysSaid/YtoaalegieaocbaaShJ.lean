/- What a round, a loop's end and a return ask of the record's block. -/
import Derived.Test.YtoaalegieaocbaaShW
import Derived.Test.YtoaalegieaocbaaShG
namespace Go.Sh
section
variable {P : Program} {E w : World} {L : List HProp} {l : Nat} {rec : Loop} {k : Pr}

theorem BeginP.go (h : Holds E w (pto l (.loop rec) :: L)) (hs : rec.state = .ready) (hk : ∀ w', Holds E w' (pto l (.loop { rec with state := .busy }) :: L) → k w') : BeginP P l k w := by
  refine ⟨_, ?_, hk _ h.set⟩
  simp [Instr.beginRound, Instr.getLoop, getObj, setObj, Sem.run, h.own, hs]
theorem EndRP.go (h : Holds E w (pto l (.loop rec) :: L)) (hk : ∀ w', Holds E w' (pto l (.loop { rec with state := .ready, pending := none }) :: L) → k w') : EndRP P l k w := by
  refine ⟨_, ?_, hk _ h.set⟩
  simp [Instr.endRound, Instr.getLoop, getObj, setObj, Sem.run, h.own]
theorem EndLP.go (h : Holds E w (pto l (.loop rec) :: L)) (hs : rec.state = .ready) (hp : rec.pending = none) (hk : ∀ w', Holds E w' L → k w') : EndLP P l k w := by
  refine ⟨{ w with heap := w.heap.setIfInBounds l (.loop { rec with state := .exhausted }) }, ?_, hk _ h.set.drop⟩
  simp [Instr.endLoop, Instr.getLoop, getObj, setObj, Sem.run, h.own, hs, hp]
theorem LeaveP.go {D : Nat} (h : Holds E w (pto D (.deferred (some [])) :: L)) (hk : ∀ w', Holds E w' L → k w') : LeaveP P D k w := by
  refine ⟨{ w with heap := w.heap.setIfInBounds D (.deferred none) }, ?_, hk _ h.set.drop⟩
  simp [Instr.takeDeferred, getObj, setObj, Sem.run, h.own]

/-- a call of a round -/
theorem InvP.of_round {t : Comp} {B : Nat → t.den → Pr → Pr} {x : t.den} {kb : Bool → Pr} (h : Holds E w (pto l (.loop rec) :: L)) (hp : rec.params.size = 1)
    (hR : ∀ l x kb w', B l x kb w' → RoundIn Fence.wide 0 P l rec.fn ((rec.params.zip #[t.val x]).foldl (fun tmps (p, v) => tmps.setIfInBounds p v) rec.tmps) rec.assign rec.body w' fun e w'' => e = .returned (.bool true) ∧ kb w'')
    (hb : B l x (kb true) w) : InvP P (callN (.func (.yield l) #[] #[]) #[t.val x]) tBool kb w := by
  refine ⟨l, rec.fn, _, rec.assign, rec.body, ?_, (hR l x (kb true) w hb).mono fun e w' ⟨h1, h2⟩ => ⟨true, h1, h2⟩⟩
  simp [callN, Deferred.ofValue, invoke, Instr.yield, Instr.getLoop, getObj, Sem.run, h.own, hp, go_sem]

/-- the start of a range over a function -/
theorem RangeP.go {gv : Value} {gf : FuncId} {lb : List Value} {t : Comp} {B : Nat → t.den → Pr → Pr} {k : Nat → Pr} (h : Holds E w L) (hg : gv = .func (.func gf) #[] ⟨lb⟩)
    (he : ∀ args w, (callFunc gf args).run P w = .ok (.enter gf args) w)
    (hc : ∀ (l D : Nat) (rec : Loop) (w' : World), rec.state = .ready → rec.pending = none → rec.params.size = 1 →
      (∀ l x kb w', B l x kb w' → RoundIn Fence.wide 0 P l rec.fn ((rec.params.zip #[t.val x]).foldl (fun tmps (p, v) => tmps.setIfInBounds p v) rec.tmps) rec.assign rec.body w' fun e w'' => e = .returned (.bool true) ∧ kb w'') →
      Holds E w' (pto l (.loop rec) :: pto D (.deferred (some [])) :: L) → CallP P gf ⟨.func (.yield l) #[] #[] :: lb⟩ (.tup []) (fun _ => EndLP P l (k D)) w') : RangeP P gv t B k w := by
  refine ⟨gf, lb, hg, he, fun rec h1 h2 h3 h4 h5 => ?_⟩
  have a1 := h.new (o := .deferred (some []))
  have a2 := a1.new (o := .loop rec)
  have e : ({ w with heap := w.heap.push (.deferred (some [])) } : World).heap.size = w.heap.size + 1 := by simp
  rw [e] at a2
  exact hc _ _ rec _ h1 h2 h4 h5 a2
end
end Go.Sh
