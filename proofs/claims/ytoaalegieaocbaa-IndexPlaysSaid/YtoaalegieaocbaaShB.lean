/- The annotated code's reading is sound: what the kernel computes implies the model's own weakest precondition. Regions in the order of the text. -/
import Derived.OrdersIn
import Derived.LoopNIn
import Derived.Laws.Sem
import Derived.Test.YtoaalegieaocbaaShA
namespace Go.Sh

/-! ### frames -/

def Agree (D : List Tmp) (a a' : Act) : Prop :=
  a'.defers = a.defers ∧ a'.tmps.size = a.tmps.size ∧ ∀ x, x ∉ D → slot a' x = slot a x

theorem Agree.refl (D : List Tmp) (a : Act) : Agree D a a := ⟨rfl, rfl, fun _ _ => rfl⟩
theorem Agree.trans {D D' D'' : List Tmp} {a b c : Act} (h : Agree D a b) (h' : Agree D' b c) (h1 : ∀ x ∈ D, x ∈ D'') (h2 : ∀ x ∈ D', x ∈ D'') : Agree D'' a c :=
  ⟨h'.1.trans h.1, h'.2.1.trans h.2.1, fun x hx => (h'.2.2 x fun m => hx (h2 x m)).trans (h.2.2 x fun m => hx (h1 x m))⟩
theorem Agree.mono {D D' : List Tmp} {a b : Act} (h : Agree D a b) (h1 : ∀ x ∈ D, x ∈ D') : Agree D' a b :=
  ⟨h.1, h.2.1, fun x hx => h.2.2 x fun m => hx (h1 x m)⟩

theorem slot_set (a : Act) (d x : Tmp) (v : Value) : slot (a.set d v) x = if d = x ∧ d < a.tmps.size then v else slot a x := by
  unfold slot Act.set
  simp only [Array.getD_eq_getD_getElem?, Array.getElem?_setIfInBounds]
  by_cases h : d = x
  · subst h
    by_cases h' : d < a.tmps.size <;> simp [h']
  · simp [h]

theorem size_set (a : Act) (d : Tmp) (v : Value) : (a.set d v).tmps.size = a.tmps.size := by simp [Act.set]
theorem defers_set (a : Act) (d : Tmp) (v : Value) : (a.set d v).defers = a.defers := rfl

theorem put_some (a : Act) (d : Tmp) (v : Value) : a.put (some d) v = a.set d v := rfl

theorem Act.ext_slot {a b : Act} (hd : a.defers = b.defers) (hs : a.tmps.size = b.tmps.size) (h : ∀ x, x < a.tmps.size → slot a x = slot b x) : a = b := by
  cases a with
  | mk ta da =>
    cases b with
    | mk tb db =>
      simp only at hd hs
      subst hd
      congr 1
      refine Array.ext hs fun i h1 h2 => ?_
      have := h i h1
      simpa [slot, Array.getD_eq_getD_getElem?, h1, h2] using this

theorem Agree.put (a : Act) (d : Option Tmp) (v : Value) : Agree d.toList a (a.put d v) := by
  cases d with
  | none => exact Agree.refl _ _
  | some d =>
    refine ⟨rfl, size_set a d v, fun x hx => ?_⟩
    rw [put_some, slot_set, if_neg]
    intro h
    exact hx (by simp [h.1])

theorem slot_lt {a : Act} {d : Tmp} {b : Bool} (h : slot a d = .bool b) : d < a.tmps.size := by
  unfold slot at h
  by_cases hd : d < a.tmps.size
  · exact hd
  · simp [Array.getD_eq_getD_getElem?, hd, undef] at h

theorem set_slot {a : Act} {d : Tmp} {b : Bool} (h : slot a d = .bool b) : a.set d (.bool b) = a := by
  refine Act.ext_slot rfl (size_set _ _ _) fun x _ => ?_
  rw [slot_set]
  split
  · rename_i h'; rw [← h'.1, h]
  · rfl

theorem size_junk : ∀ (ds : List Tmp) (us : List Value) (a : Act), (junk ds us a).tmps.size = a.tmps.size
  | [], _, _ => rfl
  | d :: ds, us, a => by rw [junk, size_junk, size_set]
theorem defers_junk : ∀ (ds : List Tmp) (us : List Value) (a : Act), (junk ds us a).defers = a.defers
  | [], _, _ => rfl
  | d :: ds, us, a => by rw [junk, defers_junk, defers_set]

theorem slot_junk (f : Tmp → Value) (x : Tmp) : ∀ (ds : List Tmp) (a : Act),
    slot (junk ds (ds.map f) a) x = if x ∈ ds ∧ x < a.tmps.size then f x else slot a x
  | [], a => by simp [junk]
  | d :: ds, a => by
    simp only [junk, List.map_cons, List.tail_cons, List.headD_cons]
    rw [slot_junk f x ds, size_set, slot_set]
    by_cases h1 : x ∈ ds
    · by_cases h2 : x < a.tmps.size
      · simp [h1, h2]
      · rw [if_neg (fun h => h2 h.2), if_neg (fun (h : d = x ∧ d < a.tmps.size) => h2 (h.1 ▸ h.2)), if_neg (fun h => h2 h.2)]
    · by_cases h3 : d = x
      · subst h3; simp [h1]
      · simp [h1, h3, Ne.symm h3]

theorem size_setLive : ∀ (l : List (Tmp × Comp)) (s : liveDen l) (a : Act), (setLive l s a).tmps.size = a.tmps.size
  | [], _, _ => rfl
  | [x], s, a => size_set _ _ _
  | x :: y :: r, s, a => by rw [setLive, size_setLive (y :: r), size_set]
theorem defers_setLive : ∀ (l : List (Tmp × Comp)) (s : liveDen l) (a : Act), (setLive l s a).defers = a.defers
  | [], _, _ => rfl
  | [x], s, a => rfl
  | x :: y :: r, s, a => by rw [setLive, defers_setLive (y :: r), defers_set]

theorem slot_setLive (a' : Act) (x : Tmp) : ∀ (l : List (Tmp × Comp)) (s : liveDen l) (b : Act), parseLive l a' = some s →
    slot (setLive l s b) x = if x ∈ l.map (·.1) ∧ x < b.tmps.size then slot a' x else slot b x
  | [], s, b, _ => by simp [setLive]
  | [y], s, b, h => by
    simp only [setLive, slot_set, List.map_cons, List.map_nil, List.mem_singleton]
    have := Comp.parse_val _ _ _ h
    by_cases hx : y.1 = x
    · subst hx; simp [this]
    · simp [hx, Ne.symm hx]
  | y :: z :: r, s, b, h => by
    simp only [parseLive] at h
    split at h
    · rename_i u t hu ht
      simp at h; subst h
      rw [setLive, slot_setLive a' x (z :: r) t _ ht, size_set, slot_set]
      have := Comp.parse_val _ _ _ hu
      by_cases h1 : x ∈ (z :: r).map (·.1)
      · by_cases h2 : x < b.tmps.size
        · rw [if_pos ⟨h1, h2⟩, if_pos ⟨by rw [List.map_cons]; exact List.mem_cons_of_mem _ h1, h2⟩]
        · rw [if_neg (fun h => h2 h.2), if_neg (fun (h : y.1 = x ∧ y.1 < b.tmps.size) => h2 (h.1 ▸ h.2)), if_neg (fun h => h2 h.2)]
      · by_cases h3 : y.1 = x
        · subst h3
          rw [if_neg (fun h => h1 h.1)]
          by_cases h2 : y.1 < b.tmps.size <;> simp [h2, this]
        · rw [if_neg (fun h => h1 h.1), if_neg (fun h => h3 h.1), if_neg]
          intro h
          rw [List.map_cons, List.mem_cons] at h
          rcases h.1 with h | h
          · exact h3 h.symm
          · exact h1 h
    · simp at h

theorem frame_eq {D : List Tmp} {a a' : Act} {live : List (Tmp × Comp)} {dead : List Tmp} {s : liveDen live}
    (h : Agree D a a') (hD : ∀ x ∈ D, x ∈ live.map (·.1) ∨ x ∈ dead) (hp : parseLive live a' = some s) :
    a' = setLive live s (junk dead (dead.map (slot a')) a) := by
  refine Act.ext_slot ?_ ?_ fun x hx => ?_
  · rw [defers_setLive, defers_junk]; exact h.1
  · rw [size_setLive, size_junk]; exact h.2.1
  · rw [slot_setLive a' x live s _ hp, size_junk, slot_junk]
    rw [h.2.1] at hx
    by_cases h1 : x ∈ live.map (·.1)
    · rw [if_pos ⟨h1, hx⟩]
    · rw [if_neg (fun h => h1 h.1)]
      by_cases h2 : x ∈ dead
      · rw [if_pos ⟨h2, hx⟩]
      · rw [if_neg (fun h => h2 h.1)]
        exact h.2.2 x fun m => (hD x m).elim h1 h2

theorem frame_pick {D : List Tmp} {a a' : Act} {pick : Tmp} {dead : List Tmp} {v : Value}
    (h : Agree D a a') (hD : ∀ x ∈ D, x = pick ∨ x ∈ dead) (hp : slot a' pick = v) :
    a' = (junk dead (dead.map (slot a')) a).set pick v := by
  refine Act.ext_slot ?_ ?_ fun x hx => ?_
  · rw [defers_set, defers_junk]; exact h.1
  · rw [size_set, size_junk]; exact h.2.1
  · rw [slot_set, size_junk, slot_junk]
    rw [h.2.1] at hx
    by_cases h1 : pick = x
    · subst h1; rw [if_pos ⟨rfl, hx⟩, hp]
    · rw [if_neg (fun h => h1 h.1)]
      by_cases h2 : x ∈ dead
      · rw [if_pos ⟨h2, hx⟩]
      · rw [if_neg (fun h => h2 h.1)]
        exact h.2.2 x fun m => (hD x m).elim (fun h => h1 h.symm) h2

/-! ### one operation -/

section
variable {P : Program} {ops : Array Oper} {Q : Exit → Act → World → Prop}

/-- all functions, whatever the round -/
def Fr (ro : Option Nat) : Fence := { Fence.wide with round := ro }

theorem calls_fr {ro : Option Nat} {n : Nat} {f : FuncId} {args : Array Value} {w : World} {R : Ending → World → Prop} : CallsIn (Fr ro) n P f args w R ↔ Calls P f args w R :=
  Iff.trans (b := CallsIn Fence.wide n P f args w R) Iff.rfl callsIn_wide

theorem semAt_run {ro : Option Nat} {ρ : Operand → Value} {o : Oper} {x : Next} {w w' : World} (h : (execOp ρ o).run P w = .ok x w') (hx : ∀ d, x ≠ .defer d) : (o.semAt ro ρ).run P w = .ok x w' := by
  rw [Oper.semAt_eq ro ρ o fun c hc => ?_]
  · exact h
  · unfold execOp at h
    rw [hc] at h
    simp only [Sem.run_bind] at h
    cases hr : (resolve ρ c o.type).run P w with
    | ok d w1 => rw [hr] at h; cases h; exact hx d rfl
    | halt e w1 => rw [hr] at h; cases h

variable {ro : Option Nat}

theorem wp_value {o : Oper} {a : Act} {w w' : World} {v : Value} {K : Act → World → Prop} (h : (execOp a.eval o).run P w = .ok (.value v) w')
    (hk : K (a.put o.dst v) w') : o.wpIn (Fr ro) 0 P a w K Q := by
  refine ⟨fun _ _ => trivial, ?_⟩
  rw [semAt_run h (fun d hd => by cases hd)]; exact hk
theorem wp_skipped {o : Oper} {a : Act} {w w' : World} {K : Act → World → Prop} (h : (execOp a.eval o).run P w = .ok .skip w')
    (hk : K (a.put o.dst undef) w') : o.wpIn (Fr ro) 0 P a w K Q := by
  refine ⟨fun _ _ => trivial, ?_⟩
  rw [semAt_run h (fun d hd => by cases hd)]; exact hk

theorem takeV_wp {m : Mode} {o : Oper} {a : Act} {w : World} {next K : Act → World → Prop} (h : takeV P m o a next w)
    (hk : ∀ v, next (a.put o.dst v) w → K (a.put o.dst v) w) : o.wpIn (Fr ro) 0 P a w K Q := by
  cases m with
  | pure =>
    simp only [takeV] at h
    cases hv : pureRun P (execOp a.eval o) with
    | none => rw [hv] at h; exact h.elim
    | some n =>
      rw [hv] at h
      cases n <;> first | exact h.elim | exact wp_value (pureRun_sound _ hv w) (hk _ h)
  | val t => obtain ⟨x, hx, hn⟩ := h.out; exact wp_value (hx w) (hk _ hn)
  | get t => obtain ⟨x, hx, hn⟩ := h.out; exact wp_value hx (hk _ hn)

theorem callV_wp {t : Ty} {o : Oper} {a : Act} {w : World} {next K : Act → World → Prop} (h : callV P t o a next w)
    (hk : ∀ v w', next (a.put o.dst v) w' → K (a.put o.dst v) w') : o.wpIn (Fr ro) 0 P a w K Q := by
  simp only [callV] at h
  cases hv : pureRun P (execOp a.eval o) with
  | none => rw [hv] at h; exact h.elim
  | some n =>
    rw [hv] at h
    cases n
    case enter f args =>
      refine ⟨fun _ _ => trivial, ?_⟩
      rw [semAt_run (pureRun_sound _ hv w) (fun d hd => by cases hd), Oper.uponIn_enter]
      refine ⟨fun h => (by cases h), CallsIn.mono (calls_fr.2 h.out) fun e w' he => ?_⟩
      obtain ⟨x, rfl, hn⟩ := he
      exact hk _ _ hn
    all_goals exact h.elim

theorem ifWanted_wp {i : Nat} {a : Act} {w : World} {next K : Act → World → Prop} {run : Oper → Pr} (h : ifWanted ops i a next run w)
    (hr : ∀ o, ops[i]? = some o → run o w → o.wpIn (Fr ro) 0 P a w K Q) (hn : ∀ o, ops[i]? = some o → next (a.put o.dst undef) w → K (a.put o.dst undef) w) :
    wpOpIn (Fr ro) 0 P ops Q i K a w := by
  unfold ifWanted at h
  unfold wpOpIn
  cases ho : ops[i]? with
  | none => simp [ho] at h
  | some o =>
    simp only [ho] at h ⊢
    cases hw : Region.wanted o (yielded ops a.tmps) with
    | true => simp only [hw, if_true] at h ⊢; exact hr o ho h
    | false => simp only [hw] at h ⊢; exact ⟨fun _ _ => trivial, hn o ho h⟩

/-! ### a region in the order of the text -/

def Steps.idx : Steps → List Nat
  | .nil => []
  | .take i _ r => i :: r.idx
  | .eff i _ r => i :: r.idx
  | .effU i r => i :: r.idx
  | .next i _ r => i :: r.idx
  | .call i _ r => i :: r.idx
  | .inv i _ r => i :: r.idx
  | .guard _ blk _ _ r => blk.idx ++ r.idx

def dstOf (ops : Array Oper) (i : Nat) : List Tmp := ((ops[i]?).bind (·.dst)).toList
def dsts (ops : Array Oper) (l : List Nat) : List Tmp := l.flatMap (dstOf ops)

def stepsOk (ops : Array Oper) : Steps → Bool
  | .nil => true
  | .take _ _ r => stepsOk ops r
  | .eff _ _ r => stepsOk ops r
  | .effU _ r => stepsOk ops r
  | .next _ _ r => stepsOk ops r
  | .call _ _ r => stepsOk ops r
  | .inv _ _ r => stepsOk ops r
  | .guard _ blk pick dead r => stepsOk ops blk && stepsOk ops r && (dsts ops blk.idx).all fun x => x == pick || dead.contains x

theorem dstOf_some {i : Nat} {o : Oper} (h : ops[i]? = some o) : dstOf ops i = o.dst.toList := by simp [dstOf, h]

theorem agree_cons {i : Nat} {o : Oper} {l : List Nat} {a a' : Act} {v : Value} (ho : ops[i]? = some o) (h : Agree (dsts ops l) (a.put o.dst v) a') :
    Agree (dsts ops (i :: l)) a a' := by
  refine (Agree.put a o.dst v).trans h (fun x hx => ?_) (fun x hx => ?_)
  · simp only [dsts, List.flatMap_cons, List.mem_append]; left; rw [dstOf_some ho]; exact hx
  · simp only [dsts, List.flatMap_cons, List.mem_append]; right; exact hx

theorem steps_sound : ∀ (s : Steps) (next : Act → Pr) (a : Act) (w : World) (rest : List Nat), stepsOk ops s = true → vcSteps P ops s next a w →
    (∀ a' w', next a' w' → Agree (dsts ops s.idx) a a' → wpOpsIn (Fr ro) 0 P ops Q rest a' w') → wpOpsIn (Fr ro) 0 P ops Q (s.idx ++ rest) a w
  | .nil, next, a, w, rest, _, h, hk => hk a w h (Agree.refl _ _)
  | .take i m r, next, a, w, rest, hok, h, hk => by
    simp only [Steps.idx, List.cons_append, wpOpsIn_cons]
    refine ifWanted_wp h (fun o ho hr => takeV_wp hr fun v hn => ?_) fun o ho hn => ?_
    · exact steps_sound r next _ w rest hok hn fun a' w' h1 h2 => hk a' w' h1 (agree_cons ho h2)
    · exact steps_sound r next _ w rest hok hn fun a' w' h1 h2 => hk a' w' h1 (agree_cons ho h2)
  | .eff i t r, next, a, w, rest, hok, h, hk => by
    simp only [Steps.idx, List.cons_append, wpOpsIn_cons]
    refine ifWanted_wp h (fun o ho hr => ?_) fun o ho hn => ?_
    · obtain ⟨x, w', hx, hn⟩ := hr.out
      exact wp_value hx (steps_sound r next _ w' rest hok hn fun a' w' h1 h2 => hk a' w' h1 (agree_cons ho h2))
    · exact steps_sound r next _ w rest hok hn fun a' w' h1 h2 => hk a' w' h1 (agree_cons ho h2)
  | .effU i r, next, a, w, rest, hok, h, hk => by
    simp only [Steps.idx, List.cons_append, wpOpsIn_cons]
    refine ifWanted_wp h (fun o ho hr => ?_) fun o ho hn => ?_
    · obtain ⟨w', hx, hn⟩ := hr.out
      exact wp_skipped hx (steps_sound r next _ w' rest hok hn fun a' w' h1 h2 => hk a' w' h1 (agree_cons ho h2))
    · exact steps_sound r next _ w rest hok hn fun a' w' h1 h2 => hk a' w' h1 (agree_cons ho h2)
  | .next i t r, next, a, w, rest, hok, h, hk => by
    simp only [Steps.idx, List.cons_append, wpOpsIn_cons]
    refine ifWanted_wp h (fun o ho hr => ?_) fun o ho hn => ?_
    · rcases hr.out with ⟨w', hx, hn⟩ | ⟨x, w', hx, hn⟩
      · exact wp_value hx (steps_sound r next _ w' rest hok hn fun a' w' h1 h2 => hk a' w' h1 (agree_cons ho h2))
      · exact wp_value hx (steps_sound r next _ w' rest hok hn fun a' w' h1 h2 => hk a' w' h1 (agree_cons ho h2))
    · exact steps_sound r next _ w rest hok hn fun a' w' h1 h2 => hk a' w' h1 (agree_cons ho h2)
  | .call i t r, next, a, w, rest, hok, h, hk => by
    simp only [Steps.idx, List.cons_append, wpOpsIn_cons]
    refine ifWanted_wp h (fun o ho hr => callV_wp hr fun v w' hn => ?_) fun o ho hn => ?_
    · exact steps_sound r next _ w' rest hok hn fun a' w' h1 h2 => hk a' w' h1 (agree_cons ho h2)
    · exact steps_sound r next _ w rest hok hn fun a' w' h1 h2 => hk a' w' h1 (agree_cons ho h2)
  | .inv i t r, next, a, w, rest, hok, h, hk => by
    simp only [Steps.idx, List.cons_append, wpOpsIn_cons]
    refine ifWanted_wp h (fun o ho hr => ?_) fun o ho hn => ?_
    · obtain ⟨l, fn, tmps, assign, body, hx, hR⟩ := hr.out
      refine ⟨fun _ _ => trivial, ?_⟩
      rw [semAt_run hx (fun d hd => by cases hd), Oper.uponIn_round]
      refine ⟨fun h => (by cases h), ?_⟩
      refine RoundIn.mono (F := Fr ro) (show RoundIn (Fr ro) 0 P l fn tmps assign body w _ from hR) fun e w' he => ?_
      obtain ⟨x, rfl, hn⟩ := he
      exact steps_sound r next _ w' rest hok hn fun a' w' h1 h2 => hk a' w' h1 (agree_cons ho h2)
    · exact steps_sound r next _ w rest hok hn fun a' w' h1 h2 => hk a' w' h1 (agree_cons ho h2)
  | .guard g blk pick dead r, next, a, w, rest, hok, h, hk => by
    simp only [stepsOk, Bool.and_eq_true] at hok
    obtain ⟨⟨hb, hr⟩, hd⟩ := hok
    simp only [vcSteps] at h
    cases hc : slot a g
    case bool c =>
      rw [hc] at h
      obtain ⟨ht, hf⟩ := h.out.out
      simp only [Steps.idx, List.append_assoc]
      have main : ∀ (J : vcSteps P ops blk (fun a' => match slot a' pick with
            | .bool x => AnyP fun us => vcSteps P ops r next ((junk dead us a).set pick (.bool x))
            | _ => fun _ => False) a w), wpOpsIn (Fr ro) 0 P ops Q (blk.idx ++ (r.idx ++ rest)) a w := by
        intro J
        refine steps_sound blk _ a w (r.idx ++ rest) hb J fun a' w' h1 h2 => ?_
        cases hx : slot a' pick
        case bool x =>
          rw [hx] at h1
          have h3 := h1.out (dead.map (slot a'))
          have hD : ∀ y ∈ dsts ops blk.idx, y = pick ∨ y ∈ dead := fun y hy => by
            have := List.all_eq_true.1 hd y hy
            simpa using this
          rw [← frame_pick h2 hD hx] at h3
          exact steps_sound r next a' w' rest hr h3 fun a'' w'' h4 h5 => hk a'' w'' h4
            (h2.trans h5 (fun y hy => by simp only [Steps.idx, dsts, List.flatMap_append, List.mem_append]; exact .inl hy)
              (fun y hy => by simp only [Steps.idx, dsts, List.flatMap_append, List.mem_append]; exact .inr hy))
        all_goals (rw [hx] at h1; exact h1.elim)
      cases c with
      | true => exact main (by have := ht rfl; rwa [set_slot hc] at this)
      | false => exact main (by have := hf rfl; rwa [set_slot hc] at this)
    all_goals
      rw [hc] at h
      simp only [Steps.idx, List.append_assoc]
      exact steps_sound blk _ a w (r.idx ++ rest) hb h fun a' w' h1 h2 => steps_sound r next a' w' rest hr h1 fun a'' w'' h4 h5 => hk a'' w'' h4
        (h2.trans h5 (fun y hy => by simp only [Steps.idx, dsts, List.flatMap_append, List.mem_append]; exact .inl hy)
          (fun y hy => by simp only [Steps.idx, dsts, List.flatMap_append, List.mem_append]; exact .inr hy))
end
end Go.Sh
