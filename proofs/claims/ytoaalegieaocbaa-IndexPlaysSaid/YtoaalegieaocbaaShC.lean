/- The annotated code's reading implies the model's weakest precondition of the whole body, and a contract of the call. -/
import Derived.Laws.Sem
import Derived.Test.YtoaalegieaocbaaShD
namespace Go.Sh

def touched : SCode → List Tmp
  | .skip => []
  | .region _ ops _ => dsts ops (List.range ops.size)
  | .draw _ ops _ => dsts ops (List.range ops.size)
  | .seq x y => touched x ++ touched y
  | .join x _ _ y => touched x ++ touched y
  | .cond _ x y => touched x ++ touched y
  | .block _ x => touched x
  | .loop _ _ x => touched x
  | .exit _ => []
  | .ret => []

def coversB (live : List (Tmp × Comp)) (dead D : List Tmp) : Bool := D.all fun x => (live.map (·.1)).contains x || dead.contains x

def codeOk (N : Nat) : SCode → Bool
  | .skip => true
  | .region _ ops st => stepsOk ops st && st.idx == List.range ops.size
  | .draw _ ops ds => drawOk ops N [] [] [] ds && (List.range ops.size).all (fun i => ds.idx.contains i) && Region.noSelect ops
  | .seq x y => codeOk N x && codeOk N y
  | .join x live dead y => codeOk N x && codeOk N y && coversB live dead (touched x)
  | .cond _ x y => codeOk N x && codeOk N y
  | .block _ x => codeOk N x
  | .loop live dead x => codeOk N x && coversB live dead (touched x)
  | .exit _ => true
  | .ret => true

theorem covers_spec {live : List (Tmp × Comp)} {dead D : List Tmp} (h : coversB live dead D = true) : ∀ x ∈ D, x ∈ live.map (·.1) ∨ x ∈ dead := fun x hx => by
  have := List.all_eq_true.1 h x hx
  simp only [Bool.or_eq_true, List.contains_iff_mem] at this
  exact this

section
variable {ro : Option Nat} {P : Program} {N : Nat}

theorem vc_sound (hm : P.follows .mixedOrders = true) : ∀ (c : SCode) (Q : Exit → Act → Pr) (a : Act) (w : World), codeOk N c = true → a.tmps.size = N → vc P c Q a w →
    c.erase.wpIn (Fr ro) 0 P (fun e a' w' => Q e a' w' ∧ Agree (touched c) a a') a w
  | .skip, Q, a, w, _, _, h => wpIn_skip ⟨h, Agree.refl _ _⟩
  | .exit id, Q, a, w, _, _, h => wpIn_exit ⟨h, Agree.refl _ _⟩
  | .ret, Q, a, w, _, _, h => wpIn_ret ⟨h, Agree.refl _ _⟩
  | .region id ops st, Q, a, w, hok, hN, h => by
    simp only [codeOk, Bool.and_eq_true, beq_iff_eq] at hok
    refine wpIn_region ?_
    have := steps_sound (ro := ro) (P := P) (ops := ops) (Q := fun e a' w' => Q e a' w' ∧ Agree (touched (.region id ops st)) a a') st (Q .normal) a w [] hok.1 h
      fun a' w' h1 h2 => ⟨h1, by rw [hok.2] at h2; exact h2⟩
    rw [List.append_nil, hok.2] at this
    exact this
  | .draw id ops ds, Q, a, w, hok, hN, h => by
    simp only [codeOk, Bool.and_eq_true] at hok
    refine draw_sound hm hok.2 hN hok.1.1 (fun i hi => ?_) h fun a' w' h1 h2 => ⟨h1, h2⟩
    simpa using List.all_eq_true.1 hok.1.2 i (by simpa using hi)
  | .seq x y, Q, a, w, hok, hN, h => by
    simp only [codeOk, Bool.and_eq_true] at hok
    refine wpIn_seq (wpIn_mono (vc_sound hm x _ a w hok.1 hN h) fun e a1 w1 ⟨h1, h2⟩ => ?_)
    have key : ∀ a', Agree (touched y) a1 a' → Agree (touched (.seq x y)) a a' := fun a' h3 =>
      h2.trans h3 (fun z hz => List.mem_append.2 (.inl hz)) (fun z hz => List.mem_append.2 (.inr hz))
    cases e with
    | normal => exact wpIn_mono (vc_sound hm y Q a1 w1 hok.2 (h2.2.1.trans hN) h1) fun e a2 w2 ⟨h3, h4⟩ => ⟨h3, key a2 h4⟩
    | _ => exact ⟨h1, key a1 (Agree.refl _ _)⟩
  | .join x live dead y, Q, a, w, hok, hN, h => by
    simp only [codeOk, Bool.and_eq_true] at hok
    refine wpIn_seq (wpIn_mono (vc_sound hm x _ a w hok.1.1 hN h.out) fun e a1 w1 ⟨h1, h2⟩ => ?_)
    have key : ∀ a', Agree (touched y) a1 a' → Agree (touched (.join x live dead y)) a a' := fun a' h3 =>
      h2.trans h3 (fun z hz => List.mem_append.2 (.inl hz)) (fun z hz => List.mem_append.2 (.inr hz))
    cases e with
    | normal =>
      simp only [Exit.then] at h1 ⊢
      cases hp : parseLive live a1 with
      | none => rw [hp] at h1; exact h1.elim
      | some s =>
        rw [hp] at h1
        have h3 := h1.out (dead.map (slot a1))
        rw [← frame_eq h2 (covers_spec hok.2) hp] at h3
        exact wpIn_mono (vc_sound hm y Q a1 w1 hok.1.2 (h2.2.1.trans hN) h3) fun e a2 w2 ⟨h4, h5⟩ => ⟨h4, key a2 h5⟩
    | _ => exact ⟨h1, key a1 (Agree.refl _ _)⟩
  | .cond c x y, Q, a, w, hok, hN, h => by
    simp only [codeOk, Bool.and_eq_true] at hok
    simp only [vc] at h
    cases hc : a.eval c
    case bool b =>
      rw [hc] at h
      refine wpIn_cond (t := b) hc ?_
      cases b with
      | true =>
        refine wpIn_mono (vc_sound hm x Q a w hok.1 hN (h.out.1 rfl)) fun e a1 w1 ⟨h1, h2⟩ => ⟨h1, h2.mono fun z hz => List.mem_append.2 (.inl hz)⟩
      | false =>
        refine wpIn_mono (vc_sound hm y Q a w hok.2 hN (h.out.2 rfl)) fun e a1 w1 ⟨h1, h2⟩ => ⟨h1, h2.mono fun z hz => List.mem_append.2 (.inr hz)⟩
    all_goals (rw [hc] at h; exact h.elim)
  | .block id x, Q, a, w, hok, hN, h => by
    refine wpIn_block (wpIn_mono (vc_sound hm x _ a w hok hN h) fun e a1 w1 ⟨h1, h2⟩ => ?_)
    cases e with
    | exit id' =>
      simp only [Exit.inBlock] at h1 ⊢
      split
      · rename_i he; rw [if_pos he] at h1; exact ⟨h1, h2⟩
      · rename_i he; rw [if_neg he] at h1; exact ⟨h1, h2⟩
    | _ => exact ⟨h1, h2⟩
  | .loop live dead x, Q, a, w, hok, hN, h => by
    simp only [codeOk, Bool.and_eq_true] at hok
    simp only [vc] at h
    cases hp : parseLive live a with
    | none => rw [hp] at h; exact h.elim
    | some s =>
      rw [hp] at h
      obtain ⟨n, hn⟩ := h.out
      refine wpIn_loop_rounds n ?_
      have main : ∀ (n : Nat) (s : liveDen live) (a1 : Act) (w1 : World), parseLive live a1 = some s → Agree (touched x) a a1 →
          iter (fun next s => AnyP fun us => vc P x (Exit.then (fun a' => match parseLive live a' with | some s' => next s' | none => fun _ => False) Q) (setLive live s (junk dead us a))) n s w1 →
          Code.roundsIn (Fr ro) 0 P x.erase (fun e a' w' => Q e a' w' ∧ Agree (touched (.loop live dead x)) a a') n a1 w1 := by
        intro n
        induction n with
        | zero => intro s a1 w1 _ _ h; exact h
        | succ n ih =>
          intro s a1 w1 hp1 hag h
          rw [roundsIn_succ]
          have h3 := AnyP.out h (dead.map (slot a1))
          rw [← frame_eq hag (covers_spec hok.2) hp1] at h3
          refine wpIn_mono (vc_sound hm x _ a1 w1 hok.1 (hag.2.1.trans hN) h3) fun e a2 w2 ⟨h4, h5⟩ => ?_
          have hag2 : Agree (touched x) a a2 := hag.trans h5 (fun _ h => h) (fun _ h => h)
          cases e with
          | normal =>
            simp only [Exit.then] at h4 ⊢
            cases hp2 : parseLive live a2 with
            | none => rw [hp2] at h4; exact h4.elim
            | some s2 => rw [hp2] at h4; exact ih s2 a2 w2 hp2 hag2 h4
          | _ => exact ⟨h4, hag2⟩
      exact main n s a w hp (Agree.refl _ _) hn

theorem results_eq (fn : Func) (tmps : Array Value) : results fn tmps = resSem (resOf fn tmps) := by
  unfold results resSem resOf
  have e : (fn.results.toList.map (resRead tmps)).toArray = fn.results.map (resRead tmps) := by
    apply Array.ext'
    simp
  rw [e, Array.mapM_map]
  congr 2
  funext r
  cases r <;> rfl
theorem run_of_vN {P : Program} {s : Sem Value} {v : Value} {w w' : World} (h : (vN s).run P w = .ok (.value v) w') : s.run P w = .ok v w' := by
  unfold vN at h
  rw [Sem.run_bind] at h
  cases hs : s.run P w with
  | ok x w1 =>
    rw [hs] at h
    simp only [Result.andThen] at h
    cases h
    rfl
  | halt _ _ => rw [hs] at h; cases h

theorem CallP.of_vc (hm : P.follows .mixedOrders = true) {f : FuncId} {fn : Func} {c : SCode} {t : Ty} {k : t.den → Pr} {args : List Value} {w : World}
    (hf : P.funcs[f]? = some fn) (hb : fn.body = some c.erase) (hok : codeOk fn.ntmps c = true) (hargs : args.length ≤ fn.ntmps)
    (h : vcBody P fn c t k args w) : CallP P f ⟨args⟩ t k w := by
  refine ⟨calls_of_wp hf hb ((wpIn_wide (n := 0)).1 ?_)⟩
  have h' : vc P c (bodyQ P fn t k) { tmps := (⟨args⟩ : Array Value) ++ Array.replicate (fn.ntmps - args.length) undef, defers := [] } w := by
    have e : (⟨args ++ List.replicate (fn.ntmps - args.length) undef⟩ : Array Value) = (⟨args⟩ : Array Value) ++ Array.replicate (fn.ntmps - args.length) undef := by
      apply Array.ext'
      simp
    rw [← e]; exact h
  have hsz : ((⟨args⟩ : Array Value) ++ Array.replicate (fn.ntmps - args.length) undef).size = fn.ntmps := by
    rw [Array.size_append, Array.size_replicate, List.size_toArray]; omega
  refine wpIn_mono (vc_sound (ro := none) hm c _ _ w hok hsz h') fun e a' w' ⟨h1, h2⟩ => ?_
  have hret : retV P fn t k a' w' → a'.defers = [] ∧ ∃ v, (results fn a'.tmps).run P w' = .ok v w' ∧ ∃ x, Ending.returned v = .returned (t.val x) ∧ k x w' := by
    intro hr
    refine ⟨h2.1, ?_⟩
    simp only [retV] at hr
    cases hc : hasCell fn with
    | true =>
      rw [hc] at hr
      obtain ⟨x, hx, hn⟩ := hr.out
      rw [results_eq]
      exact ⟨t.val x, run_of_vN hx, x, rfl, hn⟩
    | false =>
    rw [hc] at hr
    dsimp only at hr
    cases hv : pureRun P (results fn a'.tmps) with
    | none => rw [hv] at hr; exact hr.elim
    | some v =>
      rw [hv] at hr
      dsimp only at hr
      cases hx : t.parse v with
      | none => rw [hx] at hr; exact hr.elim
      | some x =>
        rw [hx] at hr
        exact ⟨v, pureRun_sound _ hv w', x, by rw [Ty.parse_val t v x hx], hr⟩
  cases e with
  | normal => exact hret h1
  | ret => exact hret h1
  | _ => exact h1.elim
end

/-- a contract by the reading that the kernel computes -/
theorem CallP.of_eq {P : Program} (hm : P.follows .mixedOrders = true) {f : FuncId} {fn : Func} {c : SCode} {t : Ty} {k : t.den → Pr} {args : List Value} {w : World} {S : Pr}
    (hf : P.funcs[f]? = some fn) (hb : fn.body = some c.erase) (hok : codeOk fn.ntmps c = true) (hargs : Nat.ble args.length fn.ntmps = true)
    (heq : vcBody P fn c t k args = S) (h : S w) : CallP P f ⟨args⟩ t k w :=
  CallP.of_vc hm hf hb hok (Nat.le_of_ble_eq_true hargs) (by rw [heq]; exact h)
end Go.Sh
