/- Floats as values and as keys: contracts of the functions that compare them; the calls that are run with a float not known. No conditions. -/
import Derived.Test.YtelhccfmfnaegaaGreatRd
import Derived.Test.YtelhccfmfnaegaaGreatIntA
import Derived.Test.YtelhccfmfnaegaaGreatLibA
import Derived.Test.YtelhccfmfnaegaaGreatIntB
import Derived.Test.YtelhccfmfnaegaaGreatChk
section
/- Floats as values: which are right, which is ahead, which are alike. -/
set_option linter.unusedSectionVars false
set_option maxRecDepth 10000
namespace Go.Proofs.YtelhccfmfnaegaaGreat
open Go Go.Sh
attribute [local irreducible] pto rob old ownS roS hstar hex hpure hemp
@[reducible] def env0 : Env := { ρ := fun _ => .nilFunc, na := fun _ => rfl, nb := fun _ _ h => (by cases h), mp := fun _ => [], ck := fun _ => 0 }
attribute [local instance] env0
theorem pr_eqI {d : Nat} {k : IntKind} {t : TypeId} (h : Tryz.prog.underlying t = some (.int k)) (a b : Int) : pureRun Tryz.prog (Op.equalIn (d + 1) t (.int k a) (.int k b)) = some (a == b) := by
  unfold Op.equalIn
  rw [pureRun_bind, pr_underlying, h]
  simp only [Option.bind_some, if_true]
  rfl
theorem pr_eqS {d : Nat} {t : TypeId} (h : Tryz.prog.underlying t = some .string) (a b : ByteArray) : pureRun Tryz.prog (Op.equalIn (d + 1) t (.string a) (.string b)) = some (a == b) := by
  unfold Op.equalIn
  rw [pureRun_bind, pr_underlying, h]
  rfl
theorem part1 {t : TypeId} {xs : Array Value} {i : Nat} {x : Value} (ht : pureRun Tryz.prog (isAgg t) = some false) (hx : xs[i]? = some x) : pureRun Tryz.prog (part t xs i) = some x := by
  unfold part
  rw [pureRun_bind, ht]
  simp only [Option.bind_some, Bool.false_eq_true, if_false, hx]; rfl
noncomputable def valF : Array Field := match Tryz.prog.underlying 27 with | some (.struct fs) => fs | _ => #[]
theorem valF_get : valF.toList = [valF[0]!, valF[1]!, valF[2]!, valF[3]!] := by kernel_rfl
theorem valF_eq : Tryz.prog.underlying 27 = some (.struct valF) := by kernel_rfl
theorem pr_valEq {i j : Nat} (a b c d : Int) (x y : Int) (s t : ByteArray) : pureRun Tryz.prog (cmpN .eql 27 (.tmp i) (.tmp j) (ag [.int .i64, .int .i64, .int .u64, .str] (a, c, x, s, ())) (ag [.int .i64, .int .i64, .int .u64, .str] (b, d, y, t, ()))) = some (.value (.bool (a == b && (c == d && (x == y && s == t))))) := by
  have hg : pureRun Tryz.prog (eqGuard .eql 27 (.tmp i) (.tmp j) (ag [.int .i64, .int .i64, .int .u64, .str] (a, c, x, s, ())) (ag [.int .i64, .int .i64, .int .u64, .str] (b, d, y, t, ()))) = some () := by kernel_rfl
  have he : pureRun Tryz.prog (Op.equal 27 (ag [.int .i64, .int .i64, .int .u64, .str] (a, c, x, s, ())) (ag [.int .i64, .int .i64, .int .u64, .str] (b, d, y, t, ()))) = some (a == b && (c == d && (x == y && s == t))) := by
    have := sem_lawful
    show pureRun Tryz.prog (Op.equalIn (9998 + 1 + 1) 27 (.agg #[.int .i64 a, .int .i64 c, .int .u64 x, .string s]) (.agg #[.int .i64 b, .int .i64 d, .int .u64 y, .string t])) = _
    unfold Op.equalIn
    have n0 : ¬ (valF[0]!.name = "_") := beq_eq_false_iff_ne.1 (by kernel_rfl)
    have n1 : ¬ (valF[1]!.name = "_") := beq_eq_false_iff_ne.1 (by kernel_rfl)
    have n2 : ¬ (valF[2]!.name = "_") := beq_eq_false_iff_ne.1 (by kernel_rfl)
    have n3 : ¬ (valF[3]!.name = "_") := beq_eq_false_iff_ne.1 (by kernel_rfl)
    have t0 : valF[0]!.type = 3 := by kernel_rfl
    have t1 : valF[1]!.type = 3 := by kernel_rfl
    have t2 : valF[2]!.type = 25 := by kernel_rfl
    have t3 : valF[3]!.type = 9 := by kernel_rfl
    have o0 : valF[0]!.offset = 0 := by kernel_rfl
    have o1 : valF[1]!.offset = 1 := by kernel_rfl
    have o2 : valF[2]!.offset = 2 := by kernel_rfl
    have o3 : valF[3]!.offset = 3 := by kernel_rfl
    have hst : Tryz.prog.stoodInHeld 27 = false := by kernel_rfl
    have a3 : pureRun Tryz.prog (isAgg 3) = some false := by kernel_rfl
    have a25 : pureRun Tryz.prog (isAgg 25) = some false := by kernel_rfl
    have a9 : pureRun Tryz.prog (isAgg 9) = some false := by kernel_rfl
    rw [pureRun_bind, pr_underlying, valF_eq]
    simp only [Option.bind_some]
    rw [pureRun_bind, show pureRun Tryz.prog program = some Tryz.prog from rfl]
    simp only [Option.bind_some, hst, Bool.false_eq_true, if_false]
    rw [← Array.forIn_toList, valF_get]
    simp only [List.forIn_cons, List.forIn_nil, ne_eq, n0, n1, n2, n3, not_false_eq_true, if_true, t0, t1, t2, t3, o0, o1, o2, o3]
    have st : ∀ {t' : TypeId} {i' : Nat} {u v : Value} {r : Bool}, pureRun Tryz.prog (isAgg t') = some false → (#[Value.int .i64 a, .int .i64 c, .int .u64 x, .string s])[i']? = some u → (#[Value.int .i64 b, .int .i64 d, .int .u64 y, .string t])[i']? = some v → pureRun Tryz.prog (Op.equalIn 9999 t' u v) = some r →
        pureRun Tryz.prog (do let a' ← part t' #[Value.int .i64 a, .int .i64 c, .int .u64 x, .string s] i'; let b' ← part t' #[Value.int .i64 b, .int .i64 d, .int .u64 y, .string t] i'; let r ← Op.equalIn 9999 t' a' b'; if (!r) = true then pure (ForInStep.done (some false, ())) else pure (ForInStep.yield (none, ())) : Sem (ForInStep (Option Bool × Unit))) = some (if r then .yield (none, ()) else .done (some false, ())) := by
      intro t' i' u v r h1 h2 h3 h4
      rw [pureRun_bind, part1 h1 h2, Option.bind_some, pureRun_bind, part1 h1 h3, Option.bind_some, pureRun_bind, h4, Option.bind_some]
      cases r <;> rfl
    have s0 := st (i' := 0) a3 rfl rfl (pr_eqI (d := 9998) (by kernel_rfl) a b)
    have s1 := st (i' := 1) a3 rfl rfl (pr_eqI (d := 9998) (by kernel_rfl) c d)
    have s2 := st (i' := 2) a25 rfl rfl (pr_eqI (d := 9998) (by kernel_rfl) x y)
    have s3 := st (i' := 3) a9 rfl rfl (pr_eqS (d := 9998) (by kernel_rfl) s t)
    rw [pureRun_bind, pureRun_bind, s0]
    cases a == b
    · rfl
    simp only [if_true, Option.bind_some]
    rw [pureRun_bind, s1]
    cases c == d
    · rfl
    simp only [if_true, Option.bind_some]
    rw [pureRun_bind, s2]
    cases x == y
    · rfl
    simp only [if_true, Option.bind_some]
    rw [pureRun_bind, s3]
    cases s == t <;> rfl
  unfold cmpN
  show pureRun Tryz.prog (do let v ← (do eqGuard .eql 27 (.tmp i) (.tmp j) (ag [.int .i64, .int .i64, .int .u64, .str] (a, c, x, s, ())) (ag [.int .i64, .int .i64, .int .u64, .str] (b, d, y, t, ())); Go.binOp .eql 27 (ag [.int .i64, .int .i64, .int .u64, .str] (a, c, x, s, ())) (ag [.int .i64, .int .i64, .int .u64, .str] (b, d, y, t, ()))); pure (Next.value v)) = _
  rw [pureRun_bind, pureRun_bind, hg, Option.bind_some]
  have hb : pureRun Tryz.prog (Go.binOp .eql 27 (ag [.int .i64, .int .i64, .int .u64, .str] (a, c, x, s, ())) (ag [.int .i64, .int .i64, .int .u64, .str] (b, d, y, t, ()))) = some (.bool (a == b && (c == d && (x == y && s == t)))) := by
    have h0 : pureRun Tryz.prog (Go.binOp .eql 27 (ag [.int .i64, .int .i64, .int .u64, .str] (a, c, x, s, ())) (ag [.int .i64, .int .i64, .int .u64, .str] (b, d, y, t, ()))) = pureRun Tryz.prog (do let r ← Op.equal 27 (ag [.int .i64, .int .i64, .int .u64, .str] (a, c, x, s, ())) (ag [.int .i64, .int .i64, .int .u64, .str] (b, d, y, t, ())); pure (.bool r)) := by kernel_rfl
    rw [h0, pureRun_bind, he]; rfl
  rw [hb]; rfl

abbrev VLL : List Leaf := [.int .i64, .int .i64, .int .u64, .str]
/-- a float's value -/
def fv (b : Nat) : Int × Int × Int × ByteArray × Unit := (3, 0, (b : Int), ⟨#[]⟩, ())
theorem c69 (p : Nat) : pureRun Tryz.prog (callFunc 69 #[.float .f64 p]) = some (.value (.int .u64 (Int.ofNat p))) := by kernel_rfl
theorem c15 (p : Nat) : pureRun Tryz.prog (callFunc 15 #[.int .u64 (Int.ofNat p)]) = some (.value (.float .f64 p)) := by kernel_rfl

theorem fNe (i j a b : Nat) : pureRun Tryz.prog (cmpN .neq 70 (.tmp i) (.tmp j) (.float .f64 a) (.float .f64 b)) = some (.value (.bool (Ieee.double.order a b != some .eq))) := by kernel_rfl
theorem fEq0 (i a : Nat) : pureRun Tryz.prog (cmpN .eql 70 (.tmp i) (.const (.float .f64 0)) (.float .f64 a) (.float .f64 0)) = some (.value (.bool (Ieee.double.order a 0 == some .eq))) := by kernel_rfl
theorem fLt (i j a b : Nat) : pureRun Tryz.prog (cmpN .lss 70 (.tmp i) (.tmp j) (.float .f64 a) (.float .f64 b)) = some (.value (.bool (Ieee.double.order a b == some .lt))) := by kernel_rfl
theorem fGt (i j a b : Nat) : pureRun Tryz.prog (cmpN .gtr 70 (.tmp i) (.tmp j) (.float .f64 a) (.float .f64 b)) = some (.value (.bool (Ieee.double.order a b == some .gt))) := by kernel_rfl

section
variable {E w : World} {L : List HProp}

theorem isNaN_spec {p : Nat} {k : Bool → Pr} (h : Holds E w L) (hk : ∀ w', Holds E w' L → k (nanW p) w') : CallP Tryz.prog 68 #[.float .f64 p] tBool k w := by
  refine rd68 _ _ _ ?_
  unfold sh68
  refine val_pure (x := nanW p) ?_ (hk w h)
  have e : (Ieee.double.order p p != some .eq) = nanW p := by
    have := order_self p
    unfold bne; rw [this]; simp
  rw [fNe, e]; rfl

theorem canonical_spec {p : Nat} {k : Int → Pr} (h : Holds E w L) (hk : ∀ w', Holds E w' L → k (canW p : Nat) w') : CallP Tryz.prog 35 #[.float .f64 p] (.one (.leaf (.int .u64))) k w := by
  refine rd35 _ _ _ ?_
  unfold sh35
  refine isNaN_spec h fun w h => ?_
  refine CondP.mk' (fun hn => ?_) (fun hn => ?_)
  · have e : canW p = 9221120237041090560 := by unfold canW; rw [hn]; rfl
    have := hk w h
    rw [e] at this; exact this
  · refine val_pure (x := (!nanW p && decide (p % 9223372036854775808 = 0))) ?_ ?_
    · rw [fEq0, order_zero]; rfl
    · refine CondP.mk' (fun hz => ?_) (fun hz => ?_)
      · have e : canW p = 0 := by
          rw [hn] at hz
          unfold canW; rw [hn]; simp at hz; simp [hz]
        have := hk w h
        rw [e] at this; exact this
      · refine val_pure (x := (p : Int)) (c69 p) ?_
        have e : canW p = p := by
          rw [hn] at hz
          unfold canW; rw [hn]; simp at hz; simp [hz]
        have := hk w h
        rw [e] at this; exact this

theorem ofFloat_spec {p : Nat} {k : Int × Int × Int × ByteArray × Unit → Pr} (h : Holds E w L) (hk : ∀ w', Holds E w' L → k (fv (canW p)) w') : CallP Tryz.prog 14 #[.float .f64 p] (.one (.agg VLL)) k w := by
  refine rd14 _ _ _ ?_
  unfold sh14
  refine do_alloc (z := .agg #[.int .i64 0, .int .i64 0, .int .u64 0, .string ⟨#[]⟩]) h (by kernel_rfl) fun b w h => ?_
  refine canonical_spec h fun w h => ?_
  refine do_st_all h rfl (by repeat (first | exact .head | apply Pick.tail)) (by kernel_rfl) (by rfl) (by rfl) (by simp [notAgg]) ?_; intro w h
  exact get_res1 (fv (canW p)) h (by repeat (first | exact .head | apply Pick.tail)) (by kernel_rfl) (by kernel_rfl) (hk _ h.drop)

theorem right_spec {b : Nat} {k : Bool → Pr} (hb : canW b = b) (h : Holds E w L) (hk : ∀ w', Holds E w' L → k true w') : CallP Tryz.prog 46 #[ag VLL (fv b)] tBool k w := by
  refine rd46 _ _ _ ?_
  unfold sh46
  refine do_box h fun b1 w h => ?_
  refine get_ld h rfl (by repeat (first | exact .head | apply Pick.tail)) (by kernel_rfl) rfl ?_
  refine do_alloc (z := .agg #[.int .i64 0, .int .i64 0, .int .u64 0, .string ⟨#[]⟩]) h (by kernel_rfl) fun b3 w h => ?_
  refine do_st_all h rfl (by repeat (first | exact .head | apply Pick.tail)) (by kernel_rfl) (by rfl) (by rfl) (by simp [notAgg]) ?_; intro w h
  refine JoinP.go ?_
  refine get_ld h rfl (by repeat (first | exact .head | apply Pick.tail)) (by kernel_rfl) rfl ?_
  refine CondP.no rfl ?_
  refine CondP.no rfl ?_
  refine CondP.no rfl ?_
  refine CondP.yes rfl ?_
  refine get_ld h rfl (by repeat (first | exact .head | apply Pick.tail)) (by kernel_rfl) (x := (b : Int)) rfl ?_
  refine val_pure (x := b) (c15 b) ?_
  refine canonical_spec h fun w h => ?_
  rw [hb]
  refine do_st h rfl (by repeat (first | exact .head | apply Pick.tail)) (by kernel_rfl) rfl rfl ?_; intro w h
  refine AnyP.go fun _ => ?_
  refine get_ld_agg (fv b) h rfl (by repeat (first | exact .head | apply Pick.tail)) (by kernel_rfl) (by kernel_rfl) ?_
  refine get_ld_agg (fv b) h rfl (by repeat (first | exact .head | apply Pick.tail)) (by kernel_rfl) (by kernel_rfl) ?_
  refine val_pure (x := true) ?_ ?_
  · unfold fv; rw [pr_valEq]; simp; rfl
  refine JoinP.go ?_
  refine CondP.yes rfl ?_
  refine get_ld h rfl (by repeat (first | exact .head | apply Pick.tail)) (by kernel_rfl) rfl ?_
  refine AnyP.go fun _ => ?_
  exact hk _ h.drop.drop

theorem asFloat_spec {b : Nat} {k : Nat → Pr} (hb : canW b = b) (h : Holds E w L) (hk : ∀ w', Holds E w' L → k b w') : CallP Tryz.prog 49 #[ag VLL (fv b)] (.one (.leaf .float)) k w := by
  refine rd49 _ _ _ ?_
  unfold sh49
  refine do_box h fun b1 w h => ?_
  refine get_ld h rfl (by repeat (first | exact .head | apply Pick.tail)) (by kernel_rfl) rfl ?_
  refine JoinP.go ?_
  refine CondP.no rfl ?_
  refine get_ld_agg (fv b) h rfl (by repeat (first | exact .head | apply Pick.tail)) (by kernel_rfl) (by kernel_rfl) ?_
  refine right_spec hb h fun w h => ?_
  refine AnyP.go fun _ => ?_
  refine CondP.no rfl ?_
  refine get_ld h rfl (by repeat (first | exact .head | apply Pick.tail)) (by kernel_rfl) (x := (b : Int)) rfl ?_
  refine val_pure (x := b) (c15 b) ?_
  exact hk _ h.drop

theorem none_spec {p : Nat} {k : Int → Pr} (h : Holds E w L) (hk : ∀ w', Holds E w' L → k (if nanW p then 1 else 0) w') : CallP Tryz.prog 97 #[.float .f64 p] tInt k w := by
  refine rd97 _ _ _ ?_
  unfold sh97
  refine isNaN_spec h fun w h => ?_
  have := hk w h
  refine CondP.mk' (fun hn => ?_) (fun hn => ?_) <;> rw [hn] at this <;> exact this

theorem floats_spec {a b : Nat} {k : Int → Pr} (h : Holds E w L) (hk : ∀ w', Holds E w' L → k (floatsW a b) w') : CallP Tryz.prog 48 #[.float .f64 a, .float .f64 b] tInt k w := by
  refine rd48 _ _ _ _ ?_
  unfold sh48
  refine ⟨.inr ⟨97, #[.float .f64 a], by kernel_rfl, none_spec h fun w h => ?_⟩⟩
  refine ⟨.inr ⟨97, #[.float .f64 b], by kernel_rfl, none_spec h fun w h => ?_⟩⟩
  refine rd47 _ _ _ _ ?_
  unfold sh47
  have hk := hk w h
  unfold floatsW at hk
  have fl : ∀ {w : World}, (∀ k' : Int → Pr, True) → k (if (Ieee.double.order a b == some .lt) = true then -1 else if (Ieee.double.order a b == some .gt) = true then 1 else 0) w → CallP Tryz.prog 98 #[.float .f64 a, .float .f64 b] tInt (fun t19 => k t19) w := by
    intro w _ hk
    refine rd98 _ _ _ _ ?_
    unfold sh98
    refine val_pure (x := (Ieee.double.order a b == some .lt)) (fLt ..) ?_
    refine CondP.mk' (fun h1 => ?_) (fun h1 => ?_)
    · rw [if_pos h1] at hk; exact hk
    · rw [if_neg (by rw [h1]; simp)] at hk
      refine val_pure (x := (Ieee.double.order a b == some .gt)) (fGt ..) ?_
      refine CondP.mk' (fun h2 => ?_) (fun h2 => ?_)
      · rw [if_pos h2] at hk; exact hk
      · rw [if_neg (by rw [h2]; simp)] at hk; exact hk
  cases ha : nanW a <;> cases hb : nanW b <;> rw [ha, hb] at hk
  · refine CondP.no rfl (CondP.no rfl (CondP.no rfl ?_))
    exact fl (fun _ => trivial) hk
  · exact CondP.yes rfl (CondP.yes rfl hk)
  · exact CondP.no rfl (CondP.yes rfl (CondP.yes rfl hk))
  · refine CondP.no rfl (CondP.no rfl (CondP.no rfl ?_))
    exact fl (fun _ => trivial) hk

theorem compare_spec {a b : Nat} {k : Int → Pr} (ha : canW a = a) (hb : canW b = b) (h : Holds E w L) (hk : ∀ w', Holds E w' L → k (floatsW a b) w') : CallP Tryz.prog 18 #[ag VLL (fv a), ag VLL (fv b)] tInt k w := by
  refine rd18 _ _ _ _ ?_
  unfold sh18
  refine do_box h fun b2 w h => ?_
  refine do_box h fun b3 w h => ?_
  refine get_ld_agg (fv a) h rfl (by repeat (first | exact .head | apply Pick.tail)) (by kernel_rfl) (by kernel_rfl) ?_
  refine right_spec ha h fun w h => ?_
  refine JoinP.go ?_
  refine CondP.no rfl ?_
  refine get_ld_agg (fv b) h rfl (by repeat (first | exact .head | apply Pick.tail)) (by kernel_rfl) (by kernel_rfl) ?_
  refine right_spec hb h fun w h => ?_
  refine AnyP.go fun _ => ?_
  refine CondP.no rfl ?_
  refine get_ld h rfl (by repeat (first | exact .head | apply Pick.tail)) (by kernel_rfl) rfl ?_
  refine get_ld h rfl (by repeat (first | exact .head | apply Pick.tail)) (by kernel_rfl) rfl ?_
  refine CondP.no rfl ?_
  refine get_ld h rfl (by repeat (first | exact .head | apply Pick.tail)) (by kernel_rfl) rfl ?_
  refine CondP.yes rfl ?_
  refine DrewP.go h ?_; intro w h
  refine get_ld_agg (fv a) h rfl (by repeat (first | exact .head | apply Pick.tail)) (by kernel_rfl) (by kernel_rfl) ?_
  refine get_ld_agg (fv b) h rfl (by repeat (first | exact .head | apply Pick.tail)) (by kernel_rfl) (by kernel_rfl) ?_
  refine asFloat_spec ha h fun w h => ?_
  refine chk_ld_agg h rfl (by repeat (first | exact .head | apply Pick.tail)) (by kernel_rfl) (by kernel_rfl) ?_
  refine asFloat_spec hb h fun w h => ?_
  refine floats_spec h fun w h => ?_
  exact hk _ h.drop.drop

theorem same_spec {a b : Nat} {k : Bool → Pr} (ha : canW a = a) (h : Holds E w L) (hk : ∀ w', Holds E w' L → k (decide (a = b)) w') : CallP Tryz.prog 19 #[ag VLL (fv a), ag VLL (fv b)] tBool k w := by
  refine rd19 _ _ _ _ ?_
  unfold sh19
  refine do_box h fun b2 w h => ?_
  refine do_box h fun b3 w h => ?_
  refine get_ld_agg (fv a) h rfl (by repeat (first | exact .head | apply Pick.tail)) (by kernel_rfl) (by kernel_rfl) ?_
  refine get_ld_agg (fv b) h rfl (by repeat (first | exact .head | apply Pick.tail)) (by kernel_rfl) (by kernel_rfl) ?_
  have e : ((3 : Int) == 3 && ((0 : Int) == 0 && (((a : Int) == (b : Int)) && ((⟨#[]⟩ : ByteArray) == ⟨#[]⟩)))) = decide (a = b) := by
    by_cases hab : a = b
    · subst hab; simp; rfl
    · have : ¬ ((a : Int) = (b : Int)) := by omega
      simp [hab, this]
  refine val_pure (x := decide (a = b)) ?_ ?_
  · unfold fv; rw [pr_valEq, e]; rfl
  refine JoinP.go ?_
  refine CondP.mk' (fun hc => ?_) (fun hc => ?_)
  · refine get_ld_agg (fv a) h rfl (by repeat (first | exact .head | apply Pick.tail)) (by kernel_rfl) (by kernel_rfl) ?_
    refine right_spec ha h fun w h => ?_
    refine AnyP.go fun _ => ?_
    have := hk w h.drop.drop
    rw [hc] at this; exact this
  · refine AnyP.go fun _ => ?_
    have := hk w h.drop.drop
    rw [hc] at this; exact this
end
end Go.Proofs.YtelhccfmfnaegaaGreat
end

section
/- A float's key: its bytes. -/
namespace Go.Proofs.YtelhccfmfnaegaaGreat
open Go Go.Sh
attribute [local irreducible] pto rob old ownS roS hstar hex hpure hemp
attribute [local instance] env0

theorem shrU (i j n y : Nat) (hy : y ≤ 64) : pureRun Tryz.prog (cmpN .shr 25 (.tmp i) (.tmp j) (.int .u64 (n : Int)) (.int .i64 (y : Int))) = some (.value (.int .u64 ((n / 2 ^ y : Nat) : Int))) := by
  have hn : ¬ ((y : Int) < 0) := by omega
  have hm : min (y : Int).toNat IntKind.u64.bits = y := by
    have : IntKind.u64.bits = 64 := rfl
    rw [this]; omega
  have h1 : pureRun Tryz.prog (cmpN .shr 25 (.tmp i) (.tmp j) (.int .u64 (n : Int)) (.int .i64 (y : Int))) = pureRun Tryz.prog (do let v ← Op.shift .shr .u64 (n : Int) .i64 (y : Int); pure (Next.value v)) := by kernel_rfl
  rw [h1, pureRun_bind]
  unfold Op.shift
  rw [if_neg hn]
  simp only [hm]
  show some (Next.value (.int .u64 ((n : Int).fdiv (2 ^ y)))) = _
  rw [Int.fdiv_eq_ediv_of_nonneg _ (by exact_mod_cast Nat.zero_le _)]
  congr 3

theorem turned_and (b : Nat) (hb : b < 18446744073709551616) : decide (IntKind.u64.wrap ((BitVec.ofInt IntKind.u64.bits (b : Int) &&& BitVec.ofInt IntKind.u64.bits 9223372036854775808).toNat : Int) > 0) = decide (9223372036854775808 ≤ b) := by
  have e : (BitVec.ofInt IntKind.u64.bits (b : Int) &&& BitVec.ofInt IntKind.u64.bits 9223372036854775808).toNat = if 9223372036854775808 ≤ b then 9223372036854775808 else 0 := by
    have h1 : (BitVec.ofInt IntKind.u64.bits (b : Int)).toNat = b := by
      simp [IntKind.bits]; omega
    have h2 : (BitVec.ofInt IntKind.u64.bits 9223372036854775808).toNat = 2 ^ 63 := by decide
    rw [BitVec.toNat_and, h1, h2]
    by_cases h : 9223372036854775808 ≤ b
    · rw [if_pos h]
      have ht : b.testBit 63 = true := by
        rw [Nat.testBit_eq_decide_div_mod_eq]
        simp; omega
      show b &&& 2 ^ 63 = 2 ^ 63
      refine Nat.eq_of_testBit_eq fun i => ?_
      rw [Nat.testBit_and, Nat.testBit_two_pow]
      by_cases hi : 63 = i
      · subst hi; simp [ht]
      · simp [hi]
    · rw [if_neg h]
      have ht : b.testBit 63 = false := by
        rw [Nat.testBit_eq_decide_div_mod_eq]
        simp; omega
      refine Nat.eq_of_testBit_eq fun i => ?_
      rw [Nat.testBit_and, Nat.testBit_two_pow]
      by_cases hi : 63 = i
      · subst hi; simp [ht]
      · simp [hi]
  rw [e]
  by_cases h : 9223372036854775808 ≤ b
  · rw [if_pos h]; simp [h]; decide
  · rw [if_neg h]; simp [h]; decide

theorem turned_xor (b : Nat) (hb : b < 18446744073709551616) : IntKind.u64.wrap ((BitVec.ofInt IntKind.u64.bits (if IntKind.u64.signed then -1 else IntKind.u64.max) ^^^ BitVec.ofInt IntKind.u64.bits (b : Int)).toNat : Int) = ((18446744073709551615 - b : Nat) : Int) := by
  have h1 : (BitVec.ofInt 64 (b : Int)) = BitVec.ofNat 64 b := by simp
  have h2 : (BitVec.ofInt IntKind.u64.bits (if IntKind.u64.signed then -1 else IntKind.u64.max)) = BitVec.allOnes 64 := by rfl
  rw [h2]
  show IntKind.u64.wrap ((BitVec.allOnes 64 ^^^ BitVec.ofInt 64 (b : Int)).toNat : Int) = _
  rw [h1, ← BitVec.not_def, BitVec.toNat_not, BitVec.toNat_ofNat, Nat.mod_eq_of_lt hb]
  rw [IntWalk.u64_in _ (by omega)]

theorem turned_or (b : Nat) (hb : b < 9223372036854775808) : IntKind.u64.wrap ((BitVec.ofInt IntKind.u64.bits (b : Int) ||| BitVec.ofInt IntKind.u64.bits 9223372036854775808).toNat : Int) = ((b + 9223372036854775808 : Nat) : Int) := by
  have h1 : (BitVec.ofInt IntKind.u64.bits (b : Int)).toNat = b := by
    simp [IntKind.bits]; omega
  have h2 : (BitVec.ofInt IntKind.u64.bits 9223372036854775808).toNat = 2 ^ 63 * 1 := by decide
  rw [BitVec.toNat_or, h1, h2, Nat.or_comm, ← Nat.two_pow_add_eq_or_of_lt (by omega) 1]
  rw [IntWalk.u64_in _ (by omega)]
  omega

theorem info_of {o : Option TypeInfo} {z : Value} {n m : Nat} (h1 : o.bind (·.zero) = some z) (h2 : o.map (·.size) = some n) (h3 : o.map (·.bytes) = some m) : ∃ i, o = some i ∧ i.zero = some z ∧ i.size = n ∧ i.bytes = m := by
  cases o with
  | none => cases h1
  | some i => exact ⟨i, rfl, h1, Option.some.inj h2, Option.some.inj h3⟩
theorem byteInfo : ∃ i, Tryz.prog.info? 5 = some i ∧ i.zero = some (.int .u8 0) ∧ i.size = 1 ∧ i.bytes = 1 := info_of (by kernel_rfl) (by kernel_rfl) (by kernel_rfl)

section
variable {E w : World} {L : List HProp}

theorem turned_spec {b : Nat} {k : Int → Pr} (hb : b < 18446744073709551616) (h : Holds E w L) (hk : ∀ w', Holds E w' L → k (turnW b : Nat) w') : CallP Tryz.prog 60 #[.int .u64 (b : Int)] (.one (.leaf (.int .u64))) k w := by
  refine rd60 _ _ _ ?_
  unfold sh60
  rw [turned_and b hb]
  have hk := hk w h
  unfold turnW at hk
  refine CondP.mk' (fun hc => ?_) (fun hc => ?_)
  · rw [if_pos (cT hc)] at hk
    rw [turned_xor b hb]; exact hk
  · have := cF hc
    rw [if_neg this] at hk
    rw [turned_or b (by omega)]; exact hk

/-- the first bytes laid, the others 0 -/
def nb (n i : Nat) : List UInt8 := (beW 8 n).take i ++ List.replicate (8 - i) 0
def u8s (l : List UInt8) : List Value := l.map fun b => .int .u8 (b.toNat : Int)
theorem nb_len (n i : Nat) (hi : i ≤ 8) : (nb n i).length = 8 := by
  unfold nb; rw [List.length_append, List.length_take, beW_len, List.length_replicate]; omega
theorem nb_set (n i : Nat) (hn : n < 18446744073709551616) (hi : i < 8) : (u8s (nb n i)).set i (.int .u8 (IntKind.u8.wrap ((n / 2 ^ (8 * (7 - i)) : Nat) : Int))) = u8s (nb n (i + 1)) := by
  have hg := beW_get 8 n i (by simpa using hn) hi
  have hl := beW_len 8 n
  unfold u8s nb
  have hil : i < (beW 8 n).length := by omega
  rw [List.take_add_one, hg]
  have e8 : 8 - i = (8 - (i + 1)) + 1 := by omega
  rw [e8, List.replicate_succ, List.map_append, List.set_append_right _ _ (by simp; omega)]
  have hlen : i - (List.map (fun b => Value.int IntKind.u8 (b.toNat : Int)) (List.take i (beW 8 n))).length = 0 := by simp; omega
  rw [hlen]
  simp only [List.map_cons, List.set_cons_zero, Option.toList_some, List.map_append, List.append_assoc, List.cons_append, List.nil_append]
  congr 2
  have e : (256 : Nat) ^ (8 - 1 - i) = 2 ^ (8 * (7 - i)) := by
    rw [show (256 : Nat) = 2 ^ 8 from rfl, ← Nat.pow_mul]
  rw [e]
  congr 1
  rw [IntKind.wrap_u8, UInt8.toNat_ofNat']
  omega

theorem number_spec {n : Nat} {k : ByteArray → Pr} (hn : n < 18446744073709551616) (h : Holds E w L) (hk : ∀ w', Holds E w' L → k ⟨(beW 8 n).toArray⟩ w') : CallP Tryz.prog 59 #[.int .u64 (n : Int)] tStr k w := by
  refine rd59 _ _ _ ?_
  unfold sh59
  obtain ⟨i, hi, hz, h1, hb⟩ := byteInfo
  refine do_makeSlice (T := 143) (Te := 5) (i := i) (z := .int .u8 0) (n := 8) h (by kernel_rfl) hi hz h1 rfl (by omega) (by rw [hb]; omega) (by omega) fun s w hs h => ?_
  have hs8 : s.len = 8 := hs
  have e0 : (List.replicate (8 : Int).toNat (Value.int .u8 0)) = u8s (nb n 0) := by unfold u8s nb; simp
  rw [e0] at h
  refine LoopP.inv (fun t w => ∃ i : Nat, t = i ∧ i ≤ 8 ∧ Holds E w (ownS 5 1 s (u8s (nb n i)) :: L)) (fun t _ => 8 - t.toNat) ⟨0, rfl, by omega, h⟩ ?_
  rintro next t w ⟨i, rfl, hi, h⟩ hnext
  refine AnyP.go fun _ => ?_
  refine CondP.mk' (fun hc => ?_) (fun hc => ?_)
  · have hc : i < 8 := by have := cT hc; omega
    have e7 : IntKind.i64.wrap (8 * IntKind.i64.wrap (7 - (i : Int))) = ((8 * (7 - i) : Nat) : Int) := by
      rw [IntWalk.i64_in (7 - (i : Int)) (by omega), IntWalk.i64_in _ (by omega)]; omega
    rw [e7]
    refine val_pure (x := ((n / 2 ^ (8 * (7 - i)) : Nat) : Int)) (shrU _ _ _ _ (by omega)) ?_
    have hne : u8s (nb n i) ≠ [] := by intro hc; have := congrArg List.length hc; simp [u8s, nb_len n i hi] at this
    obtain ⟨bb, off, ha⟩ := h.reads_own.addr hne
    refine val_index (T := 143) (Te := 5) (sz := 1) (by kernel_rfl) (by kernel_rfl) ha (by omega) (by omega) ?_
    refine do_set_el (i := i) h .head ha (by simp) (by simp [u8s, nb_len n i hi]; omega) (by kernel_rfl) rfl fun w h => ?_
    rw [nb_set n i hn hc] at h
    refine hnext _ _ ⟨i + 1, by rw [IntWalk.i64_in _ (by omega)]; omega, by omega, h⟩ (by rw [IntWalk.i64_in _ (by omega)]; omega)
  · have hc : i = 8 := by have := cF hc; omega
    subst hc
    have e : nb n 8 = beW 8 n := by
      unfold nb
      rw [List.take_of_length_le (by rw [beW_len]; omega)]; simp
    have hr := h.reads_own
    rw [e] at hr
    exact get_bytesStr (Tb := 143) (Ts := 9) (e := 5) (bs := beW 8 n) (by kernel_rfl) (by kernel_rfl) (by kernel_rfl) hr (hk _ h.drop)

theorem with_spec {p : ByteArray} {b : Nat} {c1 : Nat} {k : ByteArray → Pr} (h : Holds E w (pto c1 (.cells (ag VLL (fv b)).cells 27 (0, 0)) :: L)) (hp : p.size ≤ 4096) (hk : ∀ w', Holds E w' (pto c1 (.cells (ag VLL (fv b)).cells 27 (0, 0)) :: L) → k (⟨#[4]⟩ ++ p) w') :
    CallP Tryz.prog 58 #[.string p, .pointer (some ⟨c1, 0, none⟩)] tStr k w := by
  refine rd58 _ _ _ _ ?_
  unfold sh58
  refine get_ld h rfl (by repeat (first | exact .head | apply Pick.tail)) (by kernel_rfl) rfl ?_
  refine do_build (Te := 5) (sz := 1) (len := 1) [.int .u8 4] h (by kernel_rfl) rfl fun s w hs h => ?_
  refine get_bytesStr (Tb := 143) (Ts := 9) (e := 5) (bs := [4]) (by kernel_rfl) (by kernel_rfl) (by kernel_rfl) h.reads_own ?_
  refine val_concat (by show (1 : Nat) + p.size ≤ _; omega) ?_
  exact hk _ h.drop

theorem one_spec {b : Nat} {k : ByteArray → Pr} (hb : b < 18446744073709551616) (h : Holds E w L) (hk : ∀ w', Holds E w' L → k (⟨#[4]⟩ ++ ⟨(beW 8 (turnW b)).toArray⟩) w') : CallP Tryz.prog 24 #[ag VLL (fv b)] tStr k w := by
  refine rd24 _ _ _ ?_
  unfold sh24
  refine do_box h fun b1 w h => ?_
  refine get_ld h rfl (by repeat (first | exact .head | apply Pick.tail)) (by kernel_rfl) rfl ?_
  refine CondP.no rfl ?_
  refine CondP.no rfl ?_
  refine CondP.yes rfl ?_
  refine get_ld h rfl (by repeat (first | exact .head | apply Pick.tail)) (by kernel_rfl) (x := (b : Int)) rfl ?_
  refine turned_spec hb h fun w h => ?_
  refine number_spec (turnW_lt hb) h fun w h => ?_
  refine ⟨.inr ⟨58, #[.string ⟨(beW 8 (turnW b)).toArray⟩, .pointer (some ⟨b1, 0, none⟩)], by kernel_rfl, with_spec h ?_ fun w h => ?_⟩⟩
  · show (beW 8 (turnW b)).toArray.size ≤ 4096
    rw [List.size_toArray, beW_len]; omega
  · exact hk _ h.drop

def fcells (b : Nat) : List Value := [.int .i64 3, .int .i64 0, .int .u64 (b : Int), .string ⟨#[]⟩]
theorem fv_na (b : Nat) : ∀ v ∈ cellsVal VLL (fv b), notAgg v = true := by
  intro v hv
  have hv : v ∈ fcells b := hv
  simp only [fcells, List.mem_cons, List.not_mem_nil, or_false] at hv
  rcases hv with rfl | rfl | rfl | rfl <;> rfl

theorem keyRight_spec {s : Sl} {b : Nat} {k : Bool → Pr} (hc : canW b = b) (hr : Oracle E L s 4 (fcells b)) (hl : s.len = 1) (h : Holds E w L) (hk : ∀ w', Holds E w' L → k true w') : CallP Tryz.prog 23 #[sv s] tBool k w := by
  refine rd23 _ _ _ ?_
  unfold sh23
  refine LoopP.inv (fun t w => ∃ i : Nat, t = i ∧ i ≤ 1 ∧ Holds E w L) (fun t _ => 1 - t.toNat) ⟨0, rfl, by omega, h⟩ ?_
  rintro next t w ⟨i, rfl, hi, h⟩ hnext
  refine AnyP.go fun _ => ?_
  refine CondP.mk' (fun hc' => ?_) (fun hc' => ?_)
  · have : i = 0 := by have := cT hc'; omega
    subst this
    obtain ⟨bb, off, ha⟩ := (hr w h).addr (by simp [fcells])
    refine val_index (T := 28) (Te := 27) (sz := 4) (by kernel_rfl) (by kernel_rfl) ha (by omega) (by omega) ?_
    refine get_el_agg (fv b) (hr w h) ha rfl (by kernel_rfl) (by kernel_rfl) (fun j _ => by simp; rfl) ?_
    refine do_alloc (z := .agg #[.int .i64 0, .int .i64 0, .int .u64 0, .string ⟨#[]⟩]) h (by kernel_rfl) fun b4 w h => ?_
    refine do_st_all h rfl (by repeat (first | exact .head | apply Pick.tail)) (by kernel_rfl) (by rfl) (by rfl) (fv_na b) ?_; intro w h
    refine get_ld_agg (fv b) h rfl (by repeat (first | exact .head | apply Pick.tail)) (by kernel_rfl) (by kernel_rfl) ?_
    refine right_spec hc h fun w h => ?_
    refine CondP.no rfl ?_
    exact hnext _ _ ⟨1, rfl, by omega, h.drop⟩ (show 1 - (1 : Int).toNat < 1 - (0 : Int).toNat by decide)
  · have : i = 1 := by have := cF hc'; omega
    subst this
    have := hk w h
    rw [show (decide ((s.len : Int) ≤ 8)) = true by rw [hl]; rfl]; exact this

theorem of_spec {s : Sl} {b : Nat} {k : ByteArray → Pr} (hb : b < 18446744073709551616) (hc : canW b = b) (hr : Oracle E L s 4 (fcells b)) (hl : s.len = 1) (h : Holds E w L) (hk : ∀ w', Holds E w' L → k (keyW b) w') : CallP Tryz.prog 6 #[sv s] tStr k w := by
  refine rd6 _ _ _ ?_
  unfold sh6
  refine keyRight_spec hc hr hl h fun w h => ?_
  refine CondP.no rfl ?_
  refine LoopP.inv (fun t w => ((t = (⟨#[]⟩, 0)) ∨ (t = ((⟨#[]⟩ : ByteArray) ++ (⟨#[4]⟩ ++ ⟨(beW 8 (turnW b)).toArray⟩), 1))) ∧ Holds E w L) (fun t _ => 1 - t.2.toNat) ⟨.inl rfl, h⟩ ?_
  rintro next t w ⟨ht, h⟩ hnext
  refine AnyP.go fun _ => ?_
  have hsz : (beW 8 (turnW b)).toArray.size = 8 := by rw [List.size_toArray, beW_len]
  rcases ht with rfl | rfl
  · refine CondP.yes (by rw [hl]; rfl) ?_
    obtain ⟨bb, off, ha⟩ := (hr w h).addr (by simp [fcells])
    refine val_index (T := 28) (Te := 27) (sz := 4) (by kernel_rfl) (by kernel_rfl) ha (by simp) (by simp [hl]) ?_
    refine get_el_agg (fv b) (hr w h) ha rfl (by kernel_rfl) (by kernel_rfl) (fun j _ => by simp; rfl) ?_
    refine do_alloc (z := .agg #[.int .i64 0, .int .i64 0, .int .u64 0, .string ⟨#[]⟩]) h (by kernel_rfl) fun b4 w h => ?_
    refine do_st_all h rfl (by repeat (first | exact .head | apply Pick.tail)) (by kernel_rfl) (by rfl) (by rfl) (fv_na b) ?_; intro w h
    refine get_ld_agg (fv b) h rfl (by repeat (first | exact .head | apply Pick.tail)) (by kernel_rfl) (by kernel_rfl) ?_
    refine one_spec hb h fun w h => ?_
    refine val_concat ?_ ?_
    · rw [ByteArray.size_append]
      show 0 + (1 + (beW 8 (turnW b)).toArray.size) ≤ _
      rw [hsz]; omega
    · exact hnext _ _ ⟨.inr rfl, h.drop⟩ (show 1 - (1 : Int).toNat < 1 - (0 : Int).toNat by decide)
  · refine CondP.no (by rw [hl]; rfl) ?_
    refine val_concat ?_ ?_
    · rw [ByteArray.size_append, ByteArray.size_append]
      show (0 + (1 + (beW 8 (turnW b)).toArray.size)) + 1 ≤ _
      rw [hsz]; omega
    · have e : ((⟨#[]⟩ : ByteArray) ++ (⟨#[4]⟩ ++ ⟨(beW 8 (turnW b)).toArray⟩)) ++ ⟨#[0]⟩ = keyW b := by
        apply ByteArray.ext
        simp [keyW]
      have := hk w h
      rw [← e] at this
      exact this
end
end Go.Proofs.YtelhccfmfnaegaaGreat
end

section
/- What is answered ahead of its run where floats are not known: whether a value is right, and a key's bytes. -/
namespace Go.Proofs.YtelhccfmfnaegaaGreat
open Go Go.Sh
/-- a float as a value; its bits are not known -/
def fval : List RV := [gi 3, gi 0, .sy 0, .g (.string ⟨#[]⟩)]
noncomputable def ovF (f : FuncId) (args : List RV) (s : RSt) : Option RRes :=
  match Nat.beq f 46 with
  | true => match args with
    | [v] => match rvEq v (.agg fval) with
      | true => some (.ret (.g (.bool true)) s)
      | false => none
    | _ => none
  | false => match Nat.beq f 6 with
    | true => match args with
      | [.sl b o l c] => match Nat.beq l 1 with
        | true => match rSlice 4 (.sl b o l c) s with
          | some cs => match rvEqs cs fval with
            | true => some (.ret (.sy 1) s)
            | false => none
          | none => none
        | false => none
      | _ => none
    | false => none
end Go.Proofs.YtelhccfmfnaegaaGreat
end

section
/- What is answered ahead of its run is what the functions tell; calls where a float is not known, run by the interpreter. -/
set_option linter.unusedSectionVars false
set_option linter.unusedVariables false
namespace Go.Proofs.YtelhccfmfnaegaaGreat
open Go Go.Sh

section
variable [Env]
/-- what is not known: a float's bits, and its key -/
structure FEnv (b : Nat) : Prop where
  lt : b < 18446744073709551616
  can : canW b = b
  ρ0 : Env.ρ 0 = .int .u64 (b : Int)
  ρ1 : Env.ρ 1 = .string (keyW b)

theorem fval_abs {b : Nat} (hE : FEnv b) (ad : List Pl) : rabsL ad fval = some (fcells b) := by
  simp only [fval, rabsL, rabs, gi, hE.ρ0]; rfl

theorem ovF_sound {b : Nat} (hE : FEnv b) : ∀ f args s r, ovF f args s = some r → (∀ y, r ≠ .bad y) → ResOk Tryz.prog f args s r := by
  intro f args s r h _
  unfold ovF at h
  split at h
  · rename_i hf
    have := Nat.eq_of_beq_eq_true hf; subst this
    split at h
    · rename_i v
      split at h
      · rename_i hv; cases h
        have := rvEq_eq hv; subst this
        refine ResOk.of_call ⟨Tryz.f46, Tryz.func46, (by kernel_rfl), (by kernel_rfl)⟩ fun ad w xs hS hx => ?_
        have hxs : xs = [ag VLL (fv b)] := by
          simp only [rabsL, rabs, fval_abs hE ad] at hx
          cases hx; rfl
        subst hxs
        exact ⟨tBool, true, rfl, fun k hk => right_spec hE.can (Holds.start w) hk⟩
      · cases h
    · cases h
  · split at h
    · rename_i hf
      have := Nat.eq_of_beq_eq_true hf; subst this
      split at h
      · rename_i bl o l c
        split at h
        · rename_i hl
          have := Nat.eq_of_beq_eq_true hl; subst this
          split at h
          · rename_i cs hcs
            split at h
            · rename_i hv; cases h
              have := rvEqs_eq hv; subst this
              refine ResOk.of_call ⟨Tryz.f6, Tryz.func6, (by kernel_rfl), (by kernel_rfl)⟩ fun ad w xs hS hx => ?_
              simp only [rabsL] at hx
              split at hx
              · rename_i x ys h1 h2
                cases h2; cases hx
                obtain ⟨p, hp, rfl, _⟩ := abs_sl h1
                have hr : Reads w ⟨some ⟨p.a, o, none⟩, 1, RCap.real p c⟩ 4 (fcells b) := by
                  have hcs' : (match s.t.get bl with | some (.cells cc _ _) => rTake cc o 4 | _ => none) = some fval := hcs
                  split at hcs'
                  · rename_i cc T op hb
                    obtain ⟨ob, ho, hr⟩ := hS.at hb (by simp) hp
                    have key : ∀ vs rest : List Value, rabsL ad cc = some vs → ∀ i, i < (fcells b).length → (⟨vs ++ rest⟩ : Array Value)[o + i]? = (fcells b)[i]? := by
                      intro vs rest hvs i hi
                      obtain ⟨h3, h4⟩ := rTake_abs hcs' hvs
                      rw [fval_abs hE ad] at h3
                      have h3 := Option.some.inj h3
                      have hi4 : i < 4 := hi
                      rw [h3]
                      simp only [List.getElem?_toArray]
                      rw [List.getElem?_append_left (by omega), List.getElem?_take_of_lt hi4, List.getElem?_drop]
                    cases hr with
                    | cells hvs => exact ⟨rfl, fun _ => ⟨p.a, o, _, _, _, rfl, ho, fun i hi => by have := key _ [] hvs i hi; simpa using this⟩⟩
                    | opn hvs _ _ _ _ => exact ⟨rfl, fun _ => ⟨p.a, o, _, _, _, rfl, ho, key _ _ hvs⟩⟩
                  · cases hcs'
                refine ⟨tStr, keyW b, ?_, fun k hk => ?_⟩
                · simp only [rabs, hE.ρ1]; rfl
                · exact of_spec (s := ⟨some ⟨p.a, o, none⟩, 1, _⟩) hE.lt hE.can (fun w' h' => h'.reads_old hr) rfl (Holds.start w) hk
              · cases hx
            · cases h
          · cases h
        · cases h
      · cases h
    · cases h

theorem ovF_not_gnd : ∀ f args s r, ovF f args s = some r → ∀ g, r ≠ .gnd g := by
  intro f args s r h g
  unfold ovF at h
  (repeat' split at h) <;> first | (cases h; intro hc; cases hc) | cases h

/-- the calls, as the interpreter makes them where a float is not known -/
noncomputable def callF : CallF := evF Tryz.prog ctab (fun _ _ => none) (fun _ => false) ovF 60
theorem callF_ok {b : Nat} (hE : FEnv b) : CallOk Tryz.prog callF :=
  (evF_sound (fun f args s g h => by cases h) (ovF_sound hE) ovF_not_gnd (fun call h1 h2 => tab_ok follows call h1 h2) 60).1
end
end Go.Proofs.YtelhccfmfnaegaaGreat
end

section
/- Calls with a float that is not known: what goes in, what comes out; the kernel runs each (printed by program). -/
set_option maxRecDepth 100000
namespace Go.Proofs.YtelhccfmfnaegaaGreat
open Go Go.Sh
def cNew : Cut := { f := 13, args := [], n := 0, pre := [], v := (.ptr 1 0), n' := 2, post := [(0, .map [] 0), (1, .cells [(gi 0), (.g (.int .i64 (-1))), (gi 0), (.mp 0)] 101 false)] }
theorem rcNew : cNew.run callF = true := by kernel_rfl
def cCopy : Cut := { f := 37, args := [(.ptr 0 0)], n := 2, pre := [(0, .cells [(gi 0), (.g (.int .i64 (-1))), (gi 0), (.mp 1)] 101 false), (1, .map [] 0)], v := (.ptr 2 0), n' := 5, post := [(0, .cells [(gi 0), (.g (.int .i64 (-1))), (gi 0), (.mp 1)] 101 false), (1, .map [] 0), (2, .cells [(gi 0), (.g (.int .i64 (-1))), (gi 0), (.mp 3)] 101 false), (3, .map [] 0)] }
theorem rcCopy : cCopy.run callF = true := by kernel_rfl
def cChangeT : Cut := { f := 112, args := [(.agg [(gi 3), (.g (.string (.mk #[102]))), (.g (.slice none 0 0)), (gi 0), (gi 0), (.g (.string (.mk #[102]))), (.sl 0 0 1 (.is 1)), (gi 1)])], n := 1, pre := [(0, .cells [(.g (.string (.mk #[120]))), (gi 3), (.g (.bool true))] 60 false)], v := (.g (.bool true)), n' := 7, post := [(0, .cells [(.g (.string (.mk #[120]))), (gi 3), (.g (.bool true))] 60 false)] }
theorem rcChangeT : cChangeT.run callF = true := by kernel_rfl
def cChangeP : Cut := { f := 112, args := [(.agg [(gi 1), (.g (.string (.mk #[102]))), (.sl 0 0 1 (.is 1)), (gi 0), (gi 1), (.g (.string (.mk #[]))), (.g (.slice none 0 0)), (gi 0)])], n := 1, pre := [(0, .cells [(gi 3), (gi 0), (.sy 0), (.g (.string (.mk #[])))] 27 false)], v := (.g (.bool true)), n' := 7, post := [(0, .cells [(gi 3), (gi 0), (.sy 0), (.g (.string (.mk #[])))] 27 false)] }
theorem rcChangeP : cChangeP.run callF = true := by kernel_rfl
def cLay : Cut := { f := 38, args := [(.ptr 0 0), (.agg [(gi 3), (.g (.string (.mk #[102]))), (.g (.slice none 0 0)), (gi 0), (gi 0), (.g (.string (.mk #[102]))), (.sl 4 0 1 (.is 1)), (gi 1)])], n := 5, pre := [(0, .cells [(.ptr 1 0), (gi 1), (.mp 3)] 106 false), (1, .cells [(gi 0), (.g (.int .i64 (-1))), (gi 0), (.mp 2)] 101 false), (2, .map [] 0), (3, .map [] 0), (4, .cells [(.g (.string (.mk #[120]))), (gi 3), (.g (.bool true))] 60 false)], v := (gi 0), n' := 12, post := [(0, .cells [(.ptr 1 0), (gi 1), (.mp 3)] 106 false), (1, .cells [(gi 0), (.g (.int .i64 (-1))), (gi 0), (.mp 2)] 101 false), (2, .map [((.g (.string (.mk #[102]))), (.ptr 11 0), 0)] 1), (3, .map [] 0), (4, .cells [(.g (.string (.mk #[120]))), (gi 3), (.g (.bool true))] 60 false), (7, .cells [(.g (.string (.mk #[120]))), (gi 3), (.g (.bool true))] 60 true), (9, .cells [(gi 1), (.g (.string (.mk #[102]))), (.sl 7 0 1 (.opn 0)), (gi 1)] 191 false), (10, .map [] 0), (11, .cells [(.sl 9 0 1 (.is 1)), (.mp 10)] 115 false)] }
theorem rcLay : cLay.run callF = true := by kernel_rfl
def cLast : Cut := { f := 74, args := [(.ptr 0 0)], n := 4, pre := [(0, .cells [(.sl 1 0 1 (.is 1)), (.mp 2)] 115 false), (1, .cells [(gi 1), (.g (.string (.mk #[102]))), (.sl 3 0 1 (.opn 0)), (gi 1)] 191 false), (2, .map [] 0), (3, .cells [(.g (.string (.mk #[120]))), (gi 3), (.g (.bool true))] 60 true)], v := (.agg [(.g (.string (.mk #[102]))), (.sl 3 0 1 (.opn 0)), (gi 1)]), n' := 5, post := [(0, .cells [(.sl 1 0 1 (.is 1)), (.mp 2)] 115 false), (1, .cells [(gi 1), (.g (.string (.mk #[102]))), (.sl 3 0 1 (.opn 0)), (gi 1)] 191 false), (2, .map [] 0), (3, .cells [(.g (.string (.mk #[120]))), (gi 3), (.g (.bool true))] 60 true)] }
theorem rcLast : cLast.run callF = true := by kernel_rfl
def cKeyOf : Cut := { f := 73, args := [(.agg [(.g (.string (.mk #[102]))), (.sl 0 0 1 (.opn 0)), (gi 1)]), (.agg [(gi 1), (.g (.string (.mk #[102]))), (.sl 1 0 1 (.is 1)), (gi 0), (gi 1), (.g (.string (.mk #[]))), (.g (.slice none 0 0)), (gi 0)])], n := 2, pre := [(0, .cells [(.g (.string (.mk #[120]))), (gi 3), (.g (.bool true))] 60 true), (1, .cells [(gi 3), (gi 0), (.sy 0), (.g (.string (.mk #[])))] 27 false)], v := (.tup [(.sy 1), (gi 0)]), n' := 24, post := [(0, .cells [(.g (.string (.mk #[120]))), (gi 3), (.g (.bool true))] 60 true), (1, .cells [(gi 3), (gi 0), (.sy 0), (.g (.string (.mk #[])))] 27 false)] }
theorem rcKeyOf : cKeyOf.run callF = true := by kernel_rfl
def cAtNil : Cut := { f := 75, args := [(.g (.slice none 0 0)), (gi 1099511627775)], n := 0, pre := [], v := (.g (.slice none 0 0)), n' := 1, post := [] }
theorem rcAtNil : cAtNil.run callF = true := by kernel_rfl
def cPut1 : Cut := { f := 76, args := [(.g (.slice none 0 0)), (.agg [(gi 0), (gi 1)]), (.sl 0 0 1 (.is 1))], n := 1, pre := [(0, .cells [(gi 3), (gi 0), (.sy 0), (.g (.string (.mk #[])))] 27 false)], v := (.sl 8 0 1 (.opn 0)), n' := 9, post := [(0, .cells [(gi 3), (gi 0), (.sy 0), (.g (.string (.mk #[])))] 27 false), (6, .cells [(gi 3), (gi 0), (.sy 0), (.g (.string (.mk #[])))] 27 true), (8, .cells [(gi 0), (gi 1), (.sl 6 0 1 (.opn 0))] 50 true)] }
theorem rcPut1 : cPut1.run callF = true := by kernel_rfl
def cPut2 : Cut := { f := 76, args := [(.sl 1 0 1 (.opn 0)), (.agg [(gi 0), (gi 1)]), (.sl 0 0 1 (.is 1))], n := 3, pre := [(0, .cells [(gi 3), (gi 0), (.sy 0), (.g (.string (.mk #[])))] 27 false), (1, .cells [(gi 0), (gi 1), (.sl 2 0 1 (.opn 0))] 50 true), (2, .cells [(gi 3), (gi 0), (.sy 0), (.g (.string (.mk #[])))] 27 true)], v := (.sl 36 0 1 (.opn 0)), n' := 37, post := [(0, .cells [(gi 3), (gi 0), (.sy 0), (.g (.string (.mk #[])))] 27 false), (1, .cells [(gi 0), (gi 1), (.sl 2 0 1 (.opn 0))] 50 true), (2, .cells [(gi 3), (gi 0), (.sy 0), (.g (.string (.mk #[])))] 27 true), (34, .cells [(gi 3), (gi 0), (.sy 0), (.g (.string (.mk #[])))] 27 true), (36, .cells [(gi 0), (gi 1), (.sl 34 0 1 (.opn 0))] 50 true)] }
theorem rcPut2 : cPut2.run callF = true := by kernel_rfl
def cSet1 : Cut := { f := 39, args := [(.g (.slice none 0 0)), (gi 1), (.sl 0 0 1 (.opn 0))], n := 2, pre := [(0, .cells [(gi 0), (gi 1), (.sl 1 0 1 (.opn 0))] 50 true), (1, .cells [(gi 3), (gi 0), (.sy 0), (.g (.string (.mk #[])))] 27 true)], v := (.tup [(.sl 24 0 1 (.opn 0)), (gi 0)]), n' := 25, post := [(0, .cells [(gi 0), (gi 1), (.sl 1 0 1 (.opn 0))] 50 true), (1, .cells [(gi 3), (gi 0), (.sy 0), (.g (.string (.mk #[])))] 27 true), (17, .cells [(gi 3), (gi 0), (.sy 0), (.g (.string (.mk #[])))] 27 true), (24, .cells [(gi 1), (gi 1099511627776), (gi 0), (gi 1), (.sl 17 0 1 (.opn 0))] 172 true)] }
theorem rcSet1 : cSet1.run callF = true := by kernel_rfl
def cSchema : Cut := { f := 41, args := [(.ptr 0 0), (.agg [(gi 1), (.g (.string (.mk #[102]))), (.g (.slice none 0 0)), (gi 1), (gi 0), (gi 0), (gi 0), (.g (.slice none 0 0)), (.g (.slice none 0 0)), (gi 0), (.g (.bool false))])], n := 6, pre := [(0, .cells [(gi 1), (gi 1), (gi 0), (.mp 1)] 101 false), (1, .map [((.g (.string (.mk #[102]))), (.ptr 2 0), 0)] 1), (2, .cells [(.sl 3 0 1 (.is 1)), (.mp 5)] 115 false), (3, .cells [(gi 1), (.g (.string (.mk #[102]))), (.sl 4 0 1 (.opn 0)), (gi 1)] 191 false), (4, .cells [(.g (.string (.mk #[120]))), (gi 3), (.g (.bool true))] 60 true), (5, .view 0 [])], v := (.tup [(.agg [(.g (.string (.mk #[102]))), (.sl 14 0 1 (.opn 0)), (gi 1)]), (gi 0)]), n' := 16, post := [(0, .cells [(gi 1), (gi 1), (gi 0), (.mp 1)] 101 false), (1, .map [((.g (.string (.mk #[102]))), (.ptr 2 0), 0)] 1), (2, .cells [(.sl 3 0 1 (.is 1)), (.mp 5)] 115 false), (3, .cells [(gi 1), (.g (.string (.mk #[102]))), (.sl 4 0 1 (.opn 0)), (gi 1)] 191 false), (4, .cells [(.g (.string (.mk #[120]))), (gi 3), (.g (.bool true))] 60 true), (5, .view 0 []), (14, .cells [(.g (.string (.mk #[120]))), (gi 3), (.g (.bool true))] 60 true)] }
theorem rcSchema : cSchema.run callF = true := by kernel_rfl
def cRightA : Cut := { f := 42, args := [(.agg [(gi 1), (.g (.string (.mk #[102]))), (.g (.slice none 0 0)), (gi 1), (gi 0), (gi 0), (gi 0), (.g (.slice none 0 0)), (.g (.slice none 0 0)), (gi 0), (.g (.bool false))]), (.agg [(.g (.string (.mk #[102]))), (.sl 0 0 1 (.opn 0)), (gi 1)])], n := 1, pre := [(0, .cells [(.g (.string (.mk #[120]))), (gi 3), (.g (.bool true))] 60 true)], v := (.g (.bool true)), n' := 5, post := [(0, .cells [(.g (.string (.mk #[120]))), (gi 3), (.g (.bool true))] 60 true)] }
theorem rcRightA : cRightA.run callF = true := by kernel_rfl
def cKinds : Cut := { f := 43, args := [], n := 0, pre := [], v := (.mp 0), n' := 1, post := [(0, .map [((gi 1), (.agg [(.g (.func (.func 90) #[] #[])), (.g (.func (.func 91) #[] #[]))]), 0), ((gi 2), (.agg [(.g (.func (.func 90) #[] #[])), (.g (.func (.func 92) #[] #[]))]), 1), ((gi 3), (.agg [(.g (.func (.func 93) #[] #[])), (.g (.func (.func 94) #[] #[]))]), 2), ((gi 4), (.agg [(.g (.func (.func 93) #[] #[])), (.g (.func (.func 95) #[] #[]))]), 3)] 4)] }
theorem rcKinds : cKinds.run callF = true := by kernel_rfl
def cAt : Cut := { f := 128, args := [(.ptr 0 0), (.g (.string (.mk #[102]))), (.sy 1), (gi 1)], n := 8, pre := [(0, .cells [(gi 1), (gi 1), (gi 0), (.mp 1)] 101 false), (1, .map [((.g (.string (.mk #[102]))), (.ptr 2 0), 0)] 1), (2, .cells [(.sl 3 0 1 (.is 1)), (.mp 5)] 115 false), (3, .cells [(gi 1), (.g (.string (.mk #[102]))), (.sl 4 0 1 (.opn 0)), (gi 1)] 191 false), (4, .cells [(.g (.string (.mk #[120]))), (gi 3), (.g (.bool true))] 60 true), (5, .view 0 [(1, some (.sl 6 0 1 (.opn 0)))]), (6, .cells [(gi 1), (gi 1099511627776), (gi 0), (gi 1), (.sl 7 0 1 (.opn 0))] 172 true), (7, .cells [(gi 3), (gi 0), (.sy 0), (.g (.string (.mk #[])))] 27 true)], v := (.tup [(.sl 51 0 1 (.opn 0)), (gi 0)]), n' := 52, post := [(0, .cells [(gi 1), (gi 1), (gi 0), (.mp 1)] 101 false), (1, .map [((.g (.string (.mk #[102]))), (.ptr 2 0), 0)] 1), (2, .cells [(.sl 3 0 1 (.is 1)), (.mp 5)] 115 false), (3, .cells [(gi 1), (.g (.string (.mk #[102]))), (.sl 4 0 1 (.opn 0)), (gi 1)] 191 false), (4, .cells [(.g (.string (.mk #[120]))), (gi 3), (.g (.bool true))] 60 true), (5, .view 0 [(1, some (.sl 6 0 1 (.opn 0)))]), (6, .cells [(gi 1), (gi 1099511627776), (gi 0), (gi 1), (.sl 7 0 1 (.opn 0))] 172 true), (7, .cells [(gi 3), (gi 0), (.sy 0), (.g (.string (.mk #[])))] 27 true), (40, .cells [(gi 3), (gi 0), (.sy 0), (.g (.string (.mk #[])))] 27 false), (51, .cells [(gi 0), (gi 1), (.sl 40 0 1 (.is 1))] 50 true)] }
theorem rcAt : cAt.run callF = true := by kernel_rfl
def cPass : Cut := { f := 44, args := [(.agg [(gi 1), (.g (.string (.mk #[102]))), (.g (.slice none 0 0)), (gi 1), (gi 0), (gi 0), (gi 0), (.g (.slice none 0 0)), (.g (.slice none 0 0)), (gi 0), (.g (.bool false))]), (.sl 0 0 1 (.is 1))], n := 1, pre := [(0, .cells [(gi 3), (gi 0), (.sy 0), (.g (.string (.mk #[])))] 27 false)], v := (.g (.bool true)), n' := 2, post := [(0, .cells [(gi 3), (gi 0), (.sy 0), (.g (.string (.mk #[])))] 27 false)] }
theorem rcPass : cPass.run callF = true := by kernel_rfl
def cProj : Cut := { f := 45, args := [(.agg [(gi 1), (.g (.string (.mk #[102]))), (.g (.slice none 0 0)), (gi 1), (gi 0), (gi 0), (gi 0), (.g (.slice none 0 0)), (.g (.slice none 0 0)), (gi 0), (.g (.bool false))]), (.sl 0 0 1 (.is 1))], n := 1, pre := [(0, .cells [(gi 3), (gi 0), (.sy 0), (.g (.string (.mk #[])))] 27 false)], v := (.sl 2 0 1 (.opn 0)), n' := 3, post := [(0, .cells [(gi 3), (gi 0), (.sy 0), (.g (.string (.mk #[])))] 27 false), (2, .cells [(gi 3), (gi 0), (.sy 0), (.g (.string (.mk #[])))] 27 true)] }
theorem rcProj : cProj.run callF = true := by kernel_rfl
def cAudit : Cut := { f := 17, args := [(.ptr 0 0), (.agg [(gi 4), (.g (.string (.mk #[102]))), (.sl 8 0 1 (.is 1)), (gi 0), (gi 0), (gi 0), (gi 0), (.g (.slice none 0 0)), (.g (.slice none 0 0)), (gi 0), (.g (.bool false))])], n := 9, pre := [(0, .cells [(gi 1), (gi 1), (gi 0), (.mp 1)] 101 false), (1, .map [((.g (.string (.mk #[102]))), (.ptr 2 0), 0)] 1), (2, .cells [(.sl 3 0 1 (.is 1)), (.mp 5)] 115 false), (3, .cells [(gi 1), (.g (.string (.mk #[102]))), (.sl 4 0 1 (.opn 0)), (gi 1)] 191 false), (4, .cells [(.g (.string (.mk #[120]))), (gi 3), (.g (.bool true))] 60 true), (5, .view 0 [(1, some (.sl 6 0 1 (.opn 0)))]), (6, .cells [(gi 1), (gi 1099511627776), (gi 0), (gi 1), (.sl 7 0 1 (.opn 0))] 172 true), (7, .cells [(gi 3), (gi 0), (.sy 0), (.g (.string (.mk #[])))] 27 true), (8, .cells [(gi 3), (gi 0), (.sy 0), (.g (.string (.mk #[])))] 27 false)], v := (.tup [(.sl 117 0 1 (.opn 0)), (gi 0)]), n' := 118, post := [(0, .cells [(gi 1), (gi 1), (gi 0), (.mp 1)] 101 false), (1, .map [((.g (.string (.mk #[102]))), (.ptr 2 0), 0)] 1), (2, .cells [(.sl 3 0 1 (.is 1)), (.mp 5)] 115 false), (3, .cells [(gi 1), (.g (.string (.mk #[102]))), (.sl 4 0 1 (.opn 0)), (gi 1)] 191 false), (4, .cells [(.g (.string (.mk #[120]))), (gi 3), (.g (.bool true))] 60 true), (5, .view 0 [(1, some (.sl 6 0 1 (.opn 0)))]), (6, .cells [(gi 1), (gi 1099511627776), (gi 0), (gi 1), (.sl 7 0 1 (.opn 0))] 172 true), (7, .cells [(gi 3), (gi 0), (.sy 0), (.g (.string (.mk #[])))] 27 true), (8, .cells [(gi 3), (gi 0), (.sy 0), (.g (.string (.mk #[])))] 27 false), (115, .cells [(gi 3), (gi 0), (.sy 0), (.g (.string (.mk #[])))] 27 true), (117, .cells [(.sy 1), (gi 1), (gi 2), (gi 0), (gi 1), (.sl 115 0 1 (.opn 0))] 47 true)] }
theorem rcAudit : cAudit.run callF = true := by kernel_rfl
end Go.Proofs.YtelhccfmfnaegaaGreat
end
