/- The index's laws: the documents' items, and whether two lists are alike. -/
import Derived.Test.YtoaalegieaocbaaIx10
namespace Go.Proofs.Ytoaalegieaocbaa
open Go.Sh
attribute [local irreducible] pto rob old ownS roS hstar hex hpure hemp mapB hro IxB

theorem bytes_eq {a b : ByteArray} (h : a.toList = b.toList) : a = b := by
  rw [ByteArray.toList_eq, ByteArray.toList_eq] at h
  exact ByteArray.ext (Array.ext' h)
theorem bytes_beq (a b : ByteArray) : (a.toList == b.toList) = decide (a = b) := by
  by_cases h : a = b
  · subst h; simp
  · rw [decide_eq_false h, beq_eq_false_iff_ne]
    exact fun hh => h (bytes_eq hh)

theorem item_eq (a b : Item) : (a.1.toList == b.1.toList && (a.2.1 == b.2.1 && (a.2.2.1 == b.2.2.1 && a.2.2.2.1 == b.2.2.2.1))) = decide (a = b) := by
  obtain ⟨a1, a2, a3, a4, ⟨⟩⟩ := a
  obtain ⟨b1, b2, b3, b4, ⟨⟩⟩ := b
  rw [bytes_beq]
  by_cases h1 : a1 = b1 <;> by_cases h2 : a2 = b2 <;> by_cases h3 : a3 = b3 <;> by_cases h4 : a4 = b4 <;> simp [h1, h2, h3, h4]

section
variable {E w : World} {L L' : List HProp}

theorem part_run {T : TypeId} {xs : Array Value} {o : Nat} {v : Value} {w : World} (h : pureRun Try.prog (part T xs o) = some v) : (part T xs o).run Try.prog w = .ok v w := pureRun_sound _ h w

theorem fields_run {w : World} (a b : Item) {f1 f2 f3 f4 : Field} (h1 : f1.name ≠ "_" ∧ f1.type = 9 ∧ f1.offset = 0) (h2 : f2.name ≠ "_" ∧ f2.type = 3 ∧ f2.offset = 1) (h3 : f3.name ≠ "_" ∧ f3.type = 3 ∧ f3.offset = 2) (h4 : f4.name ≠ "_" ∧ f4.type = 3 ∧ f4.offset = 3) :
    (Op.eqFields 9999 ⟨encI a⟩ ⟨encI b⟩ [f1, f2, f3, f4]).run Try.prog w = .ok (decide (a = b)) w := by
  have s1 : ∀ (x : Item), (part 9 ⟨encI x⟩ 0).run Try.prog w = .ok (.string x.1) w := fun x => part_run (by kernel_rfl)
  have s2 : ∀ (x : Item), (part 3 ⟨encI x⟩ 1).run Try.prog w = .ok (.int .i64 x.2.1) w := fun x => part_run (by kernel_rfl)
  have s3 : ∀ (x : Item), (part 3 ⟨encI x⟩ 2).run Try.prog w = .ok (.int .i64 x.2.2.1) w := fun x => part_run (by kernel_rfl)
  have s4 : ∀ (x : Item), (part 3 ⟨encI x⟩ 3).run Try.prog w = .ok (.int .i64 x.2.2.2.1) w := fun x => part_run (by kernel_rfl)
  have e1 : (Op.equalIn 9999 9 (.string a.1) (.string b.1)).run Try.prog w = .ok (a.1.toList == b.1.toList) w := run_equalIn_string w 9998 9 _ _ Try.underlying9
  have e2 : ∀ x y : Int, (Op.equalIn 9999 3 (.int .i64 x) (.int .i64 y)).run Try.prog w = .ok (x == y) w := fun x y => run_equalIn_int w 9998 3 .i64 .i64 _ _ Try.underlying3
  rw [← item_eq]
  simp only [Op.eqFields]
  rw [if_pos h1.1, if_pos h2.1, if_pos h3.1, if_pos h4.1, h1.2.1, h1.2.2, h2.2.1, h2.2.2, h3.2.1, h3.2.2, h4.2.1, h4.2.2]
  rw [run_ok (s1 a), run_ok (s1 b), run_ok e1]
  cases a.1.toList == b.1.toList
  · rfl
  simp only [Bool.not_true, Bool.false_eq_true, if_false, Bool.true_and]
  rw [run_ok (s2 a), run_ok (s2 b), run_ok (e2 _ _)]
  cases a.2.1 == b.2.1
  · rfl
  simp only [Bool.not_true, Bool.false_eq_true, if_false, Bool.true_and]
  rw [run_ok (s3 a), run_ok (s3 b), run_ok (e2 _ _)]
  cases a.2.2.1 == b.2.2.1
  · rfl
  simp only [Bool.not_true, Bool.false_eq_true, if_false, Bool.true_and]
  rw [run_ok (s4 a), run_ok (s4 b), run_ok (e2 _ _)]
  cases a.2.2.2.1 == b.2.2.2.1 <;> rfl

theorem equal31 (a b : Item) (w : World) : (Op.equalIn 10000 31 (.agg ⟨encI a⟩) (.agg ⟨encI b⟩)).run Try.prog w = .ok (decide (a = b)) w := by
  rw [run_equalIn_agg w 9999 31 _ _ (by kernel_rfl) (by kernel_rfl), Program.fieldsOf, Try.underlying31]
  exact fields_run a b ⟨by decide, rfl, rfl⟩ ⟨by decide, rfl, rfl⟩ ⟨by decide, rfl, rfl⟩ ⟨by decide, rfl, rfl⟩
theorem equal36 (a b : Item) (w : World) : (Op.equalIn 10000 36 (.agg ⟨encI a⟩) (.agg ⟨encI b⟩)).run Try.prog w = .ok (decide (a = b)) w := by
  rw [run_equalIn_agg w 9999 36 _ _ (by kernel_rfl) (by kernel_rfl), Program.fieldsOf, Try.underlying36]
  exact fields_run a b ⟨by decide, rfl, rfl⟩ ⟨by decide, rfl, rfl⟩ ⟨by decide, rfl, rfl⟩ ⟨by decide, rfl, rfl⟩

theorem val_eql {T : TypeId} {x y : Operand} {a b : Item} {k : Bool → Pr} (hg : Try.prog.eqGuardType Try.prog.depth T = false) (he : ∀ w, (Op.equalIn 10000 T (.agg ⟨encI a⟩) (.agg ⟨encI b⟩)).run Try.prog w = .ok (decide (a = b)) w)
    (hk : k (decide (a = b)) w) : ValP Try.prog (cmpN .eql T x y (.agg #[.string a.1, .int .i64 a.2.1, .int .i64 a.2.2.1, .int .i64 a.2.2.2.1]) (.agg #[.string b.1, .int .i64 b.2.1, .int .i64 b.2.2.1, .int .i64 b.2.2.2.1])) tBool k w := by
  refine ⟨_, fun w => run_vN ?_, hk⟩
  rw [run_ok (run_eqGuard_agg w .eql T x y _ _ hg), run_eql_struct]
  rw [show (#[.string a.1, .int .i64 a.2.1, .int .i64 a.2.2.1, .int .i64 a.2.2.2.1] : Array Value) = ⟨encI a⟩ from rfl, show (#[.string b.1, .int .i64 b.2.1, .int .i64 b.2.2.1, .int .i64 b.2.2.2.1] : Array Value) = ⟨encI b⟩ from rfl, he]
  rfl
theorem val_neq {T : TypeId} {x y : Operand} {a b : Item} {k : Bool → Pr} (hg : Try.prog.eqGuardType Try.prog.depth T = false) (he : ∀ w, (Op.equalIn 10000 T (.agg ⟨encI a⟩) (.agg ⟨encI b⟩)).run Try.prog w = .ok (decide (a = b)) w)
    (hk : k (!decide (a = b)) w) : ValP Try.prog (cmpN .neq T x y (.agg #[.string a.1, .int .i64 a.2.1, .int .i64 a.2.2.1, .int .i64 a.2.2.2.1]) (.agg #[.string b.1, .int .i64 b.2.1, .int .i64 b.2.2.1, .int .i64 b.2.2.2.1])) tBool k w := by
  refine ⟨_, fun w => run_vN ?_, hk⟩
  rw [run_ok (run_eqGuard_agg w .neq T x y _ _ hg), run_neq_struct]
  rw [show (#[.string a.1, .int .i64 a.2.1, .int .i64 a.2.2.1, .int .i64 a.2.2.2.1] : Array Value) = ⟨encI a⟩ from rfl, show (#[.string b.1, .int .i64 b.2.1, .int .i64 b.2.2.1, .int .i64 b.2.2.2.1] : Array Value) = ⟨encI b⟩ from rfl, he]
  rfl
theorem val_eql31 {x y : Operand} {a b : Item} {k : Bool → Pr} (hk : k (decide (a = b)) w) : ValP Try.prog (cmpN .eql 31 x y (.agg #[.string a.1, .int .i64 a.2.1, .int .i64 a.2.2.1, .int .i64 a.2.2.2.1]) (.agg #[.string b.1, .int .i64 b.2.1, .int .i64 b.2.2.1, .int .i64 b.2.2.2.1])) tBool k w := val_eql (by kernel_rfl) (equal31 a b) hk
theorem val_neq31 {x y : Operand} {a b : Item} {k : Bool → Pr} (hk : k (!decide (a = b)) w) : ValP Try.prog (cmpN .neq 31 x y (.agg #[.string a.1, .int .i64 a.2.1, .int .i64 a.2.2.1, .int .i64 a.2.2.2.1]) (.agg #[.string b.1, .int .i64 b.2.1, .int .i64 b.2.2.1, .int .i64 b.2.2.2.1])) tBool k w := val_neq (by kernel_rfl) (equal31 a b) hk
theorem val_neq36 {x y : Operand} {a b : Item} {k : Bool → Pr} (hk : k (!decide (a = b)) w) : ValP Try.prog (cmpN .neq 36 x y (.agg #[.string a.1, .int .i64 a.2.1, .int .i64 a.2.2.1, .int .i64 a.2.2.2.1]) (.agg #[.string b.1, .int .i64 b.2.1, .int .i64 b.2.2.1, .int .i64 b.2.2.2.1])) tBool k w := val_neq (by kernel_rfl) (equal36 a b) hk

theorem same_spec {s t : Sl} {a b : List Item} {k : Bool → Pr} (h : Holds E w L) (hr : Oracle E L s 4 (a.flatMap encI)) (ht : Oracle E L t 4 (b.flatMap encI)) (hb : a.length ≤ 1073741824) (hk : ∀ w', Holds E w' L → k (decide (a = b)) w') :
    CallP Try.prog 18 #[.slice s.a s.len s.cap, .slice t.a t.len t.cap] tBool k w := by
  have l1 := (hr w h).len_eq encI_len (by omega)
  have l2 := (ht w h).len_eq encI_len (by omega)
  refine rd18 _ _ _ _ ?_
  unfold sh18
  refine CondP.mk' (fun hc => ?_) (fun hc => ?_)
  · have hne : a ≠ b := by rintro rfl; exact neT hc (by rw [l1, l2])
    rw [decide_eq_false hne] at hk
    exact hk _ h
  have hll : a.length = b.length := by have := neF hc; omega
  refine LoopP.inv (fun q w => ∃ i : Nat, q = i ∧ i ≤ a.length ∧ a.take i = b.take i ∧ Holds E w L) (fun q _ => a.length - q.toNat) ⟨0, rfl, by omega, rfl, h⟩ ?_
  rintro next q w ⟨i, rfl, hi, he, h⟩ hnext
  refine AnyP.go fun _ => CondP.mk' (fun hc => ?_) (fun hc => ?_)
  · have hc : i < a.length := by have := cT hc; omega
    have hc2 : i < b.length := by omega
    refine DrewP.go h fun w h => ?_
    refine val_idx (hr w h) encI_len (by omega) hc (T := 40) (Te := 36) (by kernel_rfl) (by kernel_rfl) fun a0 ha0 hs0 => ?_
    refine get_elt a[i] (hr w h) encI_len ha0 hc (by kernel_rfl) (by kernel_rfl) rfl ?_
    refine val_idx (ht w h) encI_len (by omega) hc2 (T := 40) (Te := 36) (by kernel_rfl) (by kernel_rfl) fun a1 ha1 hs1 => ?_
    refine get_elt b[i] (ht w h) encI_len ha1 hc2 (by kernel_rfl) (by kernel_rfl) rfl ?_
    refine val_neq36 ?_
    refine CondP.mk' (fun hd => ?_) (fun hd => ?_)
    · have hne : a ≠ b := by rintro rfl; simp at hd
      rw [decide_eq_false hne] at hk
      exact hk _ h
    · have hd : a[i] = b[i] := by simpa using hd
      rw [show IntKind.i64.wrap ((i : Int) + 1) = ((i + 1 : Nat) : Int) by rw [wrap_in _ (by omega)]; omega]
      refine hnext _ _ ⟨i + 1, rfl, by omega, ?_, h⟩ (by omega)
      rw [← List.take_append_getElem hc, ← List.take_append_getElem hc2, he, hd]
  · have hc : i = a.length := by have := cF hc; omega
    have hab : a = b := by
      rw [hc, List.take_length] at he
      rw [he]; rw [hll, List.take_length]
    rw [decide_eq_true hab] at hk
    exact hk _ h

set_option maxHeartbeats 1000000 in
theorem plain_spec {s : Sl} {l : List Item} {k : Sl → Pr} (h : Holds E w L) (hr : Oracle E L s 4 (l.flatMap encI)) (hb : l.length ≤ 536870912) (hk : ∀ t w', Holds E w' (ownS 36 4 t (l.flatMap encI) :: L) → k t w') :
    CallP Try.prog 19 #[.slice s.a s.len s.cap] tSl k w := by
  have l1 := (hr w h).len_eq encI_len (by omega)
  refine rd19 _ _ _ ?_
  unfold sh19
  refine LoopP.inv (fun q w => ∃ (t : Sl) (i : Nat), q = (t, (i : Int)) ∧ i ≤ l.length ∧ Holds E w (ownS 36 4 t ((l.take i).flatMap encI) :: L)) (fun q _ => l.length - q.2.toNat) ⟨⟨none, 0, 0⟩, 0, rfl, by omega, by simpa using h.own_nil⟩ ?_
  rintro next q w ⟨t, i, rfl, hi, h⟩ hnext
  refine AnyP.go fun _ => CondP.mk' (fun hc => ?_) (fun hc => ?_)
  · have hc : i < l.length := by have : (i : Int) < s.len := cT hc; omega
    refine DrewP.go h fun w h => ?_
    refine val_idx (hr w h.drop) encI_len (by omega) hc (T := 42) (Te := 31) (by kernel_rfl) (by kernel_rfl) fun a0 ha0 hs0 => ?_
    refine get_fld l[i].1 (hr w h.drop) encI_len ha0 hs0 hc (by omega) (by kernel_rfl) rfl ?_
    refine val_idx (hr w h.drop) encI_len (by omega) hc (T := 42) (Te := 31) (by kernel_rfl) (by kernel_rfl) fun a1 ha1 hs1 => ?_
    refine get_fld l[i].2.1 (hr w h.drop) encI_len ha1 hs1 hc (by omega) (by kernel_rfl) rfl ?_
    refine val_idx (hr w h.drop) encI_len (by omega) hc (T := 42) (Te := 31) (by kernel_rfl) (by kernel_rfl) fun a2 ha2 hs2 => ?_
    refine get_fld l[i].2.2.1 (hr w h.drop) encI_len ha2 hs2 hc (by omega) (by kernel_rfl) rfl ?_
    refine val_idx (hr w h.drop) encI_len (by omega) hc (T := 42) (Te := 31) (by kernel_rfl) (by kernel_rfl) fun a3 ha3 hs3 => ?_
    refine get_fld l[i].2.2.2.1 (hr w h.drop) encI_len ha3 hs3 hc (by omega) (by kernel_rfl) rfl ?_
    refine do_build (Te := 36) (sz := 4) (len := 1) ([l[i]].flatMap encI) h (by kernel_rfl) rfl fun t2 w ht2 h => ?_
    refine chk_fld (hr w h.drop.drop) encI_len ha0 hs0 hc (by omega) (by kernel_rfl) rfl ?_
    refine chk_fld (hr w h.drop.drop) encI_len ha1 hs1 hc (by omega) (by kernel_rfl) rfl ?_
    refine chk_fld (hr w h.drop.drop) encI_len ha2 hs2 hc (by omega) (by kernel_rfl) rfl ?_
    refine chk_fld (hr w h.drop.drop) encI_len ha3 hs3 hc (by omega) (by kernel_rfl) rfl ?_
    refine append_part (Te := 36) (Te2 := 36) h.swap encI_len encI_na (by omega) (by kernel_rfl) (by kernel_rfl) elemR (by omega) h.reads_own (by simp; omega) fun s1 w hs1' h => ?_
    refine chk_fld (hr w h.drop.drop) encI_len ha0 hs0 hc (by omega) (by kernel_rfl) rfl ?_
    refine chk_fld (hr w h.drop.drop) encI_len ha1 hs1 hc (by omega) (by kernel_rfl) rfl ?_
    refine chk_fld (hr w h.drop.drop) encI_len ha2 hs2 hc (by omega) (by kernel_rfl) rfl ?_
    refine chk_fld (hr w h.drop.drop) encI_len ha3 hs3 hc (by omega) (by kernel_rfl) rfl ?_
    rw [show IntKind.i64.wrap ((i : Int) + 1) = ((i + 1 : Nat) : Int) by rw [wrap_in _ (by omega)]; omega]
    refine hnext _ _ ⟨s1, i + 1, rfl, by omega, ?_⟩ (by simp only; omega)
    rw [← List.take_append_getElem hc]
    exact h.sub (by repeat (first | exact Sub.done | refine Sub.take (by first | exact .head | exact (.tail .head) | exact (.tail (.tail .head)) | exact (.tail (.tail (.tail .head))) | exact (.tail (.tail (.tail (.tail .head)))) | exact (.tail (.tail (.tail (.tail (.tail .head))))) | exact (.tail (.tail (.tail (.tail (.tail (.tail .head)))))) | exact (.tail (.tail (.tail (.tail (.tail (.tail (.tail .head))))))) | exact (.tail (.tail (.tail (.tail (.tail (.tail (.tail (.tail .head))))))))) ?_ | refine Sub.skip ?_))
  · have hc : i = l.length := by have : ¬ (i : Int) < s.len := cF hc; omega
    rw [hc, List.take_length] at h
    exact hk _ _ h
end
end Go.Proofs.Ytoaalegieaocbaa
