/- The document's answer for the index: the order of keys, find, and what changes it. -/
import Derived.Test.YtoaalegieaocbaaIxLaw4
namespace Go.Proofs.Ytoaalegieaocbaa
open Go.Sh
attribute [local irreducible] pto rob old ownS roS hstar hex hpure hemp mapB hro IxB

/-- the items in a row, at r -/
def RfB (r : Nat) (l : List Item) : HProp := hex fun s : Sl => hstar (pto r (.cells #[.slice s.a s.len s.cap] 55 (0, 0))) (ownS 36 4 s (l.flatMap encI))

section
variable {E w : World} {L L' : List HProp}

theorem RfB.opened {r : Nat} {l : List Item} (h : Holds E w (RfB r l :: L)) : ∃ s, Holds E w (pto r (.cells #[.slice s.a s.len s.cap] 55 (0, 0)) :: ownS 36 4 s (l.flatMap encI) :: L) := by
  obtain ⟨s, h⟩ := h.ex_out
  exact ⟨s, h.star_out⟩
theorem RfB.closed {r : Nat} {l : List Item} {s : Sl} (h : Holds E w (pto r (.cells #[.slice s.a s.len s.cap] 55 (0, 0)) :: ownS 36 4 s (l.flatMap encI) :: L)) : Holds E w (RfB r l :: L) := Holds.ex_in s h.star_in

theorem rnew_spec {W : Int} {k : Option Addr × Int × Unit → Pr} (h : Holds E w L) (hbad : ¬ (2 ≤ W ∧ W ≤ 100) → ∀ r w', Holds E w' (RfB r [] :: L) → k (some ⟨r, 0, none⟩, 1, ()) w')
    (hok : 2 ≤ W → W ≤ 100 → ∀ r w', Holds E w' (RfB r [] :: L) → k (some ⟨r, 0, none⟩, 0, ()) w') :
    CallP Try.prog 11 #[.int .i64 W] (.tup [.leaf .ptr, .leaf (.int .i64)]) k w := by
  refine rd11 _ _ _ ?_
  unfold sh11
  have new : ∀ (k2 : Addr → Pr), (∀ r w', Holds E w' (RfB r [] :: L) → k2 ⟨r, 0, none⟩ w') → DoP Try.prog (vN (Instr.box 55 (.agg #[.slice none 0 0]))) tAddr k2 w := fun k2 hk2 => by
    refine do_box h fun r w h => hk2 r w ?_
    exact RfB.closed (s := ⟨none, 0, 0⟩) ((h.own_nil (T := 36) (sz := 4)).sub (Sub.take .two (Sub.take .head Sub.done)))
  refine JoinP.go (CondP.mk' (fun hc => AnyP.go fun _ => CondP.yes rfl (new _ fun r w h => hbad (fun hh => by have := cT hc; omega) r w h)) (fun hc => AnyP.go fun _ => CondP.mk' (fun hc2 => new _ fun r w h => hbad (fun hh => by have := cT hc2; omega) r w h) (fun hc2 => new _ fun r w h => ?_)))
  have hc := cF hc
  have hc2 := cF hc2
  exact hok (by omega) (by omega) r w h

/-! ### the order of keys -/
def cmpB (a b : List UInt8) : Int := if Op.bytesLess a b = true then -1 else if a = b then 0 else 1

theorem val_byte {T : TypeId} {s : ByteArray} {i : Nat} {k : Int → Pr} (hT : Try.prog.underlying T = some .string) (hi : i < s.toList.length) (hk : k (s.toList[i].toNat : Int) w) :
    ValP Try.prog (vN (Instr.index T (.string s) (.int .i64 i))) (.one (.leaf (.int .u8))) k w := by
  have hsz : s.toList.length = s.size := by rw [ByteArray.toList_eq]; cases s; rfl
  refine ⟨_, fun w => run_vN ?_, hk⟩
  rw [run_index_string w T s .i64 i hT, dif_pos ⟨by omega, by omega⟩]
  have : (s[(i : Int).toNat]'(by show i < s.size; omega)) = s.toList[i] := by
    simp only [ByteArray.toList_eq, Array.getElem_toList]
    cases s; rfl
  rw [this]; rfl

theorem bl_pre : ∀ (p x y : List UInt8), Op.bytesLess (p ++ x) (p ++ y) = Op.bytesLess x y
  | [], _, _ => rfl
  | a :: p, x, y => by simp only [List.cons_append, Op.bytesLess, bl_pre p x y]; simp
theorem cmp_pre (p x y : List UInt8) : cmpB (p ++ x) (p ++ y) = cmpB x y := by
  unfold cmpB; rw [bl_pre]
  by_cases h : x = y
  · subst h; simp
  · rw [if_neg (show ¬ p ++ x = p ++ y from fun hh => h (List.append_cancel_left hh)), if_neg h]

theorem bytes_spec {a b : ByteArray} {k : Int → Pr} (h : Holds E w L) (hbs : b.size ≤ 1000000) (hk : ∀ w', Holds E w' L → k (cmpB a.toList b.toList) w') : CallP Try.prog 48 #[.string a, .string b] tInt k w := by
  have ha : a.toList.length = a.size := by rw [ByteArray.toList_eq]; cases a; rfl
  have hb : b.toList.length = b.size := by rw [ByteArray.toList_eq]; cases b; rfl
  refine rd48 _ _ _ _ ?_
  unfold sh48
  refine LoopP.inv (fun t w => ∃ i : Nat, t = i ∧ i ≤ a.toList.length ∧ i ≤ b.toList.length ∧ a.toList.take i = b.toList.take i ∧ Holds E w L) (fun t _ => b.toList.length - t.toNat) ⟨0, rfl, by omega, by omega, rfl, h⟩ ?_
  rintro next t w ⟨i, rfl, hia, hib, hp, h⟩ hnext
  have hcmp : cmpB a.toList b.toList = cmpB (a.toList.drop i) (b.toList.drop i) := by
    conv => lhs; rw [← List.take_append_drop i a.toList, ← List.take_append_drop i b.toList, hp]
    exact cmp_pre _ _ _
  refine AnyP.go fun _ => JoinP.via (fun q w => q = decide (i < a.toList.length ∧ i < b.toList.length) ∧ Holds E w L) ?_ fun J hJ => CondP.mk' (fun hc => hJ _ _ ⟨?_, h⟩) (fun hc => hJ _ _ ⟨?_, h⟩)
  rotate_left
  · have hc := cT hc
    exact decide_eq_decide.2 ⟨fun h => ⟨by omega, by omega⟩, fun h => by omega⟩
  · have hc := cF hc
    exact (decide_eq_false (fun h => by omega)).symm
  rintro _ w ⟨rfl, h⟩
  refine AnyP.go fun _ => CondP.mk' (fun hc => ?_) (fun hc => ?_)
  · obtain ⟨h1, h2⟩ : i < a.toList.length ∧ i < b.toList.length := cT hc
    refine DrewP.go h fun w h => ?_
    refine val_byte Try.underlying9 h1 ?_
    refine val_byte Try.underlying9 h2 ?_
    have e1 := List.drop_eq_getElem_cons h1
    have e2 := List.drop_eq_getElem_cons h2
    refine CondP.mk' (fun hd => ?_) (fun hd => ?_)
    · have hd : ((a.toList[i].toNat : Nat) : Int) ≠ b.toList[i].toNat := neT hd
      have hne : a.toList[i] ≠ b.toList[i] := fun h => hd (by rw [h])
      refine DrewP.go h fun w h => ?_
      refine val_byte Try.underlying9 h1 ?_
      refine val_byte Try.underlying9 h2 ?_
      rw [hcmp, e1, e2] at hk
      refine CondP.mk' (fun hl => ?_) (fun hl => ?_)
      · have hl : a.toList[i] < b.toList[i] := UInt8.lt_iff_toNat_lt.2 (by have : ((a.toList[i].toNat : Nat) : Int) < b.toList[i].toNat := cT hl; omega)
        have : cmpB (a.toList[i] :: a.toList.drop (i + 1)) (b.toList[i] :: b.toList.drop (i + 1)) = -1 := by
          unfold cmpB; rw [if_pos (by simp [Op.bytesLess, hl])]
        rw [this] at hk
        exact hk _ h
      · have hl : ¬ a.toList[i] < b.toList[i] := fun hh => cF hl (by have := UInt8.lt_iff_toNat_lt.1 hh; show ((a.toList[i].toNat : Nat) : Int) < b.toList[i].toNat; omega)
        have : cmpB (a.toList[i] :: a.toList.drop (i + 1)) (b.toList[i] :: b.toList.drop (i + 1)) = 1 := by
          unfold cmpB; rw [if_neg (by simp [Op.bytesLess, hl, hne]), if_neg fun hh => hne (List.cons.inj hh).1]
        rw [this] at hk
        exact hk _ h
    · have hd : ((a.toList[i].toNat : Nat) : Int) = b.toList[i].toNat := neF hd
      have he : a.toList[i] = b.toList[i] := UInt8.toNat_inj.1 (by omega)
      rw [show IntKind.i64.wrap ((i : Int) + 1) = ((i + 1 : Nat) : Int) by rw [wrap_in _ (by omega)]; omega]
      refine hnext _ _ ⟨i + 1, rfl, by omega, by omega, ?_, h⟩ (by omega)
      rw [← List.take_append_getElem h1, ← List.take_append_getElem h2, hp, he]
  · have hc : ¬ (i < a.toList.length ∧ i < b.toList.length) := cF hc
    rw [hcmp] at hk
    have l1 : (a.toList.drop i).length = a.size - i := by rw [List.length_drop, ha]
    have l2 : (b.toList.drop i).length = b.size - i := by rw [List.length_drop, hb]
    refine CondP.mk' (fun hd => ?_) (fun hd => ?_)
    · have hd : (a.size : Int) = b.size := eqT hd
      have e1 : a.toList.drop i = [] := List.eq_nil_of_length_eq_zero (by omega)
      have e2 : b.toList.drop i = [] := List.eq_nil_of_length_eq_zero (by omega)
      rw [e1, e2] at hk
      exact hk _ h
    have hd : (a.size : Int) ≠ b.size := eqF hd
    refine CondP.mk' (fun hl => ?_) (fun hl => ?_)
    · have hl : (a.size : Int) < b.size := cT hl
      have e1 : a.toList.drop i = [] := List.eq_nil_of_length_eq_zero (by omega)
      cases e2 : b.toList.drop i with
      | nil => rw [e2] at l2; simp at l2; omega
      | cons y ys => rw [e1, e2] at hk; exact hk _ h
    · have hl : ¬ (a.size : Int) < b.size := cF hl
      have e2 : b.toList.drop i = [] := List.eq_nil_of_length_eq_zero (by omega)
      cases e1 : a.toList.drop i with
      | nil => rw [e1] at l1; simp at l1; omega
      | cons y ys =>
        rw [e1, e2] at hk
        exact hk _ h

theorem cmp_lt (a b : List UInt8) : decide (cmpB a b < 0) = Op.bytesLess a b := by
  unfold cmpB
  cases h : Op.bytesLess a b with
  | true => rfl
  | false => simp only [Bool.false_eq_true, if_false]; split <;> rfl
theorem cmp_eq (a b : List UInt8) : (cmpB a b == 0) = (a == b) := by
  unfold cmpB
  cases h : Op.bytesLess a b with
  | true =>
    simp only [if_true]
    have : a ≠ b := by rintro rfl; rw [bl_irrefl] at h; cases h
    rw [beq_eq_false_iff_ne.2 this]; rfl
  | false =>
    simp only [Bool.false_eq_true, if_false]
    by_cases he : a = b
    · rw [if_pos he, beq_iff_eq.2 he]; rfl
    · rw [if_neg he, beq_eq_false_iff_ne.2 he]; rfl

theorem rahead_spec {x : Item} {key : ByteArray} {st : Int} {k : Bool → Pr} (h : Holds E w L) (hbs : key.size ≤ 1000000) (hk : ∀ w', Holds E w' L → k (lt x key st) w') :
    CallP Try.prog 46 #[.agg #[.string x.1, .int .i64 x.2.1, .int .i64 x.2.2.1, .int .i64 x.2.2.2.1], .string key, .int .i64 st] tBool k w := by
  refine rd46 _ _ _ _ _ ?_
  unfold sh46
  refine do_box h fun b1 w h => ?_
  refine get_ld h rfl (by first | exact .head | exact (.tail .head) | exact (.tail (.tail .head)) | exact (.tail (.tail (.tail .head))) | exact (.tail (.tail (.tail (.tail .head)))) | exact (.tail (.tail (.tail (.tail (.tail .head))))) | exact (.tail (.tail (.tail (.tail (.tail (.tail .head)))))) | exact (.tail (.tail (.tail (.tail (.tail (.tail (.tail .head))))))) | exact (.tail (.tail (.tail (.tail (.tail (.tail (.tail (.tail .head))))))))) (by kernel_rfl) (x := x.1) rfl ?_
  refine bytes_spec h hbs fun w h => ?_
  have hk := hk w h.drop
  unfold lt at hk
  rw [← cmp_lt, ← cmp_eq] at hk
  generalize cmpB x.1.toList key.toList = c at *
  refine JoinP.go (CondP.mk' (fun hb => AnyP.go fun _ => ?_) (fun hb => ?_))
  · rw [hb] at hk; exact hk
  rw [hb, Bool.false_or] at hk
  refine JoinP.go (CondP.mk' (fun hb => ?_) (fun hb => AnyP.go fun _ => AnyP.go fun _ => ?_))
  · refine get_ld h rfl (by first | exact .head | exact (.tail .head) | exact (.tail (.tail .head)) | exact (.tail (.tail (.tail .head))) | exact (.tail (.tail (.tail (.tail .head)))) | exact (.tail (.tail (.tail (.tail (.tail .head))))) | exact (.tail (.tail (.tail (.tail (.tail (.tail .head)))))) | exact (.tail (.tail (.tail (.tail (.tail (.tail (.tail .head))))))) | exact (.tail (.tail (.tail (.tail (.tail (.tail (.tail (.tail .head))))))))) (by kernel_rfl) (x := x.2.1) rfl ?_
    rw [hb, Bool.true_and] at hk
    exact AnyP.go fun _ => AnyP.go fun _ => hk
  · rw [hb, Bool.false_and] at hk; exact hk

theorem among_spec {x lo hi : ByteArray} {k : Bool → Pr} (h : Holds E w L) (h1 : lo.size ≤ 1000000) (h2 : hi.size ≤ 1000000) (hk : ∀ w', Holds E w' L → k (!(Op.bytesLess x.toList lo.toList || (!(hi.toList == (⟨#[]⟩ : ByteArray).toList) && !Op.bytesLess x.toList hi.toList))) w') :
    CallP Try.prog 43 #[.string x, .string lo, .string hi] tBool k w := by
  refine rd43 _ _ _ _ _ ?_
  unfold sh43
  refine bytes_spec h h1 fun w h => ?_
  rw [← cmp_lt x.toList lo.toList] at hk
  generalize cmpB x.toList lo.toList = c at *
  refine JoinP.go (CondP.mk' (fun hb => ?_) (fun hb => AnyP.go fun _ => ?_))
  · have hb : ¬ c < 0 := by have : c ≥ 0 := cT hb; omega
    rw [decide_eq_false hb, Bool.false_or] at hk
    refine JoinP.go (CondP.mk' (fun hb => AnyP.go fun _ => AnyP.go fun _ => ?_) (fun hb => ?_))
    · rw [hb] at hk; exact hk _ h
    · rw [hb] at hk
      refine bytes_spec h h2 fun w h => AnyP.go fun _ => AnyP.go fun _ => ?_
      rw [cmp_lt]
      have := hk _ h
      simpa using this
  · have hb : c < 0 := by have : ¬ c ≥ 0 := cF hb; omega
    rw [decide_eq_true hb] at hk
    exact hk _ h
end
end Go.Proofs.Ytoaalegieaocbaa
