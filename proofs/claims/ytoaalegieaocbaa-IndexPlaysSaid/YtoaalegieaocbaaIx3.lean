/- The index: what holds of it, and find. -/
import Derived.Test.YtoaalegieaocbaaIx2
namespace Go.Proofs.Ytoaalegieaocbaa
open Go.Sh
attribute [local irreducible] pto rob old ownS roS hstar hex hpure hemp mapB hro

theorem twl_eq {α : Type} {p : α → Bool} : ∀ {l : List α} {n : Nat}, n ≤ l.length → (∀ j (h : j < l.length), j < n → p l[j] = true) → (∀ h : n < l.length, p l[n] = false) → (l.takeWhile p).length = n
  | [], n, hn, _, _ => by simp at hn; simp [hn]
  | x :: l, 0, _, _, h2 => by
    have := h2 (by simp)
    simp only [List.getElem_cons_zero] at this
    rw [List.takeWhile_cons, if_neg (by rw [this]; simp)]; rfl
  | x :: l, n + 1, hn, h1, h2 => by
    have h0 := h1 0 (by simp) (by omega)
    simp only [List.getElem_cons_zero] at h0
    rw [List.takeWhile_cons, if_pos h0, List.length_cons, twl_eq (l := l) (n := n) (by simpa using hn) (fun j hj hjn => by
      have := h1 (j + 1) (by simpa using hj) (by omega)
      simpa using this) (fun h => by
      have := h2 (by simpa using h)
      simpa using this)]

abbrev Bl := List (Sl × List Item)
def roP (p : Sl × List Item) : Sl × List Value := (p.1, p.2.flatMap encI)
def xcells (W : Int) (s : Sl) : Array Value := #[.int .i64 W, .slice s.a s.len s.cap]
/-- the index at d: its width, and its blocks -/
def IxB (d : Nat) (W : Int) (bs : List (List Item)) : HProp := hex fun g : Sl × Bl =>
  hstar (hpure (g.2.map (·.2) = bs)) (hstar (pto d (.cells (xcells W g.1) 68 (0, 0))) (hstar (ownS 74 2 g.1 (g.2.flatMap encB)) (hro 4 (g.2.map roP))))

section
variable {E w : World} {L L' : List HProp}

theorem IxB.opened {d : Nat} {W : Int} {bs : List (List Item)} (h : Holds E w (IxB d W bs :: L)) :
    ∃ (s : Sl) (bl : Bl), bl.map (·.2) = bs ∧ Holds E w (pto d (.cells (xcells W s) 68 (0, 0)) :: ownS 74 2 s (bl.flatMap encB) :: hro 4 (bl.map roP) :: L) := by
  obtain ⟨⟨s, bl⟩, h⟩ := h.ex_out
  obtain ⟨hp, h⟩ := h.star_out.pure_out
  exact ⟨s, bl, hp, h.star3_out⟩
theorem IxB.closed {d : Nat} {W : Int} {s : Sl} {bl : Bl} (h : Holds E w (pto d (.cells (xcells W s) 68 (0, 0)) :: ownS 74 2 s (bl.flatMap encB) :: hro 4 (bl.map roP) :: L)) : Holds E w (IxB d W (bl.map (·.2)) :: L) :=
  Holds.ex_in (s, bl) (Holds.star_in (Holds.pure_in rfl h.star3_in))

theorem hro_items {bl : Bl} (h : Holds E w (hro 4 (bl.map roP) :: L)) {i : Nat} (hi : i < bl.length) : Reads w bl[i].1 4 (bl[i].2.flatMap encI) ∧ bl[i].1.len ≤ bl[i].1.cap :=
  h.hro_reads (List.mem_map.2 ⟨bl[i], List.getElem_mem hi, rfl⟩)
end

/-! ### find -/
def hlt (k : ByteArray) (s : Int) : List Item → Bool
  | [] => false
  | i :: _ => lt i k (IntKind.i64.wrap (s + 1))
def findB (bs : List (List Item)) (k : ByteArray) (s : Int) : Nat := ((bs.drop 1).takeWhile (hlt k s)).length
def findK (l : List Item) (k : ByteArray) (s : Int) : Nat := (l.takeWhile fun i => lt i k s).length
def isAt (l : List Item) (n : Nat) (k : ByteArray) (s : Int) : Bool := match l[n]? with
  | some i => i.1.toList == k.toList && i.2.1 == s
  | none => false
def findM (bs : List (List Item)) (k : ByteArray) (s : Int) : Nat × Nat × Bool :=
  match bs[findB bs k s]? with
  | some l => (findB bs k s, findK l k s, isAt l (findK l k s) k s)
  | none => (0, 0, false)

theorem hlt_of {k : ByteArray} {s : Int} {l : List Item} (h : 0 < l.length) : hlt k s l = lt l[0] k (IntKind.i64.wrap (s + 1)) := by
  cases l with
  | nil => simp at h
  | cons i l => rfl

section
variable {E w : World} {L L' : List HProp}

set_option maxHeartbeats 1000000 in
theorem find_spec {d : Nat} {W : Int} {bs : List (List Item)} {p : ByteArray × Int × Unit} {k : Int × Int × Bool × Unit → Pr} (h : Holds E w (IxB d W bs :: L)) (hne : ∀ b ∈ bs, b ≠ []) (hb : bs.length ≤ 1073741824) (hbl : ∀ b ∈ bs, b.length ≤ 1073741824)
    (hk : ∀ w', Holds E w' (IxB d W bs :: L) → k ((findM bs p.1 p.2.1).1, (findM bs p.1 p.2.1).2.1, (findM bs p.1 p.2.1).2.2, ()) w') :
    CallP Try.prog 35 #[.pointer (some ⟨d, 0, none⟩), .agg #[.string p.1, .int .i64 p.2.1]] (.tup [.leaf (.int .i64), .leaf (.int .i64), .leaf .bool]) k w := by
  replace h := IxB.opened h
  obtain ⟨s, bl, rfl, h⟩ := h
  have hbl' : ∀ i (hi : i < bl.length), bl[i].2 ≠ [] ∧ bl[i].2.length ≤ 1073741824 := fun i hi => ⟨hne _ (List.mem_map.2 ⟨_, List.getElem_mem hi, rfl⟩), hbl _ (List.mem_map.2 ⟨_, List.getElem_mem hi, rfl⟩)⟩
  rw [List.length_map] at hb
  refine rd35 _ _ _ _ ?_
  unfold sh35
  refine do_box h fun b3 w h => ?_
  have hB : Oracle E (pto b3 (.cells (Value.agg #[.string p.1, .int .i64 p.2.1]).cells 79 (0, 0)) :: pto d (.cells (xcells W s) 68 (0, 0)) :: ownS 74 2 s (bl.flatMap encB) :: hro 4 (bl.map roP) :: L) s 2 (bl.flatMap encB) :=
    fun w h => (h.pick (.tail (.tail .head))).reads_own
  have hI : ∀ i (hi : i < bl.length), Oracle E (pto b3 (.cells (Value.agg #[.string p.1, .int .i64 p.2.1]).cells 79 (0, 0)) :: pto d (.cells (xcells W s) 68 (0, 0)) :: ownS 74 2 s (bl.flatMap encB) :: hro 4 (bl.map roP) :: L) bl[i].1 4 (bl[i].2.flatMap encI) :=
    fun i hi w h => (hro_items (h.pick (.tail (.tail (.tail .head)))) hi).1
  have hsl := (hB w h).len_eq encB_len (by omega)
  refine LoopP.inv (fun t w => ∃ n : Nat, t = n ∧ (n = 0 ∨ n < bl.length) ∧ (∀ j (hj : j + 1 < bl.length), j < n → hlt p.1 p.2.1 bl[j + 1].2 = true) ∧ Holds E w (pto b3 (.cells (Value.agg #[.string p.1, .int .i64 p.2.1]).cells 79 (0, 0)) :: pto d (.cells (xcells W s) 68 (0, 0)) :: ownS 74 2 s (bl.flatMap encB) :: hro 4 (bl.map roP) :: L)) (fun t _ => bl.length - t.toNat)
    ⟨0, rfl, .inl rfl, fun j _ hj => absurd hj (Nat.not_lt_zero _), h⟩ ?_
  rintro next t w ⟨n, rfl, hn, hall, h⟩ hnext
  refine AnyP.go fun _ => DrewP.go h fun w h => ?_
  refine val_nil ?_
  refine get_ld h rfl (by first | exact .head | exact (.tail .head) | exact (.tail (.tail .head)) | exact (.tail (.tail (.tail .head))) | exact (.tail (.tail (.tail (.tail .head)))) | exact (.tail (.tail (.tail (.tail (.tail .head))))) | exact (.tail (.tail (.tail (.tail (.tail (.tail .head)))))) | exact (.tail (.tail (.tail (.tail (.tail (.tail (.tail .head))))))) | exact (.tail (.tail (.tail (.tail (.tail (.tail (.tail (.tail .head))))))))) (by kernel_rfl) (x := s) rfl ?_
  have hw : IntKind.i64.wrap ((s.len : Int) - 1) = (bl.length : Int) - 1 := by rw [wrap_in _ (by omega), hsl]
  rw [hw]
  have hw1 : IntKind.i64.wrap ((n : Int) + 1) = ((n + 1 : Nat) : Int) := by rw [wrap_in _ (by omega)]; omega
  refine CondP.mk' (fun hc => ?_) (fun hc => ?_)
  focus
    have hc : n + 1 < bl.length := by have := cT hc; omega
    refine val_nil ?_
    refine get_ld h rfl (by first | exact .head | exact (.tail .head) | exact (.tail (.tail .head)) | exact (.tail (.tail (.tail .head))) | exact (.tail (.tail (.tail (.tail .head)))) | exact (.tail (.tail (.tail (.tail (.tail .head))))) | exact (.tail (.tail (.tail (.tail (.tail (.tail .head)))))) | exact (.tail (.tail (.tail (.tail (.tail (.tail (.tail .head))))))) | exact (.tail (.tail (.tail (.tail (.tail (.tail (.tail (.tail .head))))))))) (by kernel_rfl) (x := s) rfl ?_
    rw [hw1]
    refine val_idx (hB w h) encB_len (by omega) hc (T := 66) (Te := 74) (by kernel_rfl) (by kernel_rfl) fun a0 ha0 hs0 => ?_
    refine get_fld bl[n + 1].1 (hB w h) encB_len ha0 hs0 hc (by omega) (by kernel_rfl) rfl ?_
    have h0 : 0 < bl[n + 1].2.length := List.length_pos_iff.2 (hbl' _ hc).1
    refine val_idx (i := 0) (hI _ hc w h) encI_len (by omega) h0 (T := 72) (Te := 31) (by kernel_rfl) (by kernel_rfl) fun a1 ha1 hs1 => ?_
    refine get_elt (i := 0) bl[n + 1].2[0] (hI _ hc w h) encI_len ha1 h0 (by kernel_rfl) (by kernel_rfl) rfl ?_
    refine get_ld h rfl (by first | exact .head | exact (.tail .head) | exact (.tail (.tail .head)) | exact (.tail (.tail (.tail .head))) | exact (.tail (.tail (.tail (.tail .head)))) | exact (.tail (.tail (.tail (.tail (.tail .head))))) | exact (.tail (.tail (.tail (.tail (.tail (.tail .head)))))) | exact (.tail (.tail (.tail (.tail (.tail (.tail (.tail .head))))))) | exact (.tail (.tail (.tail (.tail (.tail (.tail (.tail (.tail .head))))))))) (by kernel_rfl) (x := p.1) rfl ?_
    refine get_ld h rfl (by first | exact .head | exact (.tail .head) | exact (.tail (.tail .head)) | exact (.tail (.tail (.tail .head))) | exact (.tail (.tail (.tail (.tail .head)))) | exact (.tail (.tail (.tail (.tail (.tail .head))))) | exact (.tail (.tail (.tail (.tail (.tail (.tail .head)))))) | exact (.tail (.tail (.tail (.tail (.tail (.tail (.tail .head))))))) | exact (.tail (.tail (.tail (.tail (.tail (.tail (.tail (.tail .head))))))))) (by kernel_rfl) (x := p.2.1) rfl ?_
    refine ahead_spec (p := (p.1, IntKind.i64.wrap (p.2.1 + 1), ())) h fun w h => ?_
    refine chk_ld h rfl (by first | exact .head | exact (.tail .head) | exact (.tail (.tail .head)) | exact (.tail (.tail (.tail .head))) | exact (.tail (.tail (.tail (.tail .head)))) | exact (.tail (.tail (.tail (.tail (.tail .head))))) | exact (.tail (.tail (.tail (.tail (.tail (.tail .head)))))) | exact (.tail (.tail (.tail (.tail (.tail (.tail (.tail .head))))))) | exact (.tail (.tail (.tail (.tail (.tail (.tail (.tail (.tail .head))))))))) (by kernel_rfl) rfl ?_
    refine chk_ld h rfl (by first | exact .head | exact (.tail .head) | exact (.tail (.tail .head)) | exact (.tail (.tail (.tail .head))) | exact (.tail (.tail (.tail (.tail .head)))) | exact (.tail (.tail (.tail (.tail (.tail .head))))) | exact (.tail (.tail (.tail (.tail (.tail (.tail .head)))))) | exact (.tail (.tail (.tail (.tail (.tail (.tail (.tail .head))))))) | exact (.tail (.tail (.tail (.tail (.tail (.tail (.tail (.tail .head))))))))) (by kernel_rfl) rfl ?_
    refine chk_fld (hB w h) encB_len ha0 hs0 hc (by omega) (by kernel_rfl) rfl ?_
    refine chk_ld h rfl (by first | exact .head | exact (.tail .head) | exact (.tail (.tail .head)) | exact (.tail (.tail (.tail .head))) | exact (.tail (.tail (.tail (.tail .head)))) | exact (.tail (.tail (.tail (.tail (.tail .head))))) | exact (.tail (.tail (.tail (.tail (.tail (.tail .head)))))) | exact (.tail (.tail (.tail (.tail (.tail (.tail (.tail .head))))))) | exact (.tail (.tail (.tail (.tail (.tail (.tail (.tail (.tail .head))))))))) (by kernel_rfl) rfl ?_
    refine chk_ld h rfl (by first | exact .head | exact (.tail .head) | exact (.tail (.tail .head)) | exact (.tail (.tail (.tail .head))) | exact (.tail (.tail (.tail (.tail .head)))) | exact (.tail (.tail (.tail (.tail (.tail .head))))) | exact (.tail (.tail (.tail (.tail (.tail (.tail .head)))))) | exact (.tail (.tail (.tail (.tail (.tail (.tail (.tail .head))))))) | exact (.tail (.tail (.tail (.tail (.tail (.tail (.tail (.tail .head))))))))) (by kernel_rfl) rfl ?_
    have hhd := hlt_of (k := p.1) (s := p.2.1) h0
    refine CondP.mk' (fun ha => ?_) (fun ha => ?_)
    · refine hnext _ _ ⟨n + 1, rfl, .inr hc, fun j hj hjn => ?_, h⟩ (by omega)
      by_cases hj' : j = n
      · subst hj'; rw [hhd]; exact ha
      · exact hall j hj (by omega)
    have hstop : ∀ hj : n + 1 < bl.length, hlt p.1 p.2.1 bl[n + 1].2 = false := fun _ => by rw [hhd]; exact ha
  rotate_left
  focus
    have hc : ¬ n + 1 < bl.length := by have := cF hc; omega
    refine CondP.no rfl ?_
    have hstop : ∀ hj : n + 1 < bl.length, hlt p.1 p.2.1 bl[n + 1].2 = false := fun h => absurd h hc
  all_goals
    have hfind : n < bl.length → findB (bl.map (·.2)) p.1 p.2.1 = n := by
      intro hlt
      refine twl_eq (by simp; omega) (fun j hj hjn => ?_) (fun hj => ?_)
      · have := hall j (by simpa [Nat.lt_sub_iff_add_lt] using hj) hjn
        simpa [Nat.add_comm] using this
      · have := hstop (by simpa [Nat.lt_sub_iff_add_lt] using hj)
        simpa [Nat.add_comm] using this
    clear hstop hnext hall
    refine val_nil ?_
    refine get_ld h rfl (by first | exact .head | exact (.tail .head) | exact (.tail (.tail .head)) | exact (.tail (.tail (.tail .head))) | exact (.tail (.tail (.tail (.tail .head)))) | exact (.tail (.tail (.tail (.tail (.tail .head))))) | exact (.tail (.tail (.tail (.tail (.tail (.tail .head)))))) | exact (.tail (.tail (.tail (.tail (.tail (.tail (.tail .head))))))) | exact (.tail (.tail (.tail (.tail (.tail (.tail (.tail (.tail .head))))))))) (by kernel_rfl) (x := s) rfl ?_
    refine CondP.mk' (fun hz => ?_) (fun hz => ?_)
    · have hz : n = s.len := by have := eqT hz; omega
      have hnil : bl = [] := List.eq_nil_of_length_eq_zero (by omega)
      have e : findM (bl.map (·.2)) p.1 p.2.1 = (0, 0, false) := by rw [hnil]; rfl
      rw [e] at hk
      exact hk _ (IxB.closed (h.sub (by repeat (first | exact Sub.done | refine Sub.take (by first | exact .head | exact (.tail .head) | exact (.tail (.tail .head)) | exact (.tail (.tail (.tail .head))) | exact (.tail (.tail (.tail (.tail .head)))) | exact (.tail (.tail (.tail (.tail (.tail .head))))) | exact (.tail (.tail (.tail (.tail (.tail (.tail .head)))))) | exact (.tail (.tail (.tail (.tail (.tail (.tail (.tail .head))))))) | exact (.tail (.tail (.tail (.tail (.tail (.tail (.tail (.tail .head))))))))) ?_ | refine Sub.skip ?_))))
    have hnb : n < bl.length := by have := eqF hz; omega
    have hfind := hfind hnb
    have hM : findM (bl.map (·.2)) p.1 p.2.1 = (n, findK bl[n].2 p.1 p.2.1, isAt bl[n].2 (findK bl[n].2 p.1 p.2.1) p.1 p.2.1) := by
      unfold findM
      rw [hfind]
      simp [hnb]
    rw [hM] at hk
    clear hM hfind
    refine val_nil ?_
    refine get_ld h rfl (by first | exact .head | exact (.tail .head) | exact (.tail (.tail .head)) | exact (.tail (.tail (.tail .head))) | exact (.tail (.tail (.tail (.tail .head)))) | exact (.tail (.tail (.tail (.tail (.tail .head))))) | exact (.tail (.tail (.tail (.tail (.tail (.tail .head)))))) | exact (.tail (.tail (.tail (.tail (.tail (.tail (.tail .head))))))) | exact (.tail (.tail (.tail (.tail (.tail (.tail (.tail (.tail .head))))))))) (by kernel_rfl) (x := s) rfl ?_
    refine val_idx (hB w h) encB_len (by omega) hnb (T := 66) (Te := 74) (by kernel_rfl) (by kernel_rfl) fun a0 ha0 hs0 => ?_
    refine get_fld bl[n].1 (hB w h) encB_len ha0 hs0 hnb (by omega) (by kernel_rfl) rfl ?_
    have hil := (hI _ hnb w h).len_eq encI_len (by omega)
    have hmax := (hbl' _ hnb).2
    refine LoopP.inv (fun t w => ∃ m : Nat, t = m ∧ m ≤ bl[n].2.length ∧ (∀ j (hj : j < bl[n].2.length), j < m → lt bl[n].2[j] p.1 p.2.1 = true) ∧ Holds E w (pto b3 (.cells (Value.agg #[.string p.1, .int .i64 p.2.1]).cells 79 (0, 0)) :: pto d (.cells (xcells W s) 68 (0, 0)) :: ownS 74 2 s (bl.flatMap encB) :: hro 4 (bl.map roP) :: L)) (fun t _ => bl[n].2.length - t.toNat)
      ⟨0, rfl, by omega, fun j _ hj => absurd hj (Nat.not_lt_zero _), h⟩ ?_
    rintro next2 t w ⟨m, rfl, hm, hall, h⟩ hnext2
    have hw2 : IntKind.i64.wrap ((m : Int) + 1) = ((m + 1 : Nat) : Int) := by rw [wrap_in _ (by omega)]; omega
    refine AnyP.go fun _ => DrewP.go h fun w h => ?_
    refine CondP.mk' (fun hc => ?_) (fun hc => ?_)
    focus
      have hc : m < bl[n].2.length := by have := cT hc; omega
      refine val_idx (hI _ hnb w h) encI_len (by omega) hc (T := 72) (Te := 31) (by kernel_rfl) (by kernel_rfl) fun a1 ha1 hs1 => ?_
      refine get_elt bl[n].2[m] (hI _ hnb w h) encI_len ha1 hc (by kernel_rfl) (by kernel_rfl) rfl ?_
      refine get_ld_agg (ls := [.str, .int .i64]) (p.1, p.2.1, ()) h rfl (by first | exact .head | exact (.tail .head) | exact (.tail (.tail .head)) | exact (.tail (.tail (.tail .head))) | exact (.tail (.tail (.tail (.tail .head)))) | exact (.tail (.tail (.tail (.tail (.tail .head))))) | exact (.tail (.tail (.tail (.tail (.tail (.tail .head)))))) | exact (.tail (.tail (.tail (.tail (.tail (.tail (.tail .head))))))) | exact (.tail (.tail (.tail (.tail (.tail (.tail (.tail (.tail .head))))))))) (by kernel_rfl) (by kernel_rfl) ?_
      refine ahead_spec (p := (p.1, p.2.1, ())) h fun w h => ?_
      refine CondP.mk' (fun ha => ?_) (fun ha => ?_)
      · rw [hw2]
        refine hnext2 _ _ ⟨m + 1, rfl, by omega, fun j hj hjn => ?_, h⟩ (by omega)
        by_cases hj' : j = m
        · subst hj'; exact ha
        · exact hall j hj (by omega)
      have hK : findK bl[n].2 p.1 p.2.1 = m := twl_eq hm hall fun _ => ha
    rotate_left
    focus
      have hc : m = bl[n].2.length := by have := cF hc; omega
      refine CondP.no rfl ?_
      have hK : findK bl[n].2 p.1 p.2.1 = m := twl_eq hm hall fun h => absurd h (by omega)
    all_goals
      rw [hK] at hk
      clear hnext2 hall hK
      refine DrewP.go h fun w h => ?_
      refine CondP.mk' (fun hc => ?_) (fun hc => ?_)
      · have hc : m < bl[n].2.length := by have := cT hc; omega
        have hisA : isAt bl[n].2 m p.1 p.2.1 = (bl[n].2[m].1.toList == p.1.toList && bl[n].2[m].2.1 == p.2.1) := by
          unfold isAt; rw [List.getElem?_eq_getElem hc]
        rw [hisA] at hk
        refine val_idx (hI _ hnb w h) encI_len (by omega) hc (T := 72) (Te := 31) (by kernel_rfl) (by kernel_rfl) fun a1 ha1 hs1 => ?_
        refine get_fld bl[n].2[m].1 (hI _ hnb w h) encI_len ha1 hs1 hc (by omega) (by kernel_rfl) rfl ?_
        refine get_ld h rfl (by first | exact .head | exact (.tail .head) | exact (.tail (.tail .head)) | exact (.tail (.tail (.tail .head))) | exact (.tail (.tail (.tail (.tail .head)))) | exact (.tail (.tail (.tail (.tail (.tail .head))))) | exact (.tail (.tail (.tail (.tail (.tail (.tail .head)))))) | exact (.tail (.tail (.tail (.tail (.tail (.tail (.tail .head))))))) | exact (.tail (.tail (.tail (.tail (.tail (.tail (.tail (.tail .head))))))))) (by kernel_rfl) (x := p.1) rfl ?_
        refine CondP.mk' (fun he => ?_) (fun he => ?_)
        · rw [he, Bool.true_and] at hk
          refine val_idx (hI _ hnb w h) encI_len (by omega) hc (T := 72) (Te := 31) (by kernel_rfl) (by kernel_rfl) fun a2 ha2 hs2 => ?_
          refine get_fld bl[n].2[m].2.1 (hI _ hnb w h) encI_len ha2 hs2 hc (by omega) (by kernel_rfl) rfl ?_
          refine get_ld h rfl (by first | exact .head | exact (.tail .head) | exact (.tail (.tail .head)) | exact (.tail (.tail (.tail .head))) | exact (.tail (.tail (.tail (.tail .head)))) | exact (.tail (.tail (.tail (.tail (.tail .head))))) | exact (.tail (.tail (.tail (.tail (.tail (.tail .head)))))) | exact (.tail (.tail (.tail (.tail (.tail (.tail (.tail .head))))))) | exact (.tail (.tail (.tail (.tail (.tail (.tail (.tail (.tail .head))))))))) (by kernel_rfl) (x := p.2.1) rfl ?_
          refine chk_fld (hI _ hnb w h) encI_len ha1 hs1 hc (by omega) (by kernel_rfl) rfl ?_
          refine chk_ld h rfl (by first | exact .head | exact (.tail .head) | exact (.tail (.tail .head)) | exact (.tail (.tail (.tail .head))) | exact (.tail (.tail (.tail (.tail .head)))) | exact (.tail (.tail (.tail (.tail (.tail .head))))) | exact (.tail (.tail (.tail (.tail (.tail (.tail .head)))))) | exact (.tail (.tail (.tail (.tail (.tail (.tail (.tail .head))))))) | exact (.tail (.tail (.tail (.tail (.tail (.tail (.tail (.tail .head))))))))) (by kernel_rfl) rfl ?_
          refine chk_fld (hI _ hnb w h) encI_len ha2 hs2 hc (by omega) (by kernel_rfl) rfl ?_
          refine chk_ld h rfl (by first | exact .head | exact (.tail .head) | exact (.tail (.tail .head)) | exact (.tail (.tail (.tail .head))) | exact (.tail (.tail (.tail (.tail .head)))) | exact (.tail (.tail (.tail (.tail (.tail .head))))) | exact (.tail (.tail (.tail (.tail (.tail (.tail .head)))))) | exact (.tail (.tail (.tail (.tail (.tail (.tail (.tail .head))))))) | exact (.tail (.tail (.tail (.tail (.tail (.tail (.tail (.tail .head))))))))) (by kernel_rfl) rfl ?_
          refine chk_fld (hI _ hnb w h) encI_len ha1 hs1 hc (by omega) (by kernel_rfl) rfl ?_
          refine chk_ld h rfl (by first | exact .head | exact (.tail .head) | exact (.tail (.tail .head)) | exact (.tail (.tail (.tail .head))) | exact (.tail (.tail (.tail (.tail .head)))) | exact (.tail (.tail (.tail (.tail (.tail .head))))) | exact (.tail (.tail (.tail (.tail (.tail (.tail .head)))))) | exact (.tail (.tail (.tail (.tail (.tail (.tail (.tail .head))))))) | exact (.tail (.tail (.tail (.tail (.tail (.tail (.tail (.tail .head))))))))) (by kernel_rfl) rfl ?_
          refine chk_fld (hI _ hnb w h) encI_len ha2 hs2 hc (by omega) (by kernel_rfl) rfl ?_
          refine chk_ld h rfl (by first | exact .head | exact (.tail .head) | exact (.tail (.tail .head)) | exact (.tail (.tail (.tail .head))) | exact (.tail (.tail (.tail (.tail .head)))) | exact (.tail (.tail (.tail (.tail (.tail .head))))) | exact (.tail (.tail (.tail (.tail (.tail (.tail .head)))))) | exact (.tail (.tail (.tail (.tail (.tail (.tail (.tail .head))))))) | exact (.tail (.tail (.tail (.tail (.tail (.tail (.tail (.tail .head))))))))) (by kernel_rfl) rfl ?_
          exact hk _ (IxB.closed (h.sub (by repeat (first | exact Sub.done | refine Sub.take (by first | exact .head | exact (.tail .head) | exact (.tail (.tail .head)) | exact (.tail (.tail (.tail .head))) | exact (.tail (.tail (.tail (.tail .head)))) | exact (.tail (.tail (.tail (.tail (.tail .head))))) | exact (.tail (.tail (.tail (.tail (.tail (.tail .head)))))) | exact (.tail (.tail (.tail (.tail (.tail (.tail (.tail .head))))))) | exact (.tail (.tail (.tail (.tail (.tail (.tail (.tail (.tail .head))))))))) ?_ | refine Sub.skip ?_))))
        · rw [he, Bool.false_and] at hk
          refine chk_fld (hI _ hnb w h) encI_len ha1 hs1 hc (by omega) (by kernel_rfl) rfl ?_
          refine chk_ld h rfl (by first | exact .head | exact (.tail .head) | exact (.tail (.tail .head)) | exact (.tail (.tail (.tail .head))) | exact (.tail (.tail (.tail (.tail .head)))) | exact (.tail (.tail (.tail (.tail (.tail .head))))) | exact (.tail (.tail (.tail (.tail (.tail (.tail .head)))))) | exact (.tail (.tail (.tail (.tail (.tail (.tail (.tail .head))))))) | exact (.tail (.tail (.tail (.tail (.tail (.tail (.tail (.tail .head))))))))) (by kernel_rfl) rfl ?_
          refine chk_fld (hI _ hnb w h) encI_len ha1 hs1 hc (by omega) (by kernel_rfl) rfl ?_
          refine chk_ld h rfl (by first | exact .head | exact (.tail .head) | exact (.tail (.tail .head)) | exact (.tail (.tail (.tail .head))) | exact (.tail (.tail (.tail (.tail .head)))) | exact (.tail (.tail (.tail (.tail (.tail .head))))) | exact (.tail (.tail (.tail (.tail (.tail (.tail .head)))))) | exact (.tail (.tail (.tail (.tail (.tail (.tail (.tail .head))))))) | exact (.tail (.tail (.tail (.tail (.tail (.tail (.tail (.tail .head))))))))) (by kernel_rfl) rfl ?_
          exact hk _ (IxB.closed (h.sub (by repeat (first | exact Sub.done | refine Sub.take (by first | exact .head | exact (.tail .head) | exact (.tail (.tail .head)) | exact (.tail (.tail (.tail .head))) | exact (.tail (.tail (.tail (.tail .head)))) | exact (.tail (.tail (.tail (.tail (.tail .head))))) | exact (.tail (.tail (.tail (.tail (.tail (.tail .head)))))) | exact (.tail (.tail (.tail (.tail (.tail (.tail (.tail .head))))))) | exact (.tail (.tail (.tail (.tail (.tail (.tail (.tail (.tail .head))))))))) ?_ | refine Sub.skip ?_))))
      · have hc : m = bl[n].2.length := by have := cF hc; omega
        have hisA : isAt bl[n].2 m p.1 p.2.1 = false := by unfold isAt; rw [List.getElem?_eq_none (by omega)]
        rw [hisA] at hk
        exact CondP.no rfl (hk _ (IxB.closed (h.sub (by repeat (first | exact Sub.done | refine Sub.take (by first | exact .head | exact (.tail .head) | exact (.tail (.tail .head)) | exact (.tail (.tail (.tail .head))) | exact (.tail (.tail (.tail (.tail .head)))) | exact (.tail (.tail (.tail (.tail (.tail .head))))) | exact (.tail (.tail (.tail (.tail (.tail (.tail .head)))))) | exact (.tail (.tail (.tail (.tail (.tail (.tail (.tail .head))))))) | exact (.tail (.tail (.tail (.tail (.tail (.tail (.tail (.tail .head))))))))) ?_ | refine Sub.skip ?_)))))
end
end Go.Proofs.Ytoaalegieaocbaa
