/- The scripts that came in, opened. -/
import Derived.Test.YtoaalegieaocbaaIx13
import Derived.Test.YtoaalegieaocbaaShR
import Derived.OpenShut
import Derived.Test.YtoaalegieaocbaaRows
namespace Go.Proofs.Ytoaalegieaocbaa
open Go.Sh Go.RowKit Go.WideShapes Go.ChangeShapes Go.ChangeAt
open Go.ChangeMaps (open_string shut_string)

theorem Try.own : ownKnob Try.prog.godebug = none := (by kernel_rfl)
theorem Try.laidOut : laidOutB Try.prog = true := (by kernel_rfl)

section
variable {H : Type} {enc : TypeId × Value → H} {w : World} {spare : Nat → Bool} {held : Bool}

def ItemOk (x : Item) : Prop := i64r x.2.1 ∧ i64r x.2.2.1 ∧ i64r x.2.2.2.1 ∧ x.1.size ≤ maxLen
theorem i64r_of {n : Int} (h : (Lit.int .i64 n).wf = true) : i64r n := bounds_i64 h

theorem open_item {n : Nat} {cs : List Value} {y : DataW H × List MemPlace} (h : DataW.trod enc Try.prog w 0 spare held n 31 cs = some y) : ∃ o : Item, cs = encI o ∧ ItemOk o := by
  obtain ⟨xs, m, _, _, hl, hlen, hf⟩ := DataW.trod_struct Try.underlying31 h
  have hl : cs.length = 4 := hl.trans (by kernel_rfl)
  match cs, hl with
  | [c0, c1, c2, c3], _ =>
    have hget : ∀ i, i < 4 → ∃ z, xs[i]? = some z := fun i hi => ⟨xs[i]'(by rw [hlen]; exact hi), List.getElem?_eq_getElem _⟩
    obtain ⟨z0, hz0⟩ := hget 0 (by omega)
    obtain ⟨z1, hz1⟩ := hget 1 (by omega)
    obtain ⟨z2, hz2⟩ := hget 2 (by omega)
    obtain ⟨z3, hz3⟩ := hget 3 (by omega)
    have f0 := hf 0 _ rfl
    have f1 := hf 1 _ rfl
    have f2 := hf 2 _ rfl
    have f3 := hf 3 _ rfl
    rw [hz0] at f0; rw [hz1] at f1; rw [hz2] at f2; rw [hz3] at f3
    have c3a : Try.prog.cellsOf 3 = 1 := (by kernel_rfl)
    have c9a : Try.prog.cellsOf 9 = 1 := (by kernel_rfl)
    change DataW.trod enc Try.prog w 0 spare held m 9 ([c0, c1, c2, c3].take (Try.prog.cellsOf 9)) = _ at f0
    change DataW.trod enc Try.prog w 0 spare held m 3 ([c1, c2, c3].take (Try.prog.cellsOf 3)) = _ at f1
    change DataW.trod enc Try.prog w 0 spare held m 3 ([c2, c3].take (Try.prog.cellsOf 3)) = _ at f2
    change DataW.trod enc Try.prog w 0 spare held m 3 ([c3].take (Try.prog.cellsOf 3)) = _ at f3
    rw [c9a] at f0; rw [c3a] at f1 f2 f3
    obtain ⟨s, hs, _, hsm⟩ := DataW.trod_string Try.underlying9 f0
    obtain ⟨a, ha, _, wa⟩ := DataW.trod_int Try.underlying3 f1
    obtain ⟨b, hb, _, wb⟩ := DataW.trod_int Try.underlying3 f2
    obtain ⟨c, hc, _, wc⟩ := DataW.trod_int Try.underlying3 f3
    simp at ha hb hc hs
    subst ha; subst hb; subst hc; subst hs
    exact ⟨(s, a, b, c, ()), rfl, i64r_of wa, i64r_of wb, i64r_of wc, hsm⟩

def encS (x : Int × Int × Unit) : List Value := [.int .i64 x.1, .int .i64 x.2.1]
theorem open_span {n : Nat} {cs : List Value} {y : DataW H × List MemPlace} (h : DataW.trod enc Try.prog w 0 spare held n 46 cs = some y) : ∃ o : Int × Int × Unit, cs = encS o ∧ i64r o.1 ∧ i64r o.2.1 := by
  obtain ⟨xs, m, _, _, hl, hlen, hf⟩ := DataW.trod_struct Try.underlying46 h
  have hl : cs.length = 2 := hl.trans (by kernel_rfl)
  match cs, hl with
  | [c0, c1], _ =>
    have hget : ∀ i, i < 2 → ∃ z, xs[i]? = some z := fun i hi => ⟨xs[i]'(by rw [hlen]; exact hi), List.getElem?_eq_getElem _⟩
    obtain ⟨z0, hz0⟩ := hget 0 (by omega)
    obtain ⟨z1, hz1⟩ := hget 1 (by omega)
    have f0 := hf 0 _ rfl
    have f1 := hf 1 _ rfl
    rw [hz0] at f0; rw [hz1] at f1
    have c3a : Try.prog.cellsOf 3 = 1 := (by kernel_rfl)
    change DataW.trod enc Try.prog w 0 spare held m 3 ([c0, c1].take (Try.prog.cellsOf 3)) = _ at f0
    change DataW.trod enc Try.prog w 0 spare held m 3 ([c1].take (Try.prog.cellsOf 3)) = _ at f1
    rw [c3a] at f0 f1
    obtain ⟨a, ha, _, wa⟩ := DataW.trod_int Try.underlying3 f0
    obtain ⟨b, hb, _, wb⟩ := DataW.trod_int Try.underlying3 f1
    simp at ha hb
    subst ha; subst hb
    exact ⟨(a, b, ()), rfl, i64r_of wa, i64r_of wb⟩

/-- what is known of an operation -/
structure OpKnown (o : OpT) : Prop where
  item : ItemOk (opItem o)
  hi : o.2.2.2.2.2.1.size ≤ maxLen
  t : i64r o.2.2.2.2.2.2.1
  u : i64r o.2.2.2.2.2.2.2.1
theorem OpKnown.ok {o : OpT} (h : OpKnown o) : OpOk o := h.item.1

theorem open_op {n : Nat} {cs : List Value} {y : DataW H × List MemPlace} (h : DataW.trod enc Try.prog w 0 spare held n 33 cs = some y) : ∃ o : OpT, cs = encO o ∧ OpKnown o := by
  obtain ⟨xs, m, _, _, hl, hlen, hf⟩ := DataW.trod_struct Try.underlying33 h
  have hl : cs.length = 8 := hl.trans (by kernel_rfl)
  match cs, hl with
  | [c0, c1, c2, c3, c4, c5, c6, c7], _ =>
    have hget : ∀ i, i < 5 → ∃ z, xs[i]? = some z := fun i hi => ⟨xs[i]'(by rw [hlen]; exact hi), List.getElem?_eq_getElem _⟩
    obtain ⟨z0, hz0⟩ := hget 0 (by omega)
    obtain ⟨z1, hz1⟩ := hget 1 (by omega)
    obtain ⟨z2, hz2⟩ := hget 2 (by omega)
    obtain ⟨z3, hz3⟩ := hget 3 (by omega)
    obtain ⟨z4, hz4⟩ := hget 4 (by omega)
    have f0 := hf 0 _ rfl
    have f1 := hf 1 _ rfl
    have f2 := hf 2 _ rfl
    have f3 := hf 3 _ rfl
    have f4 := hf 4 _ rfl
    rw [hz0] at f0; rw [hz1] at f1; rw [hz2] at f2; rw [hz3] at f3; rw [hz4] at f4
    have c3a : Try.prog.cellsOf 3 = 1 := (by kernel_rfl)
    have c9a : Try.prog.cellsOf 9 = 1 := (by kernel_rfl)
    have c31a : Try.prog.cellsOf 31 = 4 := (by kernel_rfl)
    change DataW.trod enc Try.prog w 0 spare held m 3 ([c0, c1, c2, c3, c4, c5, c6, c7].take (Try.prog.cellsOf 3)) = _ at f0
    change DataW.trod enc Try.prog w 0 spare held m 31 ([c1, c2, c3, c4, c5, c6, c7].take (Try.prog.cellsOf 31)) = _ at f1
    change DataW.trod enc Try.prog w 0 spare held m 9 ([c5, c6, c7].take (Try.prog.cellsOf 9)) = _ at f2
    change DataW.trod enc Try.prog w 0 spare held m 3 ([c6, c7].take (Try.prog.cellsOf 3)) = _ at f3
    change DataW.trod enc Try.prog w 0 spare held m 3 ([c7].take (Try.prog.cellsOf 3)) = _ at f4
    rw [c9a] at f2; rw [c3a] at f0 f3 f4; rw [c31a] at f1
    obtain ⟨a, ha, _, wa⟩ := DataW.trod_int Try.underlying3 f0
    obtain ⟨i, hi, oki⟩ := open_item f1
    obtain ⟨s, hs, _, hsm⟩ := DataW.trod_string Try.underlying9 f2
    obtain ⟨t, ht, _, wt⟩ := DataW.trod_int Try.underlying3 f3
    obtain ⟨u, hu, _, wu⟩ := DataW.trod_int Try.underlying3 f4
    simp [encI] at ha hi hs ht hu
    obtain ⟨rfl, rfl, rfl, rfl⟩ := hi
    subst ha; subst hs; subst ht; subst hu
    exact ⟨(a, i.1, i.2.1, i.2.2.1, i.2.2.2.1, s, t, u, ()), rfl, ⟨oki, hsm, i64r_of wt, i64r_of wu⟩⟩

theorem open_script {fuel : Nat} {v : Value} {x : DataW H × List MemPlace} (h : DataW.trod enc Try.prog w 0 spare held fuel 22 v.cells.toList = some x) :
    ∃ (s : Sl) (l : List OpT), v.cells.toList = [.slice s.a s.len s.cap] ∧ Reads w s 8 (l.flatMap encO) ∧ s.len = l.length ∧ s.len ≤ s.cap ∧ s.cap ≤ maxLen ∧ ∀ o ∈ l, OpKnown o :=
  open_sl encO encO_len Try.underlying22 (by kernel_rfl) (fun _ _ _ => open_op) h
end
end Go.Proofs.Ytoaalegieaocbaa
