/- The operations that came in, opened. -/
import Derived.Test.YtebicdddbeneoaaDk4
import Derived.Test.YtebicdddbeneoaaShR
import Derived.Test.YtebicdddbeneoaaRows
namespace Go.Proofs.Ytebicdddbeneoaa
open Go.Sh Go.RowKit Go.WideShapes Go.ChangeShapes Go.ChangeAt
open Go.ChangeMaps (open_string shut_string)

theorem Try.own : ownKnob Try.prog.godebug = none := (by kernel_rfl)
theorem Try.laidOut : laidOutB Try.prog = true := (by kernel_rfl)

section
variable {H : Type} {enc : TypeId × Value → H} {w : World} {spare : Nat → Bool} {held : Bool}

theorem open_bools {fuel : Nat} {v : Value} {x : DataW H × List MemPlace} (h : DataW.trod enc Try.prog w 0 spare held fuel 23 v.cells.toList = some x) :
    ∃ (s : Sl) (l : List Bool), v.cells.toList = [.slice s.a s.len s.cap] ∧ Reads w s 1 (bools l) ∧ s.len = l.length ∧ s.len ≤ s.cap ∧ s.cap ≤ maxLen := by
  obtain ⟨s, l, h1, h2, h3, h4, h5, _⟩ := open_sl (q := fun _ : Bool => True) (fun b => [Value.bool b]) (fun _ => rfl) Try.underlying23 (sz := 1) (by kernel_rfl) (fun n cs y hy => by
    obtain ⟨b, rfl, _⟩ := DataW.trod_bool Try.underlying4 hy
    exact ⟨b, rfl, trivial⟩) h
  refine ⟨s, l, h1, ?_, h3, h4, h5⟩
  have e : ∀ l : List Bool, l.flatMap (fun b => [Value.bool b]) = bools l := by
    intro l
    induction l with
    | nil => rfl
    | cons b l ih => rw [List.flatMap_cons, ih]; rfl
  rw [← e]; exact h2

/-- what is known of an operation -/
def OpOk (w : World) (o : OpV) : Prop := o.s.size ≤ maxLen ∧ ∃ l, Reads w o.keep 1 (bools l) ∧ o.keep.len = l.length ∧ o.keep.len ≤ o.keep.cap ∧ o.keep.cap ≤ maxLen

theorem open_op {n : Nat} {cs : List Value} {y : DataW H × List MemPlace} (h : DataW.trod enc Try.prog w 0 spare held n 31 cs = some y) : ∃ o, cs = encOp o ∧ OpOk w o := by
  obtain ⟨xs, m, _, _, hl, hlen, hf⟩ := DataW.trod_struct Try.underlying31 h
  have hl : cs.length = 4 := hl.trans (by kernel_rfl)
  match cs, hl with
  | [c0, c1, c2, c3], _ =>
    have hget : ∀ i, i < 4 → ∃ z, xs[i]? = some z := fun i hi => ⟨xs[i]'(by rw [hlen]; exact hi), List.getElem?_eq_getElem _⟩
    obtain ⟨z0, hz0⟩ := hget 0 (by omega)
    obtain ⟨z1, hz1⟩ := hget 1 (by omega)
    obtain ⟨z2, hz2⟩ := hget 2 (by omega)
    obtain ⟨z3, hz3⟩ := hget 3 (by omega)
    have f0 := hf 0 _ rfl
    have f1 := hf 1 _ rfl
    have f2 := hf 2 _ rfl
    have f3 := hf 3 _ rfl
    rw [hz0] at f0; rw [hz1] at f1; rw [hz2] at f2; rw [hz3] at f3
    have c1a : Try.prog.cellsOf 3 = 1 := (by kernel_rfl)
    have c2a : Try.prog.cellsOf 9 = 1 := (by kernel_rfl)
    have c3a : Try.prog.cellsOf 23 = 1 := (by kernel_rfl)
    change DataW.trod enc Try.prog w 0 spare held m 3 ([c0, c1, c2, c3].take (Try.prog.cellsOf 3)) = _ at f0
    change DataW.trod enc Try.prog w 0 spare held m 3 ([c1, c2, c3].take (Try.prog.cellsOf 3)) = _ at f1
    change DataW.trod enc Try.prog w 0 spare held m 9 ([c2, c3].take (Try.prog.cellsOf 9)) = _ at f2
    change DataW.trod enc Try.prog w 0 spare held m 23 ([c3].take (Try.prog.cellsOf 23)) = _ at f3
    rw [c1a] at f0 f1; rw [c2a] at f2; rw [c3a] at f3
    obtain ⟨a, ha, _, _⟩ := DataW.trod_int Try.underlying3 f0
    obtain ⟨b, hb, _, _⟩ := DataW.trod_int Try.underlying3 f1
    obtain ⟨s, hs, _, hsm⟩ := DataW.trod_string Try.underlying9 f2
    obtain ⟨kp, l, hk, hr, h3, h4, h5⟩ := open_bools (v := c3) (by
      have : c3.cells.toList = [c3] := by
        rcases DataW.trod_slice Try.underlying23 f3 with ⟨hc, _⟩ | ⟨_, _, _, _, _, _, _, hc, _⟩ <;> · simp at hc; subst hc; rfl
      rw [this]; exact f3)
    simp at ha hb hs
    have hk' : c3 = .slice kp.a kp.len kp.cap := by
      rcases DataW.trod_slice Try.underlying23 f3 with ⟨hc, _⟩ | ⟨_, _, _, _, _, _, _, hc, _⟩ <;> · simp at hc; subst hc; simpa [Value.cells] using hk
    subst ha; subst hb; subst hs; subst hk'
    exact ⟨⟨a, b, s, kp⟩, rfl, hsm, l, hr, h3, h4, h5⟩

theorem open_script {fuel : Nat} {v : Value} {x : DataW H × List MemPlace} (h : DataW.trod enc Try.prog w 0 spare held fuel 22 v.cells.toList = some x) :
    ∃ (s : Sl) (l : List OpV), v.cells.toList = [.slice s.a s.len s.cap] ∧ Reads w s 4 (l.flatMap encOp) ∧ s.len = l.length ∧ s.len ≤ s.cap ∧ s.cap ≤ maxLen ∧ ∀ o ∈ l, OpOk w o :=
  open_sl encOp encOp_len Try.underlying22 (by kernel_rfl) (fun _ _ _ => open_op) h

end
end Go.Proofs.Ytebicdddbeneoaa
