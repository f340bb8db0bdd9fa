/-
  No cell of these rows narrows 'for every input' (looked for: loops, veiled, ifaces, maps, wideKeys, modest, calm, conditions, laid).
  DERIVED. THE GIVEN ROWS OF THIS SEAT. 2 by the template 'for every input the law returns true; each argument reads behind the call as it read before'; 0 by the template 'total and deterministic' (their statements: YtelhccfmfnaegaaGreatTotals.lean).
  GIVEN WITH THE SEED: the statements are not yours to turn. If you find one false, say at which input.
  Laid BY PROGRAM, IN A SANDBOX (cutbox-rows.mjs): the forced cells as the released guide's own fill.sh prints them over the translation 986fcc2903143bf2… (all of the seat's roots in one cut). By AI agents, Wed Nov 11 2026. No macro, syntax, notation, axiom, sorry.
-/
import Derived.Test.YtelhccfmfnaegaaGreatChecked
import GoSem.Claim
import GoSem.ClaimJoined
import GoSem.ClaimMapViews
import Derived.JoinedTies
import Derived.KernelRfl
namespace Go.Proofs.YtelhccfmfnaegaaGreat
/- THE CELL 'sum', in the pinned program and in every row, IS THE sha256 OF THE DUMP (.gsa) THAT YtelhccfmfnaegaaGreatProg.lean LOADS. Nothing in Lean hashes anything: it is a label: what it is worth is what the hold of that sum in a sandbox is worth. -/
noncomputable def Tryz.pinned : Pinned := { name := "ytelhccfmfnaegaagreat", sum := "986fcc2903143bf2cb21a0e3f6fa1ea820586ec5da749f121fce6aaca3ee4293", checked := Tryz.checked }
namespace Rows
def none {H : Type} : Left H := { results := [], args := [] }

/-- 'memoirtop.TopAudits': WHATEVER THE INPUT: true; the input reads as it did. -/
def topAuditsSpec : ChangeSpec := { name := "topAudits", fn := fun _ => fun
  | [d1, d2, d3] => { results := [.lit (.bool true)], args := [d1, d2, d3] }
  | _ => none }
def topAuditsRow : OpenClaim := { program := "ytelhccfmfnaegaagreat", sum := "986fcc2903143bf2cb21a0e3f6fa1ea820586ec5da749f121fce6aaca3ee4293", func := "memoir/memoirtop.TopAudits", spec := "topAudits", inPlace := ["math.Float64frombits", "math.Float64bits"], unfollowed := true, recurses := true, plainKeys := false, apart := false }
def TopAuditsSaid : Prop := topAuditsRow.holds Tryz.pinned (OpenSpec.ofChange topAuditsSpec)

/-- ITS FALSE NEIGHBOUR: 'it returns false'. Refute it at one input. -/
def topAuditsWrong : ChangeSpec := { name := "topAudits", fn := fun _ => fun
  | [d1, d2, d3] => { results := [.lit (.bool false)], args := [d1, d2, d3] }
  | _ => none }
def TopAuditsWrongFalsely : Prop := topAuditsRow.holds Tryz.pinned (OpenSpec.ofChange topAuditsWrong)

/-- 'memoirtop.TopFloats': WHATEVER THE INPUT: true; the input reads as it did. -/
def topFloatsSpec : ChangeSpec := { name := "topFloats", fn := fun _ => fun
  | [d] => { results := [.lit (.bool true)], args := [d] }
  | _ => none }
def topFloatsRow : OpenClaim := { program := "ytelhccfmfnaegaagreat", sum := "986fcc2903143bf2cb21a0e3f6fa1ea820586ec5da749f121fce6aaca3ee4293", func := "memoir/memoirtop.TopFloats", spec := "topFloats", inPlace := ["math.Float64frombits", "math.Float64bits"], unfollowed := true, recurses := true, plainKeys := false, apart := false }
def TopFloatsSaid : Prop := topFloatsRow.holds Tryz.pinned (OpenSpec.ofChange topFloatsSpec)

/-- ITS FALSE NEIGHBOUR: 'it returns false'. Refute it at one input. -/
def topFloatsWrong : ChangeSpec := { name := "topFloats", fn := fun _ => fun
  | [d] => { results := [.lit (.bool false)], args := [d] }
  | _ => none }
def TopFloatsWrongFalsely : Prop := topFloatsRow.holds Tryz.pinned (OpenSpec.ofChange topFloatsWrong)

/- THE SECOND FORM. 'bulk': how many values and letters a reading holds, each counted each time it is reached (what is shared counts as often as it is met; a slice's spare places count too). A statement '..UptoSaid' is the law's where the arguments, and the package variables that the reading takes, are together of bulk at most 1048576: NARROWER than '..Said'. Prove '..Said' where nothing that the law and all that it calls make is longer than what came in: it says more and counts as full. Else prove '..UptoSaid'. A law counts once. -/
mutual
def uptoBulk {H : Type} : DataW H → Nat
  | .lit (.string bytes) => bytes.length + 1
  | .lit _ => 1
  | .nil => 1
  | .ptr d => uptoBulk d + 1
  | .slice elems spare => uptoBulkAll elems + uptoBulkAll spare + 1
  | .agg parts => uptoBulkAll parts + 1
  | .iface _ d => uptoBulk d + 1
  | .map entries => uptoBulkEntries entries + 1
  | .held _ => 1
def uptoBulkAll {H : Type} : List (DataW H) → Nat
  | [] => 0
  | d :: r => uptoBulk d + uptoBulkAll r
def uptoBulkEntries {H : Type} : List (Lit × DataW H) → Nat
  | [] => 0
  | x :: r => uptoBulkEntry x + uptoBulkEntries r
def uptoBulkEntry {H : Type} : Lit × DataW H → Nat
  | (.string bytes, d) => bytes.length + uptoBulk d + 1
  | (_, d) => uptoBulk d + 1
 end
def uptoSmall : (H : Type) → List (DataW H) → Bool := fun _ ds => decide (uptoBulkAll ds ≤ 1048576)
def OpenSpec.upto (s : _root_.Go.ChangeSpec) : _root_.Go.OpenSpec := { _root_.Go.OpenSpec.ofChange s with cond := some uptoSmall }

/-- 'memoirtop.TopAudits', WHERE WHAT IT READS IS OF BULK AT MOST 1048576: true; the input reads as it did. -/
def topAuditsUptoRow : OpenClaim := { program := "ytelhccfmfnaegaagreat", sum := "986fcc2903143bf2cb21a0e3f6fa1ea820586ec5da749f121fce6aaca3ee4293", func := "memoir/memoirtop.TopAudits", spec := "topAudits", inPlace := ["math.Float64frombits", "math.Float64bits"], unfollowed := true, recurses := true, plainKeys := false, apart := false, narrowed := true }
def TopAuditsUptoSaid : Prop := topAuditsUptoRow.holds Tryz.pinned (OpenSpec.upto topAuditsSpec)

/-- 'memoirtop.TopFloats', WHERE WHAT IT READS IS OF BULK AT MOST 1048576: true; the input reads as it did. -/
def topFloatsUptoRow : OpenClaim := { program := "ytelhccfmfnaegaagreat", sum := "986fcc2903143bf2cb21a0e3f6fa1ea820586ec5da749f121fce6aaca3ee4293", func := "memoir/memoirtop.TopFloats", spec := "topFloats", inPlace := ["math.Float64frombits", "math.Float64bits"], unfollowed := true, recurses := true, plainKeys := false, apart := false, narrowed := true }
def TopFloatsUptoSaid : Prop := topFloatsUptoRow.holds Tryz.pinned (OpenSpec.upto topFloatsSpec)

end Rows
end Go.Proofs.YtelhccfmfnaegaaGreat
