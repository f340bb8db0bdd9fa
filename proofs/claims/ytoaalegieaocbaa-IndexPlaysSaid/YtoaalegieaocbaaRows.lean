/-
  No cell of these rows narrows 'for every input' (looked for: loops, veiled, ifaces, maps, wideKeys, modest, calm, conditions, laid).
  DERIVED. THE GIVEN ROWS OF THIS SEAT. 7 by the template 'for every input the law returns true; each argument reads behind the call as it read before'; 0 by the template 'total and deterministic' (their statements: YtoaalegieaocbaaTotals.lean).
  GIVEN WITH THE SEED: the statements are not yours to turn. If you find one false, say at which input.
  Laid BY PROGRAM, IN A SANDBOX (cutbox-rows.mjs): the forced cells as the released guide's own fill.sh prints them over the translation eed1342f0360066b… (all of the seat's roots in one cut). By AI agents, Wed Nov 11 2026. No macro, syntax, notation, axiom, sorry.
-/
import Derived.Test.YtoaalegieaocbaaChecked
import GoSem.Claim
import GoSem.ClaimJoined
import GoSem.ClaimMapViews
import Derived.JoinedTies
import Derived.KernelRfl
namespace Go.Proofs.Ytoaalegieaocbaa
/- THE CELL 'sum', in the pinned program and in every row, IS THE sha256 OF THE DUMP (.gsa) THAT YtoaalegieaocbaaProg.lean LOADS. Nothing in Lean hashes anything: it is a label: what it is worth is what the hold of that sum in a sandbox is worth. -/
noncomputable def Try.pinned : Pinned := { name := "ytoaalegieaocbaa", sum := "eed1342f0360066b162c0462ca39e41cc58047025514cb36312fb491e59fd5de", checked := Try.checked }
namespace Rows
def none {H : Type} : Left H := { results := [], args := [] }

/-- 'memoirlaw13.IndexPlays': WHATEVER THE INPUT: true; the input reads as it did. -/
def indexPlaysSpec : ChangeSpec := { name := "indexPlays", fn := fun _ => fun
  | [d1, d2] => { results := [.lit (.bool true)], args := [d1, d2] }
  | _ => none }
def indexPlaysRow : OpenClaim := { program := "ytoaalegieaocbaa", sum := "eed1342f0360066b162c0462ca39e41cc58047025514cb36312fb491e59fd5de", func := "memoir/memoirlaw13.IndexPlays", spec := "indexPlays", unfollowed := true, recurses := true, apart := false }
def IndexPlaysSaid : Prop := indexPlaysRow.holds Try.pinned (OpenSpec.ofChange indexPlaysSpec)

/-- ITS FALSE NEIGHBOUR: 'it returns false'. Refute it at one input. -/
def indexPlaysWrong : ChangeSpec := { name := "indexPlays", fn := fun _ => fun
  | [d1, d2] => { results := [.lit (.bool false)], args := [d1, d2] }
  | _ => none }
def IndexPlaysWrongFalsely : Prop := indexPlaysRow.holds Try.pinned (OpenSpec.ofChange indexPlaysWrong)

/-- 'memoirlaw13.IndexBlocks': WHATEVER THE INPUT: true; the input reads as it did. -/
def indexBlocksSpec : ChangeSpec := { name := "indexBlocks", fn := fun _ => fun
  | [d1, d2] => { results := [.lit (.bool true)], args := [d1, d2] }
  | _ => none }
def indexBlocksRow : OpenClaim := { program := "ytoaalegieaocbaa", sum := "eed1342f0360066b162c0462ca39e41cc58047025514cb36312fb491e59fd5de", func := "memoir/memoirlaw13.IndexBlocks", spec := "indexBlocks", unfollowed := true, recurses := true, apart := false }
def IndexBlocksSaid : Prop := indexBlocksRow.holds Try.pinned (OpenSpec.ofChange indexBlocksSpec)

/-- ITS FALSE NEIGHBOUR: 'it returns false'. Refute it at one input. -/
def indexBlocksWrong : ChangeSpec := { name := "indexBlocks", fn := fun _ => fun
  | [d1, d2] => { results := [.lit (.bool false)], args := [d1, d2] }
  | _ => none }
def IndexBlocksWrongFalsely : Prop := indexBlocksRow.holds Try.pinned (OpenSpec.ofChange indexBlocksWrong)

/-- 'memoirlaw13.IndexStabs': WHATEVER THE INPUT: true; the input reads as it did. -/
def indexStabsSpec : ChangeSpec := { name := "indexStabs", fn := fun _ => fun
  | [d1, d2] => { results := [.lit (.bool true)], args := [d1, d2] }
  | _ => none }
def indexStabsRow : OpenClaim := { program := "ytoaalegieaocbaa", sum := "eed1342f0360066b162c0462ca39e41cc58047025514cb36312fb491e59fd5de", func := "memoir/memoirlaw13.IndexStabs", spec := "indexStabs", unfollowed := true, recurses := true, apart := false }
def IndexStabsSaid : Prop := indexStabsRow.holds Try.pinned (OpenSpec.ofChange indexStabsSpec)

/-- ITS FALSE NEIGHBOUR: 'it returns false'. Refute it at one input. -/
def indexStabsWrong : ChangeSpec := { name := "indexStabs", fn := fun _ => fun
  | [d1, d2] => { results := [.lit (.bool false)], args := [d1, d2] }
  | _ => none }
def IndexStabsWrongFalsely : Prop := indexStabsRow.holds Try.pinned (OpenSpec.ofChange indexStabsWrong)

/-- 'memoirlaw13.IndexRanges': WHATEVER THE INPUT: true; the input reads as it did. -/
def indexRangesSpec : ChangeSpec := { name := "indexRanges", fn := fun _ => fun
  | [d1, d2, d3] => { results := [.lit (.bool true)], args := [d1, d2, d3] }
  | _ => none }
def indexRangesRow : OpenClaim := { program := "ytoaalegieaocbaa", sum := "eed1342f0360066b162c0462ca39e41cc58047025514cb36312fb491e59fd5de", func := "memoir/memoirlaw13.IndexRanges", spec := "indexRanges", unfollowed := true, recurses := true, apart := false }
def IndexRangesSaid : Prop := indexRangesRow.holds Try.pinned (OpenSpec.ofChange indexRangesSpec)

/-- ITS FALSE NEIGHBOUR: 'it returns false'. Refute it at one input. -/
def indexRangesWrong : ChangeSpec := { name := "indexRanges", fn := fun _ => fun
  | [d1, d2, d3] => { results := [.lit (.bool false)], args := [d1, d2, d3] }
  | _ => none }
def IndexRangesWrongFalsely : Prop := indexRangesRow.holds Try.pinned (OpenSpec.ofChange indexRangesWrong)

/-- 'memoirlaw13.IndexNil': WHATEVER THE INPUT: true; the input reads as it did. -/
def indexNilSpec : ChangeSpec := { name := "indexNil", fn := fun _ => fun
  | [d] => { results := [.lit (.bool true)], args := [d] }
  | _ => none }
def indexNilRow : OpenClaim := { program := "ytoaalegieaocbaa", sum := "eed1342f0360066b162c0462ca39e41cc58047025514cb36312fb491e59fd5de", func := "memoir/memoirlaw13.IndexNil", spec := "indexNil", unfollowed := true, recurses := true, apart := false }
def IndexNilSaid : Prop := indexNilRow.holds Try.pinned (OpenSpec.ofChange indexNilSpec)

/-- ITS FALSE NEIGHBOUR: 'it returns false'. Refute it at one input. -/
def indexNilWrong : ChangeSpec := { name := "indexNil", fn := fun _ => fun
  | [d] => { results := [.lit (.bool false)], args := [d] }
  | _ => none }
def IndexNilWrongFalsely : Prop := indexNilRow.holds Try.pinned (OpenSpec.ofChange indexNilWrong)

/-- 'memoirlaw13.IndexCloses': WHATEVER THE INPUT: true; the input reads as it did. -/
def indexClosesSpec : ChangeSpec := { name := "indexCloses", fn := fun _ => fun
  | [d1, d2, d3] => { results := [.lit (.bool true)], args := [d1, d2, d3] }
  | _ => none }
def indexClosesRow : OpenClaim := { program := "ytoaalegieaocbaa", sum := "eed1342f0360066b162c0462ca39e41cc58047025514cb36312fb491e59fd5de", func := "memoir/memoirlaw13.IndexCloses", spec := "indexCloses", unfollowed := true, recurses := true, apart := false }
def IndexClosesSaid : Prop := indexClosesRow.holds Try.pinned (OpenSpec.ofChange indexClosesSpec)

/-- ITS FALSE NEIGHBOUR: 'it returns false'. Refute it at one input. -/
def indexClosesWrong : ChangeSpec := { name := "indexCloses", fn := fun _ => fun
  | [d1, d2, d3] => { results := [.lit (.bool false)], args := [d1, d2, d3] }
  | _ => none }
def IndexClosesWrongFalsely : Prop := indexClosesRow.holds Try.pinned (OpenSpec.ofChange indexClosesWrong)

/-- 'memoirlaw13.IndexMax': WHATEVER THE INPUT: true; the input reads as it did. -/
def indexMaxSpec : ChangeSpec := { name := "indexMax", fn := fun _ => fun
  | [d1, d2] => { results := [.lit (.bool true)], args := [d1, d2] }
  | _ => none }
def indexMaxRow : OpenClaim := { program := "ytoaalegieaocbaa", sum := "eed1342f0360066b162c0462ca39e41cc58047025514cb36312fb491e59fd5de", func := "memoir/memoirlaw13.IndexMax", spec := "indexMax", unfollowed := true, recurses := true, apart := false }
def IndexMaxSaid : Prop := indexMaxRow.holds Try.pinned (OpenSpec.ofChange indexMaxSpec)

/-- ITS FALSE NEIGHBOUR: 'it returns false'. Refute it at one input. -/
def indexMaxWrong : ChangeSpec := { name := "indexMax", fn := fun _ => fun
  | [d1, d2] => { results := [.lit (.bool false)], args := [d1, d2] }
  | _ => none }
def IndexMaxWrongFalsely : Prop := indexMaxRow.holds Try.pinned (OpenSpec.ofChange indexMaxWrong)

/- THE SECOND FORM. 'bulk': how many values and letters a reading holds, each counted each time it is reached (what is shared counts as often as it is met; a slice's spare places count too). A statement '..UptoSaid' is the law's where the arguments, and the package variables that the reading takes, are together of bulk at most 1048576: NARROWER than '..Said'. Prove '..Said' where nothing that the law and all that it calls make is longer than what came in: it says more and counts as full. Else prove '..UptoSaid'. A law counts once. -/
mutual
def uptoBulk {H : Type} : DataW H → Nat
  | .lit (.string bytes) => bytes.length + 1
  | .lit _ => 1
  | .nil => 1
  | .ptr d => uptoBulk d + 1
  | .slice elems spare => uptoBulkAll elems + uptoBulkAll spare + 1
  | .agg parts => uptoBulkAll parts + 1
  | .iface _ d => uptoBulk d + 1
  | .map entries => uptoBulkEntries entries + 1
  | .held _ => 1
def uptoBulkAll {H : Type} : List (DataW H) → Nat
  | [] => 0
  | d :: r => uptoBulk d + uptoBulkAll r
def uptoBulkEntries {H : Type} : List (Lit × DataW H) → Nat
  | [] => 0
  | x :: r => uptoBulkEntry x + uptoBulkEntries r
def uptoBulkEntry {H : Type} : Lit × DataW H → Nat
  | (.string bytes, d) => bytes.length + uptoBulk d + 1
  | (_, d) => uptoBulk d + 1
 end
def uptoSmall : (H : Type) → List (DataW H) → Bool := fun _ ds => decide (uptoBulkAll ds ≤ 1048576)
def OpenSpec.upto (s : _root_.Go.ChangeSpec) : _root_.Go.OpenSpec := { _root_.Go.OpenSpec.ofChange s with cond := some uptoSmall }

/-- 'memoirlaw13.IndexPlays', WHERE WHAT IT READS IS OF BULK AT MOST 1048576: true; the input reads as it did. -/
def indexPlaysUptoRow : OpenClaim := { program := "ytoaalegieaocbaa", sum := "eed1342f0360066b162c0462ca39e41cc58047025514cb36312fb491e59fd5de", func := "memoir/memoirlaw13.IndexPlays", spec := "indexPlays", unfollowed := true, recurses := true, apart := false, narrowed := true }
def IndexPlaysUptoSaid : Prop := indexPlaysUptoRow.holds Try.pinned (OpenSpec.upto indexPlaysSpec)

/-- 'memoirlaw13.IndexBlocks', WHERE WHAT IT READS IS OF BULK AT MOST 1048576: true; the input reads as it did. -/
def indexBlocksUptoRow : OpenClaim := { program := "ytoaalegieaocbaa", sum := "eed1342f0360066b162c0462ca39e41cc58047025514cb36312fb491e59fd5de", func := "memoir/memoirlaw13.IndexBlocks", spec := "indexBlocks", unfollowed := true, recurses := true, apart := false, narrowed := true }
def IndexBlocksUptoSaid : Prop := indexBlocksUptoRow.holds Try.pinned (OpenSpec.upto indexBlocksSpec)

/-- 'memoirlaw13.IndexStabs', WHERE WHAT IT READS IS OF BULK AT MOST 1048576: true; the input reads as it did. -/
def indexStabsUptoRow : OpenClaim := { program := "ytoaalegieaocbaa", sum := "eed1342f0360066b162c0462ca39e41cc58047025514cb36312fb491e59fd5de", func := "memoir/memoirlaw13.IndexStabs", spec := "indexStabs", unfollowed := true, recurses := true, apart := false, narrowed := true }
def IndexStabsUptoSaid : Prop := indexStabsUptoRow.holds Try.pinned (OpenSpec.upto indexStabsSpec)

/-- 'memoirlaw13.IndexRanges', WHERE WHAT IT READS IS OF BULK AT MOST 1048576: true; the input reads as it did. -/
def indexRangesUptoRow : OpenClaim := { program := "ytoaalegieaocbaa", sum := "eed1342f0360066b162c0462ca39e41cc58047025514cb36312fb491e59fd5de", func := "memoir/memoirlaw13.IndexRanges", spec := "indexRanges", unfollowed := true, recurses := true, apart := false, narrowed := true }
def IndexRangesUptoSaid : Prop := indexRangesUptoRow.holds Try.pinned (OpenSpec.upto indexRangesSpec)

/-- 'memoirlaw13.IndexNil', WHERE WHAT IT READS IS OF BULK AT MOST 1048576: true; the input reads as it did. -/
def indexNilUptoRow : OpenClaim := { program := "ytoaalegieaocbaa", sum := "eed1342f0360066b162c0462ca39e41cc58047025514cb36312fb491e59fd5de", func := "memoir/memoirlaw13.IndexNil", spec := "indexNil", unfollowed := true, recurses := true, apart := false, narrowed := true }
def IndexNilUptoSaid : Prop := indexNilUptoRow.holds Try.pinned (OpenSpec.upto indexNilSpec)

/-- 'memoirlaw13.IndexCloses', WHERE WHAT IT READS IS OF BULK AT MOST 1048576: true; the input reads as it did. -/
def indexClosesUptoRow : OpenClaim := { program := "ytoaalegieaocbaa", sum := "eed1342f0360066b162c0462ca39e41cc58047025514cb36312fb491e59fd5de", func := "memoir/memoirlaw13.IndexCloses", spec := "indexCloses", unfollowed := true, recurses := true, apart := false, narrowed := true }
def IndexClosesUptoSaid : Prop := indexClosesUptoRow.holds Try.pinned (OpenSpec.upto indexClosesSpec)

/-- 'memoirlaw13.IndexMax', WHERE WHAT IT READS IS OF BULK AT MOST 1048576: true; the input reads as it did. -/
def indexMaxUptoRow : OpenClaim := { program := "ytoaalegieaocbaa", sum := "eed1342f0360066b162c0462ca39e41cc58047025514cb36312fb491e59fd5de", func := "memoir/memoirlaw13.IndexMax", spec := "indexMax", unfollowed := true, recurses := true, apart := false, narrowed := true }
def IndexMaxUptoSaid : Prop := indexMaxUptoRow.holds Try.pinned (OpenSpec.upto indexMaxSpec)

end Rows
end Go.Proofs.Ytoaalegieaocbaa
