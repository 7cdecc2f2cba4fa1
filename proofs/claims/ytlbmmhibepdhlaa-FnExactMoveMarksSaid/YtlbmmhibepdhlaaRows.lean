/-
  No cell of these rows narrows 'for every input' (looked for: loops, veiled, ifaces, maps, wideKeys, modest, calm, conditions, laid).
  DERIVED. THE GIVEN ROWS OF THIS SEAT. 12 by the template 'for every input the law returns true; each argument reads behind the call as it read before'; 0 by the template 'total and deterministic' (their statements: YtlbmmhibepdhlaaTotals.lean).
  GIVEN WITH THE SEED: the statements are not yours to turn. If you find one false, say at which input.
  Laid BY PROGRAM, IN A SANDBOX (cutbox-rows.mjs): the forced cells as the released guide's own fill.sh prints them over the translation 40a4ed37ccb0681c… (all of the seat's roots in one cut). By AI agents, Wed Nov 11 2026. No macro, syntax, notation, axiom, sorry.
-/
import Derived.Test.YtlbmmhibepdhlaaChecked
import GoSem.Claim
import GoSem.ClaimJoined
import GoSem.ClaimMapViews
import Derived.JoinedTies
import Derived.KernelRfl
namespace Go.Proofs.Ytlbmmhibepdhlaa
/- THE CELL 'sum', in the pinned program and in every row, IS THE sha256 OF THE DUMP (.gsa) THAT YtlbmmhibepdhlaaProg.lean LOADS. Nothing in Lean hashes anything: it is a label: what it is worth is what the hold of that sum in a sandbox is worth. -/
noncomputable def Try.pinned : Pinned := { name := "ytlbmmhibepdhlaa", sum := "40a4ed37ccb0681c4a13854996d85c80ef3bc0e327c1c6122a5ff304c1388ce8", checked := Try.checked }
namespace Rows
def none {H : Type} : Left H := { results := [], args := [] }

/-- 'laws.FnExactDiffChange': WHATEVER THE INPUT: true; the input reads as it did. -/
def fnExactDiffChangeSpec : ChangeSpec := { name := "fnExactDiffChange", fn := fun _ => fun
  | [d1, d2] => { results := [.lit (.bool true)], args := [d1, d2] }
  | _ => none }
def fnExactDiffChangeRow : OpenClaim := { program := "ytlbmmhibepdhlaa", sum := "40a4ed37ccb0681c4a13854996d85c80ef3bc0e327c1c6122a5ff304c1388ce8", func := "loop.example/texteditor/laws.FnExactDiffChange", spec := "fnExactDiffChange", apart := false }
def FnExactDiffChangeSaid : Prop := fnExactDiffChangeRow.holds Try.pinned (OpenSpec.ofChange fnExactDiffChangeSpec)

/-- ITS FALSE NEIGHBOUR: 'it returns false'. Refute it at one input. -/
def fnExactDiffChangeWrong : ChangeSpec := { name := "fnExactDiffChange", fn := fun _ => fun
  | [d1, d2] => { results := [.lit (.bool false)], args := [d1, d2] }
  | _ => none }
def FnExactDiffChangeWrongFalsely : Prop := fnExactDiffChangeRow.holds Try.pinned (OpenSpec.ofChange fnExactDiffChangeWrong)

/-- 'laws.FnExactApplyChange': WHATEVER THE INPUT: true; the input reads as it did. -/
def fnExactApplyChangeSpec : ChangeSpec := { name := "fnExactApplyChange", fn := fun _ => fun
  | [d1, d2] => { results := [.lit (.bool true)], args := [d1, d2] }
  | _ => none }
def fnExactApplyChangeRow : OpenClaim := { program := "ytlbmmhibepdhlaa", sum := "40a4ed37ccb0681c4a13854996d85c80ef3bc0e327c1c6122a5ff304c1388ce8", func := "loop.example/texteditor/laws.FnExactApplyChange", spec := "fnExactApplyChange", apart := false }
def FnExactApplyChangeSaid : Prop := fnExactApplyChangeRow.holds Try.pinned (OpenSpec.ofChange fnExactApplyChangeSpec)

/-- ITS FALSE NEIGHBOUR: 'it returns false'. Refute it at one input. -/
def fnExactApplyChangeWrong : ChangeSpec := { name := "fnExactApplyChange", fn := fun _ => fun
  | [d1, d2] => { results := [.lit (.bool false)], args := [d1, d2] }
  | _ => none }
def FnExactApplyChangeWrongFalsely : Prop := fnExactApplyChangeRow.holds Try.pinned (OpenSpec.ofChange fnExactApplyChangeWrong)

/-- 'laws.FnExactGapErase': WHATEVER THE INPUT: true; the input reads as it did. -/
def fnExactGapEraseSpec : ChangeSpec := { name := "fnExactGapErase", fn := fun _ => fun
  | [d1, d2] => { results := [.lit (.bool true)], args := [d1, d2] }
  | _ => none }
def fnExactGapEraseRow : OpenClaim := { program := "ytlbmmhibepdhlaa", sum := "40a4ed37ccb0681c4a13854996d85c80ef3bc0e327c1c6122a5ff304c1388ce8", func := "loop.example/texteditor/laws.FnExactGapErase", spec := "fnExactGapErase", apart := false }
def FnExactGapEraseSaid : Prop := fnExactGapEraseRow.holds Try.pinned (OpenSpec.ofChange fnExactGapEraseSpec)

/-- ITS FALSE NEIGHBOUR: 'it returns false'. Refute it at one input. -/
def fnExactGapEraseWrong : ChangeSpec := { name := "fnExactGapErase", fn := fun _ => fun
  | [d1, d2] => { results := [.lit (.bool false)], args := [d1, d2] }
  | _ => none }
def FnExactGapEraseWrongFalsely : Prop := fnExactGapEraseRow.holds Try.pinned (OpenSpec.ofChange fnExactGapEraseWrong)

/-- 'laws.FnExactGapType': WHATEVER THE INPUT: true; the input reads as it did. -/
def fnExactGapTypeSpec : ChangeSpec := { name := "fnExactGapType", fn := fun _ => fun
  | [d1, d2] => { results := [.lit (.bool true)], args := [d1, d2] }
  | _ => none }
def fnExactGapTypeRow : OpenClaim := { program := "ytlbmmhibepdhlaa", sum := "40a4ed37ccb0681c4a13854996d85c80ef3bc0e327c1c6122a5ff304c1388ce8", func := "loop.example/texteditor/laws.FnExactGapType", spec := "fnExactGapType", apart := false }
def FnExactGapTypeSaid : Prop := fnExactGapTypeRow.holds Try.pinned (OpenSpec.ofChange fnExactGapTypeSpec)

/-- ITS FALSE NEIGHBOUR: 'it returns false'. Refute it at one input. -/
def fnExactGapTypeWrong : ChangeSpec := { name := "fnExactGapType", fn := fun _ => fun
  | [d1, d2] => { results := [.lit (.bool false)], args := [d1, d2] }
  | _ => none }
def FnExactGapTypeWrongFalsely : Prop := fnExactGapTypeRow.holds Try.pinned (OpenSpec.ofChange fnExactGapTypeWrong)

/-- 'laws.FnExactReverseChange': WHATEVER THE INPUT: true; the input reads as it did. -/
def fnExactReverseChangeSpec : ChangeSpec := { name := "fnExactReverseChange", fn := fun _ => fun
  | [d1, d2] => { results := [.lit (.bool true)], args := [d1, d2] }
  | _ => none }
def fnExactReverseChangeRow : OpenClaim := { program := "ytlbmmhibepdhlaa", sum := "40a4ed37ccb0681c4a13854996d85c80ef3bc0e327c1c6122a5ff304c1388ce8", func := "loop.example/texteditor/laws.FnExactReverseChange", spec := "fnExactReverseChange", apart := false }
def FnExactReverseChangeSaid : Prop := fnExactReverseChangeRow.holds Try.pinned (OpenSpec.ofChange fnExactReverseChangeSpec)

/-- ITS FALSE NEIGHBOUR: 'it returns false'. Refute it at one input. -/
def fnExactReverseChangeWrong : ChangeSpec := { name := "fnExactReverseChange", fn := fun _ => fun
  | [d1, d2] => { results := [.lit (.bool false)], args := [d1, d2] }
  | _ => none }
def FnExactReverseChangeWrongFalsely : Prop := fnExactReverseChangeRow.holds Try.pinned (OpenSpec.ofChange fnExactReverseChangeWrong)

/-- 'laws.FnExactMarksValid': WHATEVER THE INPUT: true; the input reads as it did. -/
def fnExactMarksValidSpec : ChangeSpec := { name := "fnExactMarksValid", fn := fun _ => fun
  | [d1, d2] => { results := [.lit (.bool true)], args := [d1, d2] }
  | _ => none }
def fnExactMarksValidRow : OpenClaim := { program := "ytlbmmhibepdhlaa", sum := "40a4ed37ccb0681c4a13854996d85c80ef3bc0e327c1c6122a5ff304c1388ce8", func := "loop.example/texteditor/laws.FnExactMarksValid", spec := "fnExactMarksValid", apart := false }
def FnExactMarksValidSaid : Prop := fnExactMarksValidRow.holds Try.pinned (OpenSpec.ofChange fnExactMarksValidSpec)

/-- ITS FALSE NEIGHBOUR: 'it returns false'. Refute it at one input. -/
def fnExactMarksValidWrong : ChangeSpec := { name := "fnExactMarksValid", fn := fun _ => fun
  | [d1, d2] => { results := [.lit (.bool false)], args := [d1, d2] }
  | _ => none }
def FnExactMarksValidWrongFalsely : Prop := fnExactMarksValidRow.holds Try.pinned (OpenSpec.ofChange fnExactMarksValidWrong)

/-- 'laws.FnExactGapMove': WHATEVER THE INPUT: true; the input reads as it did. -/
def fnExactGapMoveSpec : ChangeSpec := { name := "fnExactGapMove", fn := fun _ => fun
  | [d1, d2] => { results := [.lit (.bool true)], args := [d1, d2] }
  | _ => none }
def fnExactGapMoveRow : OpenClaim := { program := "ytlbmmhibepdhlaa", sum := "40a4ed37ccb0681c4a13854996d85c80ef3bc0e327c1c6122a5ff304c1388ce8", func := "loop.example/texteditor/laws.FnExactGapMove", spec := "fnExactGapMove", apart := false }
def FnExactGapMoveSaid : Prop := fnExactGapMoveRow.holds Try.pinned (OpenSpec.ofChange fnExactGapMoveSpec)

/-- ITS FALSE NEIGHBOUR: 'it returns false'. Refute it at one input. -/
def fnExactGapMoveWrong : ChangeSpec := { name := "fnExactGapMove", fn := fun _ => fun
  | [d1, d2] => { results := [.lit (.bool false)], args := [d1, d2] }
  | _ => none }
def FnExactGapMoveWrongFalsely : Prop := fnExactGapMoveRow.holds Try.pinned (OpenSpec.ofChange fnExactGapMoveWrong)

/-- 'laws.FnExactColumnOf': WHATEVER THE INPUT: true; the input reads as it did. -/
def fnExactColumnOfSpec : ChangeSpec := { name := "fnExactColumnOf", fn := fun _ => fun
  | [d1, d2] => { results := [.lit (.bool true)], args := [d1, d2] }
  | _ => none }
def fnExactColumnOfRow : OpenClaim := { program := "ytlbmmhibepdhlaa", sum := "40a4ed37ccb0681c4a13854996d85c80ef3bc0e327c1c6122a5ff304c1388ce8", func := "loop.example/texteditor/laws.FnExactColumnOf", spec := "fnExactColumnOf", apart := false }
def FnExactColumnOfSaid : Prop := fnExactColumnOfRow.holds Try.pinned (OpenSpec.ofChange fnExactColumnOfSpec)

/-- ITS FALSE NEIGHBOUR: 'it returns false'. Refute it at one input. -/
def fnExactColumnOfWrong : ChangeSpec := { name := "fnExactColumnOf", fn := fun _ => fun
  | [d1, d2] => { results := [.lit (.bool false)], args := [d1, d2] }
  | _ => none }
def FnExactColumnOfWrongFalsely : Prop := fnExactColumnOfRow.holds Try.pinned (OpenSpec.ofChange fnExactColumnOfWrong)

/-- 'laws.FnExactNextMark': WHATEVER THE INPUT: true; the input reads as it did. -/
def fnExactNextMarkSpec : ChangeSpec := { name := "fnExactNextMark", fn := fun _ => fun
  | [d1, d2, d3] => { results := [.lit (.bool true)], args := [d1, d2, d3] }
  | _ => none }
def fnExactNextMarkRow : OpenClaim := { program := "ytlbmmhibepdhlaa", sum := "40a4ed37ccb0681c4a13854996d85c80ef3bc0e327c1c6122a5ff304c1388ce8", func := "loop.example/texteditor/laws.FnExactNextMark", spec := "fnExactNextMark", apart := false }
def FnExactNextMarkSaid : Prop := fnExactNextMarkRow.holds Try.pinned (OpenSpec.ofChange fnExactNextMarkSpec)

/-- ITS FALSE NEIGHBOUR: 'it returns false'. Refute it at one input. -/
def fnExactNextMarkWrong : ChangeSpec := { name := "fnExactNextMark", fn := fun _ => fun
  | [d1, d2, d3] => { results := [.lit (.bool false)], args := [d1, d2, d3] }
  | _ => none }
def FnExactNextMarkWrongFalsely : Prop := fnExactNextMarkRow.holds Try.pinned (OpenSpec.ofChange fnExactNextMarkWrong)

/-- 'laws.FnExactLineMany': WHATEVER THE INPUT: true; the input reads as it did. -/
def fnExactLineManySpec : ChangeSpec := { name := "fnExactLineMany", fn := fun _ => fun
  | [d] => { results := [.lit (.bool true)], args := [d] }
  | _ => none }
def fnExactLineManyRow : OpenClaim := { program := "ytlbmmhibepdhlaa", sum := "40a4ed37ccb0681c4a13854996d85c80ef3bc0e327c1c6122a5ff304c1388ce8", func := "loop.example/texteditor/laws.FnExactLineMany", spec := "fnExactLineMany", inPlace := ["internal/bytealg.CountString", "internal/bytealg.IndexByteString", "internal/bytealg.IndexString"], named := ["internal/bytealg.MaxLen"], apart := false }
def FnExactLineManySaid : Prop := fnExactLineManyRow.holds Try.pinned (OpenSpec.ofChange fnExactLineManySpec)

/-- ITS FALSE NEIGHBOUR: 'it returns false'. Refute it at one input. -/
def fnExactLineManyWrong : ChangeSpec := { name := "fnExactLineMany", fn := fun _ => fun
  | [d] => { results := [.lit (.bool false)], args := [d] }
  | _ => none }
def FnExactLineManyWrongFalsely : Prop := fnExactLineManyRow.holds Try.pinned (OpenSpec.ofChange fnExactLineManyWrong)

/-- 'laws.FnExactLineOf': WHATEVER THE INPUT: true; the input reads as it did. -/
def fnExactLineOfSpec : ChangeSpec := { name := "fnExactLineOf", fn := fun _ => fun
  | [d1, d2] => { results := [.lit (.bool true)], args := [d1, d2] }
  | _ => none }
def fnExactLineOfRow : OpenClaim := { program := "ytlbmmhibepdhlaa", sum := "40a4ed37ccb0681c4a13854996d85c80ef3bc0e327c1c6122a5ff304c1388ce8", func := "loop.example/texteditor/laws.FnExactLineOf", spec := "fnExactLineOf", inPlace := ["internal/bytealg.CountString", "internal/bytealg.IndexByteString", "internal/bytealg.IndexString"], named := ["internal/bytealg.MaxLen"], apart := false }
def FnExactLineOfSaid : Prop := fnExactLineOfRow.holds Try.pinned (OpenSpec.ofChange fnExactLineOfSpec)

/-- ITS FALSE NEIGHBOUR: 'it returns false'. Refute it at one input. -/
def fnExactLineOfWrong : ChangeSpec := { name := "fnExactLineOf", fn := fun _ => fun
  | [d1, d2] => { results := [.lit (.bool false)], args := [d1, d2] }
  | _ => none }
def FnExactLineOfWrongFalsely : Prop := fnExactLineOfRow.holds Try.pinned (OpenSpec.ofChange fnExactLineOfWrong)

/-- 'laws.FnExactMoveMarks': WHATEVER THE INPUT: true; the input reads as it did. -/
def fnExactMoveMarksSpec : ChangeSpec := { name := "fnExactMoveMarks", fn := fun _ => fun
  | [d1, d2, d3] => { results := [.lit (.bool true)], args := [d1, d2, d3] }
  | _ => none }
def fnExactMoveMarksRow : OpenClaim := { program := "ytlbmmhibepdhlaa", sum := "40a4ed37ccb0681c4a13854996d85c80ef3bc0e327c1c6122a5ff304c1388ce8", func := "loop.example/texteditor/laws.FnExactMoveMarks", spec := "fnExactMoveMarks", apart := false }
def FnExactMoveMarksSaid : Prop := fnExactMoveMarksRow.holds Try.pinned (OpenSpec.ofChange fnExactMoveMarksSpec)

/-- ITS FALSE NEIGHBOUR: 'it returns false'. Refute it at one input. -/
def fnExactMoveMarksWrong : ChangeSpec := { name := "fnExactMoveMarks", fn := fun _ => fun
  | [d1, d2, d3] => { results := [.lit (.bool false)], args := [d1, d2, d3] }
  | _ => none }
def FnExactMoveMarksWrongFalsely : Prop := fnExactMoveMarksRow.holds Try.pinned (OpenSpec.ofChange fnExactMoveMarksWrong)

/- THE SECOND FORM. 'bulk': how many values and letters a reading holds, each counted each time it is reached (what is shared counts as often as it is met; a slice's spare places count too). A statement '..UptoSaid' is the law's where the arguments, and the package variables that the reading takes, are together of bulk at most 1048576: NARROWER than '..Said'. Prove '..Said' where nothing that the law and all that it calls make is longer than what came in: it says more and counts as full. Else prove '..UptoSaid'. A law counts once. -/
mutual
def uptoBulk {H : Type} : DataW H → Nat
  | .lit (.string bytes) => bytes.length + 1
  | .lit _ => 1
  | .nil => 1
  | .ptr d => uptoBulk d + 1
  | .slice elems spare => uptoBulkAll elems + uptoBulkAll spare + 1
  | .agg parts => uptoBulkAll parts + 1
  | .iface _ d => uptoBulk d + 1
  | .map entries => uptoBulkEntries entries + 1
  | .held _ => 1
def uptoBulkAll {H : Type} : List (DataW H) → Nat
  | [] => 0
  | d :: r => uptoBulk d + uptoBulkAll r
def uptoBulkEntries {H : Type} : List (Lit × DataW H) → Nat
  | [] => 0
  | x :: r => uptoBulkEntry x + uptoBulkEntries r
def uptoBulkEntry {H : Type} : Lit × DataW H → Nat
  | (.string bytes, d) => bytes.length + uptoBulk d + 1
  | (_, d) => uptoBulk d + 1
 end
def uptoSmall : (H : Type) → List (DataW H) → Bool := fun _ ds => decide (uptoBulkAll ds ≤ 1048576)
def OpenSpec.upto (s : _root_.Go.ChangeSpec) : _root_.Go.OpenSpec := { _root_.Go.OpenSpec.ofChange s with cond := some uptoSmall }

/-- 'laws.FnExactDiffChange', WHERE WHAT IT READS IS OF BULK AT MOST 1048576: true; the input reads as it did. -/
def fnExactDiffChangeUptoRow : OpenClaim := { program := "ytlbmmhibepdhlaa", sum := "40a4ed37ccb0681c4a13854996d85c80ef3bc0e327c1c6122a5ff304c1388ce8", func := "loop.example/texteditor/laws.FnExactDiffChange", spec := "fnExactDiffChange", apart := false, narrowed := true }
def FnExactDiffChangeUptoSaid : Prop := fnExactDiffChangeUptoRow.holds Try.pinned (OpenSpec.upto fnExactDiffChangeSpec)

/-- 'laws.FnExactApplyChange', WHERE WHAT IT READS IS OF BULK AT MOST 1048576: true; the input reads as it did. -/
def fnExactApplyChangeUptoRow : OpenClaim := { program := "ytlbmmhibepdhlaa", sum := "40a4ed37ccb0681c4a13854996d85c80ef3bc0e327c1c6122a5ff304c1388ce8", func := "loop.example/texteditor/laws.FnExactApplyChange", spec := "fnExactApplyChange", apart := false, narrowed := true }
def FnExactApplyChangeUptoSaid : Prop := fnExactApplyChangeUptoRow.holds Try.pinned (OpenSpec.upto fnExactApplyChangeSpec)

/-- 'laws.FnExactGapErase', WHERE WHAT IT READS IS OF BULK AT MOST 1048576: true; the input reads as it did. -/
def fnExactGapEraseUptoRow : OpenClaim := { program := "ytlbmmhibepdhlaa", sum := "40a4ed37ccb0681c4a13854996d85c80ef3bc0e327c1c6122a5ff304c1388ce8", func := "loop.example/texteditor/laws.FnExactGapErase", spec := "fnExactGapErase", apart := false, narrowed := true }
def FnExactGapEraseUptoSaid : Prop := fnExactGapEraseUptoRow.holds Try.pinned (OpenSpec.upto fnExactGapEraseSpec)

/-- 'laws.FnExactGapType', WHERE WHAT IT READS IS OF BULK AT MOST 1048576: true; the input reads as it did. -/
def fnExactGapTypeUptoRow : OpenClaim := { program := "ytlbmmhibepdhlaa", sum := "40a4ed37ccb0681c4a13854996d85c80ef3bc0e327c1c6122a5ff304c1388ce8", func := "loop.example/texteditor/laws.FnExactGapType", spec := "fnExactGapType", apart := false, narrowed := true }
def FnExactGapTypeUptoSaid : Prop := fnExactGapTypeUptoRow.holds Try.pinned (OpenSpec.upto fnExactGapTypeSpec)

/-- 'laws.FnExactReverseChange', WHERE WHAT IT READS IS OF BULK AT MOST 1048576: true; the input reads as it did. -/
def fnExactReverseChangeUptoRow : OpenClaim := { program := "ytlbmmhibepdhlaa", sum := "40a4ed37ccb0681c4a13854996d85c80ef3bc0e327c1c6122a5ff304c1388ce8", func := "loop.example/texteditor/laws.FnExactReverseChange", spec := "fnExactReverseChange", apart := false, narrowed := true }
def FnExactReverseChangeUptoSaid : Prop := fnExactReverseChangeUptoRow.holds Try.pinned (OpenSpec.upto fnExactReverseChangeSpec)

/-- 'laws.FnExactMarksValid', WHERE WHAT IT READS IS OF BULK AT MOST 1048576: true; the input reads as it did. -/
def fnExactMarksValidUptoRow : OpenClaim := { program := "ytlbmmhibepdhlaa", sum := "40a4ed37ccb0681c4a13854996d85c80ef3bc0e327c1c6122a5ff304c1388ce8", func := "loop.example/texteditor/laws.FnExactMarksValid", spec := "fnExactMarksValid", apart := false, narrowed := true }
def FnExactMarksValidUptoSaid : Prop := fnExactMarksValidUptoRow.holds Try.pinned (OpenSpec.upto fnExactMarksValidSpec)

/-- 'laws.FnExactGapMove', WHERE WHAT IT READS IS OF BULK AT MOST 1048576: true; the input reads as it did. -/
def fnExactGapMoveUptoRow : OpenClaim := { program := "ytlbmmhibepdhlaa", sum := "40a4ed37ccb0681c4a13854996d85c80ef3bc0e327c1c6122a5ff304c1388ce8", func := "loop.example/texteditor/laws.FnExactGapMove", spec := "fnExactGapMove", apart := false, narrowed := true }
def FnExactGapMoveUptoSaid : Prop := fnExactGapMoveUptoRow.holds Try.pinned (OpenSpec.upto fnExactGapMoveSpec)

/-- 'laws.FnExactColumnOf', WHERE WHAT IT READS IS OF BULK AT MOST 1048576: true; the input reads as it did. -/
def fnExactColumnOfUptoRow : OpenClaim := { program := "ytlbmmhibepdhlaa", sum := "40a4ed37ccb0681c4a13854996d85c80ef3bc0e327c1c6122a5ff304c1388ce8", func := "loop.example/texteditor/laws.FnExactColumnOf", spec := "fnExactColumnOf", apart := false, narrowed := true }
def FnExactColumnOfUptoSaid : Prop := fnExactColumnOfUptoRow.holds Try.pinned (OpenSpec.upto fnExactColumnOfSpec)

/-- 'laws.FnExactNextMark', WHERE WHAT IT READS IS OF BULK AT MOST 1048576: true; the input reads as it did. -/
def fnExactNextMarkUptoRow : OpenClaim := { program := "ytlbmmhibepdhlaa", sum := "40a4ed37ccb0681c4a13854996d85c80ef3bc0e327c1c6122a5ff304c1388ce8", func := "loop.example/texteditor/laws.FnExactNextMark", spec := "fnExactNextMark", apart := false, narrowed := true }
def FnExactNextMarkUptoSaid : Prop := fnExactNextMarkUptoRow.holds Try.pinned (OpenSpec.upto fnExactNextMarkSpec)

/-- 'laws.FnExactLineMany', WHERE WHAT IT READS IS OF BULK AT MOST 1048576: true; the input reads as it did. -/
def fnExactLineManyUptoRow : OpenClaim := { program := "ytlbmmhibepdhlaa", sum := "40a4ed37ccb0681c4a13854996d85c80ef3bc0e327c1c6122a5ff304c1388ce8", func := "loop.example/texteditor/laws.FnExactLineMany", spec := "fnExactLineMany", inPlace := ["internal/bytealg.CountString", "internal/bytealg.IndexByteString", "internal/bytealg.IndexString"], named := ["internal/bytealg.MaxLen"], apart := false, narrowed := true }
def FnExactLineManyUptoSaid : Prop := fnExactLineManyUptoRow.holds Try.pinned (OpenSpec.upto fnExactLineManySpec)

/-- 'laws.FnExactLineOf', WHERE WHAT IT READS IS OF BULK AT MOST 1048576: true; the input reads as it did. -/
def fnExactLineOfUptoRow : OpenClaim := { program := "ytlbmmhibepdhlaa", sum := "40a4ed37ccb0681c4a13854996d85c80ef3bc0e327c1c6122a5ff304c1388ce8", func := "loop.example/texteditor/laws.FnExactLineOf", spec := "fnExactLineOf", inPlace := ["internal/bytealg.CountString", "internal/bytealg.IndexByteString", "internal/bytealg.IndexString"], named := ["internal/bytealg.MaxLen"], apart := false, narrowed := true }
def FnExactLineOfUptoSaid : Prop := fnExactLineOfUptoRow.holds Try.pinned (OpenSpec.upto fnExactLineOfSpec)

/-- 'laws.FnExactMoveMarks', WHERE WHAT IT READS IS OF BULK AT MOST 1048576: true; the input reads as it did. -/
def fnExactMoveMarksUptoRow : OpenClaim := { program := "ytlbmmhibepdhlaa", sum := "40a4ed37ccb0681c4a13854996d85c80ef3bc0e327c1c6122a5ff304c1388ce8", func := "loop.example/texteditor/laws.FnExactMoveMarks", spec := "fnExactMoveMarks", apart := false, narrowed := true }
def FnExactMoveMarksUptoSaid : Prop := fnExactMoveMarksUptoRow.holds Try.pinned (OpenSpec.upto fnExactMoveMarksSpec)

end Rows
end Go.Proofs.Ytlbmmhibepdhlaa
