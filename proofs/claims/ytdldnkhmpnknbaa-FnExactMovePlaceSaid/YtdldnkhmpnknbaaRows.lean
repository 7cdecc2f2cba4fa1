/-
  No cell of these rows narrows 'for every input' (looked for: loops, veiled, ifaces, maps, wideKeys, modest, calm, conditions, laid).
  DERIVED. THE GIVEN ROWS OF THIS SEAT. 7 by the template 'for every input the law returns true; each argument reads behind the call as it read before'; 0 by the template 'total and deterministic' (their statements: YtdldnkhmpnknbaaTotals.lean).
  GIVEN WITH THE SEED: the statements are not yours to turn. If you find one false, say at which input.
  Laid BY PROGRAM, IN A SANDBOX (cutbox-rows.mjs): the forced cells as the released guide's own fill.sh prints them over the translation 8987a4ed88266d12… (all of the seat's roots in one cut). By AI agents, Wed Nov 11 2026. No macro, syntax, notation, axiom, sorry.
-/
import Derived.Test.YtdldnkhmpnknbaaChecked
import GoSem.Claim
import GoSem.ClaimJoined
import GoSem.ClaimMapViews
import Derived.JoinedTies
import Derived.KernelRfl
namespace Go.Proofs.Ytdldnkhmpnknbaa
/- THE CELL 'sum', in the pinned program and in every row, IS THE sha256 OF THE DUMP (.gsa) THAT YtdldnkhmpnknbaaProg.lean LOADS. Nothing in Lean hashes anything: it is a label: what it is worth is what the hold of that sum in a sandbox is worth. -/
noncomputable def Try.pinned : Pinned := { name := "ytdldnkhmpnknbaa", sum := "8987a4ed88266d1253462f70c7a87febbc248d36fcac5717c7af880f03f12053", checked := Try.checked }
namespace Rows
def none {H : Type} : Left H := { results := [], args := [] }

/-- 'laws.FnExactConstants': WHATEVER THE INPUT: true; the input reads as it did. -/
def fnExactConstantsSpec : ChangeSpec := { name := "fnExactConstants", fn := fun _ => fun
  | [] => { results := [.lit (.bool true)], args := [] }
  | _ => none }
def fnExactConstantsRow : OpenClaim := { program := "ytdldnkhmpnknbaa", sum := "8987a4ed88266d1253462f70c7a87febbc248d36fcac5717c7af880f03f12053", func := "loop.example/texteditor/laws.FnExactConstants", spec := "fnExactConstants", apart := false }
def FnExactConstantsSaid : Prop := fnExactConstantsRow.holds Try.pinned (OpenSpec.ofChange fnExactConstantsSpec)

/-- ITS FALSE NEIGHBOUR: 'it returns false'. Refute it at one input. -/
def fnExactConstantsWrong : ChangeSpec := { name := "fnExactConstants", fn := fun _ => fun
  | [] => { results := [.lit (.bool false)], args := [] }
  | _ => none }
def FnExactConstantsWrongFalsely : Prop := fnExactConstantsRow.holds Try.pinned (OpenSpec.ofChange fnExactConstantsWrong)

/-- 'laws.FnExactTextValid': WHATEVER THE INPUT: true; the input reads as it did. -/
def fnExactTextValidSpec : ChangeSpec := { name := "fnExactTextValid", fn := fun _ => fun
  | [d] => { results := [.lit (.bool true)], args := [d] }
  | _ => none }
def fnExactTextValidRow : OpenClaim := { program := "ytdldnkhmpnknbaa", sum := "8987a4ed88266d1253462f70c7a87febbc248d36fcac5717c7af880f03f12053", func := "loop.example/texteditor/laws.FnExactTextValid", spec := "fnExactTextValid", apart := false }
def FnExactTextValidSaid : Prop := fnExactTextValidRow.holds Try.pinned (OpenSpec.ofChange fnExactTextValidSpec)

/-- ITS FALSE NEIGHBOUR: 'it returns false'. Refute it at one input. -/
def fnExactTextValidWrong : ChangeSpec := { name := "fnExactTextValid", fn := fun _ => fun
  | [d] => { results := [.lit (.bool false)], args := [d] }
  | _ => none }
def FnExactTextValidWrongFalsely : Prop := fnExactTextValidRow.holds Try.pinned (OpenSpec.ofChange fnExactTextValidWrong)

/-- 'laws.FnExactMovePlace': WHATEVER THE INPUT: true; the input reads as it did. -/
def fnExactMovePlaceSpec : ChangeSpec := { name := "fnExactMovePlace", fn := fun _ => fun
  | [d1, d2, d3] => { results := [.lit (.bool true)], args := [d1, d2, d3] }
  | _ => none }
def fnExactMovePlaceRow : OpenClaim := { program := "ytdldnkhmpnknbaa", sum := "8987a4ed88266d1253462f70c7a87febbc248d36fcac5717c7af880f03f12053", func := "loop.example/texteditor/laws.FnExactMovePlace", spec := "fnExactMovePlace", apart := false }
def FnExactMovePlaceSaid : Prop := fnExactMovePlaceRow.holds Try.pinned (OpenSpec.ofChange fnExactMovePlaceSpec)

/-- ITS FALSE NEIGHBOUR: 'it returns false'. Refute it at one input. -/
def fnExactMovePlaceWrong : ChangeSpec := { name := "fnExactMovePlace", fn := fun _ => fun
  | [d1, d2, d3] => { results := [.lit (.bool false)], args := [d1, d2, d3] }
  | _ => none }
def FnExactMovePlaceWrongFalsely : Prop := fnExactMovePlaceRow.holds Try.pinned (OpenSpec.ofChange fnExactMovePlaceWrong)

/-- 'laws.FnExactGapValid': WHATEVER THE INPUT: true; the input reads as it did. -/
def fnExactGapValidSpec : ChangeSpec := { name := "fnExactGapValid", fn := fun _ => fun
  | [d] => { results := [.lit (.bool true)], args := [d] }
  | _ => none }
def fnExactGapValidRow : OpenClaim := { program := "ytdldnkhmpnknbaa", sum := "8987a4ed88266d1253462f70c7a87febbc248d36fcac5717c7af880f03f12053", func := "loop.example/texteditor/laws.FnExactGapValid", spec := "fnExactGapValid", apart := false }
def FnExactGapValidSaid : Prop := fnExactGapValidRow.holds Try.pinned (OpenSpec.ofChange fnExactGapValidSpec)

/-- ITS FALSE NEIGHBOUR: 'it returns false'. Refute it at one input. -/
def fnExactGapValidWrong : ChangeSpec := { name := "fnExactGapValid", fn := fun _ => fun
  | [d] => { results := [.lit (.bool false)], args := [d] }
  | _ => none }
def FnExactGapValidWrongFalsely : Prop := fnExactGapValidRow.holds Try.pinned (OpenSpec.ofChange fnExactGapValidWrong)

/-- 'laws.FnExactGapOf': WHATEVER THE INPUT: true; the input reads as it did. -/
def fnExactGapOfSpec : ChangeSpec := { name := "fnExactGapOf", fn := fun _ => fun
  | [d1, d2] => { results := [.lit (.bool true)], args := [d1, d2] }
  | _ => none }
def fnExactGapOfRow : OpenClaim := { program := "ytdldnkhmpnknbaa", sum := "8987a4ed88266d1253462f70c7a87febbc248d36fcac5717c7af880f03f12053", func := "loop.example/texteditor/laws.FnExactGapOf", spec := "fnExactGapOf", apart := false }
def FnExactGapOfSaid : Prop := fnExactGapOfRow.holds Try.pinned (OpenSpec.ofChange fnExactGapOfSpec)

/-- ITS FALSE NEIGHBOUR: 'it returns false'. Refute it at one input. -/
def fnExactGapOfWrong : ChangeSpec := { name := "fnExactGapOf", fn := fun _ => fun
  | [d1, d2] => { results := [.lit (.bool false)], args := [d1, d2] }
  | _ => none }
def FnExactGapOfWrongFalsely : Prop := fnExactGapOfRow.holds Try.pinned (OpenSpec.ofChange fnExactGapOfWrong)

/-- 'laws.FnExactGapText': WHATEVER THE INPUT: true; the input reads as it did. -/
def fnExactGapTextSpec : ChangeSpec := { name := "fnExactGapText", fn := fun _ => fun
  | [d] => { results := [.lit (.bool true)], args := [d] }
  | _ => none }
def fnExactGapTextRow : OpenClaim := { program := "ytdldnkhmpnknbaa", sum := "8987a4ed88266d1253462f70c7a87febbc248d36fcac5717c7af880f03f12053", func := "loop.example/texteditor/laws.FnExactGapText", spec := "fnExactGapText", apart := false }
def FnExactGapTextSaid : Prop := fnExactGapTextRow.holds Try.pinned (OpenSpec.ofChange fnExactGapTextSpec)

/-- ITS FALSE NEIGHBOUR: 'it returns false'. Refute it at one input. -/
def fnExactGapTextWrong : ChangeSpec := { name := "fnExactGapText", fn := fun _ => fun
  | [d] => { results := [.lit (.bool false)], args := [d] }
  | _ => none }
def FnExactGapTextWrongFalsely : Prop := fnExactGapTextRow.holds Try.pinned (OpenSpec.ofChange fnExactGapTextWrong)

/-- 'laws.FnExactChangeFits': WHATEVER THE INPUT: true; the input reads as it did. -/
def fnExactChangeFitsSpec : ChangeSpec := { name := "fnExactChangeFits", fn := fun _ => fun
  | [d1, d2] => { results := [.lit (.bool true)], args := [d1, d2] }
  | _ => none }
def fnExactChangeFitsRow : OpenClaim := { program := "ytdldnkhmpnknbaa", sum := "8987a4ed88266d1253462f70c7a87febbc248d36fcac5717c7af880f03f12053", func := "loop.example/texteditor/laws.FnExactChangeFits", spec := "fnExactChangeFits", apart := false }
def FnExactChangeFitsSaid : Prop := fnExactChangeFitsRow.holds Try.pinned (OpenSpec.ofChange fnExactChangeFitsSpec)

/-- ITS FALSE NEIGHBOUR: 'it returns false'. Refute it at one input. -/
def fnExactChangeFitsWrong : ChangeSpec := { name := "fnExactChangeFits", fn := fun _ => fun
  | [d1, d2] => { results := [.lit (.bool false)], args := [d1, d2] }
  | _ => none }
def FnExactChangeFitsWrongFalsely : Prop := fnExactChangeFitsRow.holds Try.pinned (OpenSpec.ofChange fnExactChangeFitsWrong)

/- THE SECOND FORM. 'bulk': how many values and letters a reading holds, each counted each time it is reached (what is shared counts as often as it is met; a slice's spare places count too). A statement '..UptoSaid' is the law's where the arguments, and the package variables that the reading takes, are together of bulk at most 1048576: NARROWER than '..Said'. Prove '..Said' where nothing that the law and all that it calls make is longer than what came in: it says more and counts as full. Else prove '..UptoSaid'. A law counts once. -/
mutual
def uptoBulk {H : Type} : DataW H → Nat
  | .lit (.string bytes) => bytes.length + 1
  | .lit _ => 1
  | .nil => 1
  | .ptr d => uptoBulk d + 1
  | .slice elems spare => uptoBulkAll elems + uptoBulkAll spare + 1
  | .agg parts => uptoBulkAll parts + 1
  | .iface _ d => uptoBulk d + 1
  | .map entries => uptoBulkEntries entries + 1
  | .held _ => 1
def uptoBulkAll {H : Type} : List (DataW H) → Nat
  | [] => 0
  | d :: r => uptoBulk d + uptoBulkAll r
def uptoBulkEntries {H : Type} : List (Lit × DataW H) → Nat
  | [] => 0
  | x :: r => uptoBulkEntry x + uptoBulkEntries r
def uptoBulkEntry {H : Type} : Lit × DataW H → Nat
  | (.string bytes, d) => bytes.length + uptoBulk d + 1
  | (_, d) => uptoBulk d + 1
 end
def uptoSmall : (H : Type) → List (DataW H) → Bool := fun _ ds => decide (uptoBulkAll ds ≤ 1048576)
def OpenSpec.upto (s : _root_.Go.ChangeSpec) : _root_.Go.OpenSpec := { _root_.Go.OpenSpec.ofChange s with cond := some uptoSmall }

/-- 'laws.FnExactConstants', WHERE WHAT IT READS IS OF BULK AT MOST 1048576: true; the input reads as it did. -/
def fnExactConstantsUptoRow : OpenClaim := { program := "ytdldnkhmpnknbaa", sum := "8987a4ed88266d1253462f70c7a87febbc248d36fcac5717c7af880f03f12053", func := "loop.example/texteditor/laws.FnExactConstants", spec := "fnExactConstants", apart := false, narrowed := true }
def FnExactConstantsUptoSaid : Prop := fnExactConstantsUptoRow.holds Try.pinned (OpenSpec.upto fnExactConstantsSpec)

/-- 'laws.FnExactTextValid', WHERE WHAT IT READS IS OF BULK AT MOST 1048576: true; the input reads as it did. -/
def fnExactTextValidUptoRow : OpenClaim := { program := "ytdldnkhmpnknbaa", sum := "8987a4ed88266d1253462f70c7a87febbc248d36fcac5717c7af880f03f12053", func := "loop.example/texteditor/laws.FnExactTextValid", spec := "fnExactTextValid", apart := false, narrowed := true }
def FnExactTextValidUptoSaid : Prop := fnExactTextValidUptoRow.holds Try.pinned (OpenSpec.upto fnExactTextValidSpec)

/-- 'laws.FnExactMovePlace', WHERE WHAT IT READS IS OF BULK AT MOST 1048576: true; the input reads as it did. -/
def fnExactMovePlaceUptoRow : OpenClaim := { program := "ytdldnkhmpnknbaa", sum := "8987a4ed88266d1253462f70c7a87febbc248d36fcac5717c7af880f03f12053", func := "loop.example/texteditor/laws.FnExactMovePlace", spec := "fnExactMovePlace", apart := false, narrowed := true }
def FnExactMovePlaceUptoSaid : Prop := fnExactMovePlaceUptoRow.holds Try.pinned (OpenSpec.upto fnExactMovePlaceSpec)

/-- 'laws.FnExactGapValid', WHERE WHAT IT READS IS OF BULK AT MOST 1048576: true; the input reads as it did. -/
def fnExactGapValidUptoRow : OpenClaim := { program := "ytdldnkhmpnknbaa", sum := "8987a4ed88266d1253462f70c7a87febbc248d36fcac5717c7af880f03f12053", func := "loop.example/texteditor/laws.FnExactGapValid", spec := "fnExactGapValid", apart := false, narrowed := true }
def FnExactGapValidUptoSaid : Prop := fnExactGapValidUptoRow.holds Try.pinned (OpenSpec.upto fnExactGapValidSpec)

/-- 'laws.FnExactGapOf', WHERE WHAT IT READS IS OF BULK AT MOST 1048576: true; the input reads as it did. -/
def fnExactGapOfUptoRow : OpenClaim := { program := "ytdldnkhmpnknbaa", sum := "8987a4ed88266d1253462f70c7a87febbc248d36fcac5717c7af880f03f12053", func := "loop.example/texteditor/laws.FnExactGapOf", spec := "fnExactGapOf", apart := false, narrowed := true }
def FnExactGapOfUptoSaid : Prop := fnExactGapOfUptoRow.holds Try.pinned (OpenSpec.upto fnExactGapOfSpec)

/-- 'laws.FnExactGapText', WHERE WHAT IT READS IS OF BULK AT MOST 1048576: true; the input reads as it did. -/
def fnExactGapTextUptoRow : OpenClaim := { program := "ytdldnkhmpnknbaa", sum := "8987a4ed88266d1253462f70c7a87febbc248d36fcac5717c7af880f03f12053", func := "loop.example/texteditor/laws.FnExactGapText", spec := "fnExactGapText", apart := false, narrowed := true }
def FnExactGapTextUptoSaid : Prop := fnExactGapTextUptoRow.holds Try.pinned (OpenSpec.upto fnExactGapTextSpec)

/-- 'laws.FnExactChangeFits', WHERE WHAT IT READS IS OF BULK AT MOST 1048576: true; the input reads as it did. -/
def fnExactChangeFitsUptoRow : OpenClaim := { program := "ytdldnkhmpnknbaa", sum := "8987a4ed88266d1253462f70c7a87febbc248d36fcac5717c7af880f03f12053", func := "loop.example/texteditor/laws.FnExactChangeFits", spec := "fnExactChangeFits", apart := false, narrowed := true }
def FnExactChangeFitsUptoSaid : Prop := fnExactChangeFitsUptoRow.holds Try.pinned (OpenSpec.upto fnExactChangeFitsSpec)

end Rows
end Go.Proofs.Ytdldnkhmpnknbaa
