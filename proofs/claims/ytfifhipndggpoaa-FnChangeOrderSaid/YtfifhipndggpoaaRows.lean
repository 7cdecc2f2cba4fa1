/-
  No cell of these rows narrows 'for every input' (looked for: loops, veiled, ifaces, maps, wideKeys, modest, calm, conditions, laid).
  DERIVED. THE GIVEN ROWS OF THIS SEAT. 12 by the template 'for every input the law returns true; each argument reads behind the call as it read before'; 0 by the template 'total and deterministic' (their statements: YtfifhipndggpoaaTotals.lean).
  GIVEN WITH THE SEED: the statements are not yours to turn. If you find one false, say at which input.
  Laid BY PROGRAM, IN A SANDBOX (cutbox-rows.mjs): the forced cells as the released guide's own fill.sh prints them over the translation fb4d9f468c451b6e… (all of the seat's roots in one cut). By AI agents, Wed Nov 11 2026. No macro, syntax, notation, axiom, sorry.
-/
import Derived.Test.YtfifhipndggpoaaChecked
import GoSem.Claim
import GoSem.ClaimJoined
import GoSem.ClaimMapViews
import Derived.JoinedTies
import Derived.KernelRfl
namespace Go.Proofs.Ytfifhipndggpoaa
/- THE CELL 'sum', in the pinned program and in every row, IS THE sha256 OF THE DUMP (.gsa) THAT YtfifhipndggpoaaProg.lean LOADS. Nothing in Lean hashes anything: it is a label: what it is worth is what the hold of that sum in a sandbox is worth. -/
noncomputable def Try.pinned : Pinned := { name := "ytfifhipndggpoaa", sum := "fb4d9f468c451b6eb3248bcab0b54928c62573a2f7e67b9fb56eadc45c65b9a4", checked := Try.checked }
namespace Rows
def none {H : Type} : Left H := { results := [], args := [] }

/-- 'laws.FnTextValid': WHATEVER THE INPUT: true; the input reads as it did. -/
def fnTextValidSpec : ChangeSpec := { name := "fnTextValid", fn := fun _ => fun
  | [d] => { results := [.lit (.bool true)], args := [d] }
  | _ => none }
def fnTextValidRow : OpenClaim := { program := "ytfifhipndggpoaa", sum := "fb4d9f468c451b6eb3248bcab0b54928c62573a2f7e67b9fb56eadc45c65b9a4", func := "loop.example/texteditor/laws.FnTextValid", spec := "fnTextValid", inPlace := ["internal/bytealg.CountString", "internal/bytealg.IndexByteString", "internal/bytealg.IndexString"], named := ["internal/bytealg.MaxLen"], apart := false }
def FnTextValidSaid : Prop := fnTextValidRow.holds Try.pinned (OpenSpec.ofChange fnTextValidSpec)

/-- ITS FALSE NEIGHBOUR: 'it returns false'. Refute it at one input. -/
def fnTextValidWrong : ChangeSpec := { name := "fnTextValid", fn := fun _ => fun
  | [d] => { results := [.lit (.bool false)], args := [d] }
  | _ => none }
def FnTextValidWrongFalsely : Prop := fnTextValidRow.holds Try.pinned (OpenSpec.ofChange fnTextValidWrong)

/-- 'laws.FnGapValid': WHATEVER THE INPUT: true; the input reads as it did. -/
def fnGapValidSpec : ChangeSpec := { name := "fnGapValid", fn := fun _ => fun
  | [d] => { results := [.lit (.bool true)], args := [d] }
  | _ => none }
def fnGapValidRow : OpenClaim := { program := "ytfifhipndggpoaa", sum := "fb4d9f468c451b6eb3248bcab0b54928c62573a2f7e67b9fb56eadc45c65b9a4", func := "loop.example/texteditor/laws.FnGapValid", spec := "fnGapValid", inPlace := ["internal/bytealg.CountString", "internal/bytealg.IndexByteString", "internal/bytealg.IndexString"], named := ["internal/bytealg.MaxLen"], apart := false }
def FnGapValidSaid : Prop := fnGapValidRow.holds Try.pinned (OpenSpec.ofChange fnGapValidSpec)

/-- ITS FALSE NEIGHBOUR: 'it returns false'. Refute it at one input. -/
def fnGapValidWrong : ChangeSpec := { name := "fnGapValid", fn := fun _ => fun
  | [d] => { results := [.lit (.bool false)], args := [d] }
  | _ => none }
def FnGapValidWrongFalsely : Prop := fnGapValidRow.holds Try.pinned (OpenSpec.ofChange fnGapValidWrong)

/-- 'laws.FnGapText': WHATEVER THE INPUT: true; the input reads as it did. -/
def fnGapTextSpec : ChangeSpec := { name := "fnGapText", fn := fun _ => fun
  | [d] => { results := [.lit (.bool true)], args := [d] }
  | _ => none }
def fnGapTextRow : OpenClaim := { program := "ytfifhipndggpoaa", sum := "fb4d9f468c451b6eb3248bcab0b54928c62573a2f7e67b9fb56eadc45c65b9a4", func := "loop.example/texteditor/laws.FnGapText", spec := "fnGapText", inPlace := ["internal/bytealg.CountString", "internal/bytealg.IndexByteString", "internal/bytealg.IndexString"], named := ["internal/bytealg.MaxLen"], apart := false }
def FnGapTextSaid : Prop := fnGapTextRow.holds Try.pinned (OpenSpec.ofChange fnGapTextSpec)

/-- ITS FALSE NEIGHBOUR: 'it returns false'. Refute it at one input. -/
def fnGapTextWrong : ChangeSpec := { name := "fnGapText", fn := fun _ => fun
  | [d] => { results := [.lit (.bool false)], args := [d] }
  | _ => none }
def FnGapTextWrongFalsely : Prop := fnGapTextRow.holds Try.pinned (OpenSpec.ofChange fnGapTextWrong)

/-- 'laws.FnGapOf': WHATEVER THE INPUT: true; the input reads as it did. -/
def fnGapOfSpec : ChangeSpec := { name := "fnGapOf", fn := fun _ => fun
  | [d] => { results := [.lit (.bool true)], args := [d] }
  | _ => none }
def fnGapOfRow : OpenClaim := { program := "ytfifhipndggpoaa", sum := "fb4d9f468c451b6eb3248bcab0b54928c62573a2f7e67b9fb56eadc45c65b9a4", func := "loop.example/texteditor/laws.FnGapOf", spec := "fnGapOf", inPlace := ["internal/bytealg.CountString", "internal/bytealg.IndexByteString", "internal/bytealg.IndexString"], named := ["internal/bytealg.MaxLen"], apart := false }
def FnGapOfSaid : Prop := fnGapOfRow.holds Try.pinned (OpenSpec.ofChange fnGapOfSpec)

/-- ITS FALSE NEIGHBOUR: 'it returns false'. Refute it at one input. -/
def fnGapOfWrong : ChangeSpec := { name := "fnGapOf", fn := fun _ => fun
  | [d] => { results := [.lit (.bool false)], args := [d] }
  | _ => none }
def FnGapOfWrongFalsely : Prop := fnGapOfRow.holds Try.pinned (OpenSpec.ofChange fnGapOfWrong)

/-- 'laws.FnGapMove': WHATEVER THE INPUT: true; the input reads as it did. -/
def fnGapMoveSpec : ChangeSpec := { name := "fnGapMove", fn := fun _ => fun
  | [d] => { results := [.lit (.bool true)], args := [d] }
  | _ => none }
def fnGapMoveRow : OpenClaim := { program := "ytfifhipndggpoaa", sum := "fb4d9f468c451b6eb3248bcab0b54928c62573a2f7e67b9fb56eadc45c65b9a4", func := "loop.example/texteditor/laws.FnGapMove", spec := "fnGapMove", inPlace := ["internal/bytealg.CountString", "internal/bytealg.IndexByteString", "internal/bytealg.IndexString"], named := ["internal/bytealg.MaxLen"], apart := false }
def FnGapMoveSaid : Prop := fnGapMoveRow.holds Try.pinned (OpenSpec.ofChange fnGapMoveSpec)

/-- ITS FALSE NEIGHBOUR: 'it returns false'. Refute it at one input. -/
def fnGapMoveWrong : ChangeSpec := { name := "fnGapMove", fn := fun _ => fun
  | [d] => { results := [.lit (.bool false)], args := [d] }
  | _ => none }
def FnGapMoveWrongFalsely : Prop := fnGapMoveRow.holds Try.pinned (OpenSpec.ofChange fnGapMoveWrong)

/-- 'laws.FnGapWalk': WHATEVER THE INPUT: true; the input reads as it did. -/
def fnGapWalkSpec : ChangeSpec := { name := "fnGapWalk", fn := fun _ => fun
  | [d] => { results := [.lit (.bool true)], args := [d] }
  | _ => none }
def fnGapWalkRow : OpenClaim := { program := "ytfifhipndggpoaa", sum := "fb4d9f468c451b6eb3248bcab0b54928c62573a2f7e67b9fb56eadc45c65b9a4", func := "loop.example/texteditor/laws.FnGapWalk", spec := "fnGapWalk", inPlace := ["internal/bytealg.CountString", "internal/bytealg.IndexByteString", "internal/bytealg.IndexString"], named := ["internal/bytealg.MaxLen"], apart := false }
def FnGapWalkSaid : Prop := fnGapWalkRow.holds Try.pinned (OpenSpec.ofChange fnGapWalkSpec)

/-- ITS FALSE NEIGHBOUR: 'it returns false'. Refute it at one input. -/
def fnGapWalkWrong : ChangeSpec := { name := "fnGapWalk", fn := fun _ => fun
  | [d] => { results := [.lit (.bool false)], args := [d] }
  | _ => none }
def FnGapWalkWrongFalsely : Prop := fnGapWalkRow.holds Try.pinned (OpenSpec.ofChange fnGapWalkWrong)

/-- 'laws.FnGapErase': WHATEVER THE INPUT: true; the input reads as it did. -/
def fnGapEraseSpec : ChangeSpec := { name := "fnGapErase", fn := fun _ => fun
  | [d] => { results := [.lit (.bool true)], args := [d] }
  | _ => none }
def fnGapEraseRow : OpenClaim := { program := "ytfifhipndggpoaa", sum := "fb4d9f468c451b6eb3248bcab0b54928c62573a2f7e67b9fb56eadc45c65b9a4", func := "loop.example/texteditor/laws.FnGapErase", spec := "fnGapErase", inPlace := ["internal/bytealg.CountString", "internal/bytealg.IndexByteString", "internal/bytealg.IndexString"], named := ["internal/bytealg.MaxLen"], apart := false }
def FnGapEraseSaid : Prop := fnGapEraseRow.holds Try.pinned (OpenSpec.ofChange fnGapEraseSpec)

/-- ITS FALSE NEIGHBOUR: 'it returns false'. Refute it at one input. -/
def fnGapEraseWrong : ChangeSpec := { name := "fnGapErase", fn := fun _ => fun
  | [d] => { results := [.lit (.bool false)], args := [d] }
  | _ => none }
def FnGapEraseWrongFalsely : Prop := fnGapEraseRow.holds Try.pinned (OpenSpec.ofChange fnGapEraseWrong)

/-- 'laws.FnGapType': WHATEVER THE INPUT: true; the input reads as it did. -/
def fnGapTypeSpec : ChangeSpec := { name := "fnGapType", fn := fun _ => fun
  | [d] => { results := [.lit (.bool true)], args := [d] }
  | _ => none }
def fnGapTypeRow : OpenClaim := { program := "ytfifhipndggpoaa", sum := "fb4d9f468c451b6eb3248bcab0b54928c62573a2f7e67b9fb56eadc45c65b9a4", func := "loop.example/texteditor/laws.FnGapType", spec := "fnGapType", inPlace := ["internal/bytealg.CountString", "internal/bytealg.IndexByteString", "internal/bytealg.IndexString"], named := ["internal/bytealg.MaxLen"], apart := false }
def FnGapTypeSaid : Prop := fnGapTypeRow.holds Try.pinned (OpenSpec.ofChange fnGapTypeSpec)

/-- ITS FALSE NEIGHBOUR: 'it returns false'. Refute it at one input. -/
def fnGapTypeWrong : ChangeSpec := { name := "fnGapType", fn := fun _ => fun
  | [d] => { results := [.lit (.bool false)], args := [d] }
  | _ => none }
def FnGapTypeWrongFalsely : Prop := fnGapTypeRow.holds Try.pinned (OpenSpec.ofChange fnGapTypeWrong)

/-- 'laws.FnChangeFits': WHATEVER THE INPUT: true; the input reads as it did. -/
def fnChangeFitsSpec : ChangeSpec := { name := "fnChangeFits", fn := fun _ => fun
  | [d] => { results := [.lit (.bool true)], args := [d] }
  | _ => none }
def fnChangeFitsRow : OpenClaim := { program := "ytfifhipndggpoaa", sum := "fb4d9f468c451b6eb3248bcab0b54928c62573a2f7e67b9fb56eadc45c65b9a4", func := "loop.example/texteditor/laws.FnChangeFits", spec := "fnChangeFits", inPlace := ["internal/bytealg.CountString", "internal/bytealg.IndexByteString", "internal/bytealg.IndexString"], named := ["internal/bytealg.MaxLen"], apart := false }
def FnChangeFitsSaid : Prop := fnChangeFitsRow.holds Try.pinned (OpenSpec.ofChange fnChangeFitsSpec)

/-- ITS FALSE NEIGHBOUR: 'it returns false'. Refute it at one input. -/
def fnChangeFitsWrong : ChangeSpec := { name := "fnChangeFits", fn := fun _ => fun
  | [d] => { results := [.lit (.bool false)], args := [d] }
  | _ => none }
def FnChangeFitsWrongFalsely : Prop := fnChangeFitsRow.holds Try.pinned (OpenSpec.ofChange fnChangeFitsWrong)

/-- 'laws.FnMovePlace': WHATEVER THE INPUT: true; the input reads as it did. -/
def fnMovePlaceSpec : ChangeSpec := { name := "fnMovePlace", fn := fun _ => fun
  | [d1, d2] => { results := [.lit (.bool true)], args := [d1, d2] }
  | _ => none }
def fnMovePlaceRow : OpenClaim := { program := "ytfifhipndggpoaa", sum := "fb4d9f468c451b6eb3248bcab0b54928c62573a2f7e67b9fb56eadc45c65b9a4", func := "loop.example/texteditor/laws.FnMovePlace", spec := "fnMovePlace", inPlace := ["internal/bytealg.CountString", "internal/bytealg.IndexByteString", "internal/bytealg.IndexString"], named := ["internal/bytealg.MaxLen"], apart := false }
def FnMovePlaceSaid : Prop := fnMovePlaceRow.holds Try.pinned (OpenSpec.ofChange fnMovePlaceSpec)

/-- ITS FALSE NEIGHBOUR: 'it returns false'. Refute it at one input. -/
def fnMovePlaceWrong : ChangeSpec := { name := "fnMovePlace", fn := fun _ => fun
  | [d1, d2] => { results := [.lit (.bool false)], args := [d1, d2] }
  | _ => none }
def FnMovePlaceWrongFalsely : Prop := fnMovePlaceRow.holds Try.pinned (OpenSpec.ofChange fnMovePlaceWrong)

/-- 'laws.FnApplyChange': WHATEVER THE INPUT: true; the input reads as it did. -/
def fnApplyChangeSpec : ChangeSpec := { name := "fnApplyChange", fn := fun _ => fun
  | [d] => { results := [.lit (.bool true)], args := [d] }
  | _ => none }
def fnApplyChangeRow : OpenClaim := { program := "ytfifhipndggpoaa", sum := "fb4d9f468c451b6eb3248bcab0b54928c62573a2f7e67b9fb56eadc45c65b9a4", func := "loop.example/texteditor/laws.FnApplyChange", spec := "fnApplyChange", inPlace := ["internal/bytealg.CountString", "internal/bytealg.IndexByteString", "internal/bytealg.IndexString"], named := ["internal/bytealg.MaxLen"], apart := false }
def FnApplyChangeSaid : Prop := fnApplyChangeRow.holds Try.pinned (OpenSpec.ofChange fnApplyChangeSpec)

/-- ITS FALSE NEIGHBOUR: 'it returns false'. Refute it at one input. -/
def fnApplyChangeWrong : ChangeSpec := { name := "fnApplyChange", fn := fun _ => fun
  | [d] => { results := [.lit (.bool false)], args := [d] }
  | _ => none }
def FnApplyChangeWrongFalsely : Prop := fnApplyChangeRow.holds Try.pinned (OpenSpec.ofChange fnApplyChangeWrong)

/-- 'laws.FnChangeOrder': WHATEVER THE INPUT: true; the input reads as it did. -/
def fnChangeOrderSpec : ChangeSpec := { name := "fnChangeOrder", fn := fun _ => fun
  | [d] => { results := [.lit (.bool true)], args := [d] }
  | _ => none }
def fnChangeOrderRow : OpenClaim := { program := "ytfifhipndggpoaa", sum := "fb4d9f468c451b6eb3248bcab0b54928c62573a2f7e67b9fb56eadc45c65b9a4", func := "loop.example/texteditor/laws.FnChangeOrder", spec := "fnChangeOrder", inPlace := ["internal/bytealg.CountString", "internal/bytealg.IndexByteString", "internal/bytealg.IndexString"], named := ["internal/bytealg.MaxLen"], apart := false }
def FnChangeOrderSaid : Prop := fnChangeOrderRow.holds Try.pinned (OpenSpec.ofChange fnChangeOrderSpec)

/-- ITS FALSE NEIGHBOUR: 'it returns false'. Refute it at one input. -/
def fnChangeOrderWrong : ChangeSpec := { name := "fnChangeOrder", fn := fun _ => fun
  | [d] => { results := [.lit (.bool false)], args := [d] }
  | _ => none }
def FnChangeOrderWrongFalsely : Prop := fnChangeOrderRow.holds Try.pinned (OpenSpec.ofChange fnChangeOrderWrong)

/- THE SECOND FORM. 'bulk': how many values and letters a reading holds, each counted each time it is reached (what is shared counts as often as it is met; a slice's spare places count too). A statement '..UptoSaid' is the law's where the arguments, and the package variables that the reading takes, are together of bulk at most 1048576: NARROWER than '..Said'. Prove '..Said' where nothing that the law and all that it calls make is longer than what came in: it says more and counts as full. Else prove '..UptoSaid'. A law counts once. -/
mutual
def uptoBulk {H : Type} : DataW H → Nat
  | .lit (.string bytes) => bytes.length + 1
  | .lit _ => 1
  | .nil => 1
  | .ptr d => uptoBulk d + 1
  | .slice elems spare => uptoBulkAll elems + uptoBulkAll spare + 1
  | .agg parts => uptoBulkAll parts + 1
  | .iface _ d => uptoBulk d + 1
  | .map entries => uptoBulkEntries entries + 1
  | .held _ => 1
def uptoBulkAll {H : Type} : List (DataW H) → Nat
  | [] => 0
  | d :: r => uptoBulk d + uptoBulkAll r
def uptoBulkEntries {H : Type} : List (Lit × DataW H) → Nat
  | [] => 0
  | x :: r => uptoBulkEntry x + uptoBulkEntries r
def uptoBulkEntry {H : Type} : Lit × DataW H → Nat
  | (.string bytes, d) => bytes.length + uptoBulk d + 1
  | (_, d) => uptoBulk d + 1
 end
def uptoSmall : (H : Type) → List (DataW H) → Bool := fun _ ds => decide (uptoBulkAll ds ≤ 1048576)
def OpenSpec.upto (s : _root_.Go.ChangeSpec) : _root_.Go.OpenSpec := { _root_.Go.OpenSpec.ofChange s with cond := some uptoSmall }

/-- 'laws.FnTextValid', WHERE WHAT IT READS IS OF BULK AT MOST 1048576: true; the input reads as it did. -/
def fnTextValidUptoRow : OpenClaim := { program := "ytfifhipndggpoaa", sum := "fb4d9f468c451b6eb3248bcab0b54928c62573a2f7e67b9fb56eadc45c65b9a4", func := "loop.example/texteditor/laws.FnTextValid", spec := "fnTextValid", inPlace := ["internal/bytealg.CountString", "internal/bytealg.IndexByteString", "internal/bytealg.IndexString"], named := ["internal/bytealg.MaxLen"], apart := false, narrowed := true }
def FnTextValidUptoSaid : Prop := fnTextValidUptoRow.holds Try.pinned (OpenSpec.upto fnTextValidSpec)

/-- 'laws.FnGapValid', WHERE WHAT IT READS IS OF BULK AT MOST 1048576: true; the input reads as it did. -/
def fnGapValidUptoRow : OpenClaim := { program := "ytfifhipndggpoaa", sum := "fb4d9f468c451b6eb3248bcab0b54928c62573a2f7e67b9fb56eadc45c65b9a4", func := "loop.example/texteditor/laws.FnGapValid", spec := "fnGapValid", inPlace := ["internal/bytealg.CountString", "internal/bytealg.IndexByteString", "internal/bytealg.IndexString"], named := ["internal/bytealg.MaxLen"], apart := false, narrowed := true }
def FnGapValidUptoSaid : Prop := fnGapValidUptoRow.holds Try.pinned (OpenSpec.upto fnGapValidSpec)

/-- 'laws.FnGapText', WHERE WHAT IT READS IS OF BULK AT MOST 1048576: true; the input reads as it did. -/
def fnGapTextUptoRow : OpenClaim := { program := "ytfifhipndggpoaa", sum := "fb4d9f468c451b6eb3248bcab0b54928c62573a2f7e67b9fb56eadc45c65b9a4", func := "loop.example/texteditor/laws.FnGapText", spec := "fnGapText", inPlace := ["internal/bytealg.CountString", "internal/bytealg.IndexByteString", "internal/bytealg.IndexString"], named := ["internal/bytealg.MaxLen"], apart := false, narrowed := true }
def FnGapTextUptoSaid : Prop := fnGapTextUptoRow.holds Try.pinned (OpenSpec.upto fnGapTextSpec)

/-- 'laws.FnGapOf', WHERE WHAT IT READS IS OF BULK AT MOST 1048576: true; the input reads as it did. -/
def fnGapOfUptoRow : OpenClaim := { program := "ytfifhipndggpoaa", sum := "fb4d9f468c451b6eb3248bcab0b54928c62573a2f7e67b9fb56eadc45c65b9a4", func := "loop.example/texteditor/laws.FnGapOf", spec := "fnGapOf", inPlace := ["internal/bytealg.CountString", "internal/bytealg.IndexByteString", "internal/bytealg.IndexString"], named := ["internal/bytealg.MaxLen"], apart := false, narrowed := true }
def FnGapOfUptoSaid : Prop := fnGapOfUptoRow.holds Try.pinned (OpenSpec.upto fnGapOfSpec)

/-- 'laws.FnGapMove', WHERE WHAT IT READS IS OF BULK AT MOST 1048576: true; the input reads as it did. -/
def fnGapMoveUptoRow : OpenClaim := { program := "ytfifhipndggpoaa", sum := "fb4d9f468c451b6eb3248bcab0b54928c62573a2f7e67b9fb56eadc45c65b9a4", func := "loop.example/texteditor/laws.FnGapMove", spec := "fnGapMove", inPlace := ["internal/bytealg.CountString", "internal/bytealg.IndexByteString", "internal/bytealg.IndexString"], named := ["internal/bytealg.MaxLen"], apart := false, narrowed := true }
def FnGapMoveUptoSaid : Prop := fnGapMoveUptoRow.holds Try.pinned (OpenSpec.upto fnGapMoveSpec)

/-- 'laws.FnGapWalk', WHERE WHAT IT READS IS OF BULK AT MOST 1048576: true; the input reads as it did. -/
def fnGapWalkUptoRow : OpenClaim := { program := "ytfifhipndggpoaa", sum := "fb4d9f468c451b6eb3248bcab0b54928c62573a2f7e67b9fb56eadc45c65b9a4", func := "loop.example/texteditor/laws.FnGapWalk", spec := "fnGapWalk", inPlace := ["internal/bytealg.CountString", "internal/bytealg.IndexByteString", "internal/bytealg.IndexString"], named := ["internal/bytealg.MaxLen"], apart := false, narrowed := true }
def FnGapWalkUptoSaid : Prop := fnGapWalkUptoRow.holds Try.pinned (OpenSpec.upto fnGapWalkSpec)

/-- 'laws.FnGapErase', WHERE WHAT IT READS IS OF BULK AT MOST 1048576: true; the input reads as it did. -/
def fnGapEraseUptoRow : OpenClaim := { program := "ytfifhipndggpoaa", sum := "fb4d9f468c451b6eb3248bcab0b54928c62573a2f7e67b9fb56eadc45c65b9a4", func := "loop.example/texteditor/laws.FnGapErase", spec := "fnGapErase", inPlace := ["internal/bytealg.CountString", "internal/bytealg.IndexByteString", "internal/bytealg.IndexString"], named := ["internal/bytealg.MaxLen"], apart := false, narrowed := true }
def FnGapEraseUptoSaid : Prop := fnGapEraseUptoRow.holds Try.pinned (OpenSpec.upto fnGapEraseSpec)

/-- 'laws.FnGapType', WHERE WHAT IT READS IS OF BULK AT MOST 1048576: true; the input reads as it did. -/
def fnGapTypeUptoRow : OpenClaim := { program := "ytfifhipndggpoaa", sum := "fb4d9f468c451b6eb3248bcab0b54928c62573a2f7e67b9fb56eadc45c65b9a4", func := "loop.example/texteditor/laws.FnGapType", spec := "fnGapType", inPlace := ["internal/bytealg.CountString", "internal/bytealg.IndexByteString", "internal/bytealg.IndexString"], named := ["internal/bytealg.MaxLen"], apart := false, narrowed := true }
def FnGapTypeUptoSaid : Prop := fnGapTypeUptoRow.holds Try.pinned (OpenSpec.upto fnGapTypeSpec)

/-- 'laws.FnChangeFits', WHERE WHAT IT READS IS OF BULK AT MOST 1048576: true; the input reads as it did. -/
def fnChangeFitsUptoRow : OpenClaim := { program := "ytfifhipndggpoaa", sum := "fb4d9f468c451b6eb3248bcab0b54928c62573a2f7e67b9fb56eadc45c65b9a4", func := "loop.example/texteditor/laws.FnChangeFits", spec := "fnChangeFits", inPlace := ["internal/bytealg.CountString", "internal/bytealg.IndexByteString", "internal/bytealg.IndexString"], named := ["internal/bytealg.MaxLen"], apart := false, narrowed := true }
def FnChangeFitsUptoSaid : Prop := fnChangeFitsUptoRow.holds Try.pinned (OpenSpec.upto fnChangeFitsSpec)

/-- 'laws.FnMovePlace', WHERE WHAT IT READS IS OF BULK AT MOST 1048576: true; the input reads as it did. -/
def fnMovePlaceUptoRow : OpenClaim := { program := "ytfifhipndggpoaa", sum := "fb4d9f468c451b6eb3248bcab0b54928c62573a2f7e67b9fb56eadc45c65b9a4", func := "loop.example/texteditor/laws.FnMovePlace", spec := "fnMovePlace", inPlace := ["internal/bytealg.CountString", "internal/bytealg.IndexByteString", "internal/bytealg.IndexString"], named := ["internal/bytealg.MaxLen"], apart := false, narrowed := true }
def FnMovePlaceUptoSaid : Prop := fnMovePlaceUptoRow.holds Try.pinned (OpenSpec.upto fnMovePlaceSpec)

/-- 'laws.FnApplyChange', WHERE WHAT IT READS IS OF BULK AT MOST 1048576: true; the input reads as it did. -/
def fnApplyChangeUptoRow : OpenClaim := { program := "ytfifhipndggpoaa", sum := "fb4d9f468c451b6eb3248bcab0b54928c62573a2f7e67b9fb56eadc45c65b9a4", func := "loop.example/texteditor/laws.FnApplyChange", spec := "fnApplyChange", inPlace := ["internal/bytealg.CountString", "internal/bytealg.IndexByteString", "internal/bytealg.IndexString"], named := ["internal/bytealg.MaxLen"], apart := false, narrowed := true }
def FnApplyChangeUptoSaid : Prop := fnApplyChangeUptoRow.holds Try.pinned (OpenSpec.upto fnApplyChangeSpec)

/-- 'laws.FnChangeOrder', WHERE WHAT IT READS IS OF BULK AT MOST 1048576: true; the input reads as it did. -/
def fnChangeOrderUptoRow : OpenClaim := { program := "ytfifhipndggpoaa", sum := "fb4d9f468c451b6eb3248bcab0b54928c62573a2f7e67b9fb56eadc45c65b9a4", func := "loop.example/texteditor/laws.FnChangeOrder", spec := "fnChangeOrder", inPlace := ["internal/bytealg.CountString", "internal/bytealg.IndexByteString", "internal/bytealg.IndexString"], named := ["internal/bytealg.MaxLen"], apart := false, narrowed := true }
def FnChangeOrderUptoSaid : Prop := fnChangeOrderUptoRow.holds Try.pinned (OpenSpec.upto fnChangeOrderSpec)

end Rows
end Go.Proofs.Ytfifhipndggpoaa
