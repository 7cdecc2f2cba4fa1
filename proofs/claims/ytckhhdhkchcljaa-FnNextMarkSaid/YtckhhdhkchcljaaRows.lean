/-
  No cell of these rows narrows 'for every input' (looked for: loops, veiled, ifaces, maps, wideKeys, modest, calm, conditions, laid).
  DERIVED. THE GIVEN ROWS OF THIS SEAT. 11 by the template 'for every input the law returns true; each argument reads behind the call as it read before'; 0 by the template 'total and deterministic' (their statements: YtckhhdhkchcljaaTotals.lean).
  GIVEN WITH THE SEED: the statements are not yours to turn. If you find one false, say at which input.
  Laid BY PROGRAM, IN A SANDBOX (cutbox-rows.mjs): the forced cells as the released guide's own fill.sh prints them over the translation 82dcff221a544214… (all of the seat's roots in one cut). By AI agents, Wed Nov 11 2026. No macro, syntax, notation, axiom, sorry.
-/
import Derived.Test.YtckhhdhkchcljaaChecked
import GoSem.Claim
import GoSem.ClaimJoined
import GoSem.ClaimMapViews
import Derived.JoinedTies
import Derived.KernelRfl
namespace Go.Proofs.Ytckhhdhkchcljaa
/- THE CELL 'sum', in the pinned program and in every row, IS THE sha256 OF THE DUMP (.gsa) THAT YtckhhdhkchcljaaProg.lean LOADS. Nothing in Lean hashes anything: it is a label: what it is worth is what the hold of that sum in a sandbox is worth. -/
noncomputable def Try.pinned : Pinned := { name := "ytckhhdhkchcljaa", sum := "82dcff221a54421486365ebce2619df1e4285516a6253d478363c524d94a5c43", checked := Try.checked }
namespace Rows
def none {H : Type} : Left H := { results := [], args := [] }

/-- 'laws.FnReverseChange': WHATEVER THE INPUT: true; the input reads as it did. -/
def fnReverseChangeSpec : ChangeSpec := { name := "fnReverseChange", fn := fun _ => fun
  | [d] => { results := [.lit (.bool true)], args := [d] }
  | _ => none }
def fnReverseChangeRow : OpenClaim := { program := "ytckhhdhkchcljaa", sum := "82dcff221a54421486365ebce2619df1e4285516a6253d478363c524d94a5c43", func := "loop.example/texteditor/laws.FnReverseChange", spec := "fnReverseChange", inPlace := ["internal/bytealg.CountString", "internal/bytealg.IndexByteString", "internal/bytealg.IndexString"], named := ["internal/bytealg.MaxLen"], apart := false }
def FnReverseChangeSaid : Prop := fnReverseChangeRow.holds Try.pinned (OpenSpec.ofChange fnReverseChangeSpec)

/-- ITS FALSE NEIGHBOUR: 'it returns false'. Refute it at one input. -/
def fnReverseChangeWrong : ChangeSpec := { name := "fnReverseChange", fn := fun _ => fun
  | [d] => { results := [.lit (.bool false)], args := [d] }
  | _ => none }
def FnReverseChangeWrongFalsely : Prop := fnReverseChangeRow.holds Try.pinned (OpenSpec.ofChange fnReverseChangeWrong)

/-- 'laws.FnMoveBack': WHATEVER THE INPUT: true; the input reads as it did. -/
def fnMoveBackSpec : ChangeSpec := { name := "fnMoveBack", fn := fun _ => fun
  | [d] => { results := [.lit (.bool true)], args := [d] }
  | _ => none }
def fnMoveBackRow : OpenClaim := { program := "ytckhhdhkchcljaa", sum := "82dcff221a54421486365ebce2619df1e4285516a6253d478363c524d94a5c43", func := "loop.example/texteditor/laws.FnMoveBack", spec := "fnMoveBack", inPlace := ["internal/bytealg.CountString", "internal/bytealg.IndexByteString", "internal/bytealg.IndexString"], named := ["internal/bytealg.MaxLen"], apart := false }
def FnMoveBackSaid : Prop := fnMoveBackRow.holds Try.pinned (OpenSpec.ofChange fnMoveBackSpec)

/-- ITS FALSE NEIGHBOUR: 'it returns false'. Refute it at one input. -/
def fnMoveBackWrong : ChangeSpec := { name := "fnMoveBack", fn := fun _ => fun
  | [d] => { results := [.lit (.bool false)], args := [d] }
  | _ => none }
def FnMoveBackWrongFalsely : Prop := fnMoveBackRow.holds Try.pinned (OpenSpec.ofChange fnMoveBackWrong)

/-- 'laws.FnDiffChange': WHATEVER THE INPUT: true; the input reads as it did. -/
def fnDiffChangeSpec : ChangeSpec := { name := "fnDiffChange", fn := fun _ => fun
  | [d] => { results := [.lit (.bool true)], args := [d] }
  | _ => none }
def fnDiffChangeRow : OpenClaim := { program := "ytckhhdhkchcljaa", sum := "82dcff221a54421486365ebce2619df1e4285516a6253d478363c524d94a5c43", func := "loop.example/texteditor/laws.FnDiffChange", spec := "fnDiffChange", inPlace := ["internal/bytealg.CountString", "internal/bytealg.IndexByteString", "internal/bytealg.IndexString"], named := ["internal/bytealg.MaxLen"], apart := false }
def FnDiffChangeSaid : Prop := fnDiffChangeRow.holds Try.pinned (OpenSpec.ofChange fnDiffChangeSpec)

/-- ITS FALSE NEIGHBOUR: 'it returns false'. Refute it at one input. -/
def fnDiffChangeWrong : ChangeSpec := { name := "fnDiffChange", fn := fun _ => fun
  | [d] => { results := [.lit (.bool false)], args := [d] }
  | _ => none }
def FnDiffChangeWrongFalsely : Prop := fnDiffChangeRow.holds Try.pinned (OpenSpec.ofChange fnDiffChangeWrong)

/-- 'laws.FnMarksValid': WHATEVER THE INPUT: true; the input reads as it did. -/
def fnMarksValidSpec : ChangeSpec := { name := "fnMarksValid", fn := fun _ => fun
  | [d] => { results := [.lit (.bool true)], args := [d] }
  | _ => none }
def fnMarksValidRow : OpenClaim := { program := "ytckhhdhkchcljaa", sum := "82dcff221a54421486365ebce2619df1e4285516a6253d478363c524d94a5c43", func := "loop.example/texteditor/laws.FnMarksValid", spec := "fnMarksValid", inPlace := ["internal/bytealg.CountString", "internal/bytealg.IndexByteString", "internal/bytealg.IndexString"], named := ["internal/bytealg.MaxLen"], apart := false }
def FnMarksValidSaid : Prop := fnMarksValidRow.holds Try.pinned (OpenSpec.ofChange fnMarksValidSpec)

/-- ITS FALSE NEIGHBOUR: 'it returns false'. Refute it at one input. -/
def fnMarksValidWrong : ChangeSpec := { name := "fnMarksValid", fn := fun _ => fun
  | [d] => { results := [.lit (.bool false)], args := [d] }
  | _ => none }
def FnMarksValidWrongFalsely : Prop := fnMarksValidRow.holds Try.pinned (OpenSpec.ofChange fnMarksValidWrong)

/-- 'laws.FnNextMark': WHATEVER THE INPUT: true; the input reads as it did. -/
def fnNextMarkSpec : ChangeSpec := { name := "fnNextMark", fn := fun _ => fun
  | [d] => { results := [.lit (.bool true)], args := [d] }
  | _ => none }
def fnNextMarkRow : OpenClaim := { program := "ytckhhdhkchcljaa", sum := "82dcff221a54421486365ebce2619df1e4285516a6253d478363c524d94a5c43", func := "loop.example/texteditor/laws.FnNextMark", spec := "fnNextMark", inPlace := ["internal/bytealg.CountString", "internal/bytealg.IndexByteString", "internal/bytealg.IndexString"], named := ["internal/bytealg.MaxLen"], apart := false }
def FnNextMarkSaid : Prop := fnNextMarkRow.holds Try.pinned (OpenSpec.ofChange fnNextMarkSpec)

/-- ITS FALSE NEIGHBOUR: 'it returns false'. Refute it at one input. -/
def fnNextMarkWrong : ChangeSpec := { name := "fnNextMark", fn := fun _ => fun
  | [d] => { results := [.lit (.bool false)], args := [d] }
  | _ => none }
def FnNextMarkWrongFalsely : Prop := fnNextMarkRow.holds Try.pinned (OpenSpec.ofChange fnNextMarkWrong)

/-- 'laws.FnLineOf': WHATEVER THE INPUT: true; the input reads as it did. -/
def fnLineOfSpec : ChangeSpec := { name := "fnLineOf", fn := fun _ => fun
  | [d] => { results := [.lit (.bool true)], args := [d] }
  | _ => none }
def fnLineOfRow : OpenClaim := { program := "ytckhhdhkchcljaa", sum := "82dcff221a54421486365ebce2619df1e4285516a6253d478363c524d94a5c43", func := "loop.example/texteditor/laws.FnLineOf", spec := "fnLineOf", inPlace := ["internal/bytealg.CountString", "internal/bytealg.IndexByteString", "internal/bytealg.IndexString"], named := ["internal/bytealg.MaxLen"], apart := false }
def FnLineOfSaid : Prop := fnLineOfRow.holds Try.pinned (OpenSpec.ofChange fnLineOfSpec)

/-- ITS FALSE NEIGHBOUR: 'it returns false'. Refute it at one input. -/
def fnLineOfWrong : ChangeSpec := { name := "fnLineOf", fn := fun _ => fun
  | [d] => { results := [.lit (.bool false)], args := [d] }
  | _ => none }
def FnLineOfWrongFalsely : Prop := fnLineOfRow.holds Try.pinned (OpenSpec.ofChange fnLineOfWrong)

/-- 'laws.FnLineEnd': WHATEVER THE INPUT: true; the input reads as it did. -/
def fnLineEndSpec : ChangeSpec := { name := "fnLineEnd", fn := fun _ => fun
  | [d] => { results := [.lit (.bool true)], args := [d] }
  | _ => none }
def fnLineEndRow : OpenClaim := { program := "ytckhhdhkchcljaa", sum := "82dcff221a54421486365ebce2619df1e4285516a6253d478363c524d94a5c43", func := "loop.example/texteditor/laws.FnLineEnd", spec := "fnLineEnd", inPlace := ["internal/bytealg.CountString", "internal/bytealg.IndexByteString", "internal/bytealg.IndexString"], named := ["internal/bytealg.MaxLen"], apart := false }
def FnLineEndSaid : Prop := fnLineEndRow.holds Try.pinned (OpenSpec.ofChange fnLineEndSpec)

/-- ITS FALSE NEIGHBOUR: 'it returns false'. Refute it at one input. -/
def fnLineEndWrong : ChangeSpec := { name := "fnLineEnd", fn := fun _ => fun
  | [d] => { results := [.lit (.bool false)], args := [d] }
  | _ => none }
def FnLineEndWrongFalsely : Prop := fnLineEndRow.holds Try.pinned (OpenSpec.ofChange fnLineEndWrong)

/-- 'laws.FnLineStart': WHATEVER THE INPUT: true; the input reads as it did. -/
def fnLineStartSpec : ChangeSpec := { name := "fnLineStart", fn := fun _ => fun
  | [d] => { results := [.lit (.bool true)], args := [d] }
  | _ => none }
def fnLineStartRow : OpenClaim := { program := "ytckhhdhkchcljaa", sum := "82dcff221a54421486365ebce2619df1e4285516a6253d478363c524d94a5c43", func := "loop.example/texteditor/laws.FnLineStart", spec := "fnLineStart", inPlace := ["internal/bytealg.CountString", "internal/bytealg.IndexByteString", "internal/bytealg.IndexString"], named := ["internal/bytealg.MaxLen"], apart := false }
def FnLineStartSaid : Prop := fnLineStartRow.holds Try.pinned (OpenSpec.ofChange fnLineStartSpec)

/-- ITS FALSE NEIGHBOUR: 'it returns false'. Refute it at one input. -/
def fnLineStartWrong : ChangeSpec := { name := "fnLineStart", fn := fun _ => fun
  | [d] => { results := [.lit (.bool false)], args := [d] }
  | _ => none }
def FnLineStartWrongFalsely : Prop := fnLineStartRow.holds Try.pinned (OpenSpec.ofChange fnLineStartWrong)

/-- 'laws.FnPlaceAt': WHATEVER THE INPUT: true; the input reads as it did. -/
def fnPlaceAtSpec : ChangeSpec := { name := "fnPlaceAt", fn := fun _ => fun
  | [d] => { results := [.lit (.bool true)], args := [d] }
  | _ => none }
def fnPlaceAtRow : OpenClaim := { program := "ytckhhdhkchcljaa", sum := "82dcff221a54421486365ebce2619df1e4285516a6253d478363c524d94a5c43", func := "loop.example/texteditor/laws.FnPlaceAt", spec := "fnPlaceAt", inPlace := ["internal/bytealg.CountString", "internal/bytealg.IndexByteString", "internal/bytealg.IndexString"], named := ["internal/bytealg.MaxLen"], apart := false }
def FnPlaceAtSaid : Prop := fnPlaceAtRow.holds Try.pinned (OpenSpec.ofChange fnPlaceAtSpec)

/-- ITS FALSE NEIGHBOUR: 'it returns false'. Refute it at one input. -/
def fnPlaceAtWrong : ChangeSpec := { name := "fnPlaceAt", fn := fun _ => fun
  | [d] => { results := [.lit (.bool false)], args := [d] }
  | _ => none }
def FnPlaceAtWrongFalsely : Prop := fnPlaceAtRow.holds Try.pinned (OpenSpec.ofChange fnPlaceAtWrong)

/-- 'laws.FnColumnOf': WHATEVER THE INPUT: true; the input reads as it did. -/
def fnColumnOfSpec : ChangeSpec := { name := "fnColumnOf", fn := fun _ => fun
  | [d] => { results := [.lit (.bool true)], args := [d] }
  | _ => none }
def fnColumnOfRow : OpenClaim := { program := "ytckhhdhkchcljaa", sum := "82dcff221a54421486365ebce2619df1e4285516a6253d478363c524d94a5c43", func := "loop.example/texteditor/laws.FnColumnOf", spec := "fnColumnOf", inPlace := ["internal/bytealg.CountString", "internal/bytealg.IndexByteString", "internal/bytealg.IndexString"], named := ["internal/bytealg.MaxLen"], apart := false }
def FnColumnOfSaid : Prop := fnColumnOfRow.holds Try.pinned (OpenSpec.ofChange fnColumnOfSpec)

/-- ITS FALSE NEIGHBOUR: 'it returns false'. Refute it at one input. -/
def fnColumnOfWrong : ChangeSpec := { name := "fnColumnOf", fn := fun _ => fun
  | [d] => { results := [.lit (.bool false)], args := [d] }
  | _ => none }
def FnColumnOfWrongFalsely : Prop := fnColumnOfRow.holds Try.pinned (OpenSpec.ofChange fnColumnOfWrong)

/-- 'laws.FnTableOf': WHATEVER THE INPUT: true; the input reads as it did. -/
def fnTableOfSpec : ChangeSpec := { name := "fnTableOf", fn := fun _ => fun
  | [d] => { results := [.lit (.bool true)], args := [d] }
  | _ => none }
def fnTableOfRow : OpenClaim := { program := "ytckhhdhkchcljaa", sum := "82dcff221a54421486365ebce2619df1e4285516a6253d478363c524d94a5c43", func := "loop.example/texteditor/laws.FnTableOf", spec := "fnTableOf", inPlace := ["internal/bytealg.CountString", "internal/bytealg.IndexByteString", "internal/bytealg.IndexString", "internal/abi.NoEscape"], named := ["internal/bytealg.MaxLen"], apart := false }
def FnTableOfSaid : Prop := fnTableOfRow.holds Try.pinned (OpenSpec.ofChange fnTableOfSpec)

/-- ITS FALSE NEIGHBOUR: 'it returns false'. Refute it at one input. -/
def fnTableOfWrong : ChangeSpec := { name := "fnTableOf", fn := fun _ => fun
  | [d] => { results := [.lit (.bool false)], args := [d] }
  | _ => none }
def FnTableOfWrongFalsely : Prop := fnTableOfRow.holds Try.pinned (OpenSpec.ofChange fnTableOfWrong)

/- THE SECOND FORM. 'bulk': how many values and letters a reading holds, each counted each time it is reached (what is shared counts as often as it is met; a slice's spare places count too). A statement '..UptoSaid' is the law's where the arguments, and the package variables that the reading takes, are together of bulk at most 1048576: NARROWER than '..Said'. Prove '..Said' where nothing that the law and all that it calls make is longer than what came in: it says more and counts as full. Else prove '..UptoSaid'. A law counts once. -/
mutual
def uptoBulk {H : Type} : DataW H → Nat
  | .lit (.string bytes) => bytes.length + 1
  | .lit _ => 1
  | .nil => 1
  | .ptr d => uptoBulk d + 1
  | .slice elems spare => uptoBulkAll elems + uptoBulkAll spare + 1
  | .agg parts => uptoBulkAll parts + 1
  | .iface _ d => uptoBulk d + 1
  | .map entries => uptoBulkEntries entries + 1
  | .held _ => 1
def uptoBulkAll {H : Type} : List (DataW H) → Nat
  | [] => 0
  | d :: r => uptoBulk d + uptoBulkAll r
def uptoBulkEntries {H : Type} : List (Lit × DataW H) → Nat
  | [] => 0
  | x :: r => uptoBulkEntry x + uptoBulkEntries r
def uptoBulkEntry {H : Type} : Lit × DataW H → Nat
  | (.string bytes, d) => bytes.length + uptoBulk d + 1
  | (_, d) => uptoBulk d + 1
 end
def uptoSmall : (H : Type) → List (DataW H) → Bool := fun _ ds => decide (uptoBulkAll ds ≤ 1048576)
def OpenSpec.upto (s : _root_.Go.ChangeSpec) : _root_.Go.OpenSpec := { _root_.Go.OpenSpec.ofChange s with cond := some uptoSmall }

/-- 'laws.FnReverseChange', WHERE WHAT IT READS IS OF BULK AT MOST 1048576: true; the input reads as it did. -/
def fnReverseChangeUptoRow : OpenClaim := { program := "ytckhhdhkchcljaa", sum := "82dcff221a54421486365ebce2619df1e4285516a6253d478363c524d94a5c43", func := "loop.example/texteditor/laws.FnReverseChange", spec := "fnReverseChange", inPlace := ["internal/bytealg.CountString", "internal/bytealg.IndexByteString", "internal/bytealg.IndexString"], named := ["internal/bytealg.MaxLen"], apart := false, narrowed := true }
def FnReverseChangeUptoSaid : Prop := fnReverseChangeUptoRow.holds Try.pinned (OpenSpec.upto fnReverseChangeSpec)

/-- 'laws.FnMoveBack', WHERE WHAT IT READS IS OF BULK AT MOST 1048576: true; the input reads as it did. -/
def fnMoveBackUptoRow : OpenClaim := { program := "ytckhhdhkchcljaa", sum := "82dcff221a54421486365ebce2619df1e4285516a6253d478363c524d94a5c43", func := "loop.example/texteditor/laws.FnMoveBack", spec := "fnMoveBack", inPlace := ["internal/bytealg.CountString", "internal/bytealg.IndexByteString", "internal/bytealg.IndexString"], named := ["internal/bytealg.MaxLen"], apart := false, narrowed := true }
def FnMoveBackUptoSaid : Prop := fnMoveBackUptoRow.holds Try.pinned (OpenSpec.upto fnMoveBackSpec)

/-- 'laws.FnDiffChange', WHERE WHAT IT READS IS OF BULK AT MOST 1048576: true; the input reads as it did. -/
def fnDiffChangeUptoRow : OpenClaim := { program := "ytckhhdhkchcljaa", sum := "82dcff221a54421486365ebce2619df1e4285516a6253d478363c524d94a5c43", func := "loop.example/texteditor/laws.FnDiffChange", spec := "fnDiffChange", inPlace := ["internal/bytealg.CountString", "internal/bytealg.IndexByteString", "internal/bytealg.IndexString"], named := ["internal/bytealg.MaxLen"], apart := false, narrowed := true }
def FnDiffChangeUptoSaid : Prop := fnDiffChangeUptoRow.holds Try.pinned (OpenSpec.upto fnDiffChangeSpec)

/-- 'laws.FnMarksValid', WHERE WHAT IT READS IS OF BULK AT MOST 1048576: true; the input reads as it did. -/
def fnMarksValidUptoRow : OpenClaim := { program := "ytckhhdhkchcljaa", sum := "82dcff221a54421486365ebce2619df1e4285516a6253d478363c524d94a5c43", func := "loop.example/texteditor/laws.FnMarksValid", spec := "fnMarksValid", inPlace := ["internal/bytealg.CountString", "internal/bytealg.IndexByteString", "internal/bytealg.IndexString"], named := ["internal/bytealg.MaxLen"], apart := false, narrowed := true }
def FnMarksValidUptoSaid : Prop := fnMarksValidUptoRow.holds Try.pinned (OpenSpec.upto fnMarksValidSpec)

/-- 'laws.FnNextMark', WHERE WHAT IT READS IS OF BULK AT MOST 1048576: true; the input reads as it did. -/
def fnNextMarkUptoRow : OpenClaim := { program := "ytckhhdhkchcljaa", sum := "82dcff221a54421486365ebce2619df1e4285516a6253d478363c524d94a5c43", func := "loop.example/texteditor/laws.FnNextMark", spec := "fnNextMark", inPlace := ["internal/bytealg.CountString", "internal/bytealg.IndexByteString", "internal/bytealg.IndexString"], named := ["internal/bytealg.MaxLen"], apart := false, narrowed := true }
def FnNextMarkUptoSaid : Prop := fnNextMarkUptoRow.holds Try.pinned (OpenSpec.upto fnNextMarkSpec)

/-- 'laws.FnLineOf', WHERE WHAT IT READS IS OF BULK AT MOST 1048576: true; the input reads as it did. -/
def fnLineOfUptoRow : OpenClaim := { program := "ytckhhdhkchcljaa", sum := "82dcff221a54421486365ebce2619df1e4285516a6253d478363c524d94a5c43", func := "loop.example/texteditor/laws.FnLineOf", spec := "fnLineOf", inPlace := ["internal/bytealg.CountString", "internal/bytealg.IndexByteString", "internal/bytealg.IndexString"], named := ["internal/bytealg.MaxLen"], apart := false, narrowed := true }
def FnLineOfUptoSaid : Prop := fnLineOfUptoRow.holds Try.pinned (OpenSpec.upto fnLineOfSpec)

/-- 'laws.FnLineEnd', WHERE WHAT IT READS IS OF BULK AT MOST 1048576: true; the input reads as it did. -/
def fnLineEndUptoRow : OpenClaim := { program := "ytckhhdhkchcljaa", sum := "82dcff221a54421486365ebce2619df1e4285516a6253d478363c524d94a5c43", func := "loop.example/texteditor/laws.FnLineEnd", spec := "fnLineEnd", inPlace := ["internal/bytealg.CountString", "internal/bytealg.IndexByteString", "internal/bytealg.IndexString"], named := ["internal/bytealg.MaxLen"], apart := false, narrowed := true }
def FnLineEndUptoSaid : Prop := fnLineEndUptoRow.holds Try.pinned (OpenSpec.upto fnLineEndSpec)

/-- 'laws.FnLineStart', WHERE WHAT IT READS IS OF BULK AT MOST 1048576: true; the input reads as it did. -/
def fnLineStartUptoRow : OpenClaim := { program := "ytckhhdhkchcljaa", sum := "82dcff221a54421486365ebce2619df1e4285516a6253d478363c524d94a5c43", func := "loop.example/texteditor/laws.FnLineStart", spec := "fnLineStart", inPlace := ["internal/bytealg.CountString", "internal/bytealg.IndexByteString", "internal/bytealg.IndexString"], named := ["internal/bytealg.MaxLen"], apart := false, narrowed := true }
def FnLineStartUptoSaid : Prop := fnLineStartUptoRow.holds Try.pinned (OpenSpec.upto fnLineStartSpec)

/-- 'laws.FnPlaceAt', WHERE WHAT IT READS IS OF BULK AT MOST 1048576: true; the input reads as it did. -/
def fnPlaceAtUptoRow : OpenClaim := { program := "ytckhhdhkchcljaa", sum := "82dcff221a54421486365ebce2619df1e4285516a6253d478363c524d94a5c43", func := "loop.example/texteditor/laws.FnPlaceAt", spec := "fnPlaceAt", inPlace := ["internal/bytealg.CountString", "internal/bytealg.IndexByteString", "internal/bytealg.IndexString"], named := ["internal/bytealg.MaxLen"], apart := false, narrowed := true }
def FnPlaceAtUptoSaid : Prop := fnPlaceAtUptoRow.holds Try.pinned (OpenSpec.upto fnPlaceAtSpec)

/-- 'laws.FnColumnOf', WHERE WHAT IT READS IS OF BULK AT MOST 1048576: true; the input reads as it did. -/
def fnColumnOfUptoRow : OpenClaim := { program := "ytckhhdhkchcljaa", sum := "82dcff221a54421486365ebce2619df1e4285516a6253d478363c524d94a5c43", func := "loop.example/texteditor/laws.FnColumnOf", spec := "fnColumnOf", inPlace := ["internal/bytealg.CountString", "internal/bytealg.IndexByteString", "internal/bytealg.IndexString"], named := ["internal/bytealg.MaxLen"], apart := false, narrowed := true }
def FnColumnOfUptoSaid : Prop := fnColumnOfUptoRow.holds Try.pinned (OpenSpec.upto fnColumnOfSpec)

/-- 'laws.FnTableOf', WHERE WHAT IT READS IS OF BULK AT MOST 1048576: true; the input reads as it did. -/
def fnTableOfUptoRow : OpenClaim := { program := "ytckhhdhkchcljaa", sum := "82dcff221a54421486365ebce2619df1e4285516a6253d478363c524d94a5c43", func := "loop.example/texteditor/laws.FnTableOf", spec := "fnTableOf", inPlace := ["internal/bytealg.CountString", "internal/bytealg.IndexByteString", "internal/bytealg.IndexString", "internal/abi.NoEscape"], named := ["internal/bytealg.MaxLen"], apart := false, narrowed := true }
def FnTableOfUptoSaid : Prop := fnTableOfUptoRow.holds Try.pinned (OpenSpec.upto fnTableOfSpec)

end Rows
end Go.Proofs.Ytckhhdhkchcljaa
