/-
  No cell of these rows narrows 'for every input' (looked for: loops, veiled, ifaces, maps, wideKeys, modest, calm, conditions, laid).
  DERIVED. THE GIVEN ROWS OF THIS SEAT. 8 by the template 'for every input the law returns true; each argument reads behind the call as it read before'; 0 by the template 'total and deterministic' (their statements: YtppfggfmpmccpaaTotals.lean).
  GIVEN WITH THE SEED: the statements are not yours to turn. If you find one false, say at which input.
  Laid BY PROGRAM, IN A SANDBOX (cutbox-rows.mjs): the forced cells as the released guide's own fill.sh prints them over the translation 6c91439db2ca45a8… (all of the seat's roots in one cut). By AI agents, Wed Nov 11 2026. No macro, syntax, notation, axiom, sorry.
-/
import Derived.Test.YtppfggfmpmccpaaChecked
import GoSem.Claim
import GoSem.ClaimJoined
import GoSem.ClaimMapViews
import Derived.JoinedTies
import Derived.KernelRfl
namespace Go.Proofs.Ytppfggfmpmccpaa
/- THE CELL 'sum', in the pinned program and in every row, IS THE sha256 OF THE DUMP (.gsa) THAT YtppfggfmpmccpaaProg.lean LOADS. Nothing in Lean hashes anything: it is a label: what it is worth is what the hold of that sum in a sandbox is worth. -/
noncomputable def Try.pinned : Pinned := { name := "ytppfggfmpmccpaa", sum := "6c91439db2ca45a876aa26451b444c1c1e6edd3c350e4dbb4691dfe840bc96bc", checked := Try.checked }
namespace Rows
def none {H : Type} : Left H := { results := [], args := [] }

/-- 'laws.FnExactTableOf': WHATEVER THE INPUT: true; the input reads as it did. -/
def fnExactTableOfSpec : ChangeSpec := { name := "fnExactTableOf", fn := fun _ => fun
  | [d] => { results := [.lit (.bool true)], args := [d] }
  | _ => none }
def fnExactTableOfRow : OpenClaim := { program := "ytppfggfmpmccpaa", sum := "6c91439db2ca45a876aa26451b444c1c1e6edd3c350e4dbb4691dfe840bc96bc", func := "loop.example/texteditor/laws.FnExactTableOf", spec := "fnExactTableOf", apart := false }
def FnExactTableOfSaid : Prop := fnExactTableOfRow.holds Try.pinned (OpenSpec.ofChange fnExactTableOfSpec)

/-- ITS FALSE NEIGHBOUR: 'it returns false'. Refute it at one input. -/
def fnExactTableOfWrong : ChangeSpec := { name := "fnExactTableOf", fn := fun _ => fun
  | [d] => { results := [.lit (.bool false)], args := [d] }
  | _ => none }
def FnExactTableOfWrongFalsely : Prop := fnExactTableOfRow.holds Try.pinned (OpenSpec.ofChange fnExactTableOfWrong)

/-- 'laws.FnExactTableValid': WHATEVER THE INPUT: true; the input reads as it did. -/
def fnExactTableValidSpec : ChangeSpec := { name := "fnExactTableValid", fn := fun _ => fun
  | [d] => { results := [.lit (.bool true)], args := [d] }
  | _ => none }
def fnExactTableValidRow : OpenClaim := { program := "ytppfggfmpmccpaa", sum := "6c91439db2ca45a876aa26451b444c1c1e6edd3c350e4dbb4691dfe840bc96bc", func := "loop.example/texteditor/laws.FnExactTableValid", spec := "fnExactTableValid", apart := false }
def FnExactTableValidSaid : Prop := fnExactTableValidRow.holds Try.pinned (OpenSpec.ofChange fnExactTableValidSpec)

/-- ITS FALSE NEIGHBOUR: 'it returns false'. Refute it at one input. -/
def fnExactTableValidWrong : ChangeSpec := { name := "fnExactTableValid", fn := fun _ => fun
  | [d] => { results := [.lit (.bool false)], args := [d] }
  | _ => none }
def FnExactTableValidWrongFalsely : Prop := fnExactTableValidRow.holds Try.pinned (OpenSpec.ofChange fnExactTableValidWrong)

/-- 'laws.FnExactLineStart': WHATEVER THE INPUT: true; the input reads as it did. -/
def fnExactLineStartSpec : ChangeSpec := { name := "fnExactLineStart", fn := fun _ => fun
  | [d1, d2] => { results := [.lit (.bool true)], args := [d1, d2] }
  | _ => none }
def fnExactLineStartRow : OpenClaim := { program := "ytppfggfmpmccpaa", sum := "6c91439db2ca45a876aa26451b444c1c1e6edd3c350e4dbb4691dfe840bc96bc", func := "loop.example/texteditor/laws.FnExactLineStart", spec := "fnExactLineStart", inPlace := ["internal/bytealg.CountString", "internal/bytealg.IndexByteString", "internal/bytealg.IndexString"], named := ["internal/bytealg.MaxLen"], apart := false }
def FnExactLineStartSaid : Prop := fnExactLineStartRow.holds Try.pinned (OpenSpec.ofChange fnExactLineStartSpec)

/-- ITS FALSE NEIGHBOUR: 'it returns false'. Refute it at one input. -/
def fnExactLineStartWrong : ChangeSpec := { name := "fnExactLineStart", fn := fun _ => fun
  | [d1, d2] => { results := [.lit (.bool false)], args := [d1, d2] }
  | _ => none }
def FnExactLineStartWrongFalsely : Prop := fnExactLineStartRow.holds Try.pinned (OpenSpec.ofChange fnExactLineStartWrong)

/-- 'laws.FnExactLineEnd': WHATEVER THE INPUT: true; the input reads as it did. -/
def fnExactLineEndSpec : ChangeSpec := { name := "fnExactLineEnd", fn := fun _ => fun
  | [d1, d2] => { results := [.lit (.bool true)], args := [d1, d2] }
  | _ => none }
def fnExactLineEndRow : OpenClaim := { program := "ytppfggfmpmccpaa", sum := "6c91439db2ca45a876aa26451b444c1c1e6edd3c350e4dbb4691dfe840bc96bc", func := "loop.example/texteditor/laws.FnExactLineEnd", spec := "fnExactLineEnd", inPlace := ["internal/bytealg.CountString", "internal/bytealg.IndexByteString", "internal/bytealg.IndexString"], named := ["internal/bytealg.MaxLen"], apart := false }
def FnExactLineEndSaid : Prop := fnExactLineEndRow.holds Try.pinned (OpenSpec.ofChange fnExactLineEndSpec)

/-- ITS FALSE NEIGHBOUR: 'it returns false'. Refute it at one input. -/
def fnExactLineEndWrong : ChangeSpec := { name := "fnExactLineEnd", fn := fun _ => fun
  | [d1, d2] => { results := [.lit (.bool false)], args := [d1, d2] }
  | _ => none }
def FnExactLineEndWrongFalsely : Prop := fnExactLineEndRow.holds Try.pinned (OpenSpec.ofChange fnExactLineEndWrong)

/-- 'laws.FnExactTableText': WHATEVER THE INPUT: true; the input reads as it did. -/
def fnExactTableTextSpec : ChangeSpec := { name := "fnExactTableText", fn := fun _ => fun
  | [d] => { results := [.lit (.bool true)], args := [d] }
  | _ => none }
def fnExactTableTextRow : OpenClaim := { program := "ytppfggfmpmccpaa", sum := "6c91439db2ca45a876aa26451b444c1c1e6edd3c350e4dbb4691dfe840bc96bc", func := "loop.example/texteditor/laws.FnExactTableText", spec := "fnExactTableText", inPlace := ["internal/abi.NoEscape"], apart := false }
def FnExactTableTextSaid : Prop := fnExactTableTextRow.holds Try.pinned (OpenSpec.ofChange fnExactTableTextSpec)

/-- ITS FALSE NEIGHBOUR: 'it returns false'. Refute it at one input. -/
def fnExactTableTextWrong : ChangeSpec := { name := "fnExactTableText", fn := fun _ => fun
  | [d] => { results := [.lit (.bool false)], args := [d] }
  | _ => none }
def FnExactTableTextWrongFalsely : Prop := fnExactTableTextRow.holds Try.pinned (OpenSpec.ofChange fnExactTableTextWrong)

/-- 'laws.FnExactPlaceAt': WHATEVER THE INPUT: true; the input reads as it did. -/
def fnExactPlaceAtSpec : ChangeSpec := { name := "fnExactPlaceAt", fn := fun _ => fun
  | [d1, d2, d3] => { results := [.lit (.bool true)], args := [d1, d2, d3] }
  | _ => none }
def fnExactPlaceAtRow : OpenClaim := { program := "ytppfggfmpmccpaa", sum := "6c91439db2ca45a876aa26451b444c1c1e6edd3c350e4dbb4691dfe840bc96bc", func := "loop.example/texteditor/laws.FnExactPlaceAt", spec := "fnExactPlaceAt", inPlace := ["internal/bytealg.CountString", "internal/bytealg.IndexByteString", "internal/bytealg.IndexString"], named := ["internal/bytealg.MaxLen"], apart := false }
def FnExactPlaceAtSaid : Prop := fnExactPlaceAtRow.holds Try.pinned (OpenSpec.ofChange fnExactPlaceAtSpec)

/-- ITS FALSE NEIGHBOUR: 'it returns false'. Refute it at one input. -/
def fnExactPlaceAtWrong : ChangeSpec := { name := "fnExactPlaceAt", fn := fun _ => fun
  | [d1, d2, d3] => { results := [.lit (.bool false)], args := [d1, d2, d3] }
  | _ => none }
def FnExactPlaceAtWrongFalsely : Prop := fnExactPlaceAtRow.holds Try.pinned (OpenSpec.ofChange fnExactPlaceAtWrong)

/-- 'laws.FnExactTablePack': WHATEVER THE INPUT: true; the input reads as it did. -/
def fnExactTablePackSpec : ChangeSpec := { name := "fnExactTablePack", fn := fun _ => fun
  | [d] => { results := [.lit (.bool true)], args := [d] }
  | _ => none }
def fnExactTablePackRow : OpenClaim := { program := "ytppfggfmpmccpaa", sum := "6c91439db2ca45a876aa26451b444c1c1e6edd3c350e4dbb4691dfe840bc96bc", func := "loop.example/texteditor/laws.FnExactTablePack", spec := "fnExactTablePack", apart := false }
def FnExactTablePackSaid : Prop := fnExactTablePackRow.holds Try.pinned (OpenSpec.ofChange fnExactTablePackSpec)

/-- ITS FALSE NEIGHBOUR: 'it returns false'. Refute it at one input. -/
def fnExactTablePackWrong : ChangeSpec := { name := "fnExactTablePack", fn := fun _ => fun
  | [d] => { results := [.lit (.bool false)], args := [d] }
  | _ => none }
def FnExactTablePackWrongFalsely : Prop := fnExactTablePackRow.holds Try.pinned (OpenSpec.ofChange fnExactTablePackWrong)

/-- 'laws.FnExactLinesText': WHATEVER THE INPUT: true; the input reads as it did. -/
def fnExactLinesTextSpec : ChangeSpec := { name := "fnExactLinesText", fn := fun _ => fun
  | [d] => { results := [.lit (.bool true)], args := [d] }
  | _ => none }
def fnExactLinesTextRow : OpenClaim := { program := "ytppfggfmpmccpaa", sum := "6c91439db2ca45a876aa26451b444c1c1e6edd3c350e4dbb4691dfe840bc96bc", func := "loop.example/texteditor/laws.FnExactLinesText", spec := "fnExactLinesText", inPlace := ["internal/bytealg.IndexByteString", "internal/bytealg.IndexString", "internal/abi.NoEscape", "internal/bytealg.MakeNoZero"], named := ["internal/bytealg.MaxLen"], apart := false }
def FnExactLinesTextSaid : Prop := fnExactLinesTextRow.holds Try.pinned (OpenSpec.ofChange fnExactLinesTextSpec)

/-- ITS FALSE NEIGHBOUR: 'it returns false'. Refute it at one input. -/
def fnExactLinesTextWrong : ChangeSpec := { name := "fnExactLinesText", fn := fun _ => fun
  | [d] => { results := [.lit (.bool false)], args := [d] }
  | _ => none }
def FnExactLinesTextWrongFalsely : Prop := fnExactLinesTextRow.holds Try.pinned (OpenSpec.ofChange fnExactLinesTextWrong)

/- THE SECOND FORM. 'bulk': how many values and letters a reading holds, each counted each time it is reached (what is shared counts as often as it is met; a slice's spare places count too). A statement '..UptoSaid' is the law's where the arguments, and the package variables that the reading takes, are together of bulk at most 1048576: NARROWER than '..Said'. Prove '..Said' where nothing that the law and all that it calls make is longer than what came in: it says more and counts as full. Else prove '..UptoSaid'. A law counts once. -/
mutual
def uptoBulk {H : Type} : DataW H → Nat
  | .lit (.string bytes) => bytes.length + 1
  | .lit _ => 1
  | .nil => 1
  | .ptr d => uptoBulk d + 1
  | .slice elems spare => uptoBulkAll elems + uptoBulkAll spare + 1
  | .agg parts => uptoBulkAll parts + 1
  | .iface _ d => uptoBulk d + 1
  | .map entries => uptoBulkEntries entries + 1
  | .held _ => 1
def uptoBulkAll {H : Type} : List (DataW H) → Nat
  | [] => 0
  | d :: r => uptoBulk d + uptoBulkAll r
def uptoBulkEntries {H : Type} : List (Lit × DataW H) → Nat
  | [] => 0
  | x :: r => uptoBulkEntry x + uptoBulkEntries r
def uptoBulkEntry {H : Type} : Lit × DataW H → Nat
  | (.string bytes, d) => bytes.length + uptoBulk d + 1
  | (_, d) => uptoBulk d + 1
 end
def uptoSmall : (H : Type) → List (DataW H) → Bool := fun _ ds => decide (uptoBulkAll ds ≤ 1048576)
def OpenSpec.upto (s : _root_.Go.ChangeSpec) : _root_.Go.OpenSpec := { _root_.Go.OpenSpec.ofChange s with cond := some uptoSmall }

/-- 'laws.FnExactTableOf', WHERE WHAT IT READS IS OF BULK AT MOST 1048576: true; the input reads as it did. -/
def fnExactTableOfUptoRow : OpenClaim := { program := "ytppfggfmpmccpaa", sum := "6c91439db2ca45a876aa26451b444c1c1e6edd3c350e4dbb4691dfe840bc96bc", func := "loop.example/texteditor/laws.FnExactTableOf", spec := "fnExactTableOf", apart := false, narrowed := true }
def FnExactTableOfUptoSaid : Prop := fnExactTableOfUptoRow.holds Try.pinned (OpenSpec.upto fnExactTableOfSpec)

/-- 'laws.FnExactTableValid', WHERE WHAT IT READS IS OF BULK AT MOST 1048576: true; the input reads as it did. -/
def fnExactTableValidUptoRow : OpenClaim := { program := "ytppfggfmpmccpaa", sum := "6c91439db2ca45a876aa26451b444c1c1e6edd3c350e4dbb4691dfe840bc96bc", func := "loop.example/texteditor/laws.FnExactTableValid", spec := "fnExactTableValid", apart := false, narrowed := true }
def FnExactTableValidUptoSaid : Prop := fnExactTableValidUptoRow.holds Try.pinned (OpenSpec.upto fnExactTableValidSpec)

/-- 'laws.FnExactLineStart', WHERE WHAT IT READS IS OF BULK AT MOST 1048576: true; the input reads as it did. -/
def fnExactLineStartUptoRow : OpenClaim := { program := "ytppfggfmpmccpaa", sum := "6c91439db2ca45a876aa26451b444c1c1e6edd3c350e4dbb4691dfe840bc96bc", func := "loop.example/texteditor/laws.FnExactLineStart", spec := "fnExactLineStart", inPlace := ["internal/bytealg.CountString", "internal/bytealg.IndexByteString", "internal/bytealg.IndexString"], named := ["internal/bytealg.MaxLen"], apart := false, narrowed := true }
def FnExactLineStartUptoSaid : Prop := fnExactLineStartUptoRow.holds Try.pinned (OpenSpec.upto fnExactLineStartSpec)

/-- 'laws.FnExactLineEnd', WHERE WHAT IT READS IS OF BULK AT MOST 1048576: true; the input reads as it did. -/
def fnExactLineEndUptoRow : OpenClaim := { program := "ytppfggfmpmccpaa", sum := "6c91439db2ca45a876aa26451b444c1c1e6edd3c350e4dbb4691dfe840bc96bc", func := "loop.example/texteditor/laws.FnExactLineEnd", spec := "fnExactLineEnd", inPlace := ["internal/bytealg.CountString", "internal/bytealg.IndexByteString", "internal/bytealg.IndexString"], named := ["internal/bytealg.MaxLen"], apart := false, narrowed := true }
def FnExactLineEndUptoSaid : Prop := fnExactLineEndUptoRow.holds Try.pinned (OpenSpec.upto fnExactLineEndSpec)

/-- 'laws.FnExactTableText', WHERE WHAT IT READS IS OF BULK AT MOST 1048576: true; the input reads as it did. -/
def fnExactTableTextUptoRow : OpenClaim := { program := "ytppfggfmpmccpaa", sum := "6c91439db2ca45a876aa26451b444c1c1e6edd3c350e4dbb4691dfe840bc96bc", func := "loop.example/texteditor/laws.FnExactTableText", spec := "fnExactTableText", inPlace := ["internal/abi.NoEscape"], apart := false, narrowed := true }
def FnExactTableTextUptoSaid : Prop := fnExactTableTextUptoRow.holds Try.pinned (OpenSpec.upto fnExactTableTextSpec)

/-- 'laws.FnExactPlaceAt', WHERE WHAT IT READS IS OF BULK AT MOST 1048576: true; the input reads as it did. -/
def fnExactPlaceAtUptoRow : OpenClaim := { program := "ytppfggfmpmccpaa", sum := "6c91439db2ca45a876aa26451b444c1c1e6edd3c350e4dbb4691dfe840bc96bc", func := "loop.example/texteditor/laws.FnExactPlaceAt", spec := "fnExactPlaceAt", inPlace := ["internal/bytealg.CountString", "internal/bytealg.IndexByteString", "internal/bytealg.IndexString"], named := ["internal/bytealg.MaxLen"], apart := false, narrowed := true }
def FnExactPlaceAtUptoSaid : Prop := fnExactPlaceAtUptoRow.holds Try.pinned (OpenSpec.upto fnExactPlaceAtSpec)

/-- 'laws.FnExactTablePack', WHERE WHAT IT READS IS OF BULK AT MOST 1048576: true; the input reads as it did. -/
def fnExactTablePackUptoRow : OpenClaim := { program := "ytppfggfmpmccpaa", sum := "6c91439db2ca45a876aa26451b444c1c1e6edd3c350e4dbb4691dfe840bc96bc", func := "loop.example/texteditor/laws.FnExactTablePack", spec := "fnExactTablePack", apart := false, narrowed := true }
def FnExactTablePackUptoSaid : Prop := fnExactTablePackUptoRow.holds Try.pinned (OpenSpec.upto fnExactTablePackSpec)

/-- 'laws.FnExactLinesText', WHERE WHAT IT READS IS OF BULK AT MOST 1048576: true; the input reads as it did. -/
def fnExactLinesTextUptoRow : OpenClaim := { program := "ytppfggfmpmccpaa", sum := "6c91439db2ca45a876aa26451b444c1c1e6edd3c350e4dbb4691dfe840bc96bc", func := "loop.example/texteditor/laws.FnExactLinesText", spec := "fnExactLinesText", inPlace := ["internal/bytealg.IndexByteString", "internal/bytealg.IndexString", "internal/abi.NoEscape", "internal/bytealg.MakeNoZero"], named := ["internal/bytealg.MaxLen"], apart := false, narrowed := true }
def FnExactLinesTextUptoSaid : Prop := fnExactLinesTextUptoRow.holds Try.pinned (OpenSpec.upto fnExactLinesTextSpec)

end Rows
end Go.Proofs.Ytppfggfmpmccpaa
