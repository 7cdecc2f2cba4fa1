/-
  NARROWER THAN 'FOR EVERY INPUT', by the rows' own cells (each row's printed sentence says how): FnLinesOf: laid · FnPutLines: laid · FnLinesJoin: laid · FnCutLines: laid · FnLinesText: laid.
  DERIVED. THE GIVEN ROWS OF THIS SEAT. 5 by the template 'for every input the law returns true; each argument reads behind the call as it read before'; 0 by the template 'total and deterministic' (their statements: YtecejfcoognkiaaDoorTotals.lean).
  GIVEN WITH THE SEED: the statements are not yours to turn. If you find one false, say at which input.
  Laid BY PROGRAM, IN A SANDBOX (cutbox-rows.mjs): the forced cells as the released guide's own fill.sh prints them over the translation 8001c7515058bf2b… (all of the seat's roots in one cut). By AI agents, Wed Nov 11 2026. No macro, syntax, notation, axiom, sorry.
-/
import Derived.Test.YtecejfcoognkiaaDoorChecked
import GoSem.PinnedTables
import GoSem.Claim
import GoSem.ClaimJoined
import GoSem.ClaimMapViews
import Derived.JoinedTies
import Derived.KernelRfl
namespace Go.Proofs.YtecejfcoognkiaaDoor
/- THE CELL 'sum', in the pinned program and in every row, IS THE sha256 OF THE DUMP (.gsa) THAT YtecejfcoognkiaaDoorProg.lean LOADS. Nothing in Lean hashes anything: it is a label: what it is worth is what the hold of that sum in a sandbox is worth. -/
noncomputable def Tryd.pinned : Pinned := { name := "ytecejfcoognkiaadoor", sum := "8001c7515058bf2bb422144f15389acb6f05102898c4e4f352d1afcf6120ec21", checked := Tryd.checked }
namespace Rows
def none {H : Type} : Left H := { results := [], args := [] }

/- WHAT THE LISTED PACKAGE-LEVEL VARIABLES READ AS WHEN THE CALL BEGINS. Each datum BY PROGRAM (the guide's laid-datum.mjs) off the statement by which the dump's own 'gosem.cut.vars' lays the variable. In a bare row this is a premise. The card (YtecejfcoognkiaaDoorCards.lean) ties it to the program's text. -/
def laid_unicode_utf8_acceptRanges {H : Type} : DataW H := .agg [.agg [.lit (.int .u8 128), .lit (.int .u8 191)], .agg [.lit (.int .u8 160), .lit (.int .u8 191)], .agg [.lit (.int .u8 128), .lit (.int .u8 159)], .agg [.lit (.int .u8 144), .lit (.int .u8 191)], .agg [.lit (.int .u8 128), .lit (.int .u8 143)], .agg [.lit (.int .u8 0), .lit (.int .u8 0)], .agg [.lit (.int .u8 0), .lit (.int .u8 0)], .agg [.lit (.int .u8 0), .lit (.int .u8 0)], .agg [.lit (.int .u8 0), .lit (.int .u8 0)], .agg [.lit (.int .u8 0), .lit (.int .u8 0)], .agg [.lit (.int .u8 0), .lit (.int .u8 0)], .agg [.lit (.int .u8 0), .lit (.int .u8 0)], .agg [.lit (.int .u8 0), .lit (.int .u8 0)], .agg [.lit (.int .u8 0), .lit (.int .u8 0)], .agg [.lit (.int .u8 0), .lit (.int .u8 0)], .agg [.lit (.int .u8 0), .lit (.int .u8 0)]]
/-- One of Go's own tables, pinned by name: the form's constant. -/
def laid_unicode_utf8_first : DataW Unit := Go.Pinned.utf8First

/-- 'laws.FnLinesOf': WHATEVER THE INPUT: true; the input reads as it did. -/
def fnLinesOfSpec : ChangeSpec := { name := "fnLinesOf", fn := fun _ => fun
  | [d] => { results := [.lit (.bool true)], args := [d] }
  | _ => none }
def fnLinesOfRow : OpenClaim := { program := "ytecejfcoognkiaadoor", sum := "8001c7515058bf2bb422144f15389acb6f05102898c4e4f352d1afcf6120ec21", func := "loop.example/texteditor/laws.FnLinesOf", spec := "fnLinesOf", inPlace := ["internal/bytealg.CountString", "internal/bytealg.IndexByteString", "internal/bytealg.IndexString", "internal/abi.NoEscape", "internal/bytealg.MakeNoZero"], named := ["unicode/utf8.first", "unicode/utf8.acceptRanges", "internal/bytealg.MaxLen"], apart := false, laid := [("unicode/utf8.acceptRanges", laid_unicode_utf8_acceptRanges), ("unicode/utf8.first", laid_unicode_utf8_first)] }
def FnLinesOfSaid : Prop := fnLinesOfRow.holds Tryd.pinned (OpenSpec.ofChange fnLinesOfSpec)

/-- ITS FALSE NEIGHBOUR: 'it returns false'. Refute it at one input. -/
def fnLinesOfWrong : ChangeSpec := { name := "fnLinesOf", fn := fun _ => fun
  | [d] => { results := [.lit (.bool false)], args := [d] }
  | _ => none }
def FnLinesOfWrongFalsely : Prop := fnLinesOfRow.holds Tryd.pinned (OpenSpec.ofChange fnLinesOfWrong)

/-- 'laws.FnPutLines': WHATEVER THE INPUT: true; the input reads as it did. -/
def fnPutLinesSpec : ChangeSpec := { name := "fnPutLines", fn := fun _ => fun
  | [d] => { results := [.lit (.bool true)], args := [d] }
  | _ => none }
def fnPutLinesRow : OpenClaim := { program := "ytecejfcoognkiaadoor", sum := "8001c7515058bf2bb422144f15389acb6f05102898c4e4f352d1afcf6120ec21", func := "loop.example/texteditor/laws.FnPutLines", spec := "fnPutLines", inPlace := ["internal/bytealg.CountString", "internal/bytealg.IndexByteString", "internal/bytealg.IndexString", "slices.overlaps[string]", "internal/abi.NoEscape", "internal/bytealg.MakeNoZero"], named := ["unicode/utf8.first", "unicode/utf8.acceptRanges", "internal/bytealg.MaxLen"], apart := false, laid := [("unicode/utf8.acceptRanges", laid_unicode_utf8_acceptRanges), ("unicode/utf8.first", laid_unicode_utf8_first)] }
def FnPutLinesSaid : Prop := fnPutLinesRow.holds Tryd.pinned (OpenSpec.ofChange fnPutLinesSpec)

/-- ITS FALSE NEIGHBOUR: 'it returns false'. Refute it at one input. -/
def fnPutLinesWrong : ChangeSpec := { name := "fnPutLines", fn := fun _ => fun
  | [d] => { results := [.lit (.bool false)], args := [d] }
  | _ => none }
def FnPutLinesWrongFalsely : Prop := fnPutLinesRow.holds Tryd.pinned (OpenSpec.ofChange fnPutLinesWrong)

/-- 'laws.FnLinesJoin': WHATEVER THE INPUT: true; the input reads as it did. -/
def fnLinesJoinSpec : ChangeSpec := { name := "fnLinesJoin", fn := fun _ => fun
  | [d1, d2] => { results := [.lit (.bool true)], args := [d1, d2] }
  | _ => none }
def fnLinesJoinRow : OpenClaim := { program := "ytecejfcoognkiaadoor", sum := "8001c7515058bf2bb422144f15389acb6f05102898c4e4f352d1afcf6120ec21", func := "loop.example/texteditor/laws.FnLinesJoin", spec := "fnLinesJoin", inPlace := ["internal/bytealg.CountString", "internal/bytealg.IndexByteString", "internal/bytealg.IndexString"], named := ["unicode/utf8.first", "unicode/utf8.acceptRanges", "internal/bytealg.MaxLen"], apart := false, laid := [("unicode/utf8.acceptRanges", laid_unicode_utf8_acceptRanges), ("unicode/utf8.first", laid_unicode_utf8_first)] }
def FnLinesJoinSaid : Prop := fnLinesJoinRow.holds Tryd.pinned (OpenSpec.ofChange fnLinesJoinSpec)

/-- ITS FALSE NEIGHBOUR: 'it returns false'. Refute it at one input. -/
def fnLinesJoinWrong : ChangeSpec := { name := "fnLinesJoin", fn := fun _ => fun
  | [d1, d2] => { results := [.lit (.bool false)], args := [d1, d2] }
  | _ => none }
def FnLinesJoinWrongFalsely : Prop := fnLinesJoinRow.holds Tryd.pinned (OpenSpec.ofChange fnLinesJoinWrong)

/-- 'laws.FnCutLines': WHATEVER THE INPUT: true; the input reads as it did. -/
def fnCutLinesSpec : ChangeSpec := { name := "fnCutLines", fn := fun _ => fun
  | [d] => { results := [.lit (.bool true)], args := [d] }
  | _ => none }
def fnCutLinesRow : OpenClaim := { program := "ytecejfcoognkiaadoor", sum := "8001c7515058bf2bb422144f15389acb6f05102898c4e4f352d1afcf6120ec21", func := "loop.example/texteditor/laws.FnCutLines", spec := "fnCutLines", inPlace := ["internal/bytealg.CountString", "internal/bytealg.IndexByteString", "internal/bytealg.IndexString", "internal/abi.NoEscape", "internal/bytealg.MakeNoZero"], named := ["unicode/utf8.first", "unicode/utf8.acceptRanges", "internal/bytealg.MaxLen"], apart := false, laid := [("unicode/utf8.acceptRanges", laid_unicode_utf8_acceptRanges), ("unicode/utf8.first", laid_unicode_utf8_first)] }
def FnCutLinesSaid : Prop := fnCutLinesRow.holds Tryd.pinned (OpenSpec.ofChange fnCutLinesSpec)

/-- ITS FALSE NEIGHBOUR: 'it returns false'. Refute it at one input. -/
def fnCutLinesWrong : ChangeSpec := { name := "fnCutLines", fn := fun _ => fun
  | [d] => { results := [.lit (.bool false)], args := [d] }
  | _ => none }
def FnCutLinesWrongFalsely : Prop := fnCutLinesRow.holds Tryd.pinned (OpenSpec.ofChange fnCutLinesWrong)

/-- 'laws.FnLinesText': WHATEVER THE INPUT: true; the input reads as it did. -/
def fnLinesTextSpec : ChangeSpec := { name := "fnLinesText", fn := fun _ => fun
  | [d] => { results := [.lit (.bool true)], args := [d] }
  | _ => none }
def fnLinesTextRow : OpenClaim := { program := "ytecejfcoognkiaadoor", sum := "8001c7515058bf2bb422144f15389acb6f05102898c4e4f352d1afcf6120ec21", func := "loop.example/texteditor/laws.FnLinesText", spec := "fnLinesText", inPlace := ["internal/bytealg.IndexByteString", "internal/bytealg.IndexString", "internal/abi.NoEscape", "internal/bytealg.MakeNoZero", "internal/bytealg.CountString"], named := ["internal/bytealg.MaxLen", "unicode/utf8.first", "unicode/utf8.acceptRanges"], apart := false, laid := [("unicode/utf8.acceptRanges", laid_unicode_utf8_acceptRanges), ("unicode/utf8.first", laid_unicode_utf8_first)] }
def FnLinesTextSaid : Prop := fnLinesTextRow.holds Tryd.pinned (OpenSpec.ofChange fnLinesTextSpec)

/-- ITS FALSE NEIGHBOUR: 'it returns false'. Refute it at one input. -/
def fnLinesTextWrong : ChangeSpec := { name := "fnLinesText", fn := fun _ => fun
  | [d] => { results := [.lit (.bool false)], args := [d] }
  | _ => none }
def FnLinesTextWrongFalsely : Prop := fnLinesTextRow.holds Tryd.pinned (OpenSpec.ofChange fnLinesTextWrong)

/- THE SECOND FORM. 'bulk': how many values and letters a reading holds, each counted each time it is reached (what is shared counts as often as it is met; a slice's spare places count too). A statement '..UptoSaid' is the law's where the arguments, and the package variables that the reading takes, are together of bulk at most 1048576: NARROWER than '..Said'. Prove '..Said' where nothing that the law and all that it calls make is longer than what came in: it says more and counts as full. Else prove '..UptoSaid'. A law counts once. -/
mutual
def uptoBulk {H : Type} : DataW H → Nat
  | .lit (.string bytes) => bytes.length + 1
  | .lit _ => 1
  | .nil => 1
  | .ptr d => uptoBulk d + 1
  | .slice elems spare => uptoBulkAll elems + uptoBulkAll spare + 1
  | .agg parts => uptoBulkAll parts + 1
  | .iface _ d => uptoBulk d + 1
  | .map entries => uptoBulkEntries entries + 1
  | .held _ => 1
def uptoBulkAll {H : Type} : List (DataW H) → Nat
  | [] => 0
  | d :: r => uptoBulk d + uptoBulkAll r
def uptoBulkEntries {H : Type} : List (Lit × DataW H) → Nat
  | [] => 0
  | x :: r => uptoBulkEntry x + uptoBulkEntries r
def uptoBulkEntry {H : Type} : Lit × DataW H → Nat
  | (.string bytes, d) => bytes.length + uptoBulk d + 1
  | (_, d) => uptoBulk d + 1
 end
def uptoSmall : (H : Type) → List (DataW H) → Bool := fun _ ds => decide (uptoBulkAll ds ≤ 1048576)
def OpenSpec.upto (s : _root_.Go.ChangeSpec) : _root_.Go.OpenSpec := { _root_.Go.OpenSpec.ofChange s with cond := some uptoSmall }

/-- 'laws.FnLinesOf', WHERE WHAT IT READS IS OF BULK AT MOST 1048576: true; the input reads as it did. -/
def fnLinesOfUptoRow : OpenClaim := { program := "ytecejfcoognkiaadoor", sum := "8001c7515058bf2bb422144f15389acb6f05102898c4e4f352d1afcf6120ec21", func := "loop.example/texteditor/laws.FnLinesOf", spec := "fnLinesOf", inPlace := ["internal/bytealg.CountString", "internal/bytealg.IndexByteString", "internal/bytealg.IndexString", "internal/abi.NoEscape", "internal/bytealg.MakeNoZero"], named := ["unicode/utf8.first", "unicode/utf8.acceptRanges", "internal/bytealg.MaxLen"], apart := false, laid := [("unicode/utf8.acceptRanges", laid_unicode_utf8_acceptRanges), ("unicode/utf8.first", laid_unicode_utf8_first)], narrowed := true }
def FnLinesOfUptoSaid : Prop := fnLinesOfUptoRow.holds Tryd.pinned (OpenSpec.upto fnLinesOfSpec)

/-- 'laws.FnPutLines', WHERE WHAT IT READS IS OF BULK AT MOST 1048576: true; the input reads as it did. -/
def fnPutLinesUptoRow : OpenClaim := { program := "ytecejfcoognkiaadoor", sum := "8001c7515058bf2bb422144f15389acb6f05102898c4e4f352d1afcf6120ec21", func := "loop.example/texteditor/laws.FnPutLines", spec := "fnPutLines", inPlace := ["internal/bytealg.CountString", "internal/bytealg.IndexByteString", "internal/bytealg.IndexString", "slices.overlaps[string]", "internal/abi.NoEscape", "internal/bytealg.MakeNoZero"], named := ["unicode/utf8.first", "unicode/utf8.acceptRanges", "internal/bytealg.MaxLen"], apart := false, laid := [("unicode/utf8.acceptRanges", laid_unicode_utf8_acceptRanges), ("unicode/utf8.first", laid_unicode_utf8_first)], narrowed := true }
def FnPutLinesUptoSaid : Prop := fnPutLinesUptoRow.holds Tryd.pinned (OpenSpec.upto fnPutLinesSpec)

/-- 'laws.FnLinesJoin', WHERE WHAT IT READS IS OF BULK AT MOST 1048576: true; the input reads as it did. -/
def fnLinesJoinUptoRow : OpenClaim := { program := "ytecejfcoognkiaadoor", sum := "8001c7515058bf2bb422144f15389acb6f05102898c4e4f352d1afcf6120ec21", func := "loop.example/texteditor/laws.FnLinesJoin", spec := "fnLinesJoin", inPlace := ["internal/bytealg.CountString", "internal/bytealg.IndexByteString", "internal/bytealg.IndexString"], named := ["unicode/utf8.first", "unicode/utf8.acceptRanges", "internal/bytealg.MaxLen"], apart := false, laid := [("unicode/utf8.acceptRanges", laid_unicode_utf8_acceptRanges), ("unicode/utf8.first", laid_unicode_utf8_first)], narrowed := true }
def FnLinesJoinUptoSaid : Prop := fnLinesJoinUptoRow.holds Tryd.pinned (OpenSpec.upto fnLinesJoinSpec)

/-- 'laws.FnCutLines', WHERE WHAT IT READS IS OF BULK AT MOST 1048576: true; the input reads as it did. -/
def fnCutLinesUptoRow : OpenClaim := { program := "ytecejfcoognkiaadoor", sum := "8001c7515058bf2bb422144f15389acb6f05102898c4e4f352d1afcf6120ec21", func := "loop.example/texteditor/laws.FnCutLines", spec := "fnCutLines", inPlace := ["internal/bytealg.CountString", "internal/bytealg.IndexByteString", "internal/bytealg.IndexString", "internal/abi.NoEscape", "internal/bytealg.MakeNoZero"], named := ["unicode/utf8.first", "unicode/utf8.acceptRanges", "internal/bytealg.MaxLen"], apart := false, laid := [("unicode/utf8.acceptRanges", laid_unicode_utf8_acceptRanges), ("unicode/utf8.first", laid_unicode_utf8_first)], narrowed := true }
def FnCutLinesUptoSaid : Prop := fnCutLinesUptoRow.holds Tryd.pinned (OpenSpec.upto fnCutLinesSpec)

/-- 'laws.FnLinesText', WHERE WHAT IT READS IS OF BULK AT MOST 1048576: true; the input reads as it did. -/
def fnLinesTextUptoRow : OpenClaim := { program := "ytecejfcoognkiaadoor", sum := "8001c7515058bf2bb422144f15389acb6f05102898c4e4f352d1afcf6120ec21", func := "loop.example/texteditor/laws.FnLinesText", spec := "fnLinesText", inPlace := ["internal/bytealg.IndexByteString", "internal/bytealg.IndexString", "internal/abi.NoEscape", "internal/bytealg.MakeNoZero", "internal/bytealg.CountString"], named := ["internal/bytealg.MaxLen", "unicode/utf8.first", "unicode/utf8.acceptRanges"], apart := false, laid := [("unicode/utf8.acceptRanges", laid_unicode_utf8_acceptRanges), ("unicode/utf8.first", laid_unicode_utf8_first)], narrowed := true }
def FnLinesTextUptoSaid : Prop := fnLinesTextUptoRow.holds Tryd.pinned (OpenSpec.upto fnLinesTextSpec)

end Rows
end Go.Proofs.YtecejfcoognkiaaDoor
