/-
  No cell of these rows narrows 'for every input' (looked for: loops, veiled, ifaces, maps, wideKeys, modest, calm, conditions, laid).
  DERIVED. THE GIVEN ROWS OF THIS SEAT. 7 by the template 'for every input the law returns true; each argument reads behind the call as it read before'; 0 by the template 'total and deterministic' (their statements: YtlndlgbpnlfflaaTotals.lean).
  GIVEN WITH THE SEED: the statements are not yours to turn. If you find one false, say at which input.
  Laid BY PROGRAM, IN A SANDBOX (cutbox-rows.mjs): the forced cells as the released guide's own fill.sh prints them over the translation 2669b7ed2c7f35cf… (all of the seat's roots in one cut). By AI agents, Wed Nov 11 2026. No macro, syntax, notation, axiom, sorry.
-/
import Derived.Test.YtlndlgbpnlfflaaChecked
import GoSem.Claim
import GoSem.ClaimJoined
import GoSem.ClaimMapViews
import Derived.JoinedTies
import Derived.KernelRfl
namespace Go.Proofs.Ytlndlgbpnlfflaa
/- THE CELL 'sum', in the pinned program and in every row, IS THE sha256 OF THE DUMP (.gsa) THAT YtlndlgbpnlfflaaProg.lean LOADS. Nothing in Lean hashes anything: it is a label: what it is worth is what the hold of that sum in a sandbox is worth. -/
noncomputable def Try.pinned : Pinned := { name := "ytlndlgbpnlfflaa", sum := "2669b7ed2c7f35cf3a31376583ab1d4f43f425a67254378d0aa392b752280174", checked := Try.checked }
namespace Rows
def none {H : Type} : Left H := { results := [], args := [] }

/-- 'laws.FnGapMove': WHATEVER THE INPUT: true; the input reads as it did. -/
def fnGapMoveSpec : ChangeSpec := { name := "fnGapMove", fn := fun _ => fun
  | [d] => { results := [.lit (.bool true)], args := [d] }
  | _ => none }
def fnGapMoveRow : OpenClaim := { program := "ytlndlgbpnlfflaa", sum := "2669b7ed2c7f35cf3a31376583ab1d4f43f425a67254378d0aa392b752280174", func := "loop.example/texteditor/laws.FnGapMove", spec := "fnGapMove", inPlace := ["internal/bytealg.CountString", "internal/bytealg.IndexByteString", "internal/bytealg.IndexString"], named := ["internal/bytealg.MaxLen"], apart := false }
def FnGapMoveSaid : Prop := fnGapMoveRow.holds Try.pinned (OpenSpec.ofChange fnGapMoveSpec)

/-- ITS FALSE NEIGHBOUR: 'it returns false'. Refute it at one input. -/
def fnGapMoveWrong : ChangeSpec := { name := "fnGapMove", fn := fun _ => fun
  | [d] => { results := [.lit (.bool false)], args := [d] }
  | _ => none }
def FnGapMoveWrongFalsely : Prop := fnGapMoveRow.holds Try.pinned (OpenSpec.ofChange fnGapMoveWrong)

/-- 'laws.FnGapWalk': WHATEVER THE INPUT: true; the input reads as it did. -/
def fnGapWalkSpec : ChangeSpec := { name := "fnGapWalk", fn := fun _ => fun
  | [d] => { results := [.lit (.bool true)], args := [d] }
  | _ => none }
def fnGapWalkRow : OpenClaim := { program := "ytlndlgbpnlfflaa", sum := "2669b7ed2c7f35cf3a31376583ab1d4f43f425a67254378d0aa392b752280174", func := "loop.example/texteditor/laws.FnGapWalk", spec := "fnGapWalk", inPlace := ["internal/bytealg.CountString", "internal/bytealg.IndexByteString", "internal/bytealg.IndexString"], named := ["internal/bytealg.MaxLen"], apart := false }
def FnGapWalkSaid : Prop := fnGapWalkRow.holds Try.pinned (OpenSpec.ofChange fnGapWalkSpec)

/-- ITS FALSE NEIGHBOUR: 'it returns false'. Refute it at one input. -/
def fnGapWalkWrong : ChangeSpec := { name := "fnGapWalk", fn := fun _ => fun
  | [d] => { results := [.lit (.bool false)], args := [d] }
  | _ => none }
def FnGapWalkWrongFalsely : Prop := fnGapWalkRow.holds Try.pinned (OpenSpec.ofChange fnGapWalkWrong)

/-- 'laws.FnGapErase': WHATEVER THE INPUT: true; the input reads as it did. -/
def fnGapEraseSpec : ChangeSpec := { name := "fnGapErase", fn := fun _ => fun
  | [d] => { results := [.lit (.bool true)], args := [d] }
  | _ => none }
def fnGapEraseRow : OpenClaim := { program := "ytlndlgbpnlfflaa", sum := "2669b7ed2c7f35cf3a31376583ab1d4f43f425a67254378d0aa392b752280174", func := "loop.example/texteditor/laws.FnGapErase", spec := "fnGapErase", inPlace := ["internal/bytealg.CountString", "internal/bytealg.IndexByteString", "internal/bytealg.IndexString"], named := ["internal/bytealg.MaxLen"], apart := false }
def FnGapEraseSaid : Prop := fnGapEraseRow.holds Try.pinned (OpenSpec.ofChange fnGapEraseSpec)

/-- ITS FALSE NEIGHBOUR: 'it returns false'. Refute it at one input. -/
def fnGapEraseWrong : ChangeSpec := { name := "fnGapErase", fn := fun _ => fun
  | [d] => { results := [.lit (.bool false)], args := [d] }
  | _ => none }
def FnGapEraseWrongFalsely : Prop := fnGapEraseRow.holds Try.pinned (OpenSpec.ofChange fnGapEraseWrong)

/-- 'laws.FnGapType': WHATEVER THE INPUT: true; the input reads as it did. -/
def fnGapTypeSpec : ChangeSpec := { name := "fnGapType", fn := fun _ => fun
  | [d] => { results := [.lit (.bool true)], args := [d] }
  | _ => none }
def fnGapTypeRow : OpenClaim := { program := "ytlndlgbpnlfflaa", sum := "2669b7ed2c7f35cf3a31376583ab1d4f43f425a67254378d0aa392b752280174", func := "loop.example/texteditor/laws.FnGapType", spec := "fnGapType", inPlace := ["internal/bytealg.CountString", "internal/bytealg.IndexByteString", "internal/bytealg.IndexString"], named := ["internal/bytealg.MaxLen"], apart := false }
def FnGapTypeSaid : Prop := fnGapTypeRow.holds Try.pinned (OpenSpec.ofChange fnGapTypeSpec)

/-- ITS FALSE NEIGHBOUR: 'it returns false'. Refute it at one input. -/
def fnGapTypeWrong : ChangeSpec := { name := "fnGapType", fn := fun _ => fun
  | [d] => { results := [.lit (.bool false)], args := [d] }
  | _ => none }
def FnGapTypeWrongFalsely : Prop := fnGapTypeRow.holds Try.pinned (OpenSpec.ofChange fnGapTypeWrong)

/-- 'laws.FnMovePlace': WHATEVER THE INPUT: true; the input reads as it did. -/
def fnMovePlaceSpec : ChangeSpec := { name := "fnMovePlace", fn := fun _ => fun
  | [d1, d2] => { results := [.lit (.bool true)], args := [d1, d2] }
  | _ => none }
def fnMovePlaceRow : OpenClaim := { program := "ytlndlgbpnlfflaa", sum := "2669b7ed2c7f35cf3a31376583ab1d4f43f425a67254378d0aa392b752280174", func := "loop.example/texteditor/laws.FnMovePlace", spec := "fnMovePlace", inPlace := ["internal/bytealg.CountString", "internal/bytealg.IndexByteString", "internal/bytealg.IndexString"], named := ["internal/bytealg.MaxLen"], apart := false }
def FnMovePlaceSaid : Prop := fnMovePlaceRow.holds Try.pinned (OpenSpec.ofChange fnMovePlaceSpec)

/-- ITS FALSE NEIGHBOUR: 'it returns false'. Refute it at one input. -/
def fnMovePlaceWrong : ChangeSpec := { name := "fnMovePlace", fn := fun _ => fun
  | [d1, d2] => { results := [.lit (.bool false)], args := [d1, d2] }
  | _ => none }
def FnMovePlaceWrongFalsely : Prop := fnMovePlaceRow.holds Try.pinned (OpenSpec.ofChange fnMovePlaceWrong)

/-- 'laws.FnPlaceAt': WHATEVER THE INPUT: true; the input reads as it did. -/
def fnPlaceAtSpec : ChangeSpec := { name := "fnPlaceAt", fn := fun _ => fun
  | [d] => { results := [.lit (.bool true)], args := [d] }
  | _ => none }
def fnPlaceAtRow : OpenClaim := { program := "ytlndlgbpnlfflaa", sum := "2669b7ed2c7f35cf3a31376583ab1d4f43f425a67254378d0aa392b752280174", func := "loop.example/texteditor/laws.FnPlaceAt", spec := "fnPlaceAt", inPlace := ["internal/bytealg.CountString", "internal/bytealg.IndexByteString", "internal/bytealg.IndexString"], named := ["internal/bytealg.MaxLen"], apart := false }
def FnPlaceAtSaid : Prop := fnPlaceAtRow.holds Try.pinned (OpenSpec.ofChange fnPlaceAtSpec)

/-- ITS FALSE NEIGHBOUR: 'it returns false'. Refute it at one input. -/
def fnPlaceAtWrong : ChangeSpec := { name := "fnPlaceAt", fn := fun _ => fun
  | [d] => { results := [.lit (.bool false)], args := [d] }
  | _ => none }
def FnPlaceAtWrongFalsely : Prop := fnPlaceAtRow.holds Try.pinned (OpenSpec.ofChange fnPlaceAtWrong)

/-- 'laws.FnTableOf': WHATEVER THE INPUT: true; the input reads as it did. -/
def fnTableOfSpec : ChangeSpec := { name := "fnTableOf", fn := fun _ => fun
  | [d] => { results := [.lit (.bool true)], args := [d] }
  | _ => none }
def fnTableOfRow : OpenClaim := { program := "ytlndlgbpnlfflaa", sum := "2669b7ed2c7f35cf3a31376583ab1d4f43f425a67254378d0aa392b752280174", func := "loop.example/texteditor/laws.FnTableOf", spec := "fnTableOf", inPlace := ["internal/bytealg.CountString", "internal/bytealg.IndexByteString", "internal/bytealg.IndexString", "internal/abi.NoEscape"], named := ["internal/bytealg.MaxLen"], apart := false }
def FnTableOfSaid : Prop := fnTableOfRow.holds Try.pinned (OpenSpec.ofChange fnTableOfSpec)

/-- ITS FALSE NEIGHBOUR: 'it returns false'. Refute it at one input. -/
def fnTableOfWrong : ChangeSpec := { name := "fnTableOf", fn := fun _ => fun
  | [d] => { results := [.lit (.bool false)], args := [d] }
  | _ => none }
def FnTableOfWrongFalsely : Prop := fnTableOfRow.holds Try.pinned (OpenSpec.ofChange fnTableOfWrong)

/- THE SECOND FORM. 'bulk': how many values and letters a reading holds, each counted each time it is reached (what is shared counts as often as it is met; a slice's spare places count too). A statement '..UptoSaid' is the law's where the arguments, and the package variables that the reading takes, are together of bulk at most 1048576: NARROWER than '..Said'. Prove '..Said' where nothing that the law and all that it calls make is longer than what came in: it says more and counts as full. Else prove '..UptoSaid'. A law counts once. -/
mutual
def uptoBulk {H : Type} : DataW H → Nat
  | .lit (.string bytes) => bytes.length + 1
  | .lit _ => 1
  | .nil => 1
  | .ptr d => uptoBulk d + 1
  | .slice elems spare => uptoBulkAll elems + uptoBulkAll spare + 1
  | .agg parts => uptoBulkAll parts + 1
  | .iface _ d => uptoBulk d + 1
  | .map entries => uptoBulkEntries entries + 1
  | .held _ => 1
def uptoBulkAll {H : Type} : List (DataW H) → Nat
  | [] => 0
  | d :: r => uptoBulk d + uptoBulkAll r
def uptoBulkEntries {H : Type} : List (Lit × DataW H) → Nat
  | [] => 0
  | x :: r => uptoBulkEntry x + uptoBulkEntries r
def uptoBulkEntry {H : Type} : Lit × DataW H → Nat
  | (.string bytes, d) => bytes.length + uptoBulk d + 1
  | (_, d) => uptoBulk d + 1
 end
def uptoSmall : (H : Type) → List (DataW H) → Bool := fun _ ds => decide (uptoBulkAll ds ≤ 1048576)
def OpenSpec.upto (s : _root_.Go.ChangeSpec) : _root_.Go.OpenSpec := { _root_.Go.OpenSpec.ofChange s with cond := some uptoSmall }

/-- 'laws.FnGapMove', WHERE WHAT IT READS IS OF BULK AT MOST 1048576: true; the input reads as it did. -/
def fnGapMoveUptoRow : OpenClaim := { program := "ytlndlgbpnlfflaa", sum := "2669b7ed2c7f35cf3a31376583ab1d4f43f425a67254378d0aa392b752280174", func := "loop.example/texteditor/laws.FnGapMove", spec := "fnGapMove", inPlace := ["internal/bytealg.CountString", "internal/bytealg.IndexByteString", "internal/bytealg.IndexString"], named := ["internal/bytealg.MaxLen"], apart := false, narrowed := true }
def FnGapMoveUptoSaid : Prop := fnGapMoveUptoRow.holds Try.pinned (OpenSpec.upto fnGapMoveSpec)

/-- 'laws.FnGapWalk', WHERE WHAT IT READS IS OF BULK AT MOST 1048576: true; the input reads as it did. -/
def fnGapWalkUptoRow : OpenClaim := { program := "ytlndlgbpnlfflaa", sum := "2669b7ed2c7f35cf3a31376583ab1d4f43f425a67254378d0aa392b752280174", func := "loop.example/texteditor/laws.FnGapWalk", spec := "fnGapWalk", inPlace := ["internal/bytealg.CountString", "internal/bytealg.IndexByteString", "internal/bytealg.IndexString"], named := ["internal/bytealg.MaxLen"], apart := false, narrowed := true }
def FnGapWalkUptoSaid : Prop := fnGapWalkUptoRow.holds Try.pinned (OpenSpec.upto fnGapWalkSpec)

/-- 'laws.FnGapErase', WHERE WHAT IT READS IS OF BULK AT MOST 1048576: true; the input reads as it did. -/
def fnGapEraseUptoRow : OpenClaim := { program := "ytlndlgbpnlfflaa", sum := "2669b7ed2c7f35cf3a31376583ab1d4f43f425a67254378d0aa392b752280174", func := "loop.example/texteditor/laws.FnGapErase", spec := "fnGapErase", inPlace := ["internal/bytealg.CountString", "internal/bytealg.IndexByteString", "internal/bytealg.IndexString"], named := ["internal/bytealg.MaxLen"], apart := false, narrowed := true }
def FnGapEraseUptoSaid : Prop := fnGapEraseUptoRow.holds Try.pinned (OpenSpec.upto fnGapEraseSpec)

/-- 'laws.FnGapType', WHERE WHAT IT READS IS OF BULK AT MOST 1048576: true; the input reads as it did. -/
def fnGapTypeUptoRow : OpenClaim := { program := "ytlndlgbpnlfflaa", sum := "2669b7ed2c7f35cf3a31376583ab1d4f43f425a67254378d0aa392b752280174", func := "loop.example/texteditor/laws.FnGapType", spec := "fnGapType", inPlace := ["internal/bytealg.CountString", "internal/bytealg.IndexByteString", "internal/bytealg.IndexString"], named := ["internal/bytealg.MaxLen"], apart := false, narrowed := true }
def FnGapTypeUptoSaid : Prop := fnGapTypeUptoRow.holds Try.pinned (OpenSpec.upto fnGapTypeSpec)

/-- 'laws.FnMovePlace', WHERE WHAT IT READS IS OF BULK AT MOST 1048576: true; the input reads as it did. -/
def fnMovePlaceUptoRow : OpenClaim := { program := "ytlndlgbpnlfflaa", sum := "2669b7ed2c7f35cf3a31376583ab1d4f43f425a67254378d0aa392b752280174", func := "loop.example/texteditor/laws.FnMovePlace", spec := "fnMovePlace", inPlace := ["internal/bytealg.CountString", "internal/bytealg.IndexByteString", "internal/bytealg.IndexString"], named := ["internal/bytealg.MaxLen"], apart := false, narrowed := true }
def FnMovePlaceUptoSaid : Prop := fnMovePlaceUptoRow.holds Try.pinned (OpenSpec.upto fnMovePlaceSpec)

/-- 'laws.FnPlaceAt', WHERE WHAT IT READS IS OF BULK AT MOST 1048576: true; the input reads as it did. -/
def fnPlaceAtUptoRow : OpenClaim := { program := "ytlndlgbpnlfflaa", sum := "2669b7ed2c7f35cf3a31376583ab1d4f43f425a67254378d0aa392b752280174", func := "loop.example/texteditor/laws.FnPlaceAt", spec := "fnPlaceAt", inPlace := ["internal/bytealg.CountString", "internal/bytealg.IndexByteString", "internal/bytealg.IndexString"], named := ["internal/bytealg.MaxLen"], apart := false, narrowed := true }
def FnPlaceAtUptoSaid : Prop := fnPlaceAtUptoRow.holds Try.pinned (OpenSpec.upto fnPlaceAtSpec)

/-- 'laws.FnTableOf', WHERE WHAT IT READS IS OF BULK AT MOST 1048576: true; the input reads as it did. -/
def fnTableOfUptoRow : OpenClaim := { program := "ytlndlgbpnlfflaa", sum := "2669b7ed2c7f35cf3a31376583ab1d4f43f425a67254378d0aa392b752280174", func := "loop.example/texteditor/laws.FnTableOf", spec := "fnTableOf", inPlace := ["internal/bytealg.CountString", "internal/bytealg.IndexByteString", "internal/bytealg.IndexString", "internal/abi.NoEscape"], named := ["internal/bytealg.MaxLen"], apart := false, narrowed := true }
def FnTableOfUptoSaid : Prop := fnTableOfUptoRow.holds Try.pinned (OpenSpec.upto fnTableOfSpec)

end Rows
end Go.Proofs.Ytlndlgbpnlfflaa
