/-
  No cell of these rows narrows 'for every input' (looked for: loops, veiled, ifaces, maps, wideKeys, modest, calm, conditions, laid).
  DERIVED. THE GIVEN ROWS OF THIS SEAT. 3 by the template 'for every input the law returns true; each argument reads behind the call as it read before'; 0 by the template 'total and deterministic' (their statements: YtecejfcoognkiaaTotals.lean).
  GIVEN WITH THE SEED: the statements are not yours to turn. If you find one false, say at which input.
  Laid BY PROGRAM, IN A SANDBOX (cutbox-rows.mjs): the forced cells as the released guide's own fill.sh prints them over the translation 53ba59db7371c76f… (all of the seat's roots in one cut). By AI agents, Wed Nov 11 2026. No macro, syntax, notation, axiom, sorry.
-/
import Derived.Test.YtecejfcoognkiaaChecked
import GoSem.Claim
import GoSem.ClaimJoined
import GoSem.ClaimMapViews
import Derived.JoinedTies
import Derived.KernelRfl
namespace Go.Proofs.Ytecejfcoognkiaa
/- THE CELL 'sum', in the pinned program and in every row, IS THE sha256 OF THE DUMP (.gsa) THAT YtecejfcoognkiaaProg.lean LOADS. Nothing in Lean hashes anything: it is a label: what it is worth is what the hold of that sum in a sandbox is worth. -/
noncomputable def Try.pinned : Pinned := { name := "ytecejfcoognkiaa", sum := "53ba59db7371c76f97e85610d834cb00041d90d00c76d29e082b6d38ff241f6e", checked := Try.checked }
namespace Rows
def none {H : Type} : Left H := { results := [], args := [] }

/-- 'laws.FnTableValid': WHATEVER THE INPUT: true; the input reads as it did. -/
def fnTableValidSpec : ChangeSpec := { name := "fnTableValid", fn := fun _ => fun
  | [d] => { results := [.lit (.bool true)], args := [d] }
  | _ => none }
def fnTableValidRow : OpenClaim := { program := "ytecejfcoognkiaa", sum := "53ba59db7371c76f97e85610d834cb00041d90d00c76d29e082b6d38ff241f6e", func := "loop.example/texteditor/laws.FnTableValid", spec := "fnTableValid", inPlace := ["internal/bytealg.CountString", "internal/bytealg.IndexByteString", "internal/bytealg.IndexString"], named := ["internal/bytealg.MaxLen"], apart := false }
def FnTableValidSaid : Prop := fnTableValidRow.holds Try.pinned (OpenSpec.ofChange fnTableValidSpec)

/-- ITS FALSE NEIGHBOUR: 'it returns false'. Refute it at one input. -/
def fnTableValidWrong : ChangeSpec := { name := "fnTableValid", fn := fun _ => fun
  | [d] => { results := [.lit (.bool false)], args := [d] }
  | _ => none }
def FnTableValidWrongFalsely : Prop := fnTableValidRow.holds Try.pinned (OpenSpec.ofChange fnTableValidWrong)

/-- 'laws.FnTableText': WHATEVER THE INPUT: true; the input reads as it did. -/
def fnTableTextSpec : ChangeSpec := { name := "fnTableText", fn := fun _ => fun
  | [d] => { results := [.lit (.bool true)], args := [d] }
  | _ => none }
def fnTableTextRow : OpenClaim := { program := "ytecejfcoognkiaa", sum := "53ba59db7371c76f97e85610d834cb00041d90d00c76d29e082b6d38ff241f6e", func := "loop.example/texteditor/laws.FnTableText", spec := "fnTableText", inPlace := ["internal/abi.NoEscape", "internal/bytealg.CountString", "internal/bytealg.IndexByteString", "internal/bytealg.IndexString"], named := ["internal/bytealg.MaxLen"], apart := false }
def FnTableTextSaid : Prop := fnTableTextRow.holds Try.pinned (OpenSpec.ofChange fnTableTextSpec)

/-- ITS FALSE NEIGHBOUR: 'it returns false'. Refute it at one input. -/
def fnTableTextWrong : ChangeSpec := { name := "fnTableText", fn := fun _ => fun
  | [d] => { results := [.lit (.bool false)], args := [d] }
  | _ => none }
def FnTableTextWrongFalsely : Prop := fnTableTextRow.holds Try.pinned (OpenSpec.ofChange fnTableTextWrong)

/-- 'laws.FnTablePack': WHATEVER THE INPUT: true; the input reads as it did. -/
def fnTablePackSpec : ChangeSpec := { name := "fnTablePack", fn := fun _ => fun
  | [d] => { results := [.lit (.bool true)], args := [d] }
  | _ => none }
def fnTablePackRow : OpenClaim := { program := "ytecejfcoognkiaa", sum := "53ba59db7371c76f97e85610d834cb00041d90d00c76d29e082b6d38ff241f6e", func := "loop.example/texteditor/laws.FnTablePack", spec := "fnTablePack", inPlace := ["internal/bytealg.CountString", "internal/bytealg.IndexByteString", "internal/bytealg.IndexString", "internal/abi.NoEscape"], named := ["internal/bytealg.MaxLen"], apart := false }
def FnTablePackSaid : Prop := fnTablePackRow.holds Try.pinned (OpenSpec.ofChange fnTablePackSpec)

/-- ITS FALSE NEIGHBOUR: 'it returns false'. Refute it at one input. -/
def fnTablePackWrong : ChangeSpec := { name := "fnTablePack", fn := fun _ => fun
  | [d] => { results := [.lit (.bool false)], args := [d] }
  | _ => none }
def FnTablePackWrongFalsely : Prop := fnTablePackRow.holds Try.pinned (OpenSpec.ofChange fnTablePackWrong)

/- THE SECOND FORM. 'bulk': how many values and letters a reading holds, each counted each time it is reached (what is shared counts as often as it is met; a slice's spare places count too). A statement '..UptoSaid' is the law's where the arguments, and the package variables that the reading takes, are together of bulk at most 1048576: NARROWER than '..Said'. Prove '..Said' where nothing that the law and all that it calls make is longer than what came in: it says more and counts as full. Else prove '..UptoSaid'. A law counts once. -/
mutual
def uptoBulk {H : Type} : DataW H → Nat
  | .lit (.string bytes) => bytes.length + 1
  | .lit _ => 1
  | .nil => 1
  | .ptr d => uptoBulk d + 1
  | .slice elems spare => uptoBulkAll elems + uptoBulkAll spare + 1
  | .agg parts => uptoBulkAll parts + 1
  | .iface _ d => uptoBulk d + 1
  | .map entries => uptoBulkEntries entries + 1
  | .held _ => 1
def uptoBulkAll {H : Type} : List (DataW H) → Nat
  | [] => 0
  | d :: r => uptoBulk d + uptoBulkAll r
def uptoBulkEntries {H : Type} : List (Lit × DataW H) → Nat
  | [] => 0
  | x :: r => uptoBulkEntry x + uptoBulkEntries r
def uptoBulkEntry {H : Type} : Lit × DataW H → Nat
  | (.string bytes, d) => bytes.length + uptoBulk d + 1
  | (_, d) => uptoBulk d + 1
 end
def uptoSmall : (H : Type) → List (DataW H) → Bool := fun _ ds => decide (uptoBulkAll ds ≤ 1048576)
def OpenSpec.upto (s : _root_.Go.ChangeSpec) : _root_.Go.OpenSpec := { _root_.Go.OpenSpec.ofChange s with cond := some uptoSmall }

/-- 'laws.FnTableValid', WHERE WHAT IT READS IS OF BULK AT MOST 1048576: true; the input reads as it did. -/
def fnTableValidUptoRow : OpenClaim := { program := "ytecejfcoognkiaa", sum := "53ba59db7371c76f97e85610d834cb00041d90d00c76d29e082b6d38ff241f6e", func := "loop.example/texteditor/laws.FnTableValid", spec := "fnTableValid", inPlace := ["internal/bytealg.CountString", "internal/bytealg.IndexByteString", "internal/bytealg.IndexString"], named := ["internal/bytealg.MaxLen"], apart := false, narrowed := true }
def FnTableValidUptoSaid : Prop := fnTableValidUptoRow.holds Try.pinned (OpenSpec.upto fnTableValidSpec)

/-- 'laws.FnTableText', WHERE WHAT IT READS IS OF BULK AT MOST 1048576: true; the input reads as it did. -/
def fnTableTextUptoRow : OpenClaim := { program := "ytecejfcoognkiaa", sum := "53ba59db7371c76f97e85610d834cb00041d90d00c76d29e082b6d38ff241f6e", func := "loop.example/texteditor/laws.FnTableText", spec := "fnTableText", inPlace := ["internal/abi.NoEscape", "internal/bytealg.CountString", "internal/bytealg.IndexByteString", "internal/bytealg.IndexString"], named := ["internal/bytealg.MaxLen"], apart := false, narrowed := true }
def FnTableTextUptoSaid : Prop := fnTableTextUptoRow.holds Try.pinned (OpenSpec.upto fnTableTextSpec)

/-- 'laws.FnTablePack', WHERE WHAT IT READS IS OF BULK AT MOST 1048576: true; the input reads as it did. -/
def fnTablePackUptoRow : OpenClaim := { program := "ytecejfcoognkiaa", sum := "53ba59db7371c76f97e85610d834cb00041d90d00c76d29e082b6d38ff241f6e", func := "loop.example/texteditor/laws.FnTablePack", spec := "fnTablePack", inPlace := ["internal/bytealg.CountString", "internal/bytealg.IndexByteString", "internal/bytealg.IndexString", "internal/abi.NoEscape"], named := ["internal/bytealg.MaxLen"], apart := false, narrowed := true }
def FnTablePackUptoSaid : Prop := fnTablePackUptoRow.holds Try.pinned (OpenSpec.upto fnTablePackSpec)

end Rows
end Go.Proofs.Ytecejfcoognkiaa
