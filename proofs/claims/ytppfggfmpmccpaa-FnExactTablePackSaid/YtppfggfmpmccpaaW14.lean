/- Contracts of the laws' functions that write marks into a slice, and look whether they are still there. -/
import Derived.Test.YtppfggfmpmccpaaW2
import Derived.Test.YtppfggfmpmccpaaPm
import Derived.OwnWalk
import Derived.RegionTactic
namespace Go.Proofs.Ytppfggfmpmccpaa
open Go.RowKit

/-- What markMarkS leaves. -/
def MarkedM (T : TypeId) (w : World) (base : Nat) (A : Option Addr) (n c : Nat) (k0 : Int) (e : Ending) (w' : World) : Prop :=
  e = .returned (.int .i64 (k0 + 2 * n)) ∧ w'.ownsRow base T 2 (.slice A n c) n (markCells (markedL k0 n)) ∧ w.grownBy w' (Value.slice A n c).ownBlock
theorem grown_trans {a b c : World} {row : Option Nat} (h : a.grownBy b row) (k : b.grownBy c row) : a.grownBy c row :=
  ⟨k.os.trans h.os, k.tape.trans h.tape, k.output.trans h.output, Nat.le_trans h.size k.size, fun i hi hne => (k.block i (Nat.lt_of_lt_of_le hi h.size) hne).trans (h.block i hi hne)⟩

end Go.Proofs.Ytppfggfmpmccpaa
