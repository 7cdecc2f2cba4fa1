/- Contracts of the laws' own functions on rows of strings. -/
import Derived.Test.YtecejfcoognkiaaDoorW2
import Derived.Test.YtecejfcoognkiaaDoorPs
import Derived.WalkSmall
import Derived.Deep.AppendLies
import Derived.OwnWalk
import Derived.RegionTactic
import Derived.BigQuiet
import Derived.Deep.QuietTactic
import Derived.Deep.RegionHeld3
import Derived.IntWalk
import Derived.Laws.IdiomStrings
namespace Go.Proofs.YtecejfcoognkiaaDoor
open Go.RowKit

/-- A digit. -/
def digC (j : Nat) : UInt8 := UInt8.ofNat (48 + j % 10)
/-- The decimal digits of k ahead of a text. -/
def digitsB (k : Nat) (out : ByteArray) : ByteArray := if _h : k = 0 then out else digitsB (k / 10) (⟨#[digC k]⟩ ++ out)
termination_by k
decreasing_by omega
theorem digitsB_step {k : Nat} (h : 0 < k) (out : ByteArray) : digitsB k out = digitsB (k / 10) (⟨#[digC k]⟩ ++ out) := by
  rw [digitsB, dif_neg (by omega)]
theorem digitsB_end (out : ByteArray) : digitsB 0 out = out := by rw [digitsB, dif_pos rfl]
/-- markText. -/
def markT (k : Nat) : ByteArray := if k = 0 then ⟨#[109, 48]⟩ else ⟨#[109]⟩ ++ digitsB k ⟨#[]⟩
/-- What markStringS writes. -/
def markedS (k0 n : Nat) : List ByteArray := (List.range n).map fun i => markT (k0 + i)
theorem markedS_length (k0 n : Nat) : (markedS k0 n).length = n := by simp [markedS]
theorem markedS_at {k0 n k : Nat} (h : k < n) : (markedS k0 n)[k]? = some (markT (k0 + k)) := by simp [markedS, h]
/-- What markStringS leaves. -/
def MarkedS (T : TypeId) (w : World) (base : Nat) (A : Option Addr) (n c : Nat) (k0 : Nat) (e : Ending) (w' : World) : Prop :=
  e = .returned (.int .i64 ((k0 + n : Nat) : Int)) ∧ OwnS T w' base A n c (markedS k0 n) ∧ Below base w w'
end Go.Proofs.YtecejfcoognkiaaDoor
