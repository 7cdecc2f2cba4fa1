/- Contracts of the laws' functions that write marks into a slice, and look whether they are still there. -/
import Derived.Test.YtlbmmhibepdhlaaW2
import Derived.Test.YtlbmmhibepdhlaaPm
import Derived.OwnWalk
import Derived.RegionTactic
namespace Go.Proofs.Ytlbmmhibepdhlaa
open Go.RowKit

/-- What markMarkS leaves. -/
def MarkedM (T : TypeId) (w : World) (base : Nat) (A : Option Addr) (n c : Nat) (k0 : Int) (e : Ending) (w' : World) : Prop :=
  e = .returned (.int .i64 (k0 + 2 * n)) ∧ w'.ownsRow base T 2 (.slice A n c) n (markCells (markedL k0 n)) ∧ w.grownBy w' (Value.slice A n c).ownBlock
theorem grown_trans {a b c : World} {row : Option Nat} (h : a.grownBy b row) (k : b.grownBy c row) : a.grownBy c row :=
  ⟨k.os.trans h.os, k.tape.trans h.tape, k.output.trans h.output, Nat.le_trans h.size k.size, fun i hi hne => (k.block i (Nat.lt_of_lt_of_le hi h.size) hne).trans (h.block i hi hne)⟩

set_option maxHeartbeats 400000 in
theorem markMarkS_any (A : Option Addr) (n c base : Nat) (xs : List Value) (k0 : Int) (w : World) (hn : n ≤ 1048576) (h0 : 0 ≤ k0) (h1 : k0 ≤ 1048576) (hown : w.ownsRow base 68 2 (.slice A n c) n xs) :
    Calls Try.prog 48 #[.slice A n c, .int .i64 k0] w (MarkedM 68 w base A n c k0) := by
  have hlen := hown.1
  rw [← rowAt_zero (markedL k0 n) xs] at hown
  go_enter Try.func48, Try.ntmps48
  go_wp2
  go_loopw [1, 5] (fun kk i wr => ∃ k : Nat, k ≤ n ∧ i = .int .i64 k ∧ kk = .int .i64 (k0 + 2 * k) ∧ wr.ownsRow base 68 2 (.slice A n c) n (rowAt (markedL k0 n) k xs) ∧ w.grownBy wr (Value.slice A n c).ownBlock) (fun _ i _ => n - (intOf i).toNat)
  case atStart => exact ⟨0, Nat.zero_le _, rfl, by simp, hown, World.grownBy.refl _ _⟩
  case round =>
    clear hown
    obtain ⟨k, hk, rfl, rfl, hown, hgr⟩ := hrel
    by_cases hlt : k < n
    · obtain ⟨g, cap, hv, hbg, hgl⟩ : ∃ g cap, Value.slice A n c = .slice (some ⟨g, 0, none⟩) n cap ∧ base ≤ g ∧ g < wr.heap.size := by
        rcases hown.2 with ⟨_, h0'⟩ | ⟨g, cap, cur, hv, hb, hg, _⟩
        · omega
        · refine ⟨g, cap, hv, hb, ?_⟩
          rcases Nat.lt_or_ge g wr.heap.size with h4 | h4
          · exact h4
          · rw [Array.getElem?_eq_none h4] at hg
            cases hg
      injection hv with hA _ hc
      subst hA hc
      have HZ := Lib.hid hlen
      clear hlen
      have q0 := hown.cellAt (k * 2) (by omega)
      have q1 := hown.cellAt (k * 2 + 1) (by omega)
      obtain ⟨v0, hv0⟩ : ∃ v0, (rowAt (markedL k0 n) k xs)[k * 2]? = some v0 := ⟨_, List.getElem?_eq_getElem (by rw [rowAt_length (by rw [markedL_length]; omega) (by have := HZ.out; omega), HZ.out]; omega)⟩
      obtain ⟨v1, hv1⟩ : ∃ v1, (rowAt (markedL k0 n) k xs)[k * 2 + 1]? = some v1 := ⟨_, List.getElem?_eq_getElem (by rw [rowAt_length (by rw [markedL_length]; omega) (by have := HZ.out; omega), HZ.out]; omega)⟩
      rw [hv0] at q0
      rw [hv1] at q1
      have f0 := hown.frozenAt (k * 2)
      have f1 := hown.frozenAt (k * 2 + 1)
      have HM := Lib.hid (markedL_at (k0 := k0) hlt)
      clear hv0 hv1
      go_wp2
      go_roundw
      case rel => exact ⟨k + 1, by omega, by go_num, congrArg (Value.int IntKind.i64) (by omega), by rw [← rowAt_step HM.out (by have := HZ.out; omega)]; exact ((hown.stored (k * 2) _).1.stored (k * 2 + 1) _).1, grown_trans hgr (grown_trans (hown.stored (k * 2) _).2 ((hown.stored (k * 2) _).1.stored (k * 2 + 1) _).2)⟩
      case measure => simp [intOf]; omega
    · have hkn : k = n := by omega
      subst hkn
      rw [rowAt_end (markedL_length _ _) hlen] at hown
      clear hlen
      go_wp2
      go_ret
      exact ⟨rfl, hown, hgr⟩
set_option maxHeartbeats 400000 in
theorem heldMarkS_any (A : Option Addr) (n c B : Nat) (k0 : Int) (w : World) (hn : n ≤ 1048576) (h0 : 0 ≤ k0) (h1 : k0 ≤ 1048576) (h : Marks w B A n (markedL k0 n)) :
    Calls Try.prog 49 #[.slice A n c, .int .i64 k0] w fun e w' => e = .returned (.int .i64 (k0 + 2 * n)) ∧ w = w' := by
  go_enter Try.func49, Try.ntmps49
  go_wp2
  go_loop [1, 5] (fun kk i => ∃ k : Nat, k ≤ n ∧ i = .int .i64 k ∧ kk = .int .i64 (k0 + 2 * k)) (fun _ i => n - (intOf i).toNat)
  case atStart => exact ⟨0, Nat.zero_le _, rfl, by simp⟩
  case round =>
    obtain ⟨k, hk, rfl, rfl⟩ := hrel
    by_cases hlt : k < n
    · obtain ⟨ad, p, b, rfl, hb, hms, hc0, hc1, hc2⟩ := h.at_ hlt
      rw [markedL_at hlt] at hms
      injection hms with hms
      injection hms with e1 e2
      subst e1 e2
      go_wp2
      go_round
      case rel => exact ⟨k + 1, by omega, by go_num, congrArg (Value.int IntKind.i64) (by omega)⟩
      case measure => simp [intOf]; omega
    · have hkn : k = n := by omega
      subst hkn
      go_wp2
      go_ret
      exact ⟨rfl, rfl⟩
end Go.Proofs.Ytlbmmhibepdhlaa
