/- The laws' comparison of tables. -/
import Derived.Test.YtecejfcoognkiaaW18
import Derived.Test.YtecejfcoognkiaaPb
import Derived.WalkSmall
import Derived.BigQuiet
import Derived.Deep.QuietTactic
namespace Go.Proofs.Ytecejfcoognkiaa
open Go.RowKit

set_option maxHeartbeats 800000 in
theorem samePieces_same (f m : ByteArray) (A A' : Option Addr) (n c c' : Nat) (ps : List (Bool × Int × Int)) (w : World) (hn : n ≤ 1048576) (h : Pieces w w.heap.size A n ps) (h' : Pieces w w.heap.size A' n ps) :
    Calls Try.prog 16 #[.agg #[.string f, .string m, .slice A n c], .agg #[.string f, .string m, .slice A' n c']] w fun e w' => e = .returned (.bool true) ∧ Below w.heap.size w w' := by
  have B0 := (B3.new w 25 (.string f) (.string m) (.slice A n c)).alloc (.cells #[.string f, .string m, .slice A' n c'] 25)
  have B1 := B3.new (w.alloc (.cells #[.string f, .string m, .slice A n c] 25)) 25 (.string f) (.string m) (.slice A' n c')
  rw [World.size_alloc] at B1
  have hb0 : Below w.heap.size w ((w.alloc (.cells #[.string f, .string m, .slice A n c] 25)).alloc (.cells #[.string f, .string m, .slice A' n c'] 25)) := balloc (balloc (Below.refl _ _) _) _
  have HB0 := Lib.hid B0
  have HB1 := Lib.hid B1
  have HBB := Lib.hid hb0
  clear B0 B1 hb0
  go_enter Try.func16, Try.ntmps16
  go_wp2
  go_loopw [5] (fun i wr => ∃ k : Nat, k ≤ n ∧ i = .int .i64 k ∧ B3 wr w.heap.size 25 (.string f) (.string m) (.slice A n c) ∧ B3 wr (w.heap.size + 1) 25 (.string f) (.string m) (.slice A' n c') ∧ Below w.heap.size w wr) (fun i _ => n - (intOf i).toNat)
  case atStart => exact ⟨0, Nat.zero_le _, rfl, HB0.out, HB1.out, HBB.out⟩
  case round =>
    obtain ⟨k, hk, rfl, C0, C1, hbw⟩ := hrel
    obtain ⟨a0, a1, a2⟩ := C0.cells
    obtain ⟨d0, d1, d2⟩ := C1.cells
    have HC0 := Lib.hid C0
    have HC1 := Lib.hid C1
    clear C0 C1
    by_cases hlt : k < n
    · obtain ⟨ad, b, x, y, rfl, hb, hps, hc0, _, _, hc1, hc2⟩ := (h.below hbw (Nat.le_refl _)).at_ hlt
      obtain ⟨ad', b', x', y', rfl, hb', hps', hc0', _, _, hc1', hc2'⟩ := (h'.below hbw (Nat.le_refl _)).at_ hlt
      rw [hps] at hps'
      injection hps' with hps'
      injection hps' with e1 e2
      injection e2 with e2 e3
      subst e1 e2 e3
      have j1 : (k : Int) < (n : Int) := by omega
      clear hps
      go_wp2_with fail
      go_quiet (fail)
      go_wp2
      go_roundw
      case rel => exact ⟨k + 1, by omega, by go_num, HC0.out.drewN _, HC1.out.drewN _, below_drewN hbw _⟩
      case measure => simp [intOf]; omega
    · go_wp2
      go_ret
      exact ⟨rfl, hbw⟩
end Go.Proofs.Ytecejfcoognkiaa
