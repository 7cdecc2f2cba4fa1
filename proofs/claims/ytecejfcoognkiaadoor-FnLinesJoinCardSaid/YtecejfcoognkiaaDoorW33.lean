/- Contracts of the laws' comparison of texts; lines that are joined. -/
import Derived.Test.YtecejfcoognkiaaDoorW25
import Derived.Test.YtecejfcoognkiaaDoorW26
import Derived.Test.YtecejfcoognkiaaDoorPu
namespace Go.Proofs.YtecejfcoognkiaaDoor
open Go.RowKit

set_option maxHeartbeats 400000 in
theorem sameTexts_same (A A' : Option Addr) (n c c' : Nat) (xs : List ByteArray) (w : World) (hn : n ≤ 1099511627776) (h : Strs w w.heap.size A n xs) (h' : Strs w w.heap.size A' n xs) :
    Calls Tryd.prog 10 #[.slice A n c, .slice A' n c'] w fun e w' => e = .returned (.bool true) ∧ Below w.heap.size w w' := by
  go_enter Tryd.func10, Tryd.ntmps10
  go_wp2
  go_loopw [5] (fun i wr => ∃ k : Nat, k ≤ n ∧ i = .int .i64 k ∧ Below w.heap.size w wr) (fun i _ => n - (intOf i).toNat)
  case atStart => exact ⟨0, Nat.zero_le _, rfl, Below.refl _ _⟩
  case round =>
    obtain ⟨k, hk, rfl, hbw⟩ := hrel
    by_cases hlt : k < n
    · obtain ⟨ad, x, rfl, hb, hms, hc0⟩ := (h.below hbw (Nat.le_refl _)).at_ hlt
      obtain ⟨ad', x', rfl, hb', hms', hc0'⟩ := (h'.below hbw (Nat.le_refl _)).at_ hlt
      rw [hms] at hms'
      injection hms' with hms'
      subst hms'
      clear hms
      have j1 : (k : Int) < (n : Int) := by omega
      go_wp2_with fail
      go_quiet (fail)
      go_wp2
      go_roundw
      case rel => exact ⟨k + 1, by omega, by go_num, below_drewN hbw _⟩
      case measure => simp [intOf]; omega
    · go_wp2
      go_ret
      exact ⟨rfl, hbw⟩
theorem datas_linesB (s : ByteArray) : datas (linesB s) = linesL s.data.toList := by
  unfold datas linesB
  rw [List.map_map]
  exact List.map_id'' (fun x => mk_data x) _
theorem linesB_text {s : ByteArray} (h : tvB s.data.toList = true) : mk (linesTextL (datas (linesB s))) = s := by
  rw [datas_linesB, linesTextL_1 (linesL_nlc _) (by rw [joinL_lines]; exact h), joinL_lines]
  exact ext_data (mk_data _)
theorem joinL_datas_linesB (s : ByteArray) : (joinL (datas (linesB s))).length = s.size := by
  rw [datas_linesB, joinL_lines]
  rfl
theorem str_full2 (s : ByteArray) (h : s.size ≠ 0) : s.toList.isEmpty = false := by
  rw [Lib.toList_data]
  cases hl : s.data.toList with
  | nil => exact absurd (by rw [Lib.size_eq, hl]; rfl) h
  | cons _ _ => rfl
theorem datas_mk (zs : List (List UInt8)) : datas (zs.map mk) = zs := by
  unfold datas
  rw [List.map_map]
  exact List.map_id'' (fun x => mk_data x) _
theorem mk_datas (xs : List ByteArray) : (datas xs).map mk = xs := by
  unfold datas
  rw [List.map_map]
  exact List.map_id'' (fun x => ext_data (mk_data _)) _
end Go.Proofs.YtecejfcoognkiaaDoor
