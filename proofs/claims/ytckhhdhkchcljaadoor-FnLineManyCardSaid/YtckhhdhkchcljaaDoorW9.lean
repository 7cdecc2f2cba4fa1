/- Contracts on lines: how many there are, in which one a place is, where one begins. -/
import Derived.Test.YtckhhdhkchcljaaDoorW1
import Derived.Test.YtckhhdhkchcljaaDoorPn
import Derived.Lib.Bytealg
namespace Go.Proofs.YtckhhdhkchcljaaDoor
open Go.RowKit

set_option maxRecDepth 100000 in
theorem strCount_nl (s : ByteArray) (w : World) :
    Calls Tryd.prog 12 #[.string s, .string ⟨#[10]⟩] w fun e w' => e = .returned (.int .i64 (nlc s.data.toList)) ∧ w = w' := by
  go_enter Tryd.func12, Tryd.ntmps12
  go_wp2
  rw [run_callFunc_extern Tryd.func19 (by kernel_rfl) (by kernel_rfl) (by kernel_rfl) (e := Extern.BytealgCount.count) (by kernel_rfl), Lib.run_countString]
  simp only [Result.andThen]
  rw [Oper.upon_value]
  go_wp2
  go_ret
  exact ⟨rfl, rfl⟩
theorem implLineMany_any (s : ByteArray) (w : World) (hs : s.size ≤ maxLen) :
    Calls Tryd.prog 5 #[.string s] w fun e w' => e = .returned (.int .i64 (lineManyI s.data.toList)) ∧ w = w' := by
  cases ht : tvB s.data.toList
  · rw [lineManyI_0 ht]
    have H := Lib.hid ht
    clear ht
    go_enter Tryd.func5, Tryd.ntmps5
    go_wp2_with (go_at_call 11; refine (implTextValid_any _ _ hs).mono ?_; rw [H.out]; rintro e w' ⟨rfl, rfl⟩)
    go_ret
    exact ⟨rfl, rfl⟩
  · rw [lineManyI_1 ht]
    have H := Lib.hid ht
    have hn : nlc s.data.toList ≤ 120 := Nat.le_trans (nlc_le _) ((tvB_iff _).1 ht).1
    clear ht
    go_enter Tryd.func5, Tryd.ntmps5
    go_wp2_with (first | (go_at_call 11; refine (implTextValid_any _ _ hs).mono ?_; rw [H.out]; rintro e w' ⟨rfl, rfl⟩) | (go_at_call 12; refine (strCount_nl _ _).mono ?_; rintro e w' ⟨rfl, rfl⟩))
    go_ret
    exact ⟨ret_int (by omega), rfl⟩
set_option maxHeartbeats 400000 in
theorem specLineMany_any (s : ByteArray) (w : World) (hs : s.size ≤ maxLen) :
    Calls Tryd.prog 6 #[.string s] w fun e w' => e = .returned (.int .i64 (lineManyI s.data.toList)) ∧ w = w' := by
  cases ht : tvB s.data.toList
  · rw [lineManyI_0 ht]
    have H := Lib.hid ht
    clear ht
    go_enter Tryd.func6, Tryd.ntmps6
    go_wp2_with (go_at_call 13; refine (specTextValid_any _ _ hs).mono ?_; rw [H.out]; rintro e w' ⟨rfl, rfl⟩)
    go_ret
    exact ⟨rfl, rfl⟩
  · rw [lineManyI_1 ht]
    have H := Lib.hid ht
    have hs' := tv_size ht
    clear ht
    go_enter Tryd.func6, Tryd.ntmps6
    go_wp2_with (go_at_call 13; refine (specTextValid_any _ _ hs).mono ?_; rw [H.out]; rintro e w' ⟨rfl, rfl⟩)
    go_loop [3, 4] (fun n i => ∃ k : Nat, k ≤ s.size ∧ i = .int .i64 k ∧ n = .int .i64 ((nlc (s.data.toList.take k) : Int) + 1)) (fun _ i => s.size - (intOf i).toNat)
    case atStart => exact ⟨0, Nat.zero_le _, rfl, rfl⟩
    case round =>
      obtain ⟨k, hk, rfl, rfl⟩ := hrel
      have hb := nlc_take_size s k
      by_cases hlt : k < s.size
      · go_wp2
        · have hn := nlc_step_nl s k hlt (eq_of_beq ‹((s[k].toNat : Int) == 10) = true›)
          go_round
          case rel => exact ⟨k + 1, by omega, by go_num, by rw [hn]; go_num⟩
          case measure => simp [intOf]; omega
        · have hn := nlc_step_no s k hlt (ne_of_beq_false ‹((s[k].toNat : Int) == 10) = false›)
          go_round
          case rel => exact ⟨k + 1, by omega, by go_num, by rw [hn]⟩
          case measure => simp [intOf]; omega
      · go_wp2
        go_ret
        exact ⟨ret_int (by rw [nlc_end s k (by omega)]), rfl⟩
end Go.Proofs.YtckhhdhkchcljaaDoor
