/- Contracts on lines: how many there are, in which one a place is, where one begins. -/
import Derived.Test.YtppfggfmpmccpaaDoorW1
import Derived.Test.YtppfggfmpmccpaaDoorPn
import Derived.Lib.Bytealg
namespace Go.Proofs.YtppfggfmpmccpaaDoor
open Go.RowKit

set_option maxRecDepth 100000 in
theorem strCount_nl (s : ByteArray) (w : World) :
    Calls Tryd.prog 41 #[.string s, .string ⟨#[10]⟩] w fun e w' => e = .returned (.int .i64 (nlc s.data.toList)) ∧ w = w' := by
  go_enter Tryd.func41, Tryd.ntmps41
  go_wp2
  rw [run_callFunc_extern Tryd.func48 (by kernel_rfl) (by kernel_rfl) (by kernel_rfl) (e := Extern.BytealgCount.count) (by kernel_rfl), Lib.run_countString]
  simp only [Result.andThen]
  rw [Oper.upon_value]
  go_wp2
  go_ret
  exact ⟨rfl, rfl⟩
set_option maxHeartbeats 400000 in
theorem specLineMany_any (s : ByteArray) (w : World) (hs : s.size ≤ maxLen) :
    Calls Tryd.prog 23 #[.string s] w fun e w' => e = .returned (.int .i64 (lineManyI s.data.toList)) ∧ w = w' := by
  cases ht : tvB s.data.toList
  · rw [lineManyI_0 ht]
    have H := Lib.hid ht
    clear ht
    go_enter Tryd.func23, Tryd.ntmps23
    go_wp2_with (go_at_call 15; refine (specTextValid_any _ _ hs).mono ?_; rw [H.out]; rintro e w' ⟨rfl, rfl⟩)
    go_ret
    exact ⟨rfl, rfl⟩
  · rw [lineManyI_1 ht]
    have H := Lib.hid ht
    have hs' := tv_size ht
    clear ht
    go_enter Tryd.func23, Tryd.ntmps23
    go_wp2_with (go_at_call 15; refine (specTextValid_any _ _ hs).mono ?_; rw [H.out]; rintro e w' ⟨rfl, rfl⟩)
    go_loop [3, 4] (fun n i => ∃ k : Nat, k ≤ s.size ∧ i = .int .i64 k ∧ n = .int .i64 ((nlc (s.data.toList.take k) : Int) + 1)) (fun _ i => s.size - (intOf i).toNat)
    case atStart => exact ⟨0, Nat.zero_le _, rfl, rfl⟩
    case round =>
      obtain ⟨k, hk, rfl, rfl⟩ := hrel
      have hb := nlc_take_size s k
      by_cases hlt : k < s.size
      · go_wp2
        · have hn := nlc_step_nl s k hlt (eq_of_beq ‹((s[k].toNat : Int) == 10) = true›)
          go_round
          case rel => exact ⟨k + 1, by omega, by go_num, by rw [hn]; go_num⟩
          case measure => simp [intOf]; omega
        · have hn := nlc_step_no s k hlt (ne_of_beq_false ‹((s[k].toNat : Int) == 10) = false›)
          go_round
          case rel => exact ⟨k + 1, by omega, by go_num, by rw [hn]⟩
          case measure => simp [intOf]; omega
      · go_wp2
        go_ret
        exact ⟨ret_int (by rw [nlc_end s k (by omega)]), rfl⟩
set_option maxHeartbeats 1000000 in
theorem specLineStart_any (s : ByteArray) (n : Int) (w : World) (hs : s.size ≤ maxLen) :
    Calls Tryd.prog 24 #[.string s, .int .i64 n] w fun e w' => e = .returned (.int .i64 (lineStartI s.data.toList n)) ∧ w = w' := by
  cases ht : tvB s.data.toList
  · rw [lineStartI_0 (.inl ht)]
    have H := Lib.hid ht
    clear ht
    go_enter Tryd.func24, Tryd.ntmps24
    go_wp2_with (go_at_call 15; refine (specTextValid_any _ _ hs).mono ?_; rw [H.out]; rintro e w' ⟨rfl, rfl⟩)
    go_ret
    exact ⟨rfl, rfl⟩
  · by_cases hn : n < 0
    · rw [lineStartI_0 (.inr hn)]
      have H := Lib.hid ht
      clear ht
      go_enter Tryd.func24, Tryd.ntmps24
      go_wp2_with (go_at_call 15; refine (specTextValid_any _ _ hs).mono ?_; rw [H.out]; rintro e w' ⟨rfl, rfl⟩)
      go_ret
      exact ⟨rfl, rfl⟩
    · have H := Lib.hid ht
      have hs' := tv_size ht
      obtain ⟨m, rfl⟩ := Int.eq_ofNat_of_zero_le (by omega : 0 ≤ n)
      have ht1 : ∀ k : Nat, IsStart s.data.toList m k → lineStartI s.data.toList (m : Int) = k := fun k hk => lineStartI_1 ht (by omega) (by rw [Int.toNat_natCast]; exact startN_of hk)
      have ht2 : startN s.data.toList m = none → lineStartI s.data.toList (m : Int) = -1 := fun h => lineStartI_2 (by rw [Int.toNat_natCast]; exact h)
      have HT1 := Lib.hid ht1
      have HT2 := Lib.hid ht2
      clear ht ht1 ht2 hn
      go_enter Tryd.func24, Tryd.ntmps24
      go_wp2_with (go_at_call 15; refine (specTextValid_any _ _ hs).mono ?_; rw [H.out]; rintro e w' ⟨rfl, rfl⟩)
      go_loop [5, 6] (fun cc i => ∃ k c : Nat, k ≤ s.size + 1 ∧ i = .int .i64 k ∧ cc = .int .i64 c ∧ c ≤ s.size ∧ Hid (nlc (s.data.toList.take k) = c) ∧ NoStart s.data.toList m k) (fun _ i => s.size + 1 - (intOf i).toNat)
      case atStart => exact ⟨0, 0, Nat.zero_le _, rfl, rfl, Nat.zero_le _, rfl, NoStart.zero _ _⟩
      case round =>
        obtain ⟨k, c, hk, rfl, rfl, hb, Hc, hno⟩ := hrel
        by_cases hlt : k ≤ s.size
        · by_cases hnm : c = m
          · have hnb : ((c : Int) == (m : Int)) = true := beq_iff_eq.2 (by omega)
            have hcm := Lib.hid hnm
            clear hnm
            cases k with
            | zero =>
              go_wp2
              go_ret
              exact ⟨ret_int (HT1.out 0 ⟨Nat.zero_le _, by rw [Hc.out, hcm.out], .inl rfl⟩).symm, rfl⟩
            | succ j =>
              have hj0 : ((j : Int) + 1 == 0) = false := beq_eq_false_iff_ne.2 (by omega)
              by_cases hlt2 : j + 1 < s.size
              · go_wp2
                · go_ret
                  exact ⟨ret_int (HT1.out (j + 1) ⟨hlt, by rw [Hc.out, hcm.out], .inr (byte_nl s j (by omega) (eq_of_beq ‹((s[j].toNat : Int) == 10) = true›))⟩).symm, rfl⟩
                · have hn := nlc_step_nl s (j + 1) hlt2 (eq_of_beq ‹((s[j + 1].toNat : Int) == 10) = true›)
                  rw [Hc.out] at hn
                  have hne := ne_of_beq_false ‹((s[j].toNat : Int) == 10) = false›
                  go_round
                  case rel => exact ⟨j + 1 + 1, c + 1, by omega, by go_num, by go_num, by have := nlc_take_size s (j + 1 + 1); omega, hn, hno.step (notStart_byte s j (by omega) hne)⟩
                  case measure => simp [intOf]; omega
                · have hn := nlc_step_no s (j + 1) hlt2 (ne_of_beq_false ‹((s[j + 1].toNat : Int) == 10) = false›)
                  rw [Hc.out] at hn
                  have hne := ne_of_beq_false ‹((s[j].toNat : Int) == 10) = false›
                  go_round
                  case rel => exact ⟨j + 1 + 1, c, by omega, by go_num, rfl, hb, hn, hno.step (notStart_byte s j (by omega) hne)⟩
                  case measure => simp [intOf]; omega
              · go_wp2
                · go_ret
                  exact ⟨ret_int (HT1.out (j + 1) ⟨hlt, by rw [Hc.out, hcm.out], .inr (byte_nl s j (by omega) (eq_of_beq ‹((s[j].toNat : Int) == 10) = true›))⟩).symm, rfl⟩
                · have hne := ne_of_beq_false ‹((s[j].toNat : Int) == 10) = false›
                  have hn : nlc (s.data.toList.take (j + 1 + 1)) = c := by rw [nlc_end s (j + 1 + 1) (by omega), ← nlc_end s (j + 1) (by omega), Hc.out]
                  go_round
                  case rel => exact ⟨j + 1 + 1, c, by omega, by go_num, rfl, hb, hn, hno.step (notStart_byte s j (by omega) hne)⟩
                  case measure => simp [intOf]; omega
          · have hnb : ((c : Int) == (m : Int)) = false := by simp; omega
            have hcm := Lib.hid hnm
            clear hnm
            by_cases hlt2 : k < s.size
            · go_wp2
              · have hn := nlc_step_nl s k hlt2 (eq_of_beq ‹((s[k].toNat : Int) == 10) = true›)
                rw [Hc.out] at hn
                go_round
                case rel => exact ⟨k + 1, c + 1, by omega, by go_num, by go_num, by have := nlc_take_size s (k + 1); omega, hn, hno.step fun h => hcm.out (by rw [← Hc.out]; exact h.2.1)⟩
                case measure => simp [intOf]; omega
              · have hn := nlc_step_no s k hlt2 (ne_of_beq_false ‹((s[k].toNat : Int) == 10) = false›)
                rw [Hc.out] at hn
                go_round
                case rel => exact ⟨k + 1, c, by omega, by go_num, rfl, hb, hn, hno.step fun h => hcm.out (by rw [← Hc.out]; exact h.2.1)⟩
                case measure => simp [intOf]; omega
            · go_wp2
              have hn : nlc (s.data.toList.take (k + 1)) = c := by rw [nlc_end s (k + 1) (by omega), ← nlc_end s k (by omega), Hc.out]
              go_round
              case rel => exact ⟨k + 1, c, by omega, by go_num, rfl, hb, hn, hno.step fun h => hcm.out (by rw [← Hc.out]; exact h.2.1)⟩
              case measure => simp [intOf]; omega
        · go_wp2
          go_ret
          exact ⟨ret_int (HT2.out (hno.none (by simp; omega))).symm, rfl⟩
end Go.Proofs.YtppfggfmpmccpaaDoor
