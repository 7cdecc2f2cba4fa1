/- Contracts on lines: how many there are, in which one a place is, where one begins. -/
import Derived.Test.YtlndlgbpnlfflaaW1
import Derived.Test.YtlndlgbpnlfflaaPn
import Derived.Lib.Bytealg
namespace Go.Proofs.Ytlndlgbpnlfflaa
open Go.RowKit

set_option maxRecDepth 100000 in
theorem strCount_nl (s : ByteArray) (w : World) :
    Calls Try.prog 59 #[.string s, .string ⟨#[10]⟩] w fun e w' => e = .returned (.int .i64 (nlc s.data.toList)) ∧ w = w' := by
  go_enter Try.func59, Try.ntmps59
  go_wp2
  rw [run_callFunc_extern Try.func70 (by kernel_rfl) (by kernel_rfl) (by kernel_rfl) (e := Extern.BytealgCount.count) (by kernel_rfl), Lib.run_countString]
  simp only [Result.andThen]
  rw [Oper.upon_value]
  go_wp2
  go_ret
  exact ⟨rfl, rfl⟩
theorem implLineMany_any (s : ByteArray) (w : World) (hs : s.size ≤ maxLen) :
    Calls Try.prog 45 #[.string s] w fun e w' => e = .returned (.int .i64 (lineManyI s.data.toList)) ∧ w = w' := by
  cases ht : tvB s.data.toList
  · rw [lineManyI_0 ht]
    have H := Lib.hid ht
    clear ht
    go_enter Try.func45, Try.ntmps45
    go_wp2_with (go_at_call 49; refine (implTextValid_any _ _ hs).mono ?_; rw [H.out]; rintro e w' ⟨rfl, rfl⟩)
    go_ret
    exact ⟨rfl, rfl⟩
  · rw [lineManyI_1 ht]
    have H := Lib.hid ht
    have hn : nlc s.data.toList ≤ 120 := Nat.le_trans (nlc_le _) ((tvB_iff _).1 ht).1
    clear ht
    go_enter Try.func45, Try.ntmps45
    go_wp2_with (first | (go_at_call 49; refine (implTextValid_any _ _ hs).mono ?_; rw [H.out]; rintro e w' ⟨rfl, rfl⟩) | (go_at_call 59; refine (strCount_nl _ _).mono ?_; rintro e w' ⟨rfl, rfl⟩))
    go_ret
    exact ⟨ret_int (by omega), rfl⟩
set_option maxHeartbeats 400000 in
theorem specLineMany_any (s : ByteArray) (w : World) (hs : s.size ≤ maxLen) :
    Calls Try.prog 68 #[.string s] w fun e w' => e = .returned (.int .i64 (lineManyI s.data.toList)) ∧ w = w' := by
  cases ht : tvB s.data.toList
  · rw [lineManyI_0 ht]
    have H := Lib.hid ht
    clear ht
    go_enter Try.func68, Try.ntmps68
    go_wp2_with (go_at_call 37; refine (specTextValid_any _ _ hs).mono ?_; rw [H.out]; rintro e w' ⟨rfl, rfl⟩)
    go_ret
    exact ⟨rfl, rfl⟩
  · rw [lineManyI_1 ht]
    have H := Lib.hid ht
    have hs' := tv_size ht
    clear ht
    go_enter Try.func68, Try.ntmps68
    go_wp2_with (go_at_call 37; refine (specTextValid_any _ _ hs).mono ?_; rw [H.out]; rintro e w' ⟨rfl, rfl⟩)
    go_loop [3, 4] (fun n i => ∃ k : Nat, k ≤ s.size ∧ i = .int .i64 k ∧ n = .int .i64 ((nlc (s.data.toList.take k) : Int) + 1)) (fun _ i => s.size - (intOf i).toNat)
    case atStart => exact ⟨0, Nat.zero_le _, rfl, rfl⟩
    case round =>
      obtain ⟨k, hk, rfl, rfl⟩ := hrel
      have hb := nlc_take_size s k
      by_cases hlt : k < s.size
      · go_wp2
        · have hn := nlc_step_nl s k hlt (eq_of_beq ‹((s[k].toNat : Int) == 10) = true›)
          go_round
          case rel => exact ⟨k + 1, by omega, by go_num, by rw [hn]; go_num⟩
          case measure => simp [intOf]; omega
        · have hn := nlc_step_no s k hlt (ne_of_beq_false ‹((s[k].toNat : Int) == 10) = false›)
          go_round
          case rel => exact ⟨k + 1, by omega, by go_num, by rw [hn]⟩
          case measure => simp [intOf]; omega
      · go_wp2
        go_ret
        exact ⟨ret_int (by rw [nlc_end s k (by omega)]), rfl⟩
theorem implLineOf_any (s : ByteArray) (p : Int) (w : World) (hs : s.size ≤ maxLen) :
    Calls Try.prog 30 #[.string s, .int .i64 p] w fun e w' => e = .returned (.int .i64 (lineOfI s.data.toList p)) ∧ w = w' := by
  cases hp : placeB s.data.toList p
  · rw [lineOfI_0 hp]
    have H := Lib.hid hp
    clear hp
    go_enter Try.func30, Try.ntmps30
    go_wp2_with (go_at_call 46; refine (isPlace_any _ _ _ hs).mono ?_; rw [H.out]; rintro e w' ⟨rfl, rfl⟩)
    go_ret
    exact ⟨rfl, rfl⟩
  · rw [lineOfI_1 hp]
    have H := Lib.hid hp
    obtain ⟨hp1, hp2⟩ := placeB_range hp
    have HE := Lib.hid (show nlc (s.extract 0 p.toNat).data.toList = nlc (s.data.toList.take p.toNat) from by rw [extract_head, mk_data])
    clear hp
    go_enter Try.func30, Try.ntmps30
    go_wp2_with (first | (go_at_call 46; refine (isPlace_any _ _ _ hs).mono ?_; rw [H.out]; rintro e w' ⟨rfl, rfl⟩) | (go_at_call 59; refine (strCount_nl _ _).mono ?_; rw [HE.out]; rintro e w' ⟨rfl, rfl⟩))
    go_ret
    exact ⟨rfl, rfl⟩
set_option maxHeartbeats 1000000 in
theorem specLineStart_any (s : ByteArray) (n : Int) (w : World) (hs : s.size ≤ maxLen) :
    Calls Try.prog 57 #[.string s, .int .i64 n] w fun e w' => e = .returned (.int .i64 (lineStartI s.data.toList n)) ∧ w = w' := by
  cases ht : tvB s.data.toList
  · rw [lineStartI_0 (.inl ht)]
    have H := Lib.hid ht
    clear ht
    go_enter Try.func57, Try.ntmps57
    go_wp2_with (go_at_call 37; refine (specTextValid_any _ _ hs).mono ?_; rw [H.out]; rintro e w' ⟨rfl, rfl⟩)
    go_ret
    exact ⟨rfl, rfl⟩
  · by_cases hn : n < 0
    · rw [lineStartI_0 (.inr hn)]
      have H := Lib.hid ht
      clear ht
      go_enter Try.func57, Try.ntmps57
      go_wp2_with (go_at_call 37; refine (specTextValid_any _ _ hs).mono ?_; rw [H.out]; rintro e w' ⟨rfl, rfl⟩)
      go_ret
      exact ⟨rfl, rfl⟩
    · have H := Lib.hid ht
      have hs' := tv_size ht
      obtain ⟨m, rfl⟩ := Int.eq_ofNat_of_zero_le (by omega : 0 ≤ n)
      have ht1 : ∀ k : Nat, IsStart s.data.toList m k → lineStartI s.data.toList (m : Int) = k := fun k hk => lineStartI_1 ht (by omega) (by rw [Int.toNat_natCast]; exact startN_of hk)
      have ht2 : startN s.data.toList m = none → lineStartI s.data.toList (m : Int) = -1 := fun h => lineStartI_2 (by rw [Int.toNat_natCast]; exact h)
      have HT1 := Lib.hid ht1
      have HT2 := Lib.hid ht2
      clear ht ht1 ht2 hn
      go_enter Try.func57, Try.ntmps57
      go_wp2_with (go_at_call 37; refine (specTextValid_any _ _ hs).mono ?_; rw [H.out]; rintro e w' ⟨rfl, rfl⟩)
      go_loop [5, 6] (fun cc i => ∃ k c : Nat, k ≤ s.size + 1 ∧ i = .int .i64 k ∧ cc = .int .i64 c ∧ c ≤ s.size ∧ Hid (nlc (s.data.toList.take k) = c) ∧ NoStart s.data.toList m k) (fun _ i => s.size + 1 - (intOf i).toNat)
      case atStart => exact ⟨0, 0, Nat.zero_le _, rfl, rfl, Nat.zero_le _, rfl, NoStart.zero _ _⟩
      case round =>
        obtain ⟨k, c, hk, rfl, rfl, hb, Hc, hno⟩ := hrel
        by_cases hlt : k ≤ s.size
        · by_cases hnm : c = m
          · have hnb : ((c : Int) == (m : Int)) = true := beq_iff_eq.2 (by omega)
            have hcm := Lib.hid hnm
            clear hnm
            cases k with
            | zero =>
              go_wp2
              go_ret
              exact ⟨ret_int (HT1.out 0 ⟨Nat.zero_le _, by rw [Hc.out, hcm.out], .inl rfl⟩).symm, rfl⟩
            | succ j =>
              have hj0 : ((j : Int) + 1 == 0) = false := beq_eq_false_iff_ne.2 (by omega)
              by_cases hlt2 : j + 1 < s.size
              · go_wp2
                · go_ret
                  exact ⟨ret_int (HT1.out (j + 1) ⟨hlt, by rw [Hc.out, hcm.out], .inr (byte_nl s j (by omega) (eq_of_beq ‹((s[j].toNat : Int) == 10) = true›))⟩).symm, rfl⟩
                · have hn := nlc_step_nl s (j + 1) hlt2 (eq_of_beq ‹((s[j + 1].toNat : Int) == 10) = true›)
                  rw [Hc.out] at hn
                  have hne := ne_of_beq_false ‹((s[j].toNat : Int) == 10) = false›
                  go_round
                  case rel => exact ⟨j + 1 + 1, c + 1, by omega, by go_num, by go_num, by have := nlc_take_size s (j + 1 + 1); omega, hn, hno.step (notStart_byte s j (by omega) hne)⟩
                  case measure => simp [intOf]; omega
                · have hn := nlc_step_no s (j + 1) hlt2 (ne_of_beq_false ‹((s[j + 1].toNat : Int) == 10) = false›)
                  rw [Hc.out] at hn
                  have hne := ne_of_beq_false ‹((s[j].toNat : Int) == 10) = false›
                  go_round
                  case rel => exact ⟨j + 1 + 1, c, by omega, by go_num, rfl, hb, hn, hno.step (notStart_byte s j (by omega) hne)⟩
                  case measure => simp [intOf]; omega
              · go_wp2
                · go_ret
                  exact ⟨ret_int (HT1.out (j + 1) ⟨hlt, by rw [Hc.out, hcm.out], .inr (byte_nl s j (by omega) (eq_of_beq ‹((s[j].toNat : Int) == 10) = true›))⟩).symm, rfl⟩
                · have hne := ne_of_beq_false ‹((s[j].toNat : Int) == 10) = false›
                  have hn : nlc (s.data.toList.take (j + 1 + 1)) = c := by rw [nlc_end s (j + 1 + 1) (by omega), ← nlc_end s (j + 1) (by omega), Hc.out]
                  go_round
                  case rel => exact ⟨j + 1 + 1, c, by omega, by go_num, rfl, hb, hn, hno.step (notStart_byte s j (by omega) hne)⟩
                  case measure => simp [intOf]; omega
          · have hnb : ((c : Int) == (m : Int)) = false := by simp; omega
            have hcm := Lib.hid hnm
            clear hnm
            by_cases hlt2 : k < s.size
            · go_wp2
              · have hn := nlc_step_nl s k hlt2 (eq_of_beq ‹((s[k].toNat : Int) == 10) = true›)
                rw [Hc.out] at hn
                go_round
                case rel => exact ⟨k + 1, c + 1, by omega, by go_num, by go_num, by have := nlc_take_size s (k + 1); omega, hn, hno.step fun h => hcm.out (by rw [← Hc.out]; exact h.2.1)⟩
                case measure => simp [intOf]; omega
              · have hn := nlc_step_no s k hlt2 (ne_of_beq_false ‹((s[k].toNat : Int) == 10) = false›)
                rw [Hc.out] at hn
                go_round
                case rel => exact ⟨k + 1, c, by omega, by go_num, rfl, hb, hn, hno.step fun h => hcm.out (by rw [← Hc.out]; exact h.2.1)⟩
                case measure => simp [intOf]; omega
            · go_wp2
              have hn : nlc (s.data.toList.take (k + 1)) = c := by rw [nlc_end s (k + 1) (by omega), ← nlc_end s k (by omega), Hc.out]
              go_round
              case rel => exact ⟨k + 1, c, by omega, by go_num, rfl, hb, hn, hno.step fun h => hcm.out (by rw [← Hc.out]; exact h.2.1)⟩
              case measure => simp [intOf]; omega
        · go_wp2
          go_ret
          exact ⟨ret_int (HT2.out (hno.none (by simp; omega))).symm, rfl⟩
theorem strLastIndex_nl (s : ByteArray) (w : World) (hs : s.size ≤ 1099511627776) :
    Calls Try.prog 60 #[.string s, .int .u8 10] w fun e w' => e = .returned (.int .i64 ((lastS s.data.toList : Int) - 1)) ∧ w = w' := by
  have h1 : Calls Try.prog 72 #[.string s, .int .u8 10] w fun e w' => e = .returned (.int .i64 ((lastS s.data.toList : Int) - 1)) ∧ w = w' := by
    go_enter Try.func72, Try.ntmps72
    go_wp2
    go_loop [5] (fun i => ∃ k : Nat, k ≤ s.size ∧ i = .int .i64 ((k : Int) - 1) ∧ Hid (nlc (s.data.toList.take k) = nlc s.data.toList)) (fun i => (intOf i + 1).toNat)
    case atStart => exact ⟨s.size, Nat.le_refl _, rfl, nlc_end s _ (Nat.le_refl _)⟩
    case round =>
      obtain ⟨k, hk, rfl, Hc⟩ := hrel
      cases k with
      | zero =>
        go_wp2
        go_ret
        exact ⟨ret_int (by rw [lastS_of (k := 0) ⟨Nat.zero_le _, Hc.out, .inl rfl⟩]; rfl), rfl⟩
      | succ j =>
        have hj : (((j + 1 : Nat) : Int) - 1) = (j : Int) := by omega
        rw [hj]
        clear hj
        go_wp2
        · go_ret
          exact ⟨ret_int (by rw [lastS_of (k := j + 1) ⟨hk, Hc.out, .inr (byte_nl s j (by omega) (eq_of_beq ‹((s[j].toNat : Int) == 10) = true›))⟩]; omega), rfl⟩
        · have hn := nlc_step_no s j (by omega) (ne_of_beq_false ‹((s[j].toNat : Int) == 10) = false›)
          go_round
          case rel => exact ⟨j, by omega, rfl, by rw [← hn]; exact Hc⟩
          case measure => simp [intOf]
  go_enter Try.func60, Try.ntmps60
  go_wp2_with (go_at_call 72; refine h1.mono ?_; rintro e w' ⟨rfl, rfl⟩)
  go_ret
  exact ⟨rfl, rfl⟩
theorem implColumnOf_any (s : ByteArray) (p : Int) (w : World) (hs : s.size ≤ maxLen) :
    Calls Try.prog 31 #[.string s, .int .i64 p] w fun e w' => e = .returned (.int .i64 (columnI s.data.toList p)) ∧ w = w' := by
  cases hp : placeB s.data.toList p
  · rw [columnI_0 hp]
    have H := Lib.hid hp
    clear hp
    go_enter Try.func31, Try.ntmps31
    go_wp2_with (go_at_call 46; refine (isPlace_any _ _ _ hs).mono ?_; rw [H.out]; rintro e w' ⟨rfl, rfl⟩)
    go_ret
    exact ⟨rfl, rfl⟩
  · rw [columnI_1 hp]
    obtain ⟨hp1, hp2⟩ := placeB_range hp
    have ht : tvB s.data.toList = true := placeB_tv hp
    have hs' := tv_size ht
    have hl := lastS_le (s.data.toList.take p.toNat)
    rw [List.length_take] at hl
    have hl2 : (lastS (s.data.toList.take p.toNat) : Int) ≤ p := by omega
    clear hl
    have H := Lib.hid hp
    have he : lastS (s.extract 0 p.toNat).data.toList = lastS (s.data.toList.take p.toNat) := by rw [extract_head, mk_data]
    have hsz : (s.extract 0 p.toNat).size ≤ 1099511627776 := by
      rw [extract_head, mk_size, List.length_take]
      omega
    have HE := Lib.hid he
    clear hp ht he
    go_enter Try.func31, Try.ntmps31
    go_wp2_with (first | (go_at_call 46; refine (isPlace_any _ _ _ hs).mono ?_; rw [H.out]; rintro e w' ⟨rfl, rfl⟩) | (go_at_call 60; refine (strLastIndex_nl _ _ hsz).mono ?_; rw [HE.out]; rintro e w' ⟨rfl, rfl⟩))
    go_ret
    exact ⟨ret_int (by omega), rfl⟩
end Go.Proofs.Ytlndlgbpnlfflaa
