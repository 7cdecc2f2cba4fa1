/- Contracts of TableValid. -/
import Derived.Test.YtecejfcoognkiaaW2
import Derived.Test.YtecejfcoognkiaaPt
namespace Go.Proofs.Ytecejfcoognkiaa
open Go.RowKit

set_option maxHeartbeats 1600000 in
theorem specTableValid_any (f m : ByteArray) (A : Option Addr) (n c : Nat) (ps : List (Bool × Int × Int)) (w : World) (hf : f.size ≤ 1048576) (hm : m.size ≤ 1048576) (hn2 : n ≤ 1048576) (hr : Pieces w w.heap.size A n ps) :
    Calls Try.prog 8 #[.agg #[.string f, .string m, .slice A n c]] w fun e w' => e = .returned (.bool (tableB f.data.toList m.data.toList ps)) ∧ Below w.heap.size w w' := by
  have hfm : f.size ≤ maxLen := by unfold maxLen; omega
  have hmm : m.size ≤ maxLen := by unfold maxLen; omega
  go_enter Try.func8, Try.ntmps8
  go_wp2
  go_loopw [3, 4] (fun a i wr => ∃ (k : Nat) (t : Int), k ≤ n ∧ i = .int .i64 k ∧ a = .int .i64 t ∧ 0 ≤ t ∧ t ≤ 120 ∧ Hid (sumP (ps.take k) = t) ∧ Hid (allB f.size m.size (ps.take k) = true) ∧ Below (w.heap.size + 1) (w.alloc (.cells #[.string f, .string m, .slice A n c] 25)) wr) (fun _ i _ => n - (intOf i).toNat)
  case atStart => exact ⟨0, 0, Nat.zero_le _, rfl, rfl, Int.le_refl _, by omega, rfl, rfl, Below.refl _ _⟩
  case round =>
    obtain ⟨k, t, hk, rfl, rfl, ht0, ht1, HS, HA, hbw⟩ := hrel
    have hz := hbw.size
    simp at hz
    have b0 : wr.cell? ⟨w.heap.size, 0, none⟩ = some (.string f) := (hbw.cell (p := ⟨w.heap.size, 0, none⟩) (by simp)).trans (by simp)
    have b1 : wr.cell? ⟨w.heap.size, 1, none⟩ = some (.string m) := (hbw.cell (p := ⟨w.heap.size, 1, none⟩) (by simp)).trans (by simp)
    have b2 : wr.cell? ⟨w.heap.size, 2, none⟩ = some (.slice A n c) := (hbw.cell (p := ⟨w.heap.size, 2, none⟩) (by simp)).trans (by simp)
    have hbw' : Below w.heap.size w wr := (balloc (Below.refl _ _) _).trans (hbw.mono (by omega))
    have hz' : w.heap.size < wr.heap.size := by omega
    by_cases hlt : k < n
    · obtain ⟨ad, b, x, y, rfl, hb, hps, hc0, _, _, hc1, hc2⟩ := (hr.below hbw' (Nat.le_refl _)).at_ hlt
      have HM := Lib.hid hps
      clear hps
      cases b
      · cases h1 : inI x 0 ((f.size : Int) - 1)
        · have H1 := Lib.hid h1
          clear h1
          go_wp2_with (go_at_call 22; refine (l1In_any _ _ _ _).mono ?_; rw [H1.out]; rintro e w' ⟨rfl, rfl⟩)
          go_ret
          exact ⟨ret_bool (tableB_0 (piecesB_stop HM.out (pieceB_no1 H1.out))).symm, (by repeat (first | exact Below.refl _ _ | assumption | (refine bstep ?_ (by assumption)) | refine balloc ?_ _ | refine bdrew ?_ | refine bdrewN ?_ _ | refine bset ?_ (by first | (simp; done) | (simp; omega)) _))⟩
        · have H1 := Lib.hid h1
          rw [inI_iff] at h1
          cases h2 : inI y 1 ((f.size : Int) - x)
          · have H2 := Lib.hid h2
            clear h2
            go_wp2_with (go_at_call 22; refine (l1In_any _ _ _ _).mono ?_; (first | rw [H1.out] | rw [H2.out]); rintro e w' ⟨rfl, rfl⟩)
            go_ret
            exact ⟨ret_bool (tableB_0 (piecesB_stop HM.out (pieceB_no2 H2.out))).symm, (by repeat (first | exact Below.refl _ _ | assumption | (refine bstep ?_ (by assumption)) | refine balloc ?_ _ | refine bdrew ?_ | refine bdrewN ?_ _ | refine bset ?_ (by first | (simp; done) | (simp; omega)) _))⟩
          · have H2 := Lib.hid h2
            rw [inI_iff] at h2
            by_cases h3 : t + y ≤ 120
            · go_wp2_with (go_at_call 22; refine (l1In_any _ _ _ _).mono ?_; (first | rw [H1.out] | rw [H2.out]); rintro e w' ⟨rfl, rfl⟩)
              go_roundw
              case rel => exact ⟨k + 1, t + y, by omega, by go_num, rfl, by omega, by omega, Lib.hid (by rw [sumP_step HM.out, HS.out]), allB_step HM.out HA.out (pieceB_yes H1.out H2.out), hbw.alloc (by omega) _⟩
              case measure => simp [intOf]; omega
            · go_wp2_with (go_at_call 22; refine (l1In_any _ _ _ _).mono ?_; (first | rw [H1.out] | rw [H2.out]); rintro e w' ⟨rfl, rfl⟩)
              go_ret
              exact ⟨ret_bool (tableB_0 (piecesB_more (k := k + 1) (by rw [sumP_step HM.out, HS.out]; omega))).symm, (by repeat (first | exact Below.refl _ _ | assumption | (refine bstep ?_ (by assumption)) | refine balloc ?_ _ | refine bdrew ?_ | refine bdrewN ?_ _ | refine bset ?_ (by first | (simp; done) | (simp; omega)) _))⟩
      · cases h1 : inI x 0 ((m.size : Int) - 1)
        · have H1 := Lib.hid h1
          clear h1
          go_wp2_with (go_at_call 22; refine (l1In_any _ _ _ _).mono ?_; rw [H1.out]; rintro e w' ⟨rfl, rfl⟩)
          go_ret
          exact ⟨ret_bool (tableB_0 (piecesB_stop HM.out (pieceB_no1 H1.out))).symm, (by repeat (first | exact Below.refl _ _ | assumption | (refine bstep ?_ (by assumption)) | refine balloc ?_ _ | refine bdrew ?_ | refine bdrewN ?_ _ | refine bset ?_ (by first | (simp; done) | (simp; omega)) _))⟩
        · have H1 := Lib.hid h1
          rw [inI_iff] at h1
          cases h2 : inI y 1 ((m.size : Int) - x)
          · have H2 := Lib.hid h2
            clear h2
            go_wp2_with (go_at_call 22; refine (l1In_any _ _ _ _).mono ?_; (first | rw [H1.out] | rw [H2.out]); rintro e w' ⟨rfl, rfl⟩)
            go_ret
            exact ⟨ret_bool (tableB_0 (piecesB_stop HM.out (pieceB_no2 H2.out))).symm, (by repeat (first | exact Below.refl _ _ | assumption | (refine bstep ?_ (by assumption)) | refine balloc ?_ _ | refine bdrew ?_ | refine bdrewN ?_ _ | refine bset ?_ (by first | (simp; done) | (simp; omega)) _))⟩
          · have H2 := Lib.hid h2
            rw [inI_iff] at h2
            by_cases h3 : t + y ≤ 120
            · go_wp2_with (go_at_call 22; refine (l1In_any _ _ _ _).mono ?_; (first | rw [H1.out] | rw [H2.out]); rintro e w' ⟨rfl, rfl⟩)
              go_roundw
              case rel => exact ⟨k + 1, t + y, by omega, by go_num, rfl, by omega, by omega, Lib.hid (by rw [sumP_step HM.out, HS.out]), allB_step HM.out HA.out (pieceB_yes H1.out H2.out), hbw.alloc (by omega) _⟩
              case measure => simp [intOf]; omega
            · go_wp2_with (go_at_call 22; refine (l1In_any _ _ _ _).mono ?_; (first | rw [H1.out] | rw [H2.out]); rintro e w' ⟨rfl, rfl⟩)
              go_ret
              exact ⟨ret_bool (tableB_0 (piecesB_more (k := k + 1) (by rw [sumP_step HM.out, HS.out]; omega))).symm, (by repeat (first | exact Below.refl _ _ | assumption | (refine bstep ?_ (by assumption)) | refine balloc ?_ _ | refine bdrew ?_ | refine bdrewN ?_ _ | refine bset ?_ (by first | (simp; done) | (simp; omega)) _))⟩
    · have hl := hr.1
      have hkn : ps.length ≤ k := by omega
      have hm := tableB_1 (f := f.data.toList) (m := m.data.toList) (piecesB_end hkn HA.out (by rw [HS.out]; exact ht1))
      cases ht : tvB f.data.toList
      · rw [ht, Bool.false_and] at hm
        have HM := Lib.hid hm
        have HT := Lib.hid ht
        clear hm ht hl hkn
        go_wp2_with (go_at_call 23; refine (specTextValid_any _ _ hfm).mono ?_; rw [HT.out]; rintro e w' ⟨rfl, rfl⟩)
        go_ret
        exact ⟨ret_bool HM.out.symm, (by repeat (first | exact Below.refl _ _ | assumption | (refine bstep ?_ (by assumption)) | refine balloc ?_ _ | refine bdrew ?_ | refine bdrewN ?_ _ | refine bset ?_ (by first | (simp; done) | (simp; omega)) _))⟩
      · rw [ht, Bool.true_and] at hm
        have HT := Lib.hid ht
        clear ht hl hkn
        by_cases h4 : (m.size : Int) ≤ 400
        · rw [decide_eq_true (by simpa using h4), Bool.true_and] at hm
          have HM := Lib.hid hm
          clear hm
          go_wp2_with (first | (go_at_call 23; refine (specTextValid_any _ _ hfm).mono ?_; rw [HT.out]; rintro e w' ⟨rfl, rfl⟩) | (go_at_call 24; refine (l1Plain_any _ _ hmm).mono ?_; rintro e w' ⟨rfl, rfl⟩))
          go_ret
          exact ⟨ret_bool HM.out.symm, (by repeat (first | exact Below.refl _ _ | assumption | (refine bstep ?_ (by assumption)) | refine balloc ?_ _ | refine bdrew ?_ | refine bdrewN ?_ _ | refine bset ?_ (by first | (simp; done) | (simp; omega)) _))⟩
        · rw [decide_eq_false (by simpa using h4), Bool.false_and] at hm
          have HM := Lib.hid hm
          clear hm
          go_wp2_with (first | (go_at_call 23; refine (specTextValid_any _ _ hfm).mono ?_; rw [HT.out]; rintro e w' ⟨rfl, rfl⟩) | (go_at_call 24; refine (l1Plain_any _ _ hmm).mono ?_; rintro e w' ⟨rfl, rfl⟩))
          go_ret
          exact ⟨ret_bool HM.out.symm, (by repeat (first | exact Below.refl _ _ | assumption | (refine bstep ?_ (by assumption)) | refine balloc ?_ _ | refine bdrew ?_ | refine bdrewN ?_ _ | refine bset ?_ (by first | (simp; done) | (simp; omega)) _))⟩
set_option maxHeartbeats 3200000 in
theorem implTableValid_any (f m : ByteArray) (A : Option Addr) (n c : Nat) (ps : List (Bool × Int × Int)) (w : World) (hf : f.size ≤ 1048576) (hm : m.size ≤ 1048576) (hn2 : n ≤ 1048576) (hr : Pieces w w.heap.size A n ps) :
    Calls Try.prog 7 #[.agg #[.string f, .string m, .slice A n c]] w fun e w' => e = .returned (.bool (tableB f.data.toList m.data.toList ps)) ∧ Below w.heap.size w w' := by
  have hfm : f.size ≤ maxLen := by unfold maxLen; omega
  cases ht : tvB f.data.toList
  · rw [tableB_2 ht]
    have HT := Lib.hid ht
    clear ht
    go_enter Try.func7, Try.ntmps7
    go_wp2_with (go_at_call 13; refine (implTextValid_any _ _ hfm).mono ?_; rw [HT.out]; rintro e w' ⟨rfl, rfl⟩)
    go_ret
    exact ⟨rfl, (by repeat (first | exact Below.refl _ _ | assumption | (refine bstep ?_ (by assumption)) | refine balloc ?_ _ | refine bdrew ?_ | refine bdrewN ?_ _ | refine bset ?_ (by first | (simp; done) | (simp; omega)) _))⟩
  · by_cases h4 : (m.size : Int) ≤ 400
    · have HT := Lib.hid ht
      have HTB := Lib.hid (fun h => tableB_5 (m := m.data.toList) (ps := ps) ht (by simp; omega) h)
      clear ht
      go_enter Try.func7, Try.ntmps7
      go_wp2_with (go_at_call 13; refine (implTextValid_any _ _ hfm).mono ?_; rw [HT.out]; rintro e w' ⟨rfl, rfl⟩)
      go_loop [21] (fun i => ∃ k : Nat, k ≤ m.size ∧ i = .int .i64 k ∧ Hid (plain (m.data.toList.take k) = true)) (fun i => m.size - (intOf i).toNat)
      case atStart => exact ⟨0, Nat.zero_le _, rfl, plain_nil⟩
      case round =>
        obtain ⟨k, hk, rfl, Hp⟩ := hrel
        by_cases hlt : k < m.size
        · cases ho : okI (m[k].toNat : Int)
          · have HO := Lib.hid ho
            clear ho
            go_wp2_with (go_at_call 20; refine (isByte_any _ _ (by omega) (by have := m[k].toNat_lt; omega)).mono ?_; rw [HO.out]; rintro e w' ⟨rfl, rfl⟩)
            go_ret
            exact ⟨ret_bool (tableB_4 (plain_stop m k hlt HO.out)).symm, (by repeat (first | exact Below.refl _ _ | assumption | (refine bstep ?_ (by assumption)) | refine balloc ?_ _ | refine bdrew ?_ | refine bdrewN ?_ _ | refine bset ?_ (by first | (simp; done) | (simp; omega)) _))⟩
          · have HO := Lib.hid ho
            clear ho
            go_wp2_with (go_at_call 20; refine (isByte_any _ _ (by omega) (by have := m[k].toNat_lt; omega)).mono ?_; rw [HO.out]; rintro e w' ⟨rfl, rfl⟩)
            go_round
            case rel => exact ⟨k + 1, by omega, by go_num, plain_step m k hlt Hp.out HO.out⟩
            case measure => simp [intOf]; omega
        · have HTC := Lib.hid (HTB.out (plain_end m k (by omega) Hp.out))
          go_wp2
          go_loopw [4, 34] (fun a i wr => ∃ (k : Nat) (t : Int), k ≤ n ∧ i = .int .i64 k ∧ a = .int .i64 t ∧ 0 ≤ t ∧ t ≤ 120 ∧ Hid (sumP (ps.take k) = t) ∧ Hid (allB f.size m.size (ps.take k) = true) ∧ Below (w.heap.size + 1) (w.alloc (.cells #[.string f, .string m, .slice A n c] 25)) wr) (fun _ i _ => n - (intOf i).toNat)
          case atStart => exact ⟨0, 0, Nat.zero_le _, rfl, rfl, Int.le_refl _, by omega, rfl, rfl, Below.refl _ _⟩
          case round =>
            obtain ⟨k, t, hk, rfl, rfl, ht0, ht1, HS, HA, hbw⟩ := hrel
            have hz := hbw.size
            simp at hz
            have b0 : wr.cell? ⟨w.heap.size, 0, none⟩ = some (.string f) := (hbw.cell (p := ⟨w.heap.size, 0, none⟩) (by simp)).trans (by simp)
            have b1 : wr.cell? ⟨w.heap.size, 1, none⟩ = some (.string m) := (hbw.cell (p := ⟨w.heap.size, 1, none⟩) (by simp)).trans (by simp)
            have b2 : wr.cell? ⟨w.heap.size, 2, none⟩ = some (.slice A n c) := (hbw.cell (p := ⟨w.heap.size, 2, none⟩) (by simp)).trans (by simp)
            have hbw' : Below w.heap.size w wr := (balloc (Below.refl _ _) _).trans (hbw.mono (by omega))
            have hz' : w.heap.size < wr.heap.size := by omega
            by_cases hlt : k < n
            · obtain ⟨ad, b, x, y, rfl, hb, hps, hc0, _, _, hc1, hc2⟩ := (hr.below hbw' (Nat.le_refl _)).at_ hlt
              have HM := Lib.hid hps
              clear hps
              cases b
              · cases h1 : inI x 0 (f.size : Int)
                · have H1 := Lib.hid h1
                  clear h1
                  go_wp2_with (go_at_call 21; refine (in_any _ _ _ _).mono ?_; rw [H1.out]; rintro e w' ⟨rfl, rfl⟩)
                  go_ret
                  exact ⟨ret_bool (tableB_0 (piecesB_stop HM.out (pieceB_no0 H1.out))).symm, (by repeat (first | exact Below.refl _ _ | assumption | (refine bstep ?_ (by assumption)) | refine balloc ?_ _ | refine bdrew ?_ | refine bdrewN ?_ _ | refine bset ?_ (by first | (simp; done) | (simp; omega)) _))⟩
                · have H1 := Lib.hid h1
                  rw [inI_iff] at h1
                  cases h2 : inI y 1 ((f.size : Int) - x)
                  · have H2 := Lib.hid h2
                    clear h2
                    go_wp2_with (go_at_call 21; refine (in_any _ _ _ _).mono ?_; (first | rw [H1.out] | rw [H2.out]); rintro e w' ⟨rfl, rfl⟩)
                    go_ret
                    exact ⟨ret_bool (tableB_0 (piecesB_stop HM.out (pieceB_no2 H2.out))).symm, (by repeat (first | exact Below.refl _ _ | assumption | (refine bstep ?_ (by assumption)) | refine balloc ?_ _ | refine bdrew ?_ | refine bdrewN ?_ _ | refine bset ?_ (by first | (simp; done) | (simp; omega)) _))⟩
                  · have H2 := Lib.hid h2
                    rw [inI_iff] at h2
                    by_cases h3 : t + y ≤ 120
                    · go_wp2_with (go_at_call 21; refine (in_any _ _ _ _).mono ?_; (first | rw [H1.out] | rw [H2.out]); rintro e w' ⟨rfl, rfl⟩)
                      go_roundw
                      case rel => exact ⟨k + 1, t + y, by omega, by go_num, rfl, by omega, by omega, Lib.hid (by rw [sumP_step HM.out, HS.out]), allB_step HM.out HA.out (pieceB_yes0 H1.out H2.out), hbw.alloc (by omega) _⟩
                      case measure => simp [intOf]; omega
                    · go_wp2_with (go_at_call 21; refine (in_any _ _ _ _).mono ?_; (first | rw [H1.out] | rw [H2.out]); rintro e w' ⟨rfl, rfl⟩)
                      go_ret
                      exact ⟨ret_bool (tableB_0 (piecesB_more (k := k + 1) (by rw [sumP_step HM.out, HS.out]; omega))).symm, (by repeat (first | exact Below.refl _ _ | assumption | (refine bstep ?_ (by assumption)) | refine balloc ?_ _ | refine bdrew ?_ | refine bdrewN ?_ _ | refine bset ?_ (by first | (simp; done) | (simp; omega)) _))⟩
              · cases h1 : inI x 0 (m.size : Int)
                · have H1 := Lib.hid h1
                  clear h1
                  go_wp2_with (go_at_call 21; refine (in_any _ _ _ _).mono ?_; rw [H1.out]; rintro e w' ⟨rfl, rfl⟩)
                  go_ret
                  exact ⟨ret_bool (tableB_0 (piecesB_stop HM.out (pieceB_no0 H1.out))).symm, (by repeat (first | exact Below.refl _ _ | assumption | (refine bstep ?_ (by assumption)) | refine balloc ?_ _ | refine bdrew ?_ | refine bdrewN ?_ _ | refine bset ?_ (by first | (simp; done) | (simp; omega)) _))⟩
                · have H1 := Lib.hid h1
                  rw [inI_iff] at h1
                  cases h2 : inI y 1 ((m.size : Int) - x)
                  · have H2 := Lib.hid h2
                    clear h2
                    go_wp2_with (go_at_call 21; refine (in_any _ _ _ _).mono ?_; (first | rw [H1.out] | rw [H2.out]); rintro e w' ⟨rfl, rfl⟩)
                    go_ret
                    exact ⟨ret_bool (tableB_0 (piecesB_stop HM.out (pieceB_no2 H2.out))).symm, (by repeat (first | exact Below.refl _ _ | assumption | (refine bstep ?_ (by assumption)) | refine balloc ?_ _ | refine bdrew ?_ | refine bdrewN ?_ _ | refine bset ?_ (by first | (simp; done) | (simp; omega)) _))⟩
                  · have H2 := Lib.hid h2
                    rw [inI_iff] at h2
                    by_cases h3 : t + y ≤ 120
                    · go_wp2_with (go_at_call 21; refine (in_any _ _ _ _).mono ?_; (first | rw [H1.out] | rw [H2.out]); rintro e w' ⟨rfl, rfl⟩)
                      go_roundw
                      case rel => exact ⟨k + 1, t + y, by omega, by go_num, rfl, by omega, by omega, Lib.hid (by rw [sumP_step HM.out, HS.out]), allB_step HM.out HA.out (pieceB_yes0 H1.out H2.out), hbw.alloc (by omega) _⟩
                      case measure => simp [intOf]; omega
                    · go_wp2_with (go_at_call 21; refine (in_any _ _ _ _).mono ?_; (first | rw [H1.out] | rw [H2.out]); rintro e w' ⟨rfl, rfl⟩)
                      go_ret
                      exact ⟨ret_bool (tableB_0 (piecesB_more (k := k + 1) (by rw [sumP_step HM.out, HS.out]; omega))).symm, (by repeat (first | exact Below.refl _ _ | assumption | (refine bstep ?_ (by assumption)) | refine balloc ?_ _ | refine bdrew ?_ | refine bdrewN ?_ _ | refine bset ?_ (by first | (simp; done) | (simp; omega)) _))⟩
            · have hl := hr.1
              have hkn : ps.length ≤ k := by omega
              have HX := Lib.hid (HTC.out.trans (piecesB_end hkn HA.out (by rw [HS.out]; exact ht1)))
              clear hl hkn
              go_wp2
              go_ret
              exact ⟨ret_bool HX.out.symm, (by repeat (first | exact Below.refl _ _ | assumption | (refine bstep ?_ (by assumption)) | refine balloc ?_ _ | refine bdrew ?_ | refine bdrewN ?_ _ | refine bset ?_ (by first | (simp; done) | (simp; omega)) _))⟩
    · rw [tableB_3 (by simpa using h4)]
      have HT := Lib.hid ht
      clear ht
      go_enter Try.func7, Try.ntmps7
      go_wp2_with (go_at_call 13; refine (implTextValid_any _ _ hfm).mono ?_; rw [HT.out]; rintro e w' ⟨rfl, rfl⟩)
      go_ret
      exact ⟨rfl, (by repeat (first | exact Below.refl _ _ | assumption | (refine bstep ?_ (by assumption)) | refine balloc ?_ _ | refine bdrew ?_ | refine bdrewN ?_ _ | refine bset ?_ (by first | (simp; done) | (simp; omega)) _))⟩
end Go.Proofs.Ytecejfcoognkiaa
