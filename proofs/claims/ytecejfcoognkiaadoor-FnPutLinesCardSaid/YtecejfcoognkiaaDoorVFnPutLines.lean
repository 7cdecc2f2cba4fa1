/- The walk of the law FnPutLines: the call returns true and turns nothing that was there. -/
import Derived.Test.YtecejfcoognkiaaDoorD3
import Derived.Test.YtecejfcoognkiaaDoorD14
import Derived.Test.YtecejfcoognkiaaDoorW30
import Derived.Test.YtecejfcoognkiaaDoorW32
namespace Go.Proofs.YtecejfcoognkiaaDoor.fnPutLines
open Go.RowKit
set_option maxRecDepth 100000 in
set_option maxHeartbeats 1600000 in
theorem walk (A : Option Addr) (n c : Nat) (hnc : n ≤ c) (hc : c ≤ maxLen) (m : Int) (w : World) (hm : w.cell? ⟨0, 0, none⟩ = some (.int .i64 m)) (hb : Byt w w.heap.size A n) :
    Calls Tryd.prog 4 #[.slice A n c] w fun e w' => e = .returned (.bool true) ∧ Below w.heap.size w w' := by
  have hc' := hc
  unfold maxLen at hc'
  have hlt0 : 0 < w.heap.size := cell_lt hm
  by_cases h : 1048576 < n
  · go_enter Tryd.func4, Tryd.ntmps4
    go_wp2
    go_ret
    exact ⟨rfl, Below.refl _ _⟩
  · go_enter Tryd.func4, Tryd.ntmps4
    go_wp2_with fail
    refine (DrawPutLines_any _ _ _ _ hb hnc hc).mono ?_
    rintro e w1 ⟨s, p, r, rfl, hs, hp, hr, hb1⟩
    have hm1 := (hb1.cell (p := ⟨0, 0, none⟩) hlt0).trans hm
    have hl1 : 0 < w1.heap.size := cell_lt hm1
    have hsl : s.data.toList.length = s.size := rfl
    have hrl : r.data.toList.length = r.size := rfl
    have hcase : (∃ X : ByteArray, strBoolV (putR s.data.toList p r.data.toList) = .tuple #[.string X, .bool false] ∧ (X = ⟨#[]⟩ ∨ X = s)) ∨
        ∃ (k N R : Nat) (X : ByteArray), p = k ∧ k ≤ 1000 ∧ strBoolV (putR s.data.toList p r.data.toList) = .tuple #[.string X, .bool true] ∧ X.size ≤ 120 ∧ lineManyI s.data.toList = ((N + 1 : Nat) : Int) ∧ lineManyI r.data.toList = ((R + 1 : Nat) : Int) ∧ lineManyI X.data.toList = ((N + 1 + (R + 1) : Nat) : Int) ∧ strBoolV (cutR X.data.toList (k : Int) ((R + 1 : Nat) : Int)) = .tuple #[.string s, .bool true] ∧ N ≤ 1000 ∧ R ≤ 1000 := by
      cases ht : tvB s.data.toList
      · exact .inl ⟨⟨#[]⟩, by rw [putR_0 (.inl ht)]; rfl, .inl rfl⟩
      · cases htr : tvB r.data.toList
        · exact .inl ⟨⟨#[]⟩, by rw [putR_0 (.inr htr)]; rfl, .inl rfl⟩
        · by_cases hgood : inI p 0 ((nlc s.data.toList : Int) + 1) = true ∧ s.data.toList.length + 1 + r.data.toList.length ≤ 120
          · obtain ⟨h1, h2⟩ := hgood
            obtain ⟨a1, a2⟩ := (inI_iff _ _ _).1 h1
            obtain ⟨k, rfl⟩ := Int.eq_ofNat_of_zero_le a1
            have hP := putR_2 ht htr h1 h2
            rw [show ((k : Int)).toNat = k by omega] at hP
            have hv := putZ_valid ht htr k
            rw [decide_eq_true h2] at hv
            have hn := put_nlc s.data.toList k r.data.toList
            have hb := put_back ht htr k (by omega) h2
            have hns := nlc_le s.data.toList
            have hnr := nlc_le r.data.toList
            refine .inr ⟨k, nlc s.data.toList, nlc r.data.toList, mk (joinL (putZ s.data.toList k r.data.toList)), rfl, by omega, by rw [hP]; rfl, ?_, ?_, ?_, ?_, ?_, by omega, by omega⟩
            · rw [mk_size]
              exact ((tvB_iff _).1 hv).1
            · rw [lineManyI_1 ht]
              omega
            · rw [lineManyI_1 htr]
              omega
            · rw [mk_data, lineManyI_1 hv]
              omega
            · rw [mk_data, show ((nlc r.data.toList + 1 : Nat) : Int) = (nlc r.data.toList : Int) + 1 by omega, hb]
              rfl
          · refine .inl ⟨s, ?_, .inr rfl⟩
            rw [putR_1 ht htr (by
              by_cases h1 : inI p 0 ((nlc s.data.toList : Int) + 1) = true
              · exact .inr fun h2 => hgood ⟨h1, h2⟩
              · exact .inl (by simpa using h1))]
            rfl
    rcases hcase with ⟨X, hX, h0⟩ | ⟨k, N, R, X, rfl, hk, hX, hXs, hms, hmr, hmx, hcut, hN, hR⟩
    · have HX := Lib.hid hX
      clear hX
      go_wp2_with fail
      refine (implPutLines_any s p r m _ (by omega) (by omega) hm1).mono ?_
      rw [HX.out]
      rintro e w2 ⟨rfl, hb2⟩
      have hbw2 := bstep hb1 hb2
      go_wp2_with fail
      refine (specPutLines_any s p r _ (by omega) (by omega)).mono ?_
      rw [HX.out]
      rintro e w3 ⟨rfl, hb3⟩
      have hbw3 := bstep hbw2 hb3
      rcases h0 with rfl | rfl
      · go_wp2_with (go_at_call 13; refine (alive_any _).mono ?_; rintro e w' ⟨rfl, rfl⟩)
        go_ret
        exact ⟨rfl, hbw3⟩
      · cases hxe : X.toList.isEmpty
        · go_wp2_with (go_at_call 13; refine (alive_any _).mono ?_; rintro e w' ⟨rfl, rfl⟩)
          go_ret
          exact ⟨rfl, hbw3⟩
        · go_wp2_with (go_at_call 13; refine (alive_any _).mono ?_; rintro e w' ⟨rfl, rfl⟩)
          go_ret
          exact ⟨rfl, hbw3⟩
    · have HX := Lib.hid hX
      have HMS := Lib.hid hms
      have HMR := Lib.hid hmr
      have HMX := Lib.hid hmx
      have HC := Lib.hid hcut
      have hsm : s.size ≤ maxLen := by unfold maxLen; omega
      have hrm : r.size ≤ maxLen := by unfold maxLen; omega
      have hXm : X.size ≤ maxLen := by unfold maxLen; omega
      clear hX hms hmr hmx hcut hp
      go_wp2_with fail
      refine (implPutLines_any s k r m _ (by omega) (by omega) hm1).mono ?_
      rw [HX.out]
      rintro e w2 ⟨rfl, hb2⟩
      have hm2 := (hb2.cell (p := ⟨0, 0, none⟩) hl1).trans hm1
      have hl2 : 0 < w2.heap.size := cell_lt hm2
      have hbw2 := bstep hb1 hb2
      go_wp2_with fail
      refine (specPutLines_any s k r _ (by omega) (by omega)).mono ?_
      rw [HX.out]
      rintro e w3 ⟨rfl, hb3⟩
      have hm3 := (hb3.cell (p := ⟨0, 0, none⟩) hl2).trans hm2
      have hbw3 := bstep hbw2 hb3
      go_wp2_with (first | (go_at_call 17; refine (implLineMany_any _ _ hrm).mono ?_; rw [HMR.out]; rintro e w' ⟨rfl, rfl⟩) | fail)
      refine (implCutLines_any X k ((R + 1 : Nat) : Int) m _ (by omega) hm3 (by omega) (by omega)).mono ?_
      rw [HC.out]
      rintro e w4 ⟨rfl, hb4⟩
      have hbw4 := bstep hbw3 hb4
      go_wp2_with (first | (go_at_call 17; ((with_reducible refine (implLineMany_any X _ hXm).mono ?_); rw [HMX.out]; rintro e w' ⟨rfl, rfl⟩)) | (go_at_call 17; ((with_reducible refine (implLineMany_any s _ hsm).mono ?_); rw [HMS.out]; rintro e w' ⟨rfl, rfl⟩)) | (go_at_call 17; ((with_reducible refine (implLineMany_any r _ hrm).mono ?_); rw [HMR.out]; rintro e w' ⟨rfl, rfl⟩)))
      go_ret
      exact ⟨ret_bool (by simp <;> omega), hbw4⟩
end Go.Proofs.YtecejfcoognkiaaDoor.fnPutLines
