/- The walk of the law FnCutLines: the call returns true and turns nothing that was there. -/
import Derived.Test.YtecejfcoognkiaaDoorD3
import Derived.Test.YtecejfcoognkiaaDoorD14
import Derived.Test.YtecejfcoognkiaaDoorW30
import Derived.Test.YtecejfcoognkiaaDoorW33
namespace Go.Proofs.YtecejfcoognkiaaDoor.fnCutLines
open Go.RowKit
set_option maxRecDepth 100000 in
set_option maxHeartbeats 1600000 in
theorem walk (A : Option Addr) (n c : Nat) (hnc : n ≤ c) (hc : c ≤ maxLen) (m : Int) (w : World) (hm : w.cell? ⟨0, 0, none⟩ = some (.int .i64 m)) (hb : Byt w w.heap.size A n) :
    Calls Tryd.prog 6 #[.slice A n c] w fun e w' => e = .returned (.bool true) ∧ Below w.heap.size w w' := by
  have hc' := hc
  unfold maxLen at hc'
  have hlt0 : 0 < w.heap.size := cell_lt hm
  by_cases h : 1048576 < n
  · go_enter Tryd.func6, Tryd.ntmps6
    go_wp2
    go_ret
    exact ⟨rfl, Below.refl _ _⟩
  · go_enter Tryd.func6, Tryd.ntmps6
    go_wp2_with fail
    refine (DrawCutLines_any _ _ _ _ hb hnc hc).mono ?_
    rintro e w1 ⟨s, p, q, rfl, hs, hp, hq, hb1⟩
    have hm1 := (hb1.cell (p := ⟨0, 0, none⟩) hlt0).trans hm
    have hl1 : 0 < w1.heap.size := cell_lt hm1
    have hsl : s.data.toList.length = s.size := rfl
    have hcase : (∃ X : ByteArray, strBoolV (cutR s.data.toList p q) = .tuple #[.string X, .bool false] ∧ (X = ⟨#[]⟩ ∨ X = s)) ∨
        ∃ F M : Nat, p = F ∧ q = M ∧ 1 ≤ M ∧ F + M ≤ nlc s.data.toList + 1 ∧ tvB s.data.toList = true ∧ strBoolV (cutR s.data.toList p q) = .tuple #[.string (mk (joinL (cutZ s.data.toList F (F + M)))), .bool true] := by
      cases ht : tvB s.data.toList
      · exact .inl ⟨⟨#[]⟩, by rw [cutR_0 ht]; rfl, .inl rfl⟩
      · by_cases h1 : inI p 0 (nlc s.data.toList : Int) = true ∧ inI q 1 ((nlc s.data.toList : Int) + 1 - p) = true
        · obtain ⟨h1, h2⟩ := h1
          obtain ⟨a1, a2⟩ := (inI_iff _ _ _).1 h1
          obtain ⟨b1, b2⟩ := (inI_iff _ _ _).1 h2
          obtain ⟨F, rfl⟩ := Int.eq_ofNat_of_zero_le a1
          obtain ⟨M, rfl⟩ := Int.eq_ofNat_of_zero_le (show 0 ≤ q by omega)
          refine .inr ⟨F, M, rfl, rfl, by omega, by omega, rfl, ?_⟩
          rw [cutR_2 ht h1 h2, show ((F : Int)).toNat = F by omega, show ((F : Int) + (M : Int)).toNat = F + M by omega]
          rfl
        · refine .inl ⟨s, ?_, .inr rfl⟩
          rw [cutR_1 ht (by
            by_cases h2 : inI p 0 (nlc s.data.toList : Int) = true
            · exact .inr (by simpa using fun h3 => h1 ⟨h2, h3⟩)
            · exact .inl (by simpa using h2))]
          unfold strBoolV
          rw [show mk s.data.toList = s from ext_data (mk_data _)]
    have hp' : -9223372036854775808 ≤ p ∧ p ≤ 9223372036854775807 := by omega
    have hq' : -9223372036854775808 ≤ q ∧ q ≤ 9223372036854775807 := by omega
    have HP := Lib.hid hp'
    have HQ := Lib.hid hq'
    clear hp' hq' hp hq
    rcases hcase with ⟨X, hX, h0⟩ | ⟨F, M, rfl, rfl, hM, hFM, ht, hX⟩
    · have HX := Lib.hid hX
      clear hX
      go_wp2_with fail
      refine (implCutLines_any s p q m _ (by omega) hm1 HP.out HQ.out).mono ?_
      rw [HX.out]
      rintro e w2 ⟨rfl, hb2⟩
      have hbw2 := bstep hb1 hb2
      go_wp2_with fail
      refine (specCutLines_any s p q _ (by omega) HP.out HQ.out).mono ?_
      rw [HX.out]
      rintro e w3 ⟨rfl, hb3⟩
      have hbw3 := bstep hbw2 hb3
      rcases h0 with rfl | rfl
      · go_wp2_with (go_at_call 13; refine (alive_any _).mono ?_; rintro e w' ⟨rfl, rfl⟩)
        go_ret
        exact ⟨rfl, hbw3⟩
      · cases hxe : X.toList.isEmpty
        · go_wp2_with (go_at_call 13; refine (alive_any _).mono ?_; rintro e w' ⟨rfl, rfl⟩)
          go_ret
          exact ⟨rfl, hbw3⟩
        · go_wp2_with (go_at_call 13; refine (alive_any _).mono ?_; rintro e w' ⟨rfl, rfl⟩)
          go_ret
          exact ⟨rfl, hbw3⟩
    · have hl := linesB_length s
      have hlL := linesL_length s.data.toList
      have hnl := nlc_le s.data.toList
      have hsz := tv_size ht
      have htX := cut_valid ht F (F + M) (by omega)
      have hcl := cutZ_length s.data.toList F (F + M) (by omega) (by omega)
      have hcn : cutZ s.data.toList F (F + M) = [] → nlc s.data.toList + 1 = M := fun h0 => by rw [h0, List.length_nil] at hcl; omega
      have hat := fun j hj => cutZ_at (l := s.data.toList) (f := F) (t := F + M) (j := j) (by omega) (by omega) hj
      have hcl2 := cut_lines s.data.toList F (F + M)
      obtain ⟨Z, hZ⟩ : ∃ Z, cutZ s.data.toList F (F + M) = Z := ⟨_, rfl⟩
      change tvB (joinL (cutZ s.data.toList F (F + M))) = true at htX
      rw [hZ] at hX hcl hcn hat hcl2 htX
      obtain ⟨N, hN⟩ : ∃ N, nlc s.data.toList = N := ⟨_, rfl⟩
      rw [hN] at hl hlL hnl hFM hcn
      obtain ⟨X, hXe⟩ : ∃ X, mk (joinL Z) = X := ⟨_, rfl⟩
      have hXd : X.data.toList = joinL Z := by rw [← hXe, mk_data]
      rw [hXe] at hX
      rw [← hXd] at htX hcl2
      have hXs : X.size ≤ 120 := by have := ((tvB_iff _).1 htX).1; exact this
      have hLR := linesR_1 ht
      have hXR := linesR_1 htX
      have HX := Lib.hid hX
      have HLR := Lib.hid hLR
      have HXR := Lib.hid hXR
      clear hX hLR hXR hZ hN ht htX
      go_wp2_with fail
      refine (implCutLines_any s F M m _ (by omega) hm1 HP.out HQ.out).mono ?_
      rw [HX.out]
      rintro e w2 ⟨rfl, hb2⟩
      have hbw2 := bstep hb1 hb2
      have hm2 := (hb2.cell (p := ⟨0, 0, none⟩) hl1).trans hm1
      have hl2 : 0 < w2.heap.size := cell_lt hm2
      go_wp2_with fail
      refine (specCutLines_any s F M _ (by omega) HP.out HQ.out).mono ?_
      rw [HX.out]
      rintro e w3 ⟨rfl, hb3⟩
      have hbw3 := bstep hbw2 hb3
      have hm3 := (hb3.cell (p := ⟨0, 0, none⟩) hl2).trans hm2
      have hl3 : 0 < w3.heap.size := cell_lt hm3
      go_wp2_with fail
      refine (implLinesOf_any s m _ (by omega) hm3).mono ?_
      rw [HLR.out]
      rintro e w4 ⟨A4, n4, c4, rfl, ho4, hb4⟩
      obtain rfl : N + 1 = n4 := hl.symm.trans ho4.1
      have hbw4 := bstep hbw3 hb4
      have hm4 := (hb4.cell (p := ⟨0, 0, none⟩) hl3).trans hm3
      go_wp2_with fail
      refine (implLinesOf_any X m _ (by omega) hm4).mono ?_
      rw [HXR.out]
      rintro e w5 ⟨A5, n5, c5, rfl, ho5, hb5⟩
      have hbw5 := bstep hbw4 hb5
      have ho45 := ho4.below hb5
      by_cases hall : M = N + 1
      · have hZ0 : Z = [] := List.eq_nil_of_length_eq_zero (by omega)
        have hX0 : X = ⟨#[]⟩ := by rw [← hXe, hZ0]; rfl
        have hn5 := ho5.1
        subst hX0
        clear hXd hat hcl2 hcn hXe hZ0 hcl hl hlL
        subst hall
        go_wp2
        go_ret
        exact ⟨rfl, hbw5⟩
      · have hZn : Z ≠ [] := fun h0 => hall (hcn h0).symm
        have hLX := hcl2 hZn
        have hZl : Z.length + M = N + 1 := by omega
        have hX5 : linesB X = Z.map mk := by unfold linesB; rw [hLX]
        rw [hX5] at ho5
        obtain rfl : Z.length = n5 := by rw [← ho5.1, List.length_map]
        obtain ⟨zl, hzl⟩ : ∃ zl, Z.length = zl := ⟨_, rfl⟩
        have hlb : linesB s = (linesL s.data.toList).map mk := rfl
        have hst4 := ho45.strs
        have hst5 := ho5.strs
        rw [hzl] at hst5 hZl
        have HAT := Lib.hid hat
        have HZL := Lib.hid hzl
        have HLB := Lib.hid hlb
        have hne : ((M : Int) == (N : Int) + 1) = false := by simp; omega
        have hMN : M ≤ N := by omega
        rw [hzl]
        clear hat hcl2 hcn hXe hcl hl hlL hXd hLX hX5 hlb hzl hall hZn ho4 ho5 ho45
        go_wp2
        go_loopw [12] (fun i wr => ∃ k : Nat, k ≤ zl ∧ i = .int .i64 k ∧ Below w5.heap.size w5 wr) (fun i _ => zl - (intOf i).toNat)
        case atStart => exact ⟨0, Nat.zero_le _, rfl, Below.refl _ _⟩
        case round =>
          obtain ⟨k, hk, rfl, hbw⟩ := hrel
          by_cases hlt : k < zl
          · have hz := HAT.out k (by rw [HZL.out]; exact hlt)
            obtain ⟨ad5, x5, rfl, hbb5, hms5, hc5⟩ := (hst5.below hbw (Nat.le_refl _)).at_ hlt
            rw [List.getElem?_map, hz] at hms5
            have j0 : (k : Int) < (zl : Int) := by omega
            by_cases hfk : F ≤ k
            · rw [if_pos hfk, Nat.add_sub_cancel_left] at hms5
              obtain ⟨ad4, x4, rfl, hbb4, hms4, hc4⟩ := (hst4.below hbw (Nat.le_refl _)).at_ (show k + M < N + 1 by omega)
              rw [HLB.out, List.getElem?_map] at hms4
              rw [hms4] at hms5
              injection hms5 with hms5
              subst hms5
              have j1 : decide (F ≤ k) = true := decide_eq_true hfk
              have j2 : (0 : Int) ≤ (k : Int) + (M : Int) := by omega
              have j3 : (k : Int) + (M : Int) < (N : Int) + 1 := by omega
              have j4 : ((k : Int) + (M : Int)).toNat = k + M := by omega
              have j5 : decide ((N : Int) + 1 ≤ (k : Int) + (M : Int)) = false := decide_eq_false (by omega)
              have j6 : decide (N + 1 ≤ k + M) = false := decide_eq_false (by omega)
              clear hz hms4
              go_wp2_with fail
              go_quiet (fail)
              go_wp2
              go_roundw
              case rel => exact ⟨k + 1, by omega, by go_num, below_drewN hbw _⟩
              case measure => simp [intOf]; omega
            · rw [if_neg hfk] at hms5
              obtain ⟨ad4, x4, rfl, hbb4, hms4, hc4⟩ := (hst4.below hbw (Nat.le_refl _)).at_ (show k < N + 1 by omega)
              rw [HLB.out, List.getElem?_map] at hms4
              rw [hms4] at hms5
              injection hms5 with hms5
              subst hms5
              have j1 : decide (F ≤ k) = false := decide_eq_false hfk
              have j3 : (k : Int) < (N : Int) + 1 := by omega
              have j5 : decide ((N : Int) + 1 ≤ (k : Int)) = false := decide_eq_false (by omega)
              have j6 : decide (N + 1 ≤ k) = false := decide_eq_false (by omega)
              have j7 : ¬ (F : Int) ≤ (k : Int) := by omega
              clear hz hms4
              go_wp2_with fail
              go_quiet (fail)
              go_wp2
              go_roundw
              case rel => exact ⟨k + 1, by omega, by go_num, below_drewN hbw _⟩
              case measure => simp [intOf]; omega
          · have hkn : k = zl := by omega
            subst hkn
            have hze : ((k : Int) == (N : Int) + 1 - (M : Int)) = true := by simp; omega
            go_wp2
            go_ret
            exact ⟨ret_bool (by simp <;> omega), bstep hbw5 hbw⟩
end Go.Proofs.YtecejfcoognkiaaDoor.fnCutLines
