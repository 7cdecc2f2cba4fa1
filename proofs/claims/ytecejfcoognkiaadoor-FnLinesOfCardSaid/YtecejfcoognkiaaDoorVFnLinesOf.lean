/- The walk of the law FnLinesOf: the call returns true and turns nothing that was there. -/
import Derived.Test.YtecejfcoognkiaaDoorD3
import Derived.Test.YtecejfcoognkiaaDoorW25
import Derived.Test.YtecejfcoognkiaaDoorW28
import Derived.Test.YtecejfcoognkiaaDoorW33
import Derived.Test.YtecejfcoognkiaaDoorPg
namespace Go.Proofs.YtecejfcoognkiaaDoor.fnLinesOf
open Go.RowKit
set_option maxRecDepth 100000 in
set_option maxHeartbeats 1600000 in
theorem walk (A : Option Addr) (n c : Nat) (hnc : n ≤ c) (hc : c ≤ maxLen) (m : Int) (w : World) (hm : w.cell? ⟨0, 0, none⟩ = some (.int .i64 m)) (hb : Byt w w.heap.size A n) :
    Calls Tryd.prog 3 #[.slice A n c] w fun e w' => e = .returned (.bool true) ∧ Below w.heap.size w w' := by
  have hc' := hc
  unfold maxLen at hc'
  have hlt0 : 0 < w.heap.size := cell_lt hm
  by_cases h : 1048576 < n
  · go_enter Tryd.func3, Tryd.ntmps3
    go_wp2
    go_ret
    exact ⟨rfl, Below.refl _ _⟩
  · go_enter Tryd.func3, Tryd.ntmps3
    go_wp2_with fail
    refine (DrawLinesOf_any _ _ _ _ hb hnc hc).mono ?_
    rintro e w1 ⟨s, rfl, hs, hb1⟩
    have hsm : s.size ≤ maxLen := by unfold maxLen; omega
    have hm1 := (hb1.cell (p := ⟨0, 0, none⟩) hlt0).trans hm
    go_wp2_with fail
    refine (implLinesOf_any s m _ (by omega) hm1).mono ?_
    rintro e w2 ⟨A2, n2, c2, rfl, ho2, hb2⟩
    go_wp2_with fail
    refine (specLinesOf_any s _ (by omega)).mono ?_
    rintro e w3 ⟨A3, n3, c3, rfl, ho3, hb3⟩
    obtain rfl : n3 = n2 := ho3.1.symm.trans ho2.1
    have hnn : n3 ≤ 1000 := by
      have h2 := ho3.1
      unfold linesR at h2
      split at h2
      · rw [linesB_length] at h2
        have := nlc_le s.data.toList
        have : s.data.toList.length = s.size := rfl
        omega
      · simp at h2
        omega
    have ho23 := ho2.below hb3
    have hbw3 := bstep (bstep hb1 hb2) hb3
    go_wp2_with fail
    refine (sameTexts_same A2 A3 n3 c2 c3 _ _ (by omega) ho23.strs ho3.strs).mono ?_
    rintro e w4 ⟨rfl, hb4⟩
    have ho4 := ho23.below hb4
    have hbw4 := bstep hbw3 hb4
    clear ho2 ho3 hb2 hb3 hb4 ho23 hbw3 hm1
    cases ht : tvB s.data.toList
    · rw [linesR_0 ht] at ho4
      have H := Lib.hid ht
      obtain rfl : 0 = n3 := ho4.1
      clear ht ho4
      go_wp2_with (first | (go_at_call 12; refine (specTextValid_any _ _ hsm).mono ?_; rw [H.out]; rintro e w' ⟨rfl, rfl⟩) | (go_at_call 13; refine (alive_any _).mono ?_; rintro e w' ⟨rfl, rfl⟩))
      go_ret
      exact ⟨rfl, hbw4⟩
    · rw [linesR_1 ht] at ho4
      have hl := linesB_length s
      have hn := nlc_le s.data.toList
      have hsl : s.data.toList.length = s.size := rfl
      have hsz := tv_size ht
      have hjl := joinL_datas_linesB s
      have hjt := linesB_text ht
      have hI := lineManyI_1 ht
      obtain ⟨N, hN⟩ : ∃ N, nlc s.data.toList = N := ⟨_, rfl⟩
      rw [hN] at hl hn hI
      obtain rfl : N + 1 = n3 := hl.symm.trans ho4.1
      have HT := Lib.hid ht
      have HN := Lib.hid hN
      have HL := Lib.hid hl
      have HJT := Lib.hid hjt
      have HI := Lib.hid (hI.trans (show (N : Int) + 1 = ((N + 1 : Nat) : Int) by omega))
      have hst4 := ho4.strs
      have hz4 := hbw4.size
      clear ht hN hl hjt hI
      go_wp2_with (first | (go_at_call 12; refine (specTextValid_any _ _ hsm).mono ?_; rw [HT.out]; rintro e w' ⟨rfl, rfl⟩) | fail)
      go_loopw [5] (fun i wr => ∃ k : Nat, k ≤ N + 1 ∧ i = .int .i64 k ∧ Below w4.heap.size w4 wr) (fun i _ => N + 1 - (intOf i).toNat)
      case atStart => exact ⟨0, Nat.zero_le _, rfl, Below.refl _ _⟩
      case round =>
        obtain ⟨k, hk, rfl, hbw⟩ := hrel
        by_cases hlt : k < N + 1
        · obtain ⟨a, ha⟩ : ∃ a, startN s.data.toList k = some a := startN_some (by have := HN.out; omega)
          have ha1 : a ≤ s.data.toList.length := (isStart_of ha).1
          have hq := nlAt_le (s.data.toList.drop a)
          rw [List.length_drop] at hq
          have hS := lineStartI_1 (n := (k : Int)) HT.out (by omega) (by simpa using ha)
          have hE := lineEndI_1 hS
          have hla := linesB_at ha
          obtain ⟨q, hqe⟩ : ∃ q, nlAt (s.data.toList.drop a) = q := ⟨_, rfl⟩
          rw [hqe] at hE hq hla
          obtain ⟨t, hta⟩ : ∃ t, a + q = t := ⟨_, rfl⟩
          rw [hta] at hla
          have hE2 := hE.trans (show (a : Int) + q = (t : Int) by omega)
          have HS := Lib.hid hS
          have HE := Lib.hid hE2
          have HLA := Lib.hid hla
          have j1 : a ≤ t := by omega
          have j2 : t ≤ s.size := by omega
          clear hS hE hE2 ha hqe hla hta
          go_wp2_with fail
          refine (implLineStart_any _ _ _ hsm).mono ?_
          rw [HS.out]
          rintro e w5 ⟨rfl, hb5⟩
          go_wp2_with fail
          refine (implLineEnd_any _ _ _ hsm).mono ?_
          rw [HE.out]
          rintro e w6 ⟨rfl, hb6⟩
          have hbw6 : Below w4.heap.size w4 w6 := bstep (bstep hbw hb5) hb6
          obtain ⟨ad, x, hA2, hba, hms, hc0⟩ := (hst4.below hbw6 (Nat.le_refl _)).at_ hlt
          subst hA2
          rw [HLA.out] at hms
          injection hms with hms
          subst hms
          have j0 : (k : Int) < (N : Int) + 1 := by omega
          have j3 : (a : Int) ≤ (t : Int) := by omega
          have j4 : (t : Int) ≤ (s.size : Int) := by omega
          have j5 : decide (t < a) = false := decide_eq_false (by omega)
          have j6 : decide (s.size < t) = false := decide_eq_false (by omega)
          clear hb5 hb6 hbw
          go_wp2_with fail
          go_quiet (fail)
          go_wp2
          go_roundw
          case rel => exact ⟨k + 1, by omega, by go_num, below_drewN hbw6 _⟩
          case measure => simp [intOf]; omega
        · have hkn : k = N + 1 := by omega
          subst hkn
          have ho5 := ho4.below hbw
          have hbw5 := bstep hbw4 hbw
          clear hbw ho4 hst4
          go_wp2_with fail
          refine (implLinesText_any _ _ _ _ _ _ _ (by omega) (by omega) ho5).mono ?_
          rw [HJT.out]
          rintro e w6 ⟨rfl, hb6⟩
          go_wp2_with (go_at_call 17; refine (implLineMany_any _ _ hsm).mono ?_; rw [HI.out]; rintro e w' ⟨rfl, rfl⟩)
          go_ret
          exact ⟨rfl, bstep hbw5 hb6⟩
end Go.Proofs.YtecejfcoognkiaaDoor.fnLinesOf
