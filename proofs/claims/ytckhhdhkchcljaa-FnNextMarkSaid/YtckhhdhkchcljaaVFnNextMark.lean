/- The walk of the law FnNextMark: the call returns true and turns nothing that was there. -/
import Derived.Test.YtckhhdhkchcljaaD12
import Derived.Test.YtckhhdhkchcljaaD3
import Derived.Test.YtckhhdhkchcljaaW12
import Derived.WalkSmall
namespace Go.Proofs.Ytckhhdhkchcljaa.fnNextMark
open Go.RowKit
theorem best_spec (ms : List (Int × Bool)) (pl : Int) (k : Nat) (hk : k ≤ ms.length) :
    (bestN ms pl k = -1 ∧ ∀ i, i < k → ∀ p b, ms[i]? = some (p, b) → p ≤ pl) ∨
    (∃ (J : Nat) (p' : Int) (b' : Bool), J < k ∧ bestN ms pl k = (J : Int) ∧ ms[J]? = some (p', b') ∧ pl < p' ∧ ∀ i, i < k → ∀ p b, ms[i]? = some (p, b) → pl < p → p' < p ∨ (p' = p ∧ J ≤ i)) := by
  induction k with
  | zero => exact .inl ⟨rfl, fun i hi => absurd hi (by omega)⟩
  | succ k ih =>
    obtain ⟨⟨q, c⟩, hq⟩ : ∃ m, ms[k]? = some m := ⟨_, List.getElem?_eq_getElem (by omega)⟩
    have key : ∀ i p b, i < k + 1 → ms[i]? = some (p, b) → i < k ∨ (i = k ∧ p = q) := fun i p b hi hm => by
      rcases Nat.lt_or_ge i k with h | h
      · exact .inl h
      · have : i = k := by omega
        subst this
        rw [hq] at hm
        injection hm with hm
        injection hm with hm _
        exact .inr ⟨rfl, hm.symm⟩
    rcases ih (by omega) with ⟨h1, h2⟩ | ⟨J, p', b', hJ, h1, h2, h3, h4⟩
    · by_cases hp : pl < q
      · refine .inr ⟨k, q, c, by omega, bestN_first hq hp h1 (by omega), hq, hp, fun i hi p b hm h5 => ?_⟩
        rcases key i p b hi hm with h | ⟨rfl, rfl⟩
        · have := h2 i h p b hm
          omega
        · exact .inr ⟨rfl, Nat.le_refl _⟩
      · refine .inl ⟨bestN_keep hq hp h1, fun i hi p b hm => ?_⟩
        rcases key i p b hi hm with h | ⟨rfl, rfl⟩
        · exact h2 i h p b hm
        · omega
    · by_cases hp : pl < q
      · by_cases hl : q < p'
        · refine .inr ⟨k, q, c, by omega, bestN_less hq hp h1 h2 hl, hq, hp, fun i hi p b hm h5 => ?_⟩
          rcases key i p b hi hm with h | ⟨rfl, rfl⟩
          · have := h4 i h p b hm h5
            left
            omega
          · exact .inr ⟨rfl, Nat.le_refl _⟩
        · refine .inr ⟨J, p', b', by omega, bestN_more hq h1 h2 (by omega), h2, h3, fun i hi p b hm h5 => ?_⟩
          rcases key i p b hi hm with h | ⟨rfl, rfl⟩
          · exact h4 i h p b hm h5
          · omega
      · refine .inr ⟨J, p', b', by omega, bestN_keep hq hp h1, h2, h3, fun i hi p b hm h5 => ?_⟩
        rcases key i p b hi hm with h | ⟨rfl, rfl⟩
        · exact h4 i h p b hm h5
        · omega
set_option maxRecDepth 100000 in
set_option maxHeartbeats 3200000 in
theorem walk (A : Option Addr) (n c : Nat) (hnc : n ≤ c) (hc : c ≤ maxLen) (w : World) (hb : Byt w w.heap.size A n) :
    Calls Try.prog 7 #[.slice A n c] w fun e w' => e = .returned (.bool true) ∧ Below w.heap.size w w' := by
  have hc' := hc
  unfold maxLen at hc'
  by_cases h : 1048576 < n
  · go_enter Try.func7, Try.ntmps7
    go_wp2
    go_ret
    exact ⟨rfl, Below.refl _ _⟩
  · go_enter Try.func7, Try.ntmps7
    go_wp2_with fail
    refine (DrawNextMark_any _ _ _ _ hb hnc hc).mono ?_
    rintro e w1 ⟨s, A', k, c', ms, pl, rfl, hs, hk, ho, hb1⟩
    have hsm : s.size ≤ maxLen := by unfold maxLen; omega
    have hM1 := ho.marks
    go_wp2_with fail
    cases hv : marksB s.data.toList ms
    · have HX := Lib.hid (nextR_0 (pl := pl) hv)
      have HV := Lib.hid hv
      clear hv
      with_reducible refine (implNextMark_any s A' k c' ms pl _ hsm (by omega) hM1).mono ?_
      rw [HX.out]
      rintro e w2 ⟨rfl, hb2⟩
      have ho2 := ho.below hb2
      have hM2 := ho2.marks
      have hbw2 := bstep hb1 hb2
      clear ho hM1
      go_wp2_with fail
      with_reducible refine (specNextMark_any s A' k c' ms pl _ hsm (by omega) hM2).mono ?_
      rw [HX.out]
      rintro e w3 ⟨rfl, hb3⟩
      have hM3 := (ho2.below hb3).marks
      have hbw3 := bstep hbw2 hb3
      clear ho2 hM2
      go_wp2_with (first | (go_at_call 26; refine (specMarksValid_any s A' k c' ms _ hsm (by omega) hM3).mono ?_; rw [HV.out]; rintro e w' ⟨rfl, rfl⟩) | (go_at_call 17; refine (alive_any _).mono ?_; rintro e w' ⟨rfl, rfl⟩))
      go_ret
      exact ⟨rfl, hbw3⟩
    · have hml : ms.length = k := ho.1
      have HV := Lib.hid hv
      rcases best_spec ms pl ms.length (Nat.le_refl _) with ⟨h1, h2⟩ | ⟨J, p', b', hJ, h1, h2, h3, h4⟩
      · have HX := Lib.hid ((nextR_1 (pl := pl) hv).trans h1)
        clear hv h1
        with_reducible refine (implNextMark_any s A' k c' ms pl _ hsm (by omega) hM1).mono ?_
        rw [HX.out]
        rintro e w2 ⟨rfl, hb2⟩
        have ho2 := ho.below hb2
        have hM2 := ho2.marks
        have hbw2 := bstep hb1 hb2
        clear ho hM1
        go_wp2_with fail
        with_reducible refine (specNextMark_any s A' k c' ms pl _ hsm (by omega) hM2).mono ?_
        rw [HX.out]
        rintro e w3 ⟨rfl, hb3⟩
        have hM3 := (ho2.below hb3).marks
        have hbw3 := bstep hbw2 hb3
        clear ho2 hM2
        go_wp2_with (first | (go_at_call 26; refine (specMarksValid_any s A' k c' ms _ hsm (by omega) hM3).mono ?_; rw [HV.out]; rintro e w' ⟨rfl, rfl⟩) | fail)
        go_loopw [7] (fun i wr => ∃ q : Nat, q ≤ k ∧ i = .int .i64 q ∧ Below w3.heap.size w3 wr) (fun i _ => k - (intOf i).toNat)
        case atStart => exact ⟨0, Nat.zero_le _, rfl, Below.refl _ _⟩
        case round =>
          obtain ⟨q, hq, rfl, hbr⟩ := hrel
          by_cases hlt : q < k
          · obtain ⟨ad, p, b, rfl, hbl, hms, m0, m1, m2⟩ := (hM3.below hbr (Nat.le_refl _)).at_ hlt
            have hle := h2 q (by omega) p b hms
            have hd : decide (pl < p) = false := by simpa using hle
            have j1 : (q : Int) < (k : Int) := by omega
            clear hle hms
            go_wp2_with fail
            go_quiet (fail)
            go_wp2
            go_roundw
            case rel => exact ⟨q + 1, by omega, by go_num, below_drewN hbr _⟩
            case measure => simp [intOf]; omega
          · go_wp2
            go_ret
            exact ⟨rfl, bstep hbw3 hbr⟩
      · have HX := Lib.hid ((nextR_1 (pl := pl) hv).trans h1)
        clear hv h1
        have hJk : J < k := by omega
        with_reducible refine (implNextMark_any s A' k c' ms pl _ hsm (by omega) hM1).mono ?_
        rw [HX.out]
        rintro e w2 ⟨rfl, hb2⟩
        have ho2 := ho.below hb2
        have hM2 := ho2.marks
        have hbw2 := bstep hb1 hb2
        clear ho hM1
        go_wp2_with fail
        with_reducible refine (specNextMark_any s A' k c' ms pl _ hsm (by omega) hM2).mono ?_
        rw [HX.out]
        rintro e w3 ⟨rfl, hb3⟩
        have hM3 := (ho2.below hb3).marks
        have hbw3 := bstep hbw2 hb3
        clear ho2 hM2
        go_wp2_with (first | (go_at_call 26; refine (specMarksValid_any s A' k c' ms _ hsm (by omega) hM3).mono ?_; rw [HV.out]; rintro e w' ⟨rfl, rfl⟩) | fail)
        go_loopw [7] (fun i wr => ∃ q : Nat, q ≤ k ∧ i = .int .i64 q ∧ Below w3.heap.size w3 wr) (fun i _ => k - (intOf i).toNat)
        case atStart => exact ⟨0, Nat.zero_le _, rfl, Below.refl _ _⟩
        case round =>
          obtain ⟨q, hq, rfl, hbr⟩ := hrel
          obtain ⟨ad', p2, b2, hA2, hbl', hms', n0, n1, n2⟩ := (hM3.below hbr (Nat.le_refl _)).at_ hJk
          rw [h2] at hms'
          injection hms' with hms'
          injection hms' with e1 e2
          subst e1 e2
          by_cases hlt : q < k
          · obtain ⟨ad, p, b, hA1, hbl, hms, m0, m1, m2⟩ := (hM3.below hbr (Nat.le_refl _)).at_ hlt
            rw [hA2] at hA1
            injection hA1 with hA1
            subst hA1
            subst hA2
            have j1 : (q : Int) < (k : Int) := by omega
            have j2 : (J : Int) < (k : Int) := by omega
            have j3 : (0 : Int) ≤ (J : Int) := by omega
            by_cases hp : pl < p
            · have hr := h4 q (by omega) p b hms hp
              have hd : decide (pl < p) = true := by simpa using hp
              have k1 : decide ((J : Int) < 0) = false := by simp
              have k2 : decide ((k : Int) ≤ (J : Int)) = false := by simp; omega
              have k3 : decide (p < p') = false := by
                have : ¬ p < p' := by omega
                simpa using this
              by_cases he : p = p'
              · subst he
                have k4 : decide (q < J) = false := by
                  have : ¬ q < J := by omega
                  simpa using this
                clear hr hms h4 h2
                go_wp2_with fail
                go_quiet (fail)
                go_wp2
                go_roundw
                case rel => exact ⟨q + 1, by omega, by go_num, below_drewN hbr _⟩
                case measure => simp [intOf]; omega
              · have k4 : (p == p') = false := by simpa using he
                clear hr hms h4 h2 he
                go_wp2_with fail
                go_quiet (fail)
                go_wp2
                go_roundw
                case rel => exact ⟨q + 1, by omega, by go_num, below_drewN hbr _⟩
                case measure => simp [intOf]; omega
            · have hd : decide (pl < p) = false := by
                have : p ≤ pl := by omega
                simpa using this
              clear hms h4 h2
              go_wp2_with fail
              go_quiet (fail)
              go_wp2
              go_roundw
              case rel => exact ⟨q + 1, by omega, by go_num, below_drewN hbr _⟩
              case measure => simp [intOf]; omega
          · subst hA2
            have k1 : ((J : Int) == -1) = false := by
              rw [beq_eq_false_iff_ne]
              omega
            have k2 : decide ((0 : Int) ≤ (J : Int)) = true := by simp
            have k3 : decide ((J : Int) < (k : Int)) = true := by
              have : (J : Int) < (k : Int) := by omega
              simpa using this
            have k4 : decide (pl < p') = true := by simpa using h3
            have k5 : (J : Int) < (k : Int) := by omega
            clear h4 h2
            go_wp2
            go_ret
            exact ⟨rfl, bstep hbw3 hbr⟩
end Go.Proofs.Ytckhhdhkchcljaa.fnNextMark
