/- The walk of the law FnMovePlace: the call returns true and turns nothing that was there. -/
import Derived.Test.YtlndlgbpnlfflaaD15
import Derived.Test.YtlndlgbpnlfflaaD3
import Derived.Test.YtlndlgbpnlfflaaW3
import Derived.Test.YtlndlgbpnlfflaaPf
import Derived.Deep.RegionHeld3
import Derived.Deep.RegionWith
namespace Go.Proofs.Ytlndlgbpnlfflaa.fnMovePlace
open Go.RowKit
/-- All numbers are small. -/
def Good (a c z pl : Int) : Prop := 0 ≤ a ∧ a ≤ 120 ∧ 0 ≤ c ∧ c ≤ 120 ∧ 0 ≤ pl ∧ pl ≤ 120 ∧ z ≤ 120
theorem good_or {a c z pl : Int} : Good a c z pl ∨ (a < 0 ∨ 120 < a ∨ c < 0 ∨ 120 < c ∨ pl < 0 ∨ 120 < pl ∨ 120 < z) := by
  unfold Good
  omega
theorem mpI_good {a c z pl : Int} {b : Bool} (h : Good a c z pl) : mpI a c z pl b = if pl < a then pl else if a + c < pl then pl + z - c else if b then a + z else a := by
  unfold Good at h
  unfold mpI
  rw [if_pos]
  simp only [Bool.and_eq_true, inI_iff, decide_eq_true_eq]
  omega
theorem mpI_range {a c z pl : Int} {b : Bool} (hz : 0 ≤ z) (h : Good a c z pl) : 0 ≤ mpI a c z pl b ∧ mpI a c z pl b ≤ 400 := by
  rw [mpI_good h]
  unfold Good at h
  cases b <;> (repeat' split) <;> omega
theorem mpI_neg {a c z pl : Int} {b : Bool} (hz : 0 ≤ z) (h : mpI a c z pl b < 0) : mpI a c z pl b = -1 := by
  rcases good_or (a := a) (c := c) (z := z) (pl := pl) with hg | hg
  · have := mpI_range (b := b) hz hg
    omega
  · exact mpI_bad hg
theorem mpI_get {a c z pl : Int} {b : Bool} (h : 0 ≤ mpI a c z pl b) : Good a c z pl := by
  rcases good_or (a := a) (c := c) (z := z) (pl := pl) with hg | hg
  · exact hg
  · rw [mpI_bad hg] at h
    omega
theorem mpI_mono {a c z pl pl' : Int} {b : Bool} (hz : 0 ≤ z) (hg : Good a c z pl) (h1 : pl ≤ pl') (h2 : pl' ≤ 120) : mpI a c z pl b ≤ mpI a c z pl' b := by
  have hg' : Good a c z pl' := by
    unfold Good at hg ⊢
    omega
  rw [mpI_good hg, mpI_good hg']
  unfold Good at hg
  cases b <;> (repeat' split) <;> omega
theorem mpI_stay {a c z pl : Int} {b : Bool} (hg : Good a c z pl) (h1 : pl < a) : mpI a c z pl b = pl := by
  rw [mpI_good hg, if_pos h1]
theorem mpI_after {a c z pl : Int} (hz : 0 ≤ z) (hg : Good a c z pl) : mpI a c z pl false ≤ mpI a c z pl true := by
  rw [mpI_good hg, mpI_good hg]
  simp only [if_true, Bool.false_eq_true, if_false]
  unfold Good at hg
  (repeat' split) <;> omega
set_option maxRecDepth 100000 in
set_option maxHeartbeats 16000000 in
theorem walk (A : Option Addr) (n c : Nat) (hnc : n ≤ c) (hc : c ≤ maxLen) (A' : Option Addr) (n' c' : Nat) (_ : n' ≤ c') (_ : c' ≤ maxLen) (w : World) (hb : Byt w w.heap.size A n) (_ : Byt w w.heap.size A' n') :
    Calls Try.prog 7 #[.slice A n c, .slice A' n' c'] w fun e w' => e = .returned (.bool true) ∧ Below w.heap.size w w' := by
  have hc' := hc
  unfold maxLen at hc'
  by_cases h : 1048576 < n
  · go_enter Try.func7, Try.ntmps7
    go_wp2
    go_ret
    exact ⟨rfl, Below.refl _ _⟩
  · by_cases h2 : 1048576 < n'
    · go_enter Try.func7, Try.ntmps7
      go_wp2
      go_ret
      exact ⟨rfl, Below.refl _ _⟩
    · go_enter Try.func7, Try.ntmps7
      go_wp2_with fail
      refine (DrawMovePlace_any _ _ _ _ hb hnc hc).mono ?_
      rintro e w1 ⟨a, x, p, pl, b, rfl, hp, hb1⟩
      have hpm : p.size ≤ maxLen := by unfold maxLen; omega
      have hz : (0 : Int) ≤ (p.size : Int) := by omega
      have B2 := B3.new w1 38 (.int .i64 a) (.int .i64 x) (.string p)
      have hb2 : Below w.heap.size w (w1.alloc (.cells #[.int .i64 a, .int .i64 x, .string p] 38)) := balloc hb1 _
      obtain ⟨c0, c1, c2⟩ := B2.cells
      go_wp2_with fail
      generalize w1.alloc (.cells #[.int .i64 a, .int .i64 x, .string p] 38) = w2 at B2 hb2 c0 c1 c2 ⊢
      rcases good_or (a := a) (c := x) (z := (p.size : Int)) (pl := pl) with hg | hg
      · obtain ⟨hr0, hr1⟩ := mpI_range (b := b) hz hg
        have hmono : ∀ pl', pl ≤ pl' → pl' ≤ 120 → mpI a x p.size pl b ≤ mpI a x p.size pl' b := fun pl' h1 h2 => mpI_mono hz hg h1 h2
        have hstay : pl < a → mpI a x p.size pl b = pl := fun h1 => mpI_stay hg h1
        have haft := mpI_after hz hg
        obtain ⟨ht0, ht1⟩ := mpI_range (b := true) hz hg
        obtain ⟨hf0, hf1⟩ := mpI_range (b := false) hz hg
        have hg2 := hg
        unfold Good at hg
        obtain ⟨g1, g2, g3, g4, g5, g6, g7⟩ := hg
        obtain ⟨N, hN⟩ : ∃ N, mpI a x p.size pl b = N := ⟨_, rfl⟩
        obtain ⟨NT, hNT⟩ : ∃ N, mpI a x p.size pl true = N := ⟨_, rfl⟩
        obtain ⟨NF, hNF⟩ : ∃ N, mpI a x p.size pl false = N := ⟨_, rfl⟩
        rw [hN] at hr0 hr1 hmono hstay
        rw [hNT] at ht0 ht1 haft
        rw [hNF] at hf0 hf1 haft
        have HN := Lib.hid hN
        have HNT := Lib.hid hNT
        have HNF := Lib.hid hNF
        have HM := Lib.hid hmono
        have HS := Lib.hid hstay
        clear hN hNT hNF hmono hstay hg2
        refine (implMovePlace_any a x pl p b _ hpm).mono ?_
        rw [HN.out]
        rintro e w3 ⟨rfl, hb3⟩
        have B3' := B2.next hb3
        have hbw3 := bstep hb2 hb3
        clear B2 hb3 c0 c1 c2
        obtain ⟨c0, c1, c2⟩ := B3'.cells
        go_wp2_with fail
        refine (specMovePlace_any a x pl p b _ hpm).mono ?_
        rw [HN.out]
        rintro e w4 ⟨rfl, hb4⟩
        have B4 := B3'.next hb4
        have hbw4 := bstep hbw3 hb4
        clear B3' hb4 c0 c1 c2
        obtain ⟨c0, c1, c2⟩ := B4.cells
        have hm0 : (0 : Int) ≤ (n' : Int) % 9 := by omega
        have hm1 : (n' : Int) % 9 ≤ 8 := by omega
        by_cases hl : pl + (n' : Int) % 9 < 120
        · obtain ⟨NL, hNL⟩ : ∃ N, mpI a x p.size (pl + (n' : Int) % 9) b = N := ⟨_, rfl⟩
          have hNL1 := HM.out (pl + (n' : Int) % 9) (by omega) (by omega)
          rw [hNL] at hNL1
          have HNL := Lib.hid hNL
          clear hNL
          have hz4 : w1.heap.size < w4.heap.size := B4.lt
          have q1 : decide (N ≤ NL) = true := decide_eq_true hNL1
          have q2 : decide (NF ≤ NT) = true := decide_eq_true haft
          by_cases hpa : pl < a
          · have e1 := HS.out hpa
            have q3 : decide (a ≤ pl) = false := decide_eq_false (by omega)
            have q4 : (N == pl) = true := by rw [e1]; simp
            clear e1
            go_wp2_with fail
            first
            | (go_region_held3 (fun w' => w'.cell? ⟨w1.heap.size, 0, none⟩ = some (.int .i64 a) ∧ w'.cell? ⟨w1.heap.size, 1, none⟩ = some (.int .i64 x) ∧ w'.cell? ⟨w1.heap.size, 2, none⟩ = some (.string p))
              (first
                | go_keep
                | (go_split_ands; exact ⟨(hb7.cell (p := ⟨w1.heap.size, 0, none⟩) hz6).trans (by assumption), (hb7.cell (p := ⟨w1.heap.size, 1, none⟩) hz6).trans (by assumption), (hb7.cell (p := ⟨w1.heap.size, 2, none⟩) hz6).trans (by assumption)⟩)
                | (go_split_ands; exact ⟨(hb6.cell (p := ⟨w1.heap.size, 0, none⟩) hz5).trans (by assumption), (hb6.cell (p := ⟨w1.heap.size, 1, none⟩) hz5).trans (by assumption), (hb6.cell (p := ⟨w1.heap.size, 2, none⟩) hz5).trans (by assumption)⟩)
                | (go_split_ands; exact ⟨(hb5.cell (p := ⟨w1.heap.size, 0, none⟩) hz4).trans (by assumption), (hb5.cell (p := ⟨w1.heap.size, 1, none⟩) hz4).trans (by assumption), (hb5.cell (p := ⟨w1.heap.size, 2, none⟩) hz4).trans (by assumption)⟩))
              ((first
                | (go_at_call 25; ((with_reducible refine (implMovePlace_any a x (pl + (n' : Int) % 9) p b _ hpm).mono ?_); rw [HNL.out]; rintro e w5 ⟨rfl, hb5⟩; have hz5 : w1.heap.size < w5.heap.size := Nat.lt_of_lt_of_le hz4 hb5.size))
                | (go_at_call 25; ((with_reducible refine (implMovePlace_any a x pl p true _ hpm).mono ?_); rw [HNT.out]; rintro e w6 ⟨rfl, hb6⟩; have hz6 : w1.heap.size < w6.heap.size := Nat.lt_of_lt_of_le hz5 hb6.size))
                | (go_at_call 25; ((with_reducible refine (implMovePlace_any a x pl p false _ hpm).mono ?_); rw [HNF.out]; rintro e w7 ⟨rfl, hb7⟩)))))
            | fail
            go_wp2
            go_ret
            exact ⟨ret_bool (by simp <;> omega), bstep (bstep (bstep (bdrew hbw4) hb5) hb6) hb7⟩
          · have q3 : decide (a ≤ pl) = true := decide_eq_true (by omega)
            go_wp2_with fail
            first
            | (go_region_with ((first
                | (go_at_call 25; ((with_reducible refine (implMovePlace_any a x (pl + (n' : Int) % 9) p b _ hpm).mono ?_); rw [HNL.out]; rintro e w5 ⟨rfl, hb5⟩; have hz5 : w1.heap.size < w5.heap.size := Nat.lt_of_lt_of_le hz4 hb5.size; have k50 := (hb5.cell (p := ⟨w1.heap.size, 0, none⟩) hz4).trans c0; have k51 := (hb5.cell (p := ⟨w1.heap.size, 1, none⟩) hz4).trans c1; have k52 := (hb5.cell (p := ⟨w1.heap.size, 2, none⟩) hz4).trans c2))
                | (go_at_call 25; ((with_reducible refine (implMovePlace_any a x pl p true _ hpm).mono ?_); rw [HNT.out]; rintro e w6 ⟨rfl, hb6⟩; have hz6 : w1.heap.size < w6.heap.size := Nat.lt_of_lt_of_le hz5 hb6.size; have k60 := (hb6.cell (p := ⟨w1.heap.size, 0, none⟩) hz5).trans k50; have k61 := (hb6.cell (p := ⟨w1.heap.size, 1, none⟩) hz5).trans k51; have k62 := (hb6.cell (p := ⟨w1.heap.size, 2, none⟩) hz5).trans k52))
                | (go_at_call 25; ((with_reducible refine (implMovePlace_any a x pl p false _ hpm).mono ?_); rw [HNF.out]; rintro e w7 ⟨rfl, hb7⟩; have hz7 : w1.heap.size < w7.heap.size := Nat.lt_of_lt_of_le hz6 hb7.size; have k70 := (hb7.cell (p := ⟨w1.heap.size, 0, none⟩) hz6).trans k60; have k71 := (hb7.cell (p := ⟨w1.heap.size, 1, none⟩) hz6).trans k61; have k72 := (hb7.cell (p := ⟨w1.heap.size, 2, none⟩) hz6).trans k62)))))
            | fail
            all_goals
              go_wp2
              go_ret
              exact ⟨ret_bool (by simp <;> omega), bstep (bstep (bstep (bdrew hbw4) hb5) hb6) hb7⟩
        · obtain ⟨NL, hNL⟩ : ∃ N, mpI a x p.size (120) b = N := ⟨_, rfl⟩
          have hNL1 := HM.out (120) (by omega) (by omega)
          rw [hNL] at hNL1
          have HNL := Lib.hid hNL
          clear hNL
          have hz4 : w1.heap.size < w4.heap.size := B4.lt
          have q1 : decide (N ≤ NL) = true := decide_eq_true hNL1
          have q2 : decide (NF ≤ NT) = true := decide_eq_true haft
          by_cases hpa : pl < a
          · have e1 := HS.out hpa
            have q3 : decide (a ≤ pl) = false := decide_eq_false (by omega)
            have q4 : (N == pl) = true := by rw [e1]; simp
            clear e1
            go_wp2_with fail
            first
            | (go_region_held3 (fun w' => w'.cell? ⟨w1.heap.size, 0, none⟩ = some (.int .i64 a) ∧ w'.cell? ⟨w1.heap.size, 1, none⟩ = some (.int .i64 x) ∧ w'.cell? ⟨w1.heap.size, 2, none⟩ = some (.string p))
              (first
                | go_keep
                | (go_split_ands; exact ⟨(hb7.cell (p := ⟨w1.heap.size, 0, none⟩) hz6).trans (by assumption), (hb7.cell (p := ⟨w1.heap.size, 1, none⟩) hz6).trans (by assumption), (hb7.cell (p := ⟨w1.heap.size, 2, none⟩) hz6).trans (by assumption)⟩)
                | (go_split_ands; exact ⟨(hb6.cell (p := ⟨w1.heap.size, 0, none⟩) hz5).trans (by assumption), (hb6.cell (p := ⟨w1.heap.size, 1, none⟩) hz5).trans (by assumption), (hb6.cell (p := ⟨w1.heap.size, 2, none⟩) hz5).trans (by assumption)⟩)
                | (go_split_ands; exact ⟨(hb5.cell (p := ⟨w1.heap.size, 0, none⟩) hz4).trans (by assumption), (hb5.cell (p := ⟨w1.heap.size, 1, none⟩) hz4).trans (by assumption), (hb5.cell (p := ⟨w1.heap.size, 2, none⟩) hz4).trans (by assumption)⟩))
              ((first
                | (go_at_call 25; ((with_reducible refine (implMovePlace_any a x (120) p b _ hpm).mono ?_); rw [HNL.out]; rintro e w5 ⟨rfl, hb5⟩; have hz5 : w1.heap.size < w5.heap.size := Nat.lt_of_lt_of_le hz4 hb5.size))
                | (go_at_call 25; ((with_reducible refine (implMovePlace_any a x pl p true _ hpm).mono ?_); rw [HNT.out]; rintro e w6 ⟨rfl, hb6⟩; have hz6 : w1.heap.size < w6.heap.size := Nat.lt_of_lt_of_le hz5 hb6.size))
                | (go_at_call 25; ((with_reducible refine (implMovePlace_any a x pl p false _ hpm).mono ?_); rw [HNF.out]; rintro e w7 ⟨rfl, hb7⟩)))))
            | fail
            go_wp2
            go_ret
            exact ⟨ret_bool (by simp <;> omega), bstep (bstep (bstep (bdrew hbw4) hb5) hb6) hb7⟩
          · have q3 : decide (a ≤ pl) = true := decide_eq_true (by omega)
            go_wp2_with fail
            first
            | (go_region_with ((first
                | (go_at_call 25; ((with_reducible refine (implMovePlace_any a x (120) p b _ hpm).mono ?_); rw [HNL.out]; rintro e w5 ⟨rfl, hb5⟩; have hz5 : w1.heap.size < w5.heap.size := Nat.lt_of_lt_of_le hz4 hb5.size; have k50 := (hb5.cell (p := ⟨w1.heap.size, 0, none⟩) hz4).trans c0; have k51 := (hb5.cell (p := ⟨w1.heap.size, 1, none⟩) hz4).trans c1; have k52 := (hb5.cell (p := ⟨w1.heap.size, 2, none⟩) hz4).trans c2))
                | (go_at_call 25; ((with_reducible refine (implMovePlace_any a x pl p true _ hpm).mono ?_); rw [HNT.out]; rintro e w6 ⟨rfl, hb6⟩; have hz6 : w1.heap.size < w6.heap.size := Nat.lt_of_lt_of_le hz5 hb6.size; have k60 := (hb6.cell (p := ⟨w1.heap.size, 0, none⟩) hz5).trans k50; have k61 := (hb6.cell (p := ⟨w1.heap.size, 1, none⟩) hz5).trans k51; have k62 := (hb6.cell (p := ⟨w1.heap.size, 2, none⟩) hz5).trans k52))
                | (go_at_call 25; ((with_reducible refine (implMovePlace_any a x pl p false _ hpm).mono ?_); rw [HNF.out]; rintro e w7 ⟨rfl, hb7⟩; have hz7 : w1.heap.size < w7.heap.size := Nat.lt_of_lt_of_le hz6 hb7.size; have k70 := (hb7.cell (p := ⟨w1.heap.size, 0, none⟩) hz6).trans k60; have k71 := (hb7.cell (p := ⟨w1.heap.size, 1, none⟩) hz6).trans k61; have k72 := (hb7.cell (p := ⟨w1.heap.size, 2, none⟩) hz6).trans k62)))))
            | fail
            all_goals
              go_wp2
              go_ret
              exact ⟨ret_bool (by simp <;> omega), bstep (bstep (bstep (bdrew hbw4) hb5) hb6) hb7⟩
      · have hN := mpI_bad (b := b) hg
        have HN := Lib.hid hN
        clear hN hg
        refine (implMovePlace_any a x pl p b _ hpm).mono ?_
        rw [HN.out]
        rintro e w3 ⟨rfl, hb3⟩
        have B3' := B2.next hb3
        have hbw3 := bstep hb2 hb3
        clear B2 hb3 c0 c1 c2
        obtain ⟨c0, c1, c2⟩ := B3'.cells
        go_wp2_with fail
        refine (specMovePlace_any a x pl p b _ hpm).mono ?_
        rw [HN.out]
        rintro e w4 ⟨rfl, hb4⟩
        go_wp2_with (go_at_call 14; refine (alive_any _).mono ?_; rintro e w' ⟨rfl, rfl⟩)
        go_ret
        exact ⟨rfl, bstep hbw3 hb4⟩
end Go.Proofs.Ytlndlgbpnlfflaa.fnMovePlace
