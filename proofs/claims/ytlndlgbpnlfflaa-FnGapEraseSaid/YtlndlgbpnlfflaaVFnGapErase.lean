/- The walk of the law FnGapErase: the call returns true and turns nothing that was there. -/
import Derived.Test.YtlndlgbpnlfflaaD17
import Derived.Test.YtlndlgbpnlfflaaD3
import Derived.Test.YtlndlgbpnlfflaaW6
import Derived.Test.YtlndlgbpnlfflaaW7
import Derived.Test.YtlndlgbpnlfflaaPf
import Derived.Deep.RegionHeld3
namespace Go.Proofs.Ytlndlgbpnlfflaa.fnGapErase
open Go.RowKit
theorem erase_good {a b : List UInt8} {j : Nat} (h : tvB (a ++ b) = true) (hj : j ≤ a.length) : eraseR a b (j : Int) = ((a.take (a.length - j), b), true) ∧ applyR (a ++ b) ((a.length : Int) - j) j [] = (a.take (a.length - j) ++ b, true) ∧ tvB (a.take (a.length - j) ++ b) = true := by
  have e1 : ((a.length : Int) - (j : Int)).toNat = a.length - j := by omega
  have e2 : ((a.length : Int) - (j : Int) + (j : Int)).toNat = a.length := by omega
  have hl := tvB_len h
  have hf : fitsB (a ++ b) ((a.length : Int) - j) j [] = true := fitsB_iff.2 ⟨h, by omega, by omega, by rw [List.length_append]; omega, rfl, by rw [List.length_append] at hl ⊢; simp; omega⟩
  have ho : outL (a ++ b) ((a.length : Int) - j) j [] = a.take (a.length - j) ++ b := by
    unfold outL
    rw [e1, e2, List.take_append_of_le_length (by omega), List.drop_left, List.append_nil]
  refine ⟨?_, ?_, ?_⟩
  · rw [eraseR_2 h (inI_yes (by omega) (by omega)), e1]
  · rw [applyR_2 hf, ho]
  · rw [← ho]
    exact out_tv hf
set_option maxRecDepth 100000 in
set_option maxHeartbeats 1600000 in
theorem walk (A : Option Addr) (n c : Nat) (hnc : n ≤ c) (hc : c ≤ maxLen) (w : World) (hb : Byt w w.heap.size A n) :
    Calls Try.prog 5 #[.slice A n c] w fun e w' => e = .returned (.bool true) ∧ Below w.heap.size w w' := by
  have hc' := hc
  unfold maxLen at hc'
  by_cases h : 1048576 < n
  · go_enter Try.func5, Try.ntmps5
    go_wp2
    go_ret
    exact ⟨rfl, Below.refl _ _⟩
  · go_enter Try.func5, Try.ntmps5
    go_wp2_with fail
    refine (DrawGapErase_any _ _ _ _ hb hnc hc).mono ?_
    rintro e w1 ⟨a, b, q, rfl, hs, hq, hb1⟩
    have G2 := B2.new w1 24 (.string a) (.string b)
    have hb2 : Below w.heap.size w (w1.alloc (.cells #[.string a, .string b] 24)) := balloc hb1 _
    obtain ⟨c0, c1⟩ := G2.cells
    go_wp2_with fail
    generalize w1.alloc (.cells #[.string a, .string b] 24) = w2 at G2 hb2 c0 c1 ⊢
    generalize w1.heap.size = g at G2 c0 c1 ⊢
    have hal : a.data.toList.length = a.size := rfl
    have hbl : b.data.toList.length = b.size := rfl
    have hcase : (∃ X Y : ByteArray, (Value.tuple #[gapV (eraseR a.data.toList b.data.toList q).1, .bool (eraseR a.data.toList b.data.toList q).2]) = .tuple #[.agg #[.string X, .string Y], .bool false] ∧ ((X = ⟨#[]⟩ ∧ Y = ⟨#[]⟩) ∨ (X = a ∧ Y = b))) ∨
        ∃ (j : Nat) (X U T : ByteArray), q = j ∧ j ≤ a.size ∧ (Value.tuple #[gapV (eraseR a.data.toList b.data.toList q).1, .bool (eraseR a.data.toList b.data.toList q).2]) = .tuple #[.agg #[.string X, .string b], .bool true] ∧ X.size = a.size - j ∧ mk (gapTextL a.data.toList b.data.toList) = T ∧ T.size ≤ 130 ∧ strBoolV (applyR T.data.toList ((a.size : Int) - (j : Int)) j (⟨#[]⟩ : ByteArray).data.toList) = .tuple #[.string U, .bool true] ∧ mk (gapTextL X.data.toList b.data.toList) = U := by
      cases ht : tvB (a.data.toList ++ b.data.toList)
      · refine .inl ⟨⟨#[]⟩, ⟨#[]⟩, ?_, .inl ⟨rfl, rfl⟩⟩
        rw [eraseR_0 ht]
        rfl
      · by_cases hr : 0 ≤ q ∧ q ≤ a.size
        · obtain ⟨j, rfl⟩ := Int.eq_ofNat_of_zero_le hr.1
          have hj : j ≤ a.data.toList.length := by omega
          obtain ⟨h1, h2, h3⟩ := erase_good ht hj
          refine .inr ⟨j, mk (a.data.toList.take (a.data.toList.length - j)), mk (a.data.toList.take (a.data.toList.length - j) ++ b.data.toList), mk (a.data.toList ++ b.data.toList), rfl, by omega, ?_, ?_, ?_, ?_, ?_, ?_⟩
          · rw [h1]
            rfl
          · rw [mk_size, List.length_take]
            omega
          · rw [gapText_1 ht]
          · rw [mk_size, List.length_append]
            omega
          · rw [mk_data, ← hal, show (⟨#[]⟩ : ByteArray).data.toList = [] from rfl, h2]
            rfl
          · rw [mk_data, gapText_1 h3]
        · refine .inl ⟨a, b, ?_, .inr ⟨rfl, rfl⟩⟩
          rw [eraseR_1 ht (inI_no (by omega))]
          rfl
    rcases hcase with ⟨X, Y, hR, h0⟩ | ⟨j, X, U, T, rfl, hj, hR, hXs, hT, hTs, hAP, hU⟩
    · have HR := Lib.hid hR
      clear hR
      with_reducible refine (implGapErase_any a b q w2 (by omega)).mono ?_
      rw [HR.out]
      rintro e w3 ⟨rfl, hb3⟩
      have G3 := G2.next hb3
      have hbw3 := bstep hb2 hb3
      have G4 := G3.alloc (.cells #[.string X, .string Y] 24)
      have X4 := B2.new w3 24 (.string X) (.string Y)
      have hbw4 : Below w.heap.size w (w3.alloc (.cells #[.string X, .string Y] 24)) := balloc hbw3 _
      clear G2 hb2 hb3 G3 hbw3 c0 c1
      obtain ⟨c0, c1⟩ := G4.cells
      go_wp2_with fail
      generalize w3.alloc (.cells #[.string X, .string Y] 24) = w4 at G4 X4 hbw4 c0 c1 ⊢
      generalize w3.heap.size = gx at X4 ⊢
      with_reducible refine (specGapErase_any a b q w4 (by omega)).mono ?_
      rw [HR.out]
      rintro e w5 ⟨rfl, hb5⟩
      have G5 := G4.next hb5
      have X5 := X4.next hb5
      have hbw5 := bstep hbw4 hb5
      have G6 := G5.alloc (.cells #[.string X, .string Y] 24)
      have X6 := X5.alloc (.cells #[.string X, .string Y] 24)
      have Y6 := B2.new w5 24 (.string X) (.string Y)
      have hbw6 : Below w.heap.size w (w5.alloc (.cells #[.string X, .string Y] 24)) := balloc hbw5 _
      have hlx6 : gx < w5.heap.size := X5.lt
      have hlg6 : g < w5.heap.size := G5.lt
      clear G4 X4 hbw4 hb5 G5 X5 hbw5 c0 c1
      obtain ⟨c0, c1⟩ := G6.cells
      obtain ⟨d0, d1⟩ := X6.cells
      obtain ⟨e0, e1⟩ := Y6.cells
      rcases h0 with ⟨rfl, rfl⟩ | ⟨rfl, rfl⟩
      · go_wp2_with (go_at_call 14; refine (alive_any _).mono ?_; rintro e w' ⟨rfl, rfl⟩)
        go_ret
        exact ⟨rfl, hbw6⟩
      · cases hx1 : X.toList.isEmpty <;> cases hx2 : Y.toList.isEmpty
        all_goals
          go_wp2_with (go_at_call 14; refine (alive_any _).mono ?_; rintro e w' ⟨rfl, rfl⟩)
          go_ret
          exact ⟨rfl, hbw6⟩
    · have HR := Lib.hid hR
      have HT := Lib.hid hT
      have HAP := Lib.hid hAP
      have HU := Lib.hid hU
      have hw1 : IntKind.i64.wrap ((a.size : Int) - (j : Int)) = (a.size : Int) - (j : Int) := IntWalk.i64_in _ (by omega)
      obtain ⟨Y, hY⟩ : ∃ Y : ByteArray, b = Y := ⟨_, rfl⟩
      subst hY
      clear hR hT hAP hU
      with_reducible refine (implGapErase_any a b (j : Int) w2 (by omega)).mono ?_
      rw [HR.out]
      rintro e w3 ⟨rfl, hb3⟩
      have G3 := G2.next hb3
      have hbw3 := bstep hb2 hb3
      have G4 := G3.alloc (.cells #[.string X, .string b] 24)
      have X4 := B2.new w3 24 (.string X) (.string b)
      have hbw4 : Below w.heap.size w (w3.alloc (.cells #[.string X, .string b] 24)) := balloc hbw3 _
      clear G2 hb2 hb3 G3 hbw3 c0 c1
      obtain ⟨c0, c1⟩ := G4.cells
      go_wp2_with fail
      generalize w3.alloc (.cells #[.string X, .string b] 24) = w4 at G4 X4 hbw4 c0 c1 ⊢
      generalize w3.heap.size = gx at X4 ⊢
      with_reducible refine (specGapErase_any a b (j : Int) w4 (by omega)).mono ?_
      rw [HR.out]
      rintro e w5 ⟨rfl, hb5⟩
      have G5 := G4.next hb5
      have X5 := X4.next hb5
      have hbw5 := bstep hbw4 hb5
      have G6 := G5.alloc (.cells #[.string X, .string b] 24)
      have X6 := X5.alloc (.cells #[.string X, .string b] 24)
      have Y6 := B2.new w5 24 (.string X) (.string b)
      have hbw6 : Below w.heap.size w (w5.alloc (.cells #[.string X, .string b] 24)) := balloc hbw5 _
      have hlx6 : gx < w5.heap.size := X5.lt
      have hlg6 : g < w5.heap.size := G5.lt
      clear G4 X4 hbw4 hb5 G5 X5 hbw5 c0 c1
      obtain ⟨c0, c1⟩ := G6.cells
      obtain ⟨d0, d1⟩ := X6.cells
      obtain ⟨e0, e1⟩ := Y6.cells
      have hXi : (X.size : Int) = (a.size : Int) - (j : Int) := by omega
      have HXI := Lib.hid hXi
      clear hXi
      go_wp2_with fail
      generalize w5.alloc (.cells #[.string X, .string b] 24) = w6 at G6 X6 Y6 hbw6 c0 c1 d0 d1 e0 e1 ⊢
      have hlg : g < w6.heap.size := G6.lt
      go_region_held3 (fun w' => w'.cell? ⟨g, 0, none⟩ = some (.string a) ∧ w'.cell? ⟨g, 1, none⟩ = some (.string b))
        (first
          | go_keep
          | (go_split_ands; exact ⟨(hb7.cell (p := ⟨g, 0, none⟩) hlg).trans (by assumption), (hb7.cell (p := ⟨g, 1, none⟩) hlg).trans (by assumption)⟩)
          | (go_split_ands; exact ⟨(hb8.cell (p := ⟨g, 0, none⟩) hlg7).trans (by assumption), (hb8.cell (p := ⟨g, 1, none⟩) hlg7).trans (by assumption)⟩))
        ((first
          | (go_at_call 15; ((with_reducible refine (implGapText_any a b _ (by omega)).mono ?_); rw [HT.out]; rintro e w7 ⟨rfl, hb7⟩; have hlg7 : g < w7.heap.size := Nat.lt_of_lt_of_le hlg hb7.size))
          | (go_at_call 20; (refine (implApplyChange_any T ((a.size : Int) - (j : Int)) j ⟨#[]⟩ _ (by show T.size + 0 ≤ 1099511627776; omega)).mono ?_); rw [HAP.out]; rintro e w8 ⟨rfl, hb8⟩)))
      have X8 := (X6.drew.next hb7).next hb8
      have G8 := (G6.drew.next hb7).next hb8
      have hbw8 := bstep (bstep (bdrew hbw6) hb7) hb8
      clear X6 G6 Y6 hbw6 hb7 hb8 c0 c1 d0 d1 e0 e1
      obtain ⟨c0, c1⟩ := G8.cells
      obtain ⟨d0, d1⟩ := X8.cells
      go_wp2_with fail
      with_reducible refine (implGapText_any X b _ (by omega)).mono ?_
      rw [HU.out]
      rintro e w9 ⟨rfl, hb9⟩
      have G9 := G8.next hb9
      have X9 := X8.next hb9
      have hbw9 := bstep hbw8 hb9
      clear X8 G8 c0 c1 d0 d1
      obtain ⟨c0, c1⟩ := G9.cells
      obtain ⟨d0, d1⟩ := X9.cells
      have hxi := HXI.out
      go_wp2
      go_ret
      exact ⟨ret_bool (by simp <;> omega), hbw9⟩
end Go.Proofs.Ytlndlgbpnlfflaa.fnGapErase
