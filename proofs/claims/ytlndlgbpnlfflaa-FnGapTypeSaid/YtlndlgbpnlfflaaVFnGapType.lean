/- The walk of the law FnGapType: the call returns true and turns nothing that was there. -/
import Derived.Test.YtlndlgbpnlfflaaD17
import Derived.Test.YtlndlgbpnlfflaaD3
import Derived.Test.YtlndlgbpnlfflaaW6
import Derived.Test.YtlndlgbpnlfflaaW7
import Derived.Test.YtlndlgbpnlfflaaPf
import Derived.Deep.RegionHeld3
namespace Go.Proofs.Ytlndlgbpnlfflaa.fnGapType
open Go.RowKit
theorem type_good {a b p : List UInt8} (h : tvB (a ++ b) = true) (h2 : tvB (a ++ p ++ b) = true) : eraseR (a ++ p) b (p.length : Int) = ((a, b), true) ∧ applyR (a ++ b) (a.length : Int) 0 p = (a ++ p ++ b, true) := by
  have hl := tvB_len h
  have hl2 := tvB_len h2
  have hp : plain p = true := by
    have := tvB_plain h2
    rw [plain_append, plain_append, Bool.and_eq_true, Bool.and_eq_true] at this
    exact this.1.2
  rw [List.length_append] at hl
  rw [List.length_append, List.length_append] at hl2
  have hf : fitsB (a ++ b) (a.length : Int) 0 p = true := fitsB_iff.2 ⟨h, by omega, by omega, by rw [List.length_append]; omega, hp, by rw [List.length_append]; omega⟩
  refine ⟨?_, ?_⟩
  · rw [eraseR_2 h2 (inI_yes (by omega) (by rw [List.length_append]; omega))]
    have e : (((a ++ p).length : Int) - (p.length : Int)).toNat = a.length := by rw [List.length_append]; omega
    rw [e, List.take_left]
  · rw [applyR_2 hf]
    unfold outL
    have e1 : ((a.length : Int)).toNat = a.length := by omega
    have e2 : ((a.length : Int) + 0).toNat = a.length := by omega
    rw [e1, e2, List.take_left, List.drop_left]
set_option maxRecDepth 100000 in
set_option maxHeartbeats 1600000 in
theorem walk (A : Option Addr) (n c : Nat) (hnc : n ≤ c) (hc : c ≤ maxLen) (w : World) (hb : Byt w w.heap.size A n) :
    Calls Try.prog 6 #[.slice A n c] w fun e w' => e = .returned (.bool true) ∧ Below w.heap.size w w' := by
  have hc' := hc
  unfold maxLen at hc'
  by_cases h : 1048576 < n
  · go_enter Try.func6, Try.ntmps6
    go_wp2
    go_ret
    exact ⟨rfl, Below.refl _ _⟩
  · go_enter Try.func6, Try.ntmps6
    go_wp2_with fail
    refine (DrawGapType_any _ _ _ _ hb hnc hc).mono ?_
    rintro e w1 ⟨a, b, p, rfl, hs, hps, hb1⟩
    have G2 := B2.new w1 24 (.string a) (.string b)
    have hb2 : Below w.heap.size w (w1.alloc (.cells #[.string a, .string b] 24)) := balloc hb1 _
    obtain ⟨c0, c1⟩ := G2.cells
    go_wp2_with fail
    generalize w1.alloc (.cells #[.string a, .string b] 24) = w2 at G2 hb2 c0 c1 ⊢
    generalize w1.heap.size = g at G2 c0 c1 ⊢
    have hal : a.data.toList.length = a.size := rfl
    have hbl : b.data.toList.length = b.size := rfl
    have hpl : p.data.toList.length = p.size := rfl
    have hcase : (∃ X Y : ByteArray, (Value.tuple #[gapV (typeR a.data.toList b.data.toList p.data.toList).1, .bool (typeR a.data.toList b.data.toList p.data.toList).2]) = .tuple #[.agg #[.string X, .string Y], .bool false] ∧ ((X = ⟨#[]⟩ ∧ Y = ⟨#[]⟩) ∨ (X = a ∧ Y = b))) ∨
        ∃ (X U T : ByteArray), (Value.tuple #[gapV (typeR a.data.toList b.data.toList p.data.toList).1, .bool (typeR a.data.toList b.data.toList p.data.toList).2]) = .tuple #[.agg #[.string X, .string b], .bool true] ∧ X.size = a.size + p.size ∧ mk (gapTextL a.data.toList b.data.toList) = T ∧ T.size ≤ 130 ∧ strBoolV (applyR T.data.toList (a.size : Int) 0 p.data.toList) = .tuple #[.string U, .bool true] ∧ mk (gapTextL X.data.toList b.data.toList) = U ∧
          (Value.tuple #[gapV (eraseR X.data.toList b.data.toList (p.size : Int)).1, .bool (eraseR X.data.toList b.data.toList (p.size : Int)).2]) = .tuple #[.agg #[.string a, .string b], .bool true] := by
      cases ht : tvB (a.data.toList ++ b.data.toList)
      · refine .inl ⟨⟨#[]⟩, ⟨#[]⟩, ?_, .inl ⟨rfl, rfl⟩⟩
        rw [typeR_0 ht]
        rfl
      · cases ht2 : tvB (a.data.toList ++ p.data.toList ++ b.data.toList)
        · refine .inl ⟨a, b, ?_, .inr ⟨rfl, rfl⟩⟩
          rw [typeR_1 ht ht2]
          rfl
        · obtain ⟨h1, h2⟩ := type_good ht ht2
          refine .inr ⟨mk (a.data.toList ++ p.data.toList), mk (a.data.toList ++ p.data.toList ++ b.data.toList), mk (a.data.toList ++ b.data.toList), ?_, ?_, ?_, ?_, ?_, ?_, ?_⟩
          · rw [typeR_2 ht ht2]
            rfl
          · rw [mk_size, List.length_append]
            omega
          · rw [gapText_1 ht]
          · rw [mk_size, List.length_append]
            omega
          · rw [mk_data, ← hal, h2]
            rfl
          · rw [mk_data, gapText_1 ht2]
          · rw [mk_data, ← hpl, h1]
            rfl
    rcases hcase with ⟨X, Y, hR, h0⟩ | ⟨X, U, T, hR, hXs, hT, hTs, hAP, hU, hER⟩
    · have HR := Lib.hid hR
      clear hR
      with_reducible refine (implGapType_any a b p w2 (by omega)).mono ?_
      rw [HR.out]
      rintro e w3 ⟨rfl, hb3⟩
      have G3 := G2.next hb3
      have hbw3 := bstep hb2 hb3
      have G4 := G3.alloc (.cells #[.string X, .string Y] 24)
      have X4 := B2.new w3 24 (.string X) (.string Y)
      have hbw4 : Below w.heap.size w (w3.alloc (.cells #[.string X, .string Y] 24)) := balloc hbw3 _
      clear G2 hb2 hb3 G3 hbw3 c0 c1
      obtain ⟨c0, c1⟩ := G4.cells
      go_wp2_with fail
      generalize w3.alloc (.cells #[.string X, .string Y] 24) = w4 at G4 X4 hbw4 c0 c1 ⊢
      generalize w3.heap.size = gx at X4 ⊢
      with_reducible refine (specGapType_any a b p w4 (by omega)).mono ?_
      rw [HR.out]
      rintro e w5 ⟨rfl, hb5⟩
      have G5 := G4.next hb5
      have X5 := X4.next hb5
      have hbw5 := bstep hbw4 hb5
      have G6 := G5.alloc (.cells #[.string X, .string Y] 24)
      have X6 := X5.alloc (.cells #[.string X, .string Y] 24)
      have Y6 := B2.new w5 24 (.string X) (.string Y)
      have hbw6 : Below w.heap.size w (w5.alloc (.cells #[.string X, .string Y] 24)) := balloc hbw5 _
      have hlx6 : gx < w5.heap.size := X5.lt
      have hlg6 : g < w5.heap.size := G5.lt
      clear G4 X4 hbw4 hb5 G5 X5 hbw5 c0 c1
      obtain ⟨c0, c1⟩ := G6.cells
      obtain ⟨d0, d1⟩ := X6.cells
      obtain ⟨e0, e1⟩ := Y6.cells
      rcases h0 with ⟨rfl, rfl⟩ | ⟨rfl, rfl⟩
      · go_wp2_with (go_at_call 14; refine (alive_any _).mono ?_; rintro e w' ⟨rfl, rfl⟩)
        go_ret
        exact ⟨rfl, hbw6⟩
      · cases hx1 : X.toList.isEmpty <;> cases hx2 : Y.toList.isEmpty
        all_goals
          go_wp2_with (go_at_call 14; refine (alive_any _).mono ?_; rintro e w' ⟨rfl, rfl⟩)
          go_ret
          exact ⟨rfl, hbw6⟩
    · have HR := Lib.hid hR
      have HT := Lib.hid hT
      have HAP := Lib.hid hAP
      have HU := Lib.hid hU
      have HER := Lib.hid hER
      obtain ⟨Y, hY⟩ : ∃ Y : ByteArray, b = Y := ⟨_, rfl⟩
      subst hY
      clear hR hT hAP hU hER
      with_reducible refine (implGapType_any a b p w2 (by omega)).mono ?_
      rw [HR.out]
      rintro e w3 ⟨rfl, hb3⟩
      have G3 := G2.next hb3
      have hbw3 := bstep hb2 hb3
      have G4 := G3.alloc (.cells #[.string X, .string b] 24)
      have X4 := B2.new w3 24 (.string X) (.string b)
      have hbw4 : Below w.heap.size w (w3.alloc (.cells #[.string X, .string b] 24)) := balloc hbw3 _
      clear G2 hb2 hb3 G3 hbw3 c0 c1
      obtain ⟨c0, c1⟩ := G4.cells
      go_wp2_with fail
      generalize w3.alloc (.cells #[.string X, .string b] 24) = w4 at G4 X4 hbw4 c0 c1 ⊢
      generalize w3.heap.size = gx at X4 ⊢
      with_reducible refine (specGapType_any a b p w4 (by omega)).mono ?_
      rw [HR.out]
      rintro e w5 ⟨rfl, hb5⟩
      have G5 := G4.next hb5
      have X5 := X4.next hb5
      have hbw5 := bstep hbw4 hb5
      have G6 := G5.alloc (.cells #[.string X, .string b] 24)
      have X6 := X5.alloc (.cells #[.string X, .string b] 24)
      have Y6 := B2.new w5 24 (.string X) (.string b)
      have hbw6 : Below w.heap.size w (w5.alloc (.cells #[.string X, .string b] 24)) := balloc hbw5 _
      have hlx6 : gx < w5.heap.size := X5.lt
      have hlg6 : g < w5.heap.size := G5.lt
      clear G4 X4 hbw4 hb5 G5 X5 hbw5 c0 c1
      obtain ⟨c0, c1⟩ := G6.cells
      obtain ⟨d0, d1⟩ := X6.cells
      obtain ⟨e0, e1⟩ := Y6.cells
      go_wp2_with fail
      generalize w5.alloc (.cells #[.string X, .string b] 24) = w6 at G6 X6 Y6 hbw6 c0 c1 d0 d1 e0 e1 ⊢
      with_reducible refine (implGapErase_any X b (p.size : Int) _ (by omega)).mono ?_
      rw [HER.out]
      rintro e w7 ⟨rfl, hb7⟩
      have G7 := (G6.next hb7).alloc (.cells #[.string a, .string b] 24)
      have X7 := (X6.next hb7).alloc (.cells #[.string a, .string b] 24)
      have Z7 := B2.new w7 24 (.string a) (.string b)
      have hbw7 : Below w.heap.size w (w7.alloc (.cells #[.string a, .string b] 24)) := balloc (bstep hbw6 hb7) _
      clear X6 G6 Y6 hbw6 hb7 c0 c1 d0 d1 e0 e1
      obtain ⟨c0, c1⟩ := G7.cells
      go_wp2_with fail
      generalize w7.alloc (.cells #[.string a, .string b] 24) = w8 at G7 X7 Z7 hbw7 c0 c1 ⊢
      generalize w7.heap.size = gz at Z7 ⊢
      have hlg : g < w8.heap.size := G7.lt
      go_region_held3 (fun w' => w'.cell? ⟨g, 0, none⟩ = some (.string a) ∧ w'.cell? ⟨g, 1, none⟩ = some (.string b))
        (first
          | go_keep
          | (go_split_ands; exact ⟨(hb9.cell (p := ⟨g, 0, none⟩) hlg).trans (by assumption), (hb9.cell (p := ⟨g, 1, none⟩) hlg).trans (by assumption)⟩)
          | (go_split_ands; exact ⟨(hb10.cell (p := ⟨g, 0, none⟩) hlg9).trans (by assumption), (hb10.cell (p := ⟨g, 1, none⟩) hlg9).trans (by assumption)⟩))
        ((first
          | (go_at_call 15; ((with_reducible refine (implGapText_any a b _ (by omega)).mono ?_); rw [HT.out]; rintro e w9 ⟨rfl, hb9⟩; have hlg9 : g < w9.heap.size := Nat.lt_of_lt_of_le hlg hb9.size))
          | (go_at_call 20; (refine (implApplyChange_any T (a.size : Int) 0 p _ (by omega)).mono ?_); rw [HAP.out]; rintro e w10 ⟨rfl, hb10⟩)))
      have X10 := (X7.drew.next hb9).next hb10
      have G10 := (G7.drew.next hb9).next hb10
      have Z10 := (Z7.drew.next hb9).next hb10
      have hbw10 := bstep (bstep (bdrew hbw7) hb9) hb10
      clear X7 G7 Z7 hbw7 hb9 hb10 c0 c1
      obtain ⟨c0, c1⟩ := G10.cells
      obtain ⟨d0, d1⟩ := X10.cells
      obtain ⟨e0, e1⟩ := Z10.cells
      go_wp2_with fail
      with_reducible refine (implGapText_any X b _ (by omega)).mono ?_
      rw [HU.out]
      rintro e w11 ⟨rfl, hb11⟩
      have G11 := G10.next hb11
      have X11 := X10.next hb11
      have hbw11 := bstep hbw10 hb11
      clear X10 G10 c0 c1 d0 d1
      obtain ⟨c0, c1⟩ := G11.cells
      obtain ⟨d0, d1⟩ := X11.cells
      go_wp2
      go_ret
      exact ⟨ret_bool (by simp), hbw11⟩
end Go.Proofs.Ytlndlgbpnlfflaa.fnGapType
