/- The walk of the law FnGapWalk: the call returns true and turns nothing that was there. -/
import Derived.Test.YtlndlgbpnlfflaaD17
import Derived.Test.YtlndlgbpnlfflaaD3
import Derived.Test.YtlndlgbpnlfflaaW7
import Derived.Test.YtlndlgbpnlfflaaPf
import Derived.Deep.RegionHeld3
namespace Go.Proofs.Ytlndlgbpnlfflaa.fnGapWalk
open Go.RowKit
theorem walk_good {a b : ByteArray} (h : tvB (a.data.toList ++ b.data.toList) = true) : ∃ (KX KY : Nat → ByteArray) (U : ByteArray), mk (gapTextL a.data.toList b.data.toList) = U ∧ U.size = a.size + b.size ∧ gapV (moveR a.data.toList b.data.toList (-120)) = .agg #[.string (KX 0), .string (KY 0)] ∧
    ∀ k, k ≤ U.size → gapV (gapOfL U.data.toList (k : Int)) = .agg #[.string (KX k), .string (KY k)] ∧ (KX k).size + (KY k).size = U.size ∧ gapV (moveR (KX k).data.toList (KY k).data.toList 1) = .agg #[.string (KX (k + 1)), .string (KY (k + 1))] := by
  have hl : (a.data.toList ++ b.data.toList).length = a.size + b.size := by rw [List.length_append]; rfl
  have h0 := moveR_far h
  rw [gapText_1 h, h0]
  generalize a.data.toList ++ b.data.toList = l at h hl ⊢
  have hu : (mk l).size = l.length := mk_size _
  have hof : ∀ k : Nat, k ≤ l.length → gapOfL l (k : Int) = (l.take k, l.drop k) := fun k hk => by
    rw [gapOfL_1 (placeB_mk h (by omega) (by omega))]
    rfl
  refine ⟨fun k => mk (l.take (min k l.length)), fun k => mk (l.drop (min k l.length)), mk l, rfl, by omega, ?_, fun k hk => ⟨?_, ?_, ?_⟩⟩
  · have := hof 0 (by omega)
    rw [show ((0 : Nat) : Int) = 0 from rfl] at this
    rw [this]
    simp only [Nat.zero_min]
    rfl
  · rw [mk_data, hof k (by omega)]
    simp only [Nat.min_eq_left (show k ≤ l.length by omega)]
    rfl
  · simp only [mk_size, List.length_take, List.length_drop]
    omega
  · simp only [mk_data, Nat.min_eq_left (show k ≤ l.length by omega)]
    rw [moveR_step h (by omega)]
    have e : min ((k : Int) + 1) (l.length : Int) = ((min (k + 1) l.length : Nat) : Int) := by omega
    rw [e, hof _ (by omega)]
    rfl
set_option maxRecDepth 100000 in
set_option maxHeartbeats 16000000 in
theorem walk (A : Option Addr) (n c : Nat) (hnc : n ≤ c) (hc : c ≤ maxLen) (w : World) (hb : Byt w w.heap.size A n) :
    Calls Try.prog 4 #[.slice A n c] w fun e w' => e = .returned (.bool true) ∧ Below w.heap.size w w' := by
  have hc' := hc
  unfold maxLen at hc'
  by_cases h : 1048576 < n
  · go_enter Try.func4, Try.ntmps4
    go_wp2
    go_ret
    exact ⟨rfl, Below.refl _ _⟩
  · go_enter Try.func4, Try.ntmps4
    go_wp2_with fail
    refine (DrawGapMove_any _ _ _ _ hb hnc hc).mono ?_
    rintro e w1 ⟨a, b, q, rfl, hs, hq, hb1⟩
    have G2 := B2.new w1 24 (.string a) (.string b)
    have hb2 : Below w.heap.size w (w1.alloc (.cells #[.string a, .string b] 24)) := balloc hb1 _
    obtain ⟨c0, c1⟩ := G2.cells
    go_wp2_with fail
    generalize w1.alloc (.cells #[.string a, .string b] 24) = w2 at G2 hb2 c0 c1 ⊢
    generalize w1.heap.size = g at G2 c0 c1 ⊢
    obtain ⟨RX, RY, hR⟩ : ∃ RX RY : ByteArray, gapV (moveR a.data.toList b.data.toList q) = .agg #[.string RX, .string RY] := ⟨_, _, rfl⟩
    have HR := Lib.hid hR
    clear hR
    have hlg : g < w2.heap.size := G2.lt
    go_region_held3 (fun w' => w'.cell? ⟨g, 0, none⟩ = some (.string a) ∧ w'.cell? ⟨g, 1, none⟩ = some (.string b))
      (first
        | go_keep
        | (go_split_ands; exact ⟨(hb4.cell (p := ⟨g, 0, none⟩) hlg3).trans (by assumption), (hb4.cell (p := ⟨g, 1, none⟩) hlg3).trans (by assumption)⟩)
        | (go_split_ands; exact ⟨(hb3.cell (p := ⟨g, 0, none⟩) hlg).trans (by assumption), (hb3.cell (p := ⟨g, 1, none⟩) hlg).trans (by assumption)⟩))
      ((first
        | (go_at_call 11; ((with_reducible refine (implGapMove_any a b q _ (by omega)).mono ?_); rw [HR.out]; rintro e w3 ⟨rfl, hb3⟩; have hlg3 : g < w3.heap.size := Nat.lt_of_lt_of_le hlg hb3.size))
        | (go_at_call 12; ((with_reducible refine (specGapMove_any a b q _ (by omega)).mono ?_); rw [HR.out]; rintro e w4 ⟨rfl, hb4⟩))))
    have G4 := (G2.drew.next hb3).next hb4
    have hbw4 := bstep (bstep (bdrew hb2) hb3) hb4
    clear G2 hb2 hb3 hb4 c0 c1
    obtain ⟨c0, c1⟩ := G4.cells
    cases ht : tvB (a.data.toList ++ b.data.toList)
    · have HT := Lib.hid ht
      clear ht
      go_wp2_with fail
      with_reducible refine (specGapValid_any a b _ (by omega)).mono ?_
      rw [HT.out]
      rintro e w6 ⟨rfl, hb6⟩
      go_wp2_with (go_at_call 14; refine (alive_any _).mono ?_; rintro e w' ⟨rfl, rfl⟩)
      go_ret
      exact ⟨rfl, bstep hbw4 hb6⟩
    · obtain ⟨KX, KY, U, hU, hUs, hF, hK⟩ := walk_good ht
      have HT := Lib.hid ht
      have HU := Lib.hid hU
      have HF := Lib.hid hF
      have HK := Lib.hid hK
      clear ht hU hF hK
      obtain ⟨N, hN⟩ : ∃ N, U.size = N := ⟨_, rfl⟩
      rw [hN] at hUs HK
      go_wp2_with fail
      with_reducible refine (specGapValid_any a b _ (by omega)).mono ?_
      rw [HT.out]
      rintro e w6 ⟨rfl, hb6⟩
      have G6 := G4.next hb6
      have hbw6 := bstep hbw4 hb6
      clear G4 hbw4 hb6 c0 c1
      obtain ⟨c0, c1⟩ := G6.cells
      go_wp2_with fail
      with_reducible refine (implGapText_any a b _ (by omega)).mono ?_
      rw [HU.out]
      rintro e w7 ⟨rfl, hb7⟩
      have G7 := G6.next hb7
      have hbw7 := bstep hbw6 hb7
      clear G6 hbw6 hb7 c0 c1
      obtain ⟨c0, c1⟩ := G7.cells
      go_wp2_with fail
      with_reducible refine (implGapMove_any a b (-120) _ (by omega)).mono ?_
      rw [HF.out]
      rintro e w8 ⟨rfl, hb8⟩
      have hbw8 := bstep hbw7 hb8
      have X9 := B2.new w8 24 (.string (KX 0)) (.string (KY 0))
      have hbw9 : Below w.heap.size w (w8.alloc (.cells #[.string (KX 0), .string (KY 0)] 24)) := balloc hbw8 _
      have hgx : w.heap.size ≤ w8.heap.size := hbw8.size
      clear G7 hbw7 hb8 hbw8 c0 c1
      go_wp2_with fail
      generalize w8.alloc (.cells #[.string (KX 0), .string (KY 0)] 24) = w9 at X9 hbw9 ⊢
      generalize w8.heap.size = gx at X9 hgx ⊢
      go_loopw [7] (fun i wr => ∃ k : Nat, k ≤ N + 1 ∧ i = .int .i64 k ∧ Below w.heap.size w wr ∧ B2 wr gx 24 (.string (KX k)) (.string (KY k))) (fun i _ => N + 1 - (intOf i).toNat)
      case atStart => exact ⟨0, Nat.zero_le _, rfl, hbw9, X9⟩
      case round =>
        obtain ⟨k, hk, rfl, hbw, X⟩ := hrel
        by_cases hlt : k ≤ N
        · obtain ⟨hO, hs2, hM⟩ := HK.out k hlt
          have HO := Lib.hid hO
          have HM := Lib.hid hM
          clear hO hM
          obtain ⟨d0, d1⟩ := X.cells
          have hlx := X.lt
          have j0 : (k : Int) ≤ (N : Int) := by omega
          go_wp2_with fail
          go_region_held3 (fun w' => w'.cell? ⟨gx, 0, none⟩ = some (.string (KX k)) ∧ w'.cell? ⟨gx, 1, none⟩ = some (.string (KY k)))
            (first
              | go_keep
              | (go_split_ands; exact ⟨(hb10.cell (p := ⟨gx, 0, none⟩) hlx).trans (by assumption), (hb10.cell (p := ⟨gx, 1, none⟩) hlx).trans (by assumption)⟩))
            ((go_at_call 16; ((with_reducible refine (implGapOf_any U (k : Int) _ (by unfold maxLen; omega)).mono ?_); rw [HO.out]; rintro e w10 ⟨rfl, hb10⟩)))
          have X10 := X.drew.next hb10
          have hbw10 := bstep (bdrew hbw) hb10
          clear X hbw hb10 d0 d1 hlx
          obtain ⟨d0, d1⟩ := X10.cells
          go_wp2_with fail
          with_reducible refine (implGapMove_any (KX k) (KY k) 1 _ (by omega)).mono ?_
          rw [HM.out]
          rintro e w11 ⟨rfl, hb11⟩
          have X11 := X10.next hb11
          have hbw11 := bstep hbw10 hb11
          clear X10 hbw10 hb11 d0 d1
          obtain ⟨d0, d1⟩ := X11.cells
          obtain ⟨f0, f1⟩ := X11.free
          have hlx := X11.lt
          go_wp2
          go_roundw
          case rel => exact ⟨k + 1, by omega, by go_num, bset (bset hbw11 hgx _) hgx _, X11.set_ _ _⟩
          case measure => simp [intOf]; omega
        · have hkn : k = N + 1 := by omega
          subst hkn
          go_wp2
          go_ret
          exact ⟨rfl, hbw⟩
end Go.Proofs.Ytlndlgbpnlfflaa.fnGapWalk
