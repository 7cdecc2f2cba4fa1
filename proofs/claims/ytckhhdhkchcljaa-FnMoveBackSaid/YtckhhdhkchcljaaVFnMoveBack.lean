/- The walk of the law FnMoveBack: the call returns true and turns nothing that was there. -/
import Derived.Test.YtckhhdhkchcljaaD7
import Derived.Test.YtckhhdhkchcljaaW6
import Derived.Test.YtckhhdhkchcljaaPf
import Derived.Test.YtckhhdhkchcljaaW3
import Derived.Deep.RegionHeld3
namespace Go.Proofs.Ytckhhdhkchcljaa.fnMoveBack
open Go.RowKit
set_option maxRecDepth 100000 in
set_option maxHeartbeats 1600000 in
theorem walk (A : Option Addr) (n c : Nat) (hnc : n ≤ c) (hc : c ≤ maxLen) (w : World) (hb : Byt w w.heap.size A n) :
    Calls Try.prog 4 #[.slice A n c] w fun e w' => e = .returned (.bool true) ∧ Below w.heap.size w w' := by
  have hc' := hc
  unfold maxLen at hc'
  by_cases h : 1048576 < n
  · go_enter Try.func4, Try.ntmps4
    go_wp2
    go_ret
    exact ⟨rfl, Below.refl _ _⟩
  · go_enter Try.func4, Try.ntmps4
    go_wp2_with fail
    refine (DrawReverseChange_any _ _ _ _ hb hnc hc).mono ?_
    rintro e w1 ⟨s, a, x, p, rfl, hs, hp, hb1⟩
    have B2 := B3.new w1 24 (.int .i64 a) (.int .i64 x) (.string p)
    have hb2 : Below w.heap.size w (w1.alloc (.cells #[.int .i64 a, .int .i64 x, .string p] 24)) := balloc hb1 _
    obtain ⟨c0, c1, c2⟩ := B2.cells
    go_wp2_with fail
    generalize w1.alloc (.cells #[.int .i64 a, .int .i64 x, .string p] 24) = w2 at B2 hb2 c0 c1 c2 ⊢
    cases hf : fitsB s.data.toList a x p.data.toList
    · have HX := Lib.hid (show Value.tuple #[changeV (revR s.data.toList a x p.data.toList).1, .bool (revR s.data.toList a x p.data.toList).2] = .tuple #[.agg #[.int .i64 0, .int .i64 0, .string ⟨#[]⟩], .bool false] by rw [revR_0 hf]; rfl)
      clear hf
      with_reducible refine (implReverseChange_any s a x p _ (by omega)).mono ?_
      rw [HX.out]
      rintro e w3 ⟨rfl, hb3⟩
      have D3 := B2.next hb3
      have hbw3 := bstep hb2 hb3
      clear B2 hb2 hb3 c0 c1 c2
      have D4 := D3.alloc (.cells #[.int .i64 0, .int .i64 0, .string ⟨#[]⟩] 24)
      have E4 := B3.new w3 24 (.int .i64 0) (.int .i64 0) (.string ⟨#[]⟩)
      have hbw4 : Below w.heap.size w (w3.alloc (.cells #[.int .i64 0, .int .i64 0, .string ⟨#[]⟩] 24)) := balloc hbw3 _
      obtain ⟨c0, c1, c2⟩ := D4.cells
      go_wp2_with fail
      generalize w3.alloc (.cells #[.int .i64 0, .int .i64 0, .string ⟨#[]⟩] 24) = w4 at D4 E4 hbw4 c0 c1 c2 ⊢
      with_reducible refine (specReverseChange_any s a x p _ (by omega)).mono ?_
      rw [HX.out]
      rintro e w5 ⟨rfl, hb5⟩
      have E5 := E4.next hb5
      have hbw5 := bstep hbw4 hb5
      have E6 := E5.alloc (.cells #[.int .i64 0, .int .i64 0, .string ⟨#[]⟩] 24)
      have hbw6 : Below w.heap.size w (w5.alloc (.cells #[.int .i64 0, .int .i64 0, .string ⟨#[]⟩] 24)) := balloc hbw5 _
      obtain ⟨d0, d1, d2⟩ := E6.cells
      clear c0 c1 c2
      go_wp2
      refine wp_loop_rounds 1 ?_
      rw [rounds_succ]
      go_wp2_with (go_at_call 17; refine (alive_any _).mono ?_; rintro e w' ⟨rfl, rfl⟩)
      go_ret
      exact ⟨rfl, hbw6⟩
    · obtain ⟨ht, ha0, hx0, hax, hpp, hlen⟩ := fitsB_iff.1 hf
      obtain ⟨R, hR⟩ : ∃ R : ByteArray, mk ((s.data.toList.drop a.toNat).take ((a + x).toNat - a.toNat)) = R := ⟨_, rfl⟩
      have hRd : R.data.toList = (s.data.toList.drop a.toNat).take ((a + x).toNat - a.toNat) := by rw [← hR]; rfl
      have HX := Lib.hid (show Value.tuple #[changeV (revR s.data.toList a x p.data.toList).1, .bool (revR s.data.toList a x p.data.toList).2] = .tuple #[.agg #[.int .i64 a, .int .i64 p.size, .string R], .bool true] by rw [revR_1 hf, ← hR]; rfl)
      obtain ⟨a', rfl⟩ := Int.eq_ofNat_of_zero_le ha0
      obtain ⟨x', rfl⟩ := Int.eq_ofNat_of_zero_le hx0
      have hsl : s.data.toList.length = s.size := rfl
      have hpl : p.data.toList.length = p.size := rfl
      rw [hsl] at hax hlen
      rw [hpl] at hlen
      have hRs : R.size = x' := by
        have e : R.size = R.data.toList.length := rfl
        rw [e, hRd, List.length_take, List.length_drop]
        omega
      have hs120 : s.size ≤ 120 := tv_size ht
      have hp120 : p.size ≤ 120 := by omega
      have hback : ∀ k : Nat, k ≤ s.size → ¬ ((a' : Int) ≤ k ∧ (k : Int) ≤ (a' : Int) + x') → mpI a' p.size R.size (mpI a' x' p.size k false) true = k := by
        intro k hk hnot
        rw [hRs]
        by_cases h1 : (k : Int) < a'
        · rw [mpI_1 (by omega) (by omega) (by omega) (by omega) h1, mpI_1 (by omega) (by omega) (by omega) (by omega) h1]
        · rw [mpI_2 (p := (k : Int)) (by omega) (by omega) (by omega) (by omega) (by omega) (by omega), mpI_2 (by omega) (by omega) (by omega) (by omega) (by omega) (by omega)]
          omega
      have HK := Lib.hid hback
      have HRS := Lib.hid hRs
      have hRm : R.size ≤ maxLen := by unfold maxLen; omega
      have hpm : p.size ≤ maxLen := by unfold maxLen; omega
      clear hf ht ha0 hx0 hpp hlen hR hRd hpl hsl hRs hback
      with_reducible refine (implReverseChange_any s a' x' p _ (by omega)).mono ?_
      rw [HX.out]
      rintro e w3 ⟨rfl, hb3⟩
      have D3 := B2.next hb3
      have hbw3 := bstep hb2 hb3
      clear B2 hb2 hb3 c0 c1 c2
      have D4 := D3.alloc (.cells #[.int .i64 a', .int .i64 p.size, .string R] 24)
      have E4 := B3.new w3 24 (.int .i64 a') (.int .i64 p.size) (.string R)
      have hbw4 : Below w.heap.size w (w3.alloc (.cells #[.int .i64 a', .int .i64 p.size, .string R] 24)) := balloc hbw3 _
      obtain ⟨c0, c1, c2⟩ := D4.cells
      go_wp2_with fail
      generalize w3.alloc (.cells #[.int .i64 a', .int .i64 p.size, .string R] 24) = w4 at D4 E4 hbw4 c0 c1 c2 ⊢
      with_reducible refine (specReverseChange_any s a' x' p _ (by omega)).mono ?_
      rw [HX.out]
      rintro e w5 ⟨rfl, hb5⟩
      have D5 := D4.next hb5
      have E5 := E4.next hb5
      have hbw5 := bstep hbw4 hb5
      have D6 := D5.alloc (.cells #[.int .i64 a', .int .i64 p.size, .string R] 24)
      have E6 := E5.alloc (.cells #[.int .i64 a', .int .i64 p.size, .string R] 24)
      have hbw6 : Below w.heap.size w (w5.alloc (.cells #[.int .i64 a', .int .i64 p.size, .string R] 24)) := balloc hbw5 _
      clear c0 c1 c2 D3 D4 E4 hbw3 hbw4 hb5
      obtain ⟨c0, c1, c2⟩ := D6.cells
      obtain ⟨d0, d1, d2⟩ := E6.cells
      go_wp2_with fail
      generalize w5.alloc (.cells #[.int .i64 a', .int .i64 p.size, .string R] 24) = w6 at D6 E6 hbw6 c0 c1 c2 d0 d1 d2 ⊢
      clear c0 c1 c2 d0 d1 d2 D5 E5 hbw5
      go_loopw [9] (fun i wr => ∃ k : Nat, k ≤ s.size + 1 ∧ i = .int .i64 k ∧ B3 wr w1.heap.size 24 (.int .i64 a') (.int .i64 x') (.string p) ∧ B3 wr w3.heap.size 24 (.int .i64 a') (.int .i64 p.size) (.string R) ∧ Below w.heap.size w wr) (fun i _ => s.size + 1 - (intOf i).toNat)
      case atStart => exact ⟨0, Nat.zero_le _, rfl, D6, E6, hbw6⟩
      case round =>
        clear D6 E6 hbw6
        obtain ⟨k, hk, rfl, D7, E7, hbw7⟩ := hrel
        obtain ⟨c0, c1, c2⟩ := D7.cells
        obtain ⟨d0, d1, d2⟩ := E7.cells
        have hl1 := D7.lt
        have hl3 := E7.lt
        by_cases hlt : k ≤ s.size
        · by_cases hin : (a' : Int) ≤ k
          · by_cases hin2 : (k : Int) ≤ (a' : Int) + x'
            · go_wp2
              go_roundw
              case rel => exact ⟨k + 1, by omega, by go_num, D7, E7, hbw7⟩
              case measure => simp [intOf]; omega
            · have hmp := HK.out k hlt (fun h => hin2 h.2)
              have HMP := Lib.hid hmp
              clear hmp
              go_wp2_with fail
              go_region_held3 (fun w' => w'.cell? ⟨w1.heap.size, 0, none⟩ = some (.int .i64 a') ∧ w'.cell? ⟨w1.heap.size, 1, none⟩ = some (.int .i64 x') ∧ w'.cell? ⟨w1.heap.size, 2, none⟩ = some (.string p) ∧ w'.cell? ⟨w3.heap.size, 0, none⟩ = some (.int .i64 a') ∧ w'.cell? ⟨w3.heap.size, 1, none⟩ = some (.int .i64 p.size) ∧ w'.cell? ⟨w3.heap.size, 2, none⟩ = some (.string R))
                (first
                  | go_keep
                  | (go_split_ands; exact ⟨((D7.drew.next hb8).next hb9).cells.1, ((D7.drew.next hb8).next hb9).cells.2.1, ((D7.drew.next hb8).next hb9).cells.2.2, ((E7.drew.next hb8).next hb9).cells.1, ((E7.drew.next hb8).next hb9).cells.2.1, ((E7.drew.next hb8).next hb9).cells.2.2⟩)
                  | (go_split_ands; exact ⟨(D7.drew.next hb8).cells.1, (D7.drew.next hb8).cells.2.1, (D7.drew.next hb8).cells.2.2, (E7.drew.next hb8).cells.1, (E7.drew.next hb8).cells.2.1, (E7.drew.next hb8).cells.2.2⟩))
                ((first
                  | (go_at_call 19; (with_reducible refine (implMovePlace_any (a' : Int) (x' : Int) (k : Int) p false _ hpm).mono ?_); rintro e w8 ⟨rfl, hb8⟩)
                  | (go_at_call 19; (with_reducible refine (implMovePlace_any (a' : Int) (p.size : Int) (mpI a' x' p.size k false) R true _ hRm).mono ?_); rw [HMP.out]; rintro e w9 ⟨rfl, hb9⟩)))
              go_wp2
              go_roundw
              case rel => exact ⟨k + 1, by omega, by go_num, (D7.drew.next hb8).next hb9, (E7.drew.next hb8).next hb9, bstep (bstep (bdrew hbw7) hb8) hb9⟩
              case measure => simp [intOf]; omega
          · have hmp := HK.out k hlt (fun h => hin h.1)
            have HMP := Lib.hid hmp
            clear hmp
            go_wp2_with fail
            go_region_held3 (fun w' => w'.cell? ⟨w1.heap.size, 0, none⟩ = some (.int .i64 a') ∧ w'.cell? ⟨w1.heap.size, 1, none⟩ = some (.int .i64 x') ∧ w'.cell? ⟨w1.heap.size, 2, none⟩ = some (.string p) ∧ w'.cell? ⟨w3.heap.size, 0, none⟩ = some (.int .i64 a') ∧ w'.cell? ⟨w3.heap.size, 1, none⟩ = some (.int .i64 p.size) ∧ w'.cell? ⟨w3.heap.size, 2, none⟩ = some (.string R))
              (first
                | go_keep
                | (go_split_ands; exact ⟨((D7.drew.next hb8).next hb9).cells.1, ((D7.drew.next hb8).next hb9).cells.2.1, ((D7.drew.next hb8).next hb9).cells.2.2, ((E7.drew.next hb8).next hb9).cells.1, ((E7.drew.next hb8).next hb9).cells.2.1, ((E7.drew.next hb8).next hb9).cells.2.2⟩)
                | (go_split_ands; exact ⟨(D7.drew.next hb8).cells.1, (D7.drew.next hb8).cells.2.1, (D7.drew.next hb8).cells.2.2, (E7.drew.next hb8).cells.1, (E7.drew.next hb8).cells.2.1, (E7.drew.next hb8).cells.2.2⟩))
              ((first
                | (go_at_call 19; (with_reducible refine (implMovePlace_any (a' : Int) (x' : Int) (k : Int) p false _ hpm).mono ?_); rintro e w8 ⟨rfl, hb8⟩)
                | (go_at_call 19; (with_reducible refine (implMovePlace_any (a' : Int) (p.size : Int) (mpI a' x' p.size k false) R true _ hRm).mono ?_); rw [HMP.out]; rintro e w9 ⟨rfl, hb9⟩)))
            go_wp2
            go_roundw
            case rel => exact ⟨k + 1, by omega, by go_num, (D7.drew.next hb8).next hb9, (E7.drew.next hb8).next hb9, bstep (bstep (bdrew hbw7) hb8) hb9⟩
            case measure => simp [intOf]; omega
        · go_wp2_with (go_at_call 17; refine (alive_any _).mono ?_; rintro e w' ⟨rfl, rfl⟩)
          go_ret
          exact ⟨rfl, hbw7⟩
end Go.Proofs.Ytckhhdhkchcljaa.fnMoveBack
