/- Texts, places, gaps and changes drawn from codes. -/
import Derived.Test.YtecejfcoognkiaaD1
import Derived.Deep.RegionHeld3
import Derived.StillTailTactics
namespace Go.Proofs.Ytecejfcoognkiaa
open Go.RowKit

def leftOf : Value → Nat
  | .string y => 130 - y.size
  | _ => 0
theorem longer (x y : ByteArray) : (x ++ y).size = x.size + y.size := ByteArray.size_append
set_option maxRecDepth 100000 in
set_option maxHeartbeats 1600000 in
theorem text_draw (r P : Nat) (n : Int) (w : World) (h : Rd 55 w r P) (hP : P ≤ 999999900) :
    Calls Try.prog 31 #[.pointer (some ⟨r, 0, none⟩), .int .i64 n] w (TextV 55 w r (P + 30)) := by
  have hrl := h.lt
  have hq0 := parts_new w 9
  have hr0 := h.alloc (.cells partsA 9)
  have hg0 := World.grownBy_alloc w (.cells partsA 9) (some r)
  go_enter Try.func31, Try.ntmps31
  go_wp2_with fail
  refine (pick_any r P _ _ hr0 (by omega)).mono ?_
  rintro e w1 ⟨K, rfl, hK0, hK1, hr1, hg1⟩
  have hK2 := hK1 (by decide)
  obtain ⟨m, rfl⟩ := Int.eq_ofNat_of_zero_le hK0
  have hq1 : Parts w1 w.heap.size := hq0.kept hg1 (by omega)
  have hgw : w.grownBy w1 (some r) := gtrans hg0 hg1
  clear hq0 hr0 hg0 hg1 hK0 hK1
  go_wp2
  go_loopw [5, 7] (fun s k wr => ∃ (x : ByteArray) (j : Nat), j ≤ 23 ∧ s = .string x ∧ k = .int .i64 j ∧ x.size ≤ (23 - j) * 7 ∧ Rd 55 wr r (P + 1 + (23 - j)) ∧ Parts wr w.heap.size ∧ w.grownBy wr (some r)) (fun _ k _ => (intOf k).toNat)
  case atStart => exact ⟨⟨#[]⟩, m, by omega, rfl, rfl, Nat.zero_le _, hr1.more (by omega), hq1, hgw⟩
  case round =>
    clear hr1 hq1 hgw hK2
    obtain ⟨x, j, hj, rfl, rfl, hx, hr, hq, hg⟩ := hrel
    have hz := hg.size
    by_cases hj0 : 0 < j
    · go_wp2_with fail
      refine (pick_any r _ _ _ hr (by omega)).mono ?_
      rintro e w2 ⟨K, rfl, hK0, hK1, hr2, hg2⟩
      have hK2 := hK1 (by decide)
      obtain ⟨i, rfl⟩ := Int.eq_ofNat_of_zero_le hK0
      have hq2 := hq.kept hg2 (by omega)
      obtain ⟨y, hy, hys⟩ := hq2 i (by omega)
      clear hK0 hK1
      go_wp2
      go_roundw
      case rel => exact ⟨x ++ y, j - 1, by omega, rfl, congrArg (Value.int IntKind.i64) (by omega), by rw [longer]; omega, hr2.more (by omega), hq2, gtrans hg hg2⟩
      case measure => simp [intOf]; omega
    · obtain rfl : j = 0 := by omega
      clear hj0 hj
      by_cases hx1 : x.size ≤ 120
      all_goals
        go_wp2_with fail
        refine (odd_any r _ _ _ hr (by omega)).mono ?_
        rintro e w2 ⟨b, rfl, hr2, hg2⟩
        have hgw2 := gtrans hg hg2
        cases b
        · go_wp2
          go_ret
          exact ⟨_, rfl, by first | omega | (rw [ByteArray.size_extract]; omega), hr2.more (by omega), hgw2⟩
        · go_wp2_with fail
          refine (pick_any r _ _ _ hr2 (by omega)).mono ?_
          rintro e w3 ⟨K, rfl, hK0, hK1, hr3, hg3⟩
          have hgw3 := gtrans hgw2 hg3
          by_cases k0 : K = 0
          · subst k0
            go_wp2
            go_ret
            exact ⟨_, rfl, by rw [longer, show (⟨#[9]⟩ : ByteArray).size = 1 from rfl]; first | omega | (rw [ByteArray.size_extract]; omega), hr3.more (by omega), hgw3⟩
          · have k0' : (K == 0) = false := by simpa using k0
            by_cases k1 : K = 1
            · subst k1
              go_wp2
              go_ret
              exact ⟨_, rfl, by rw [longer, show (⟨#[127]⟩ : ByteArray).size = 1 from rfl]; first | omega | (rw [ByteArray.size_extract]; omega), hr3.more (by omega), hgw3⟩
            · have k1' : (K == 1) = false := by simpa using k1
              go_wp2
              go_loop [5] (fun v => ∃ y : ByteArray, v = .string y ∧ y.size ≤ 125) (fun v => leftOf v)
              case atStart => exact ⟨_, rfl, by first | omega | (rw [ByteArray.size_extract]; omega)⟩
              case round =>
                obtain ⟨y, rfl, hy⟩ := hrel
                by_cases hy1 : y.size ≤ 120
                · go_wp2
                  go_round
                  case rel => exact ⟨_, rfl, by rw [longer, show (⟨#[108, 111, 110, 103, 32]⟩ : ByteArray).size = 5 from rfl]; omega⟩
                  case measure => simp only [leftOf, longer, show (⟨#[108, 111, 110, 103, 32]⟩ : ByteArray).size = 5 from rfl]; omega
                · go_wp2
                  go_ret
                  exact ⟨y, rfl, hy, hr3.more (by omega), hgw3⟩
end Go.Proofs.Ytecejfcoognkiaa
