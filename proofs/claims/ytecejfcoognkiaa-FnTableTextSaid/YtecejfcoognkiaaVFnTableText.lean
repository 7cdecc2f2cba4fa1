/- The walk of the law FnTableText: the call returns true and turns nothing that was there. -/
import Derived.Test.YtecejfcoognkiaaD19
import Derived.Test.YtecejfcoognkiaaD3
import Derived.Test.YtecejfcoognkiaaW18
import Derived.Test.YtecejfcoognkiaaW22
namespace Go.Proofs.Ytecejfcoognkiaa.fnTableText
open Go.RowKit

theorem plain_whole {f m : List UInt8} (hf : plain f = true) (hm : plain m = true) : ∀ ps : List (Bool × Int × Int), plain (wholeL f m ps) = true
  | [] => rfl
  | (b, x, y) :: ps => by
    have h4 : wholeL f m ((b, x, y) :: ps) = pieceL f m (b, x, y) ++ wholeL f m ps := by simp [wholeL]
    rw [h4, plain_append, plain_whole hf hm ps, Bool.and_true]
    unfold pieceL
    refine plain_take _ (plain_drop _ ?_)
    cases b
    · exact hf
    · exact hm
theorem whole_valid {f m : List UInt8} {ps : List (Bool × Int × Int)} (h : tableB f m ps = true) : tvB (wholeL f m ps) = true := by
  have h1 := wholeL_length (tableB_sum h).1
  have h2 := (tableB_sum h).2
  unfold tableB at h
  simp only [Bool.and_eq_true] at h
  exact (tvB_iff _).2 ⟨by omega, plain_whole ((tvB_iff _).1 h.2.1).2 h.2.2.2 ps⟩
set_option maxRecDepth 100000 in
set_option maxHeartbeats 1600000 in
theorem walk (A : Option Addr) (n c : Nat) (hnc : n ≤ c) (hc : c ≤ maxLen) (w : World) (hb : Byt w w.heap.size A n) :
    Calls Try.prog 4 #[.slice A n c] w fun e w' => e = .returned (.bool true) ∧ Below w.heap.size w w' := by
  have hc' := hc
  unfold maxLen at hc'
  by_cases h : 1048576 < n
  · go_enter Try.func4, Try.ntmps4
    go_wp2
    go_ret
    exact ⟨rfl, Below.refl _ _⟩
  · go_enter Try.func4, Try.ntmps4
    go_wp2_with fail
    refine (DrawTableText_any _ _ _ _ hb hnc hc).mono ?_
    rintro e w1 ⟨F, M, A1, n1, c1, ps, rfl, hF, hM, hn1, ho1, hb1⟩
    have t2 := B3.new w1 25 (.string F) (.string M) (.slice A1 n1 c1)
    have o2 := ho1.alloc (.cells #[.string F, .string M, .slice A1 n1 c1] 25)
    have b2 := balloc hb1 (.cells #[.string F, .string M, .slice A1 n1 c1] 25)
    clear ho1 hb1
    obtain ⟨c0, c1', c2⟩ := t2.cells
    go_wp2_with fail
    generalize w1.alloc (.cells #[.string F, .string M, .slice A1 n1 c1] 25) = w2 at t2 o2 b2 c0 c1' c2 ⊢
    generalize w1.heap.size = t3 at t2 c0 c1' c2 ⊢
    obtain ⟨S, hS⟩ : ∃ S, mk (tableTextL F.data.toList M.data.toList ps) = S := ⟨_, rfl⟩
    have HS := Lib.hid hS
    clear hS
    refine (implTableText_any F M A1 n1 c1 ps _ (by omega) (by omega) (by omega) o2.pieces).mono ?_
    rw [HS.out]
    rintro e w3 ⟨rfl, hb3⟩
    have t3' := t2.next hb3
    have o3 := o2.below hb3
    have b3 := bstep b2 hb3
    clear t2 o2 b2 hb3 c0 c1' c2
    obtain ⟨c0, c1', c2⟩ := t3'.cells
    go_wp2_with fail
    refine (specTableText_any F M A1 n1 c1 ps _ (by omega) (by omega) (by omega) o3.pieces).mono ?_
    rw [HS.out]
    rintro e w4 ⟨rfl, hb4⟩
    have t4 := t3'.next hb4
    have o4 := o3.below hb4
    have b4 := bstep b3 hb4
    clear t3' o3 b3 hb4 c0 c1' c2
    obtain ⟨c0, c1', c2⟩ := t4.cells
    go_wp2_with fail
    obtain ⟨tv, htv⟩ : ∃ tv, tableB F.data.toList M.data.toList ps = tv := ⟨_, rfl⟩
    have HTV := Lib.hid htv
    clear htv
    refine (specTableValid_any F M A1 n1 c1 ps _ (by omega) (by omega) (by omega) o4.pieces).mono ?_
    rw [HTV.out]
    rintro e w5 ⟨rfl, hb5⟩
    have t5 := t4.next hb5
    have o5 := o4.below hb5
    have b5 := bstep b4 hb5
    clear t4 o4 b4 hb5 c0 c1' c2
    obtain ⟨c0, c1', c2⟩ := t5.cells
    cases tv
    · obtain rfl : (⟨#[]⟩ : ByteArray) = S := by
        rw [← HS.out, tableTextL_0 HTV.out]
        rfl
      go_wp2_with (go_at_call 9; refine (alive_any _).mono ?_; rintro e w' ⟨rfl, rfl⟩)
      go_ret
      exact ⟨rfl, b5⟩
    · have hSv : tvB S.data.toList = true := by
        rw [← HS.out, mk_data, tableTextL_1 HTV.out]
        exact whole_valid HTV.out
      have hSz : (S.size : Int) = sumP ps := by
        rw [← HS.out, mk_size, tableTextL_1 HTV.out]
        exact wholeL_length (tableB_sum HTV.out).1
      obtain ⟨hall, hsum⟩ := tableB_sum HTV.out
      have hbnd : ∀ k, 0 ≤ sumP (ps.take k) ∧ sumP (ps.take k) ≤ 120 := fun k => ⟨allB_sum (allB_prefix k hall), Int.le_trans (allB_take k hall) hsum⟩
      have HSV := Lib.hid hSv
      have HBN := Lib.hid hbnd
      clear hSv hall hsum hbnd
      go_wp2_with fail
      go_loop [5, 6] (fun s i => ∃ k : Nat, k ≤ n1 ∧ s = .int .i64 (sumP (ps.take k)) ∧ i = .int .i64 k) (fun _ i => n1 - (intOf i).toNat)
      case atStart => exact ⟨0, Nat.zero_le _, rfl, rfl⟩
      case round =>
        obtain ⟨k, hk, rfl, rfl⟩ := hrel
        by_cases hlt : k < n1
        · obtain ⟨ad, b, x, y, hA1, _, hps, _, _, q2, _, q4⟩ := o5.pieces.at_ hlt
          subst hA1
          have hkn : (k : Int) < (n1 : Int) := by omega
          have hw : IntKind.i64.wrap (sumP (ps.take k) + y) = sumP (ps.take (k + 1)) := by
            rw [sumP_step hps]
            refine IntWalk.i64_in _ ?_
            have := HBN.out (k + 1)
            rw [sumP_step hps] at this
            omega
          clear hps
          go_wp2
          go_round
          case rel => exact ⟨k + 1, by omega, rfl, by go_num⟩
          case measure => simp [intOf]; omega
        · have hkn : k = n1 := by omega
          subst hkn
          rw [List.take_of_length_le (by rw [o5.1]; exact Nat.le_refl _)]
          rw [← hSz]
          go_wp2_with (go_at_call 13; refine (implTextValid_yes _ _ HSV.out).mono ?_; rintro e w' ⟨rfl, rfl⟩)
          go_ret
          exact ⟨rfl, b5⟩
end Go.Proofs.Ytecejfcoognkiaa.fnTableText
