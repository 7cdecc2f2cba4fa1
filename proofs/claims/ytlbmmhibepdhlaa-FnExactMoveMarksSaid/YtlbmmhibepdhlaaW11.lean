/- Contracts of the laws' own functions on marks: measuring, copying, comparing. -/
import Derived.Test.YtlbmmhibepdhlaaW2
import Derived.Test.YtlbmmhibepdhlaaPm
import Derived.OwnWalk
import Derived.StillTailTactics
namespace Go.Proofs.Ytlbmmhibepdhlaa
open Go.RowKit

theorem szMarkS_ok (A : Option Addr) (n c : Nat) (left : Int) (w : World) (h : (n : Int) ≤ left) (h' : left ≤ 1048576) :
    Calls Try.prog 31 #[.slice A n c, .int .i64 left] w fun e w' => e = .returned (.int .i64 (left - n)) ∧ w = w' := by
  go_enter Try.func31, Try.ntmps31
  go_wp2
  go_ret
  exact ⟨rfl, rfl⟩
theorem szMarkS_big (A : Option Addr) (n c : Nat) (left : Int) (w : World) (hn : n ≤ maxLen) (h : left < (n : Int)) (h0 : 0 ≤ left) (h' : left ≤ 1048576) :
    Calls Try.prog 31 #[.slice A n c, .int .i64 left] w fun e w' => e = .returned (.int .i64 (-1)) ∧ w = w' := by
  unfold maxLen at hn
  go_enter Try.func31, Try.ntmps31
  go_wp2
  go_ret
  exact ⟨rfl, rfl⟩
theorem toMark_any (p : Int) (b : Bool) (w : World) :
    Calls Try.prog 59 #[.agg #[.int .i64 p, .bool b]] w fun e w' => e = .returned (.agg #[.int .i64 p, .bool b]) ∧ Below w.heap.size w w' := by
  go_enter Try.func59, Try.ntmps59
  go_wp2
  go_returns
  exact ⟨rfl, (by repeat (first | exact Below.refl _ _ | assumption | (refine bstep ?_ (by assumption)) | refine balloc ?_ _ | refine bdrew ?_ | refine bdrewN ?_ _ | (refine bset ?_ (by simp) _) | (refine bset ?_ (by simp; omega) _)))⟩
theorem eqMark_same (p : Int) (b : Bool) (w : World) :
    Calls Try.prog 61 #[.agg #[.int .i64 p, .bool b], .agg #[.int .i64 p, .bool b]] w fun e w' => e = .returned (.bool true) ∧ Below w.heap.size w w' := by
  go_enter Try.func61, Try.ntmps61
  go_wp2
  go_returns
  exact ⟨rfl, (by repeat (first | exact Below.refl _ _ | assumption | (refine bstep ?_ (by assumption)) | refine balloc ?_ _ | refine bdrew ?_ | refine bdrewN ?_ _ | (refine bset ?_ (by simp) _) | (refine bset ?_ (by simp; omega) _)))⟩
set_option maxHeartbeats 400000 in
theorem eqMarkS_same (A A' : Option Addr) (n c c' : Nat) (ms : List (Int × Bool)) (w : World) (hn2 : n ≤ 1048576) (h : Marks w w.heap.size A n ms) (h' : Marks w w.heap.size A' n ms) :
    Calls Try.prog 35 #[.slice A n c, .slice A' n c'] w fun e w' => e = .returned (.bool true) ∧ Below w.heap.size w w' := by
  go_enter Try.func35, Try.ntmps35
  go_wp2
  go_loopw [5] (fun i wr => ∃ k : Nat, k ≤ n ∧ i = .int .i64 k ∧ Below w.heap.size w wr) (fun i _ => n - (intOf i).toNat)
  case atStart => exact ⟨0, Nat.zero_le _, rfl, Below.refl _ _⟩
  case round =>
    obtain ⟨k, hk, rfl, hbw⟩ := hrel
    have hz := hbw.size
    by_cases hlt : k < n
    · obtain ⟨ad, p, b, rfl, hb, hms, hc0, hc1, hc2⟩ := (h.below hbw (Nat.le_refl _)).at_ hlt
      obtain ⟨ad', p', b', rfl, hb', hms', hc0', hc1', hc2'⟩ := (h'.below hbw (Nat.le_refl _)).at_ hlt
      rw [hms] at hms'
      injection hms' with hms'
      injection hms' with e1 e2
      subst e1 e2
      clear hms
      go_wp2_with fail
      go_still_tail 8, (by kernel_rfl)
      change wpList _ _ _ _ _ wr.drew
      go_wp2_with (go_at_call 61; refine (eqMark_same _ _ _).mono ?_; rintro e w1 ⟨rfl, hb1⟩; obtain ⟨hc1, hf1⟩ := bcell hb1; have hz1 := hb1.size; (try simp at hz1); (try replace hz1 := Nat.lt_of_succ_le hz1); (try have hy1w : w.heap.size < w1.heap.size := by omega); (try have hx1w : w.heap.size + 1 < w1.heap.size := by omega))
      go_roundw
      case rel => exact ⟨k + 1, by omega, by go_num, bstep (bdrew hbw) hb1⟩
      case measure => simp [intOf]; omega
    · go_wp2
      go_ret
      exact ⟨rfl, hbw⟩
theorem markInfo : (Try.prog.info? 68).map (fun i => (i.zero, i.size, i.bytes)) = some (some (.agg #[.int .i64 0, .bool false]), 2, 16) := by kernel_rfl
set_option maxHeartbeats 400000 in
theorem toMarkS_any (A : Option Addr) (n c : Nat) (ms : List (Int × Bool)) (w : World) (hn2 : n ≤ 1048576) (h : Marks w w.heap.size A n ms) :
    Calls Try.prog 33 #[.slice A n c] w (MadeM 68 w n ms) := by
  obtain ⟨i0, hi, hz0, hz1, hz2⟩ := info_parts markInfo
  go_enter Try.func33, Try.ntmps33
  go_wp2_with (refine wpList_make_full _ rfl (.tmp 6) (.tmp 6) 49 rfl w.heap.size 68 i0 _ 2 Try.underlying49 hi hz0 hz1 .i64 .i64 _ _ n rfl rfl rfl rfl (by rw [hz2]; omega) (by unfold maxLen; omega) (Nat.le_refl _) ?_; intro w1 hown hgrow)
  go_wp2
  have hbw1 : Below w.heap.size w w1 := (Below.refl _ _).grown hgrow (Nat.le_refl _) (fun _ h => by cases h)
  have hlen : (madeCells (Value.agg #[.int .i64 0, .bool false]).cells (n * 2)).toList.length = n * 2 := hown.1
  have hml := h.1
  rw [← rowAt_zero ms (madeCells (Value.agg #[.int .i64 0, .bool false]).cells (n * 2)).toList] at hown
  obtain ⟨zs, hzs⟩ : ∃ zs, (madeCells (Value.agg #[.int .i64 0, .bool false]).cells (n * 2)).toList = zs := ⟨_, rfl⟩
  rw [hzs] at hown hlen
  clear hzs
  go_loopw [4] (fun i wr => ∃ k : Nat, k ≤ n ∧ i = .int .i64 k ∧ wr.ownsRow w.heap.size 68 2 (.slice (some ⟨w.heap.size, 0, none⟩) n n) n (rowAt ms k zs) ∧ Below w.heap.size w wr) (fun i _ => n - (intOf i).toNat)
  case atStart => exact ⟨0, Nat.zero_le _, rfl, hown, hbw1⟩
  case round =>
    clear hown hgrow hbw1 hi hz0 hz1 hz2
    obtain ⟨k, hk, rfl, hown, hbw⟩ := hrel
    have hz := hbw.size
    have hg := (owns_lt hown).2
    by_cases hlt : k < n
    · obtain ⟨ad, p, b, rfl, hb, hms, hc0, hc1, hc2⟩ := (h.below hbw (Nat.le_refl _)).at_ hlt
      have HM := Lib.hid hms
      have HL := Lib.hid hml
      have HZ := Lib.hid hlen
      clear hms hml hlen
      go_wp2_with fail
      refine (toMark_any _ _ _).mono ?_
      rintro e w1 ⟨rfl, hb1⟩
      have hown1 := owns_below hown hb1
      have hz1 := hb1.size
      have q0 := hown1.cellAt (k * 2) (by omega)
      have q1 := hown1.cellAt (k * 2 + 1) (by omega)
      obtain ⟨v0, hv0⟩ : ∃ v0, (rowAt ms k zs)[k * 2]? = some v0 := ⟨_, List.getElem?_eq_getElem (by rw [rowAt_length (by have := HL.out; omega) (by have := HZ.out; omega), HZ.out]; omega)⟩
      obtain ⟨v1, hv1⟩ : ∃ v1, (rowAt ms k zs)[k * 2 + 1]? = some v1 := ⟨_, List.getElem?_eq_getElem (by rw [rowAt_length (by have := HL.out; omega) (by have := HZ.out; omega), HZ.out]; omega)⟩
      rw [hv0] at q0
      rw [hv1] at q1
      have f0 := hown1.frozenAt (k * 2)
      have f1 := hown1.frozenAt (k * 2 + 1)
      clear hv0 hv1
      go_wp2
      go_roundw
      case rel => exact ⟨k + 1, by omega, by go_num, by rw [← rowAt_step HM.out (by have := HZ.out; omega)]; exact ((hown1.stored (k * 2) _).1.stored (k * 2 + 1) _).1, bset (bset (bstep hbw hb1) (Nat.le_refl _) _) (Nat.le_refl _) _⟩
      case measure => simp [intOf]; omega
    · have hkn : k = n := by omega
      subst hkn
      rw [rowAt_end hml hlen] at hown
      have HL := Lib.hid hml
      clear hml hlen
      go_wp2
      go_ret
      exact ⟨_, rfl, ⟨HL.out, hown⟩, hbw⟩
end Go.Proofs.Ytlbmmhibepdhlaa
