/- Contracts of the laws' functions that measure and copy rows of strings. -/
import Derived.Test.YtppfggfmpmccpaaW2
import Derived.Test.YtppfggfmpmccpaaPs
import Derived.OwnWalk
import Derived.WalkSmall
namespace Go.Proofs.Ytppfggfmpmccpaa
open Go.RowKit

/-- The sizes of strings, added up. -/
def sumS (xs : List ByteArray) : Nat := (xs.map (·.size)).sum
theorem sumS_step {xs : List ByteArray} {k : Nat} {x : ByteArray} (h : xs[k]? = some x) : sumS (xs.take (k + 1)) = sumS (xs.take k) + x.size := by
  unfold sumS
  rw [List.take_add_one, h]
  simp
theorem sumS_take_le (xs : List ByteArray) (k : Nat) : sumS (xs.take k) ≤ sumS xs := by
  induction xs generalizing k with
  | nil => simp [sumS]
  | cons x xs ih =>
    cases k with
    | zero => simp [sumS]
    | succ k =>
      have := ih k
      simp only [sumS, List.take_succ_cons, List.map_cons, List.sum_cons] at this ⊢
      omega
set_option maxHeartbeats 400000 in
theorem szStringS_any (A : Option Addr) (n c : Nat) (xs : List ByteArray) (left : Nat) (w : World) (hn : n ≤ maxLen) (hx : ∀ x ∈ xs, x.size ≤ maxLen) (h : Strs w w.heap.size A n xs) (h' : left ≤ 1048576) :
    Calls Try.prog 30 #[.slice A n c, .int .i64 left] w fun e w' => e = .returned (.int .i64 (if n + sumS xs ≤ left then ((left - (n + sumS xs) : Nat) : Int) else -1)) ∧ w = w' := by
  unfold maxLen at hn hx
  by_cases h1 : left < n
  · rw [if_neg (by omega)]
    go_enter Try.func30, Try.ntmps30
    go_wp2
    go_ret
    exact ⟨rfl, rfl⟩
  · obtain ⟨R, hR⟩ : ∃ R : Int, (if n + sumS xs ≤ left then ((left - (n + sumS xs) : Nat) : Int) else -1) = R := ⟨_, rfl⟩
    rw [hR]
    have HR := Lib.hid hR
    clear hR
    go_enter Try.func30, Try.ntmps30
    go_wp2
    go_loop [1, 5] (fun l i => ∃ (k q : Nat), k ≤ n ∧ i = .int .i64 k ∧ l = .int .i64 q ∧ q ≤ left ∧ Hid (q + (n + sumS (xs.take k)) = left)) (fun _ i => n - (intOf i).toNat)
    case atStart => exact ⟨0, left - n, Nat.zero_le _, rfl, congrArg (Value.int IntKind.i64) (by omega), by omega, Lib.hid (by simp [sumS]; omega)⟩
    case round =>
      obtain ⟨k, q, hk, rfl, rfl, hq, HQ⟩ := hrel
      by_cases hlt : k < n
      · obtain ⟨ad, x, rfl, hb, hms, hc0⟩ := h.at_ hlt
        have hs := sumS_step hms
        have hxs := hx x (List.mem_of_getElem? hms)
        have hq2 := HQ.out
        by_cases hbig : q < x.size
        · have HE : Hid (R = -1) := Lib.hid (by
            rw [← HR.out, if_neg]
            have := sumS_take_le xs (k + 1)
            omega)
          clear hs hms hq2
          go_wp2
          go_ret
          exact ⟨by rw [HE.out]; rfl, rfl⟩
        · have HQ2 : Hid ((q - x.size) + (n + sumS (xs.take (k + 1))) = left) := Lib.hid (by omega)
          clear hs hms hq2
          go_wp2
          go_round
          case rel => exact ⟨k + 1, q - x.size, by omega, by go_num, congrArg (Value.int IntKind.i64) (by omega), by omega, HQ2⟩
          case measure => simp [intOf]; omega
      · have hkn : k = n := by omega
        subst hkn
        have h2 := HQ.out
        have h3 := h.1
        rw [List.take_of_length_le (by omega)] at h2
        have HE : Hid (R = (q : Int)) := Lib.hid (by
          rw [← HR.out, if_pos (by omega)]
          congr 1
          omega)
        clear h2
        go_wp2
        go_ret
        exact ⟨by rw [HE.out]; rfl, rfl⟩
theorem strInfo2 : (Try.prog.info? 9).map (fun i => (i.zero, i.size, i.bytes)) = some (some (.string ⟨#[]⟩), 1, 16) := by kernel_rfl
set_option maxHeartbeats 400000 in
theorem toStringS_any (A : Option Addr) (n c : Nat) (xs : List ByteArray) (w : World) (hn2 : n ≤ 1048576) (h : Strs w w.heap.size A n xs) :
    Calls Try.prog 32 #[.slice A n c] w fun e w' => ∃ g, e = .returned (.slice (some ⟨g, 0, none⟩) n n) ∧ OwnS 9 w' w.heap.size (some ⟨g, 0, none⟩) n n xs ∧ Below w.heap.size w w' := by
  obtain ⟨i0, hi, hz0, hz1, hz2⟩ := info_parts strInfo2
  go_enter Try.func32, Try.ntmps32
  go_wp2_with (refine wpList_make_full _ rfl (.tmp 6) (.tmp 6) 42 rfl w.heap.size 9 i0 _ 1 Try.underlying42 hi hz0 hz1 .i64 .i64 _ _ n rfl rfl rfl rfl (by rw [hz2]; omega) (by unfold maxLen; omega) (Nat.le_refl _) ?_; intro w1 hown hgrow)
  go_wp2
  have hbw1 : Below w.heap.size w w1 := (Below.refl _ _).grown hgrow (Nat.le_refl _) (fun _ h => by cases h)
  have hml := h.1
  obtain ⟨zs, hzs⟩ : ∃ zs, (madeCells (Value.string ⟨#[]⟩).cells (n * 1)).toList = zs := ⟨_, rfl⟩
  rw [hzs] at hown
  have hlen : zs.length = n * 1 := hown.1
  rw [← rowStr_zero xs zs] at hown
  clear hzs
  go_loopw [4] (fun i wr => ∃ k : Nat, k ≤ n ∧ i = .int .i64 k ∧ wr.ownsRow w.heap.size 9 1 (.slice (some ⟨w.heap.size, 0, none⟩) n n) n (rowStr xs k zs) ∧ Below w.heap.size w wr) (fun i _ => n - (intOf i).toNat)
  case atStart => exact ⟨0, Nat.zero_le _, rfl, hown, hbw1⟩
  case round =>
    clear hown hgrow hbw1 hi hz0 hz1 hz2
    obtain ⟨k, hk, rfl, hown, hbw⟩ := hrel
    by_cases hlt : k < n
    · obtain ⟨ad, x, rfl, hb, hms, hc0⟩ := (h.below hbw (Nat.le_refl _)).at_ hlt
      have HM := Lib.hid hms
      have HL := Lib.hid hml
      have HZ := Lib.hid hlen
      clear hms hml hlen
      have q0 := hown.cellAt k (by omega)
      obtain ⟨v0, hv0⟩ : ∃ v0, (rowStr xs k zs)[k]? = some v0 := ⟨_, List.getElem?_eq_getElem (by rw [rowStr_length (by have := HL.out; omega) (by have := HZ.out; omega), HZ.out]; omega)⟩
      rw [hv0] at q0
      have f0 := hown.frozenAt k
      clear hv0
      go_wp2
      go_roundw
      case rel => exact ⟨k + 1, by omega, by go_num, by rw [← rowStr_step HM.out (by have := HZ.out; omega)]; exact (hown.stored k _).1, bset hbw (Nat.le_refl _) _⟩
      case measure => simp [intOf]; omega
    · have hkn : k = n := by omega
      subst hkn
      rw [rowStr_end hml (by omega)] at hown
      have HL := Lib.hid hml
      clear hml hlen
      go_wp2
      go_ret
      exact ⟨_, rfl, ⟨HL.out, hown⟩, hbw⟩
end Go.Proofs.Ytppfggfmpmccpaa
