/- The walk of the law FnExactLinesText: the call returns true and turns nothing that was there. -/
import Derived.Test.YtppfggfmpmccpaaW24
import Derived.Test.YtppfggfmpmccpaaW28
import Derived.Test.YtppfggfmpmccpaaW29
namespace Go.Proofs.Ytppfggfmpmccpaa.fnExactLinesText
open Go.RowKit
theorem join_le (xs : List ByteArray) : (joinL (datas xs)).length ≤ sumS xs + xs.length := by
  induction xs with
  | nil => simp [joinL, datas]
  | cons x xs ih =>
    cases xs with
    | nil => simp [joinL, datas, sumS]
    | cons y ys =>
      have h1 : joinL (datas (x :: y :: ys)) = x.data.toList ++ 10 :: joinL (datas (y :: ys)) := rfl
      rw [h1, List.length_append, List.length_cons]
      have h2 : x.data.toList.length = x.size := rfl
      simp only [sumS, List.map_cons, List.sum_cons, List.length_cons] at ih ⊢
      omega
set_option maxRecDepth 100000 in
set_option maxHeartbeats 1600000 in
theorem walk (A : Option Addr) (n c : Nat) (xs : List ByteArray) (hn : n ≤ maxLen) (hx : ∀ x ∈ xs, x.size ≤ maxLen) (w : World) (h : Strs w w.heap.size A n xs) :
    Calls Try.prog 10 #[.slice A n c] w fun e w' => e = .returned (.bool true) ∧ Below w.heap.size w w' := by
  by_cases hbig : n + sumS xs ≤ 1048576
  · have hsum : ∀ x ∈ xs, x.size ≤ 1048576 := fun x hm => by
      obtain ⟨i, hi, he⟩ := List.getElem_of_mem hm
      have h1 := sumS_step (List.getElem?_eq_getElem hi)
      have h2 := sumS_take_le xs (i + 1)
      rw [he] at h1
      omega
    have hjl := join_le xs
    have hxl := h.1
    have hsz := szStringS_any A n c xs 1048576 w hn hx h (Nat.le_refl _)
    rw [if_pos hbig] at hsz
    go_enter Try.func10, Try.ntmps10
    go_wp2_with fail
    refine hsz.mono ?_
    rintro e w' ⟨rfl, rfl⟩
    have q1 : ¬ ((1048576 - (n + sumS xs) : Nat) : Int) < 0 := by omega
    go_wp2_with fail
    refine (toStringS_any A n c xs _ (by omega) h).mono ?_
    rintro e w1 ⟨g1, rfl, ho1, hb1⟩
    have h1 := (h.below hb1 (Nat.le_refl _)).more hb1.size
    go_wp2_with fail
    refine (specLinesText_any _ n n xs _ (by omega) (fun x hm => by have := hsum x hm; omega) ho1.strs).mono ?_
    rintro e w2 ⟨rfl, rfl⟩
    go_wp2_with fail
    refine (toStringS_any A n c xs _ (by omega) h1).mono ?_
    rintro e w3 ⟨g3, rfl, ho3, hb3⟩
    have hb03 := bstep hb1 hb3
    go_wp2_with fail
    refine (implLinesText_any _ _ _ n n xs _ (by omega) (by omega) ho3).mono ?_
    rintro e w4 ⟨rfl, hb4⟩
    have ho4 := ho3.below hb4
    have hb04 := bstep hb03 hb4
    have h4 := (h.below hb04 (Nat.le_refl _)).more hb04.size
    go_wp2_with fail
    refine (toStringS_any A n c xs _ (by omega) h4).mono ?_
    rintro e w5 ⟨g5, rfl, ho5, hb5⟩
    have ho45 := ho4.below hb5
    have hb05 := bstep hb04 hb5
    go_wp2_with fail
    refine (eqStringS_same _ _ n n n xs _ (by omega) ho45.strs ho5.strs).mono ?_
    rintro e w6 ⟨rfl, hb6⟩
    go_wp2
    go_ret
    exact ⟨rfl, bstep hb05 hb6⟩
  · have hsz := szStringS_any A n c xs 1048576 w hn hx h (Nat.le_refl _)
    rw [if_neg hbig] at hsz
    go_enter Try.func10, Try.ntmps10
    go_wp2_with fail
    refine hsz.mono ?_
    rintro e w' ⟨rfl, rfl⟩
    go_wp2
    go_ret
    exact ⟨rfl, Below.refl _ _⟩
end Go.Proofs.Ytppfggfmpmccpaa.fnExactLinesText
