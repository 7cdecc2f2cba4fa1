/- The walk of the law FnLinesText: the call returns true and turns nothing that was there. -/
import Derived.Test.YtecejfcoognkiaaDoorD3
import Derived.Test.YtecejfcoognkiaaDoorD14
import Derived.Test.YtecejfcoognkiaaDoorW28
import Derived.Test.YtecejfcoognkiaaDoorW33
namespace Go.Proofs.YtecejfcoognkiaaDoor.fnLinesText
open Go.RowKit
theorem join_le (xs : List ByteArray) : (joinL (datas xs)).length ≤ (xs.map (·.size)).sum + xs.length := by
  induction xs with
  | nil => simp [joinL, datas]
  | cons x xs ih =>
    cases xs with
    | nil => simp [joinL, datas]
    | cons y ys =>
      have h1 : joinL (datas (x :: y :: ys)) = x.data.toList ++ 10 :: joinL (datas (y :: ys)) := rfl
      rw [h1, List.length_append, List.length_cons]
      have h2 : x.data.toList.length = x.size := rfl
      simp only [List.map_cons, List.sum_cons, List.length_cons] at ih ⊢
      omega
theorem sum_le (xs : List ByteArray) (h : ∀ x ∈ xs, x.size ≤ 200) : (xs.map (·.size)).sum ≤ xs.length * 200 := by
  induction xs with
  | nil => simp
  | cons x xs ih =>
    have h1 := h x (by simp)
    have h2 := ih fun y hy => h y (by simp [hy])
    simp only [List.map_cons, List.sum_cons, List.length_cons]
    omega
set_option maxRecDepth 100000 in
set_option maxHeartbeats 1600000 in
theorem walk (A : Option Addr) (n c : Nat) (hnc : n ≤ c) (hc : c ≤ maxLen) (m : Int) (w : World) (hm : w.cell? ⟨0, 0, none⟩ = some (.int .i64 m)) (hb : Byt w w.heap.size A n) :
    Calls Tryd.prog 7 #[.slice A n c] w fun e w' => e = .returned (.bool true) ∧ Below w.heap.size w w' := by
  have hc' := hc
  unfold maxLen at hc'
  have hlt0 : 0 < w.heap.size := cell_lt hm
  by_cases h : 1048576 < n
  · go_enter Tryd.func7, Tryd.ntmps7
    go_wp2
    go_ret
    exact ⟨rfl, Below.refl _ _⟩
  · go_enter Tryd.func7, Tryd.ntmps7
    go_wp2_with fail
    refine (DrawLinesText_any _ _ _ _ hb hnc hc).mono ?_
    rintro e w1 ⟨A1, n1, c1, xs, rfl, ho1, hn1, hx, hb1⟩
    have hm1 := (hb1.cell (p := ⟨0, 0, none⟩) hlt0).trans hm
    have hl1 : 0 < w1.heap.size := cell_lt hm1
    have hj : (joinL (datas xs)).length ≤ 1099511627776 := by
      have h1 := join_le xs
      have h2 := sum_le xs hx
      have h3 := ho1.1
      omega
    have hx2 : ∀ x ∈ xs, x.size ≤ 1099511627776 := fun x hm => by have := hx x hm; omega
    have hcase : mk (linesTextL (datas xs)) = ⟨#[]⟩ ∨ ∃ s : ByteArray, mk (linesTextL (datas xs)) = s ∧ s.size ≤ 120 ∧ s.size ≠ 0 ∧ tvB s.data.toList = true ∧ linesR s = xs := by
      by_cases he : linesTextL (datas xs) = []
      · exact .inl (by rw [he]; rfl)
      · obtain ⟨e1, e2, e3⟩ := linesText_lines he
        refine .inr ⟨_, rfl, ?_, ?_, by rw [mk_data]; exact e3, ?_⟩
        · rw [mk_size]
          exact ((tvB_iff _).1 e3).1
        · rw [mk_size]
          intro h0
          exact he (List.eq_nil_of_length_eq_zero h0)
        · rw [linesR_1 (by rw [mk_data]; exact e3)]
          unfold linesB
          rw [mk_data, e2, mk_datas]
    have HX := Lib.hid hx2
    clear hx hx2
    rcases hcase with h0 | ⟨s, h0, hs, hs0, ht, hlr⟩
    · have H0 := Lib.hid h0
      clear h0
      go_wp2_with fail
      refine (implLinesText_any _ _ _ _ _ _ _ (by omega) hj ho1).mono ?_
      rw [H0.out]
      rintro e w2 ⟨rfl, hb2⟩
      have ho2 := ho1.below hb2
      have hbw2 := bstep hb1 hb2
      go_wp2_with fail
      refine (specLinesText_any _ _ _ _ _ (by omega) HX.out ho2.strs).mono ?_
      rw [H0.out]
      rintro e w3 ⟨rfl, rfl⟩
      go_wp2_with (go_at_call 13; refine (alive_any _).mono ?_; rintro e w' ⟨rfl, rfl⟩)
      go_ret
      exact ⟨rfl, hbw2⟩
    · have H0 := Lib.hid h0
      have HT := Lib.hid ht
      have HLR := Lib.hid hlr
      have hne := str_full2 s hs0
      have hsm : s.size ≤ maxLen := by unfold maxLen; omega
      clear h0 ht hlr
      go_wp2_with fail
      refine (implLinesText_any _ _ _ _ _ _ _ (by omega) hj ho1).mono ?_
      rw [H0.out]
      rintro e w2 ⟨rfl, hb2⟩
      have ho2 := ho1.below hb2
      have hbw2 := bstep hb1 hb2
      have hm2 := (hb2.cell (p := ⟨0, 0, none⟩) hl1).trans hm1
      go_wp2_with fail
      refine (specLinesText_any _ _ _ _ _ (by omega) HX.out ho2.strs).mono ?_
      rw [H0.out]
      rintro e w3 ⟨rfl, rfl⟩
      go_wp2_with fail
      refine (implLinesOf_any s m _ (by omega) hm2).mono ?_
      rw [HLR.out]
      rintro e w4 ⟨A4, n4, c4, rfl, ho4, hb4⟩
      obtain rfl : n1 = n4 := ho1.1.symm.trans ho4.1
      have ho24 := ho2.below hb4
      have hbw4 := bstep hbw2 hb4
      go_wp2_with fail
      refine (sameTexts_same _ _ _ _ _ _ _ (by omega) ho4.strs ho24.strs).mono ?_
      rintro e w5 ⟨rfl, hb5⟩
      go_wp2_with (first | (go_at_call 26; refine (implTextValid_any _ _ hsm).mono ?_; rw [HT.out]; rintro e w' ⟨rfl, rfl⟩) | (go_at_call 13; refine (alive_any _).mono ?_; rintro e w' ⟨rfl, rfl⟩))
      go_ret
      exact ⟨rfl, bstep hbw4 hb5⟩
end Go.Proofs.YtecejfcoognkiaaDoor.fnLinesText
