/- The walk of the law FnMarksValid: the call returns true and turns nothing that was there. -/
import Derived.Test.YtckhhdhkchcljaaD12
import Derived.Test.YtckhhdhkchcljaaD3
import Derived.Test.YtckhhdhkchcljaaD13
namespace Go.Proofs.Ytckhhdhkchcljaa.fnMarksValid
open Go.RowKit
theorem half (k : Nat) : ((k : Int).tdiv 2) = ((k / 2 : Nat) : Int) := rfl
set_option maxRecDepth 100000 in
set_option maxHeartbeats 3200000 in
theorem walk (A : Option Addr) (n c : Nat) (hnc : n ≤ c) (hc : c ≤ maxLen) (w : World) (hb : Byt w w.heap.size A n) :
    Calls Try.prog 6 #[.slice A n c] w fun e w' => e = .returned (.bool true) ∧ Below w.heap.size w w' := by
  have hc' := hc
  unfold maxLen at hc'
  by_cases h : 1048576 < n
  · go_enter Try.func6, Try.ntmps6
    go_wp2
    go_ret
    exact ⟨rfl, Below.refl _ _⟩
  · obtain ⟨i0, hi, hi0, hi1, hi2⟩ := info_parts drawMarkInfo
    go_enter Try.func6, Try.ntmps6
    go_wp2_with fail
    refine (DrawMarksValid_any _ _ _ _ hb hnc hc).mono ?_
    rintro e w1 ⟨s, A', k, c', ms, rfl, hs, hk, ho, hb1⟩
    have hsm : s.size ≤ maxLen := by unfold maxLen; omega
    have hz1 := hb1.size
    have hM1 := ho.marks
    go_wp2_with fail
    cases hv : marksB s.data.toList ms
    · have HV := Lib.hid hv
      clear hv
      with_reducible refine (implMarksValid_any s A' k c' ms _ hsm (by omega) hM1).mono ?_
      rw [HV.out]
      rintro e w2 ⟨rfl, hb2⟩
      have ho2 := ho.below hb2
      have hM2 := ho2.marks
      have hbw2 := bstep hb1 hb2
      have hz2 := hbw2.size
      clear ho hM1
      go_wp2_with (first | (go_at_call 26; refine (specMarksValid_any s A' k c' ms _ hsm (by omega) hM2).mono ?_; rw [HV.out]; rintro e w' ⟨rfl, rfl⟩) | (at_builtin; (with_reducible refine wpList_go (by kernel_rfl) ?_); refine wp_append_marks _ _ 38 rfl w.heap.size 43 i0 _ 16 Try.underlying38 hi hi0 hi1 hi2 rfl _ 0 [] rfl (owns_base (owns_empty w2 w2.heap.size 43 2 (Nat.le_refl _)) hz2) A' k c' w2.heap.size ms rfl ((hM2.below (balloc (Below.refl _ _) _) (Nat.le_refl _))) (by unfold maxLen; omega) (by omega) (by simp; omega) ?_; intro v3 w3 hown3 hgrow3) | (at_builtin; (with_reducible refine wpList_go (by kernel_rfl) ?_); refine wp_append_marks _ _ 38 rfl w.heap.size 43 i0 _ 16 Try.underlying38 hi hi0 hi1 hi2 rfl v3 (0 + k) ([] ++ markCells ms) rfl (hown3.alloc _) (some ⟨w3.heap.size, 0, none⟩) 1 1 (w3.heap.size + 1) [((s.size : Int) + 1, false)] rfl (marks_new _ _ _) (by unfold maxLen; omega) (by omega) (by simp; have := hgrow3.size; simp at this; omega) ?_; intro v4 w4 hown4 hgrow4; obtain ⟨g4, c4, rfl, _, _⟩ := hown4.form (by omega)) | fail)
      have hb4 : Below w.heap.size w w4 := (balloc ((balloc hbw2 _).grown hgrow3 (by simp; omega) (fun i hi => by injection hi with hi; simp at hi; omega)) _).grown hgrow4 (by simp; have := hgrow3.size; simp at this; omega) (fun i hi => (hown3.lt i hi).1)
      have hO4 : OwnV 43 w4 w.heap.size (some ⟨g4, 0, none⟩) (k + 1) c4 (ms ++ [((s.size : Int) + 1, false)]) := ⟨by rw [List.length_append, ho2.1]; rfl, by rw [markCells_append]; simpa using hown4⟩
      have HO := Lib.hid (marksB_out s.data.toList ms ((s.size : Int) + 1) false (by show (s.size : Int) < _; omega))
      with_reducible refine (implMarksValid_any s _ (k + 1) c4 _ _ hsm (by omega) hO4.marks).mono ?_
      rw [HO.out]
      rintro e w5 ⟨rfl, hb5⟩
      go_wp2_with (go_at_call 17; refine (alive_any _).mono ?_; rintro e w' ⟨rfl, rfl⟩)
      go_ret
      exact ⟨rfl, bstep hb4 hb5⟩
    · have HT := Lib.hid (marksB_take hv (k / 2))
      have HV := Lib.hid hv
      clear hv
      with_reducible refine (implMarksValid_any s A' k c' ms _ hsm (by omega) hM1).mono ?_
      rw [HV.out]
      rintro e w2 ⟨rfl, hb2⟩
      have ho2 := ho.below hb2
      have hM2 := ho2.marks
      have hbw2 := bstep hb1 hb2
      have hz2 := hbw2.size
      have hkc : k ≤ c' := owns_cap ho.2
      have q1 := half k
      have q2 : ((k / 2 : Nat) : Int) ≤ (c' : Int) := by omega
      have q3 : k / 2 ≤ c' := by omega
      have q4 : (0 : Int) ≤ ((k / 2 : Nat) : Int) := by omega
      clear ho hM1
      go_wp2_with (first | (go_at_call 26; refine (specMarksValid_any s A' k c' ms _ hsm (by omega) hM2).mono ?_; rw [HV.out]; rintro e w' ⟨rfl, rfl⟩) | fail)
      with_reducible refine (implMarksValid_any s A' (k / 2) c' (ms.take (k / 2)) _ hsm (by omega) (hM2.take (by omega))).mono ?_
      rw [HT.out]
      rintro e w3 ⟨rfl, hb3⟩
      have ho3 := ho2.below hb3
      have hM3 := ho3.marks
      have hbw3 := bstep hbw2 hb3
      have hz3 := hbw3.size
      clear ho2 hM2 q1 q2 q3 q4
      go_wp2_with (first | (at_builtin; (with_reducible refine wpList_go (by kernel_rfl) ?_); refine wp_append_marks _ _ 38 rfl w.heap.size 43 i0 _ 16 Try.underlying38 hi hi0 hi1 hi2 rfl _ 0 [] rfl (owns_base (owns_empty w3 w3.heap.size 43 2 (Nat.le_refl _)) hz3) A' k c' w3.heap.size ms rfl ((hM3.below (balloc (Below.refl _ _) _) (Nat.le_refl _))) (by unfold maxLen; omega) (by omega) (by simp; omega) ?_; intro v3 w4 hown3 hgrow3) | (at_builtin; (with_reducible refine wpList_go (by kernel_rfl) ?_); refine wp_append_marks _ _ 38 rfl w.heap.size 43 i0 _ 16 Try.underlying38 hi hi0 hi1 hi2 rfl v3 (0 + k) ([] ++ markCells ms) rfl (hown3.alloc _) (some ⟨w4.heap.size, 0, none⟩) 1 1 (w4.heap.size + 1) [((s.size : Int) + 1, false)] rfl (marks_new _ _ _) (by unfold maxLen; omega) (by omega) (by simp; have := hgrow3.size; simp at this; omega) ?_; intro v4 w5 hown4 hgrow4; obtain ⟨g4, c4, rfl, _, _⟩ := hown4.form (by omega)) | fail)
      have hb5 : Below w.heap.size w w5 := (balloc ((balloc hbw3 _).grown hgrow3 (by simp; omega) (fun i hi => by injection hi with hi; simp at hi; omega)) _).grown hgrow4 (by simp; have := hgrow3.size; simp at this; omega) (fun i hi => (hown3.lt i hi).1)
      have hO5 : OwnV 43 w5 w.heap.size (some ⟨g4, 0, none⟩) (k + 1) c4 (ms ++ [((s.size : Int) + 1, false)]) := ⟨by rw [List.length_append, ho3.1]; rfl, by rw [markCells_append]; simpa using hown4⟩
      have HO := Lib.hid (marksB_out s.data.toList ms ((s.size : Int) + 1) false (by show (s.size : Int) < _; omega))
      with_reducible refine (implMarksValid_any s _ (k + 1) c4 _ _ hsm (by omega) hO5.marks).mono ?_
      rw [HO.out]
      rintro e w6 ⟨rfl, hb6⟩
      go_wp2_with (go_at_call 17; refine (alive_any _).mono ?_; rintro e w' ⟨rfl, rfl⟩)
      go_ret
      exact ⟨rfl, bstep hb5 hb6⟩
end Go.Proofs.Ytckhhdhkchcljaa.fnMarksValid
