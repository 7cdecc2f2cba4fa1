/- The walk of the law FnExactLinesOf: the call returns true and turns nothing that was there. -/
import Derived.Test.YtppfggfmpmccpaaDoorW25
namespace Go.Proofs.YtppfggfmpmccpaaDoor.fnExactLinesOf
open Go.RowKit
set_option maxRecDepth 100000 in
set_option maxHeartbeats 3200000 in
theorem walk (s : ByteArray) (hs : s.size ≤ maxLen) (m : Int) (w : World) (hm : w.cell? ⟨0, 0, none⟩ = some (.int .i64 m)) :
    Calls Tryd.prog 4 #[.string s] w fun e w' => e = .returned (.bool true) ∧ Below w.heap.size w w' := by
  have hs' := hs
  unfold maxLen at hs'
  have hlt0 : 0 < w.heap.size := cell_lt hm
  by_cases h1 : 1048576 < (s.size : Int)
  · go_enter Tryd.func4, Tryd.ntmps4
    go_wp2
    go_ret
    exact ⟨rfl, Below.refl _ _⟩
  · go_enter Tryd.func4, Tryd.ntmps4
    go_wp2_with fail
    refine (specLinesOf_any s _ (by omega)).mono ?_
    rintro e w1 ⟨A, n, c, rfl, ho1, hb1⟩
    have hm1 := (hb1.cell (p := ⟨0, 0, none⟩) hlt0).trans hm
    have hz1 := hb1.size
    have hn : n ≤ 1048577 := by
      have h2 := ho1.1
      unfold linesR at h2
      split at h2
      · rw [linesB_length] at h2
        have := nlc_le s.data.toList
        have : s.data.toList.length = s.size := rfl
        omega
      · simp at h2
        omega
    go_wp2_with fail
    refine (implLinesOf_any s m _ (by omega) hm1).mono ?_
    rintro e w2 ⟨A2, n2, c2, rfl, ho2, hb2⟩
    obtain rfl : n2 = n := ho2.1.symm.trans ho1.1
    have hz2 := hb2.size
    have hm2 := (hb2.cell (p := ⟨0, 0, none⟩) (by simp; omega)).trans hm1
    have hs2 := (ho1.strs.below hb2 (Nat.le_refl _)).more hz2
    have hbw2 := bstep hb1 hb2
    go_wp2_with fail
    refine (eqStringS_same A2 A n2 c2 c _ _ (by omega) ho2.strs hs2).mono ?_
    rintro e w3 ⟨rfl, hb3⟩
    have hz3 := hb3.size
    have ho3 := ho2.below hb3
    have hs3 := (ho1.strs.below hb2 (Nat.le_refl _)).below hb3 hz2
    have hm3 := (hb3.cell (p := ⟨0, 0, none⟩) (by simp; omega)).trans hm2
    have hbw3 := bstep hbw2 hb3
    clear hs2 ho2
    go_wp2_with fail
    refine (markStringS_any A2 n2 c2 w1.heap.size _ 1 _ (by omega) (by omega) (by omega) ho3.2).mono ?_
    rintro e w4 ⟨rfl, ho4, hb4⟩
    have hz4 := hb4.size
    have hs4 := hs3.below hb4 (Nat.le_refl _)
    have hm4 := (hb4.cell (p := ⟨0, 0, none⟩) (by simp; omega)).trans hm3
    have hbw4 : Below w.heap.size w w4 := hbw3.trans (hb4.mono hz1)
    clear hs3 ho3
    go_wp2_with fail
    refine (heldStringS_any A2 n2 c2 1 _ (by omega) (by omega) ho4.strs).mono ?_
    rintro e w5 ⟨rfl, hb5⟩
    have hz5 := hb5.size
    have ho5 := ho4.below hb5
    have hs5 := hs4.below hb5 (by omega)
    have hm5 := (hb5.cell (p := ⟨0, 0, none⟩) (by simp; omega)).trans hm4
    have hbw5 := bstep hbw4 hb5
    clear hs4 ho4
    go_wp2_with fail
    refine (implLinesOf_any s m _ (by omega) hm5).mono ?_
    rintro e w6 ⟨A6, n6, c6, rfl, ho6, hb6⟩
    obtain rfl : n6 = n2 := ho6.1.symm.trans ho1.1
    have hz6 := hb6.size
    have ho5' := ho5.below hb6
    have hs6 := (hs5.below hb6 (by omega)).more (B' := w6.heap.size) (by omega)
    have hbw6 := bstep hbw5 hb6
    clear hs5 ho5
    go_wp2_with fail
    refine (eqStringS_same A6 A n6 c6 c _ _ (by omega) ho6.strs hs6).mono ?_
    rintro e w7 ⟨rfl, hb7⟩
    have ho7 := ho5'.below hb7
    have hbw7 := bstep hbw6 hb7
    go_wp2_with fail
    refine (heldStringS_any A2 n6 c2 1 _ (by omega) (by omega) ho7.strs).mono ?_
    rintro e w8 ⟨rfl, hb8⟩
    have hbw8 := bstep hbw7 hb8
    go_wp2
    go_ret
    exact ⟨rfl, hbw8⟩
end Go.Proofs.YtppfggfmpmccpaaDoor.fnExactLinesOf
