/- The walk of the law FnExactTableOf: the call returns true and turns nothing that was there. -/
import Derived.Test.YtppfggfmpmccpaaW17
import Derived.Test.YtppfggfmpmccpaaW19
namespace Go.Proofs.Ytppfggfmpmccpaa.fnExactTableOf
open Go.RowKit
theorem short (l : List UInt8) : (tableOfP l).length ≤ 1 := by
  unfold tableOfP
  split
  · split
    · exact Nat.zero_le _
    · exact Nat.le_refl _
  · exact Nat.zero_le _
set_option maxRecDepth 100000 in
set_option maxHeartbeats 1600000 in
theorem walk (s : ByteArray) (hs : s.size ≤ maxLen) (w : World) :
    Calls Try.prog 3 #[.string s] w fun e w' => e = .returned (.bool true) ∧ Below w.heap.size w w' := by
  have hs' := hs
  unfold maxLen at hs'
  by_cases h : 1048576 < (s.size : Int)
  · go_enter Try.func3, Try.ntmps3
    go_wp2
    go_ret
    exact ⟨rfl, Below.refl _ _⟩
  · have hS := short s.data.toList
    have h0 := fun w => specTableOf_any s w hs
    have h1 := fun w => implTableOf_any s w hs
    obtain ⟨P, hP⟩ : ∃ P, tableOfP s.data.toList = P := ⟨_, rfl⟩
    obtain ⟨F, hF⟩ : ∃ F, tableOfF s.data.toList = F := ⟨_, rfl⟩
    rw [hP] at hS h0 h1
    rw [hF] at h0 h1
    clear hP hF
    obtain ⟨n, hn⟩ : ∃ n, P.length = n := ⟨_, rfl⟩
    have HN := Lib.hid hn
    rw [hn] at hS
    clear hn
    go_enter Try.func3, Try.ntmps3
    go_wp2_with fail
    refine (h0 _).mono ?_
    rintro e w1 ⟨A1, n1, c1, rfl, ho1, hb1⟩
    obtain rfl : n1 = n := by rw [← HN.out, ho1.1]
    have hz1 := hb1.size
    go_wp2_with fail
    refine (h1 _).mono ?_
    rintro e w2 ⟨A2, n2, c2, rfl, ho2, hb2⟩
    obtain rfl : n2 = n1 := by rw [← HN.out, ho2.1]
    have hz2 := hb2.size
    simp at hz2
    have ho12 : OwnP 49 w2 w.heap.size A1 n2 c1 P := OwnP.below ⟨ho1.1, ho1.2.alloc _⟩ hb2
    have a0 : w2.cell? ⟨w1.heap.size, 0, none⟩ = some (.string (mk F)) := (hb2.cell (p := ⟨w1.heap.size, 0, none⟩) (by simp)).trans (by simp)
    have a1 : w2.cell? ⟨w1.heap.size, 1, none⟩ = some (.string (mk [])) := (hb2.cell (p := ⟨w1.heap.size, 1, none⟩) (by simp)).trans (by simp)
    have a2 : w2.cell? ⟨w1.heap.size, 2, none⟩ = some (.slice A1 n2 c1) := (hb2.cell (p := ⟨w1.heap.size, 2, none⟩) (by simp)).trans (by simp)
    have hz2' : w1.heap.size < w2.heap.size := by omega
    go_wp2_with fail
    refine (eqTable_same _ _ _ _ _ _ _ _ _ (by omega) (OwnP.pieces (T := 49) ⟨ho2.1, ho2.2.alloc _⟩) (OwnP.pieces (T := 49) ⟨ho12.1, ho12.2.alloc _⟩)).mono ?_
    rintro e w3 ⟨rfl, hb3⟩
    have hz3 := hb3.size
    simp at hz3
    have ho13 := OwnP.below (T := 49) ⟨ho12.1, ho12.2.alloc _⟩ hb3
    have ho23 := OwnP.below (T := 49) ⟨ho2.1, ho2.2.alloc _⟩ hb3
    have L2 := Lib.hid ho2.2.lt
    have L1 := Lib.hid ho1.2.lt
    have e0 : w3.cell? ⟨w1.heap.size, 0, none⟩ = some (.string (mk F)) := (hb3.cell (p := ⟨w1.heap.size, 0, none⟩) (by simp; omega)).trans (by simp [go_sem, hz2', a0])
    have e1 : w3.cell? ⟨w1.heap.size, 1, none⟩ = some (.string (mk [])) := (hb3.cell (p := ⟨w1.heap.size, 1, none⟩) (by simp; omega)).trans (by simp [go_sem, hz2', a1])
    have e2 : w3.cell? ⟨w1.heap.size, 2, none⟩ = some (.slice A1 n2 c1) := (hb3.cell (p := ⟨w1.heap.size, 2, none⟩) (by simp; omega)).trans (by simp [go_sem, hz2', a2])
    have f0 : w3.cell? ⟨w2.heap.size, 0, none⟩ = some (.string (mk F)) := (hb3.cell (p := ⟨w2.heap.size, 0, none⟩) (by simp)).trans (by simp)
    have f1 : w3.cell? ⟨w2.heap.size, 1, none⟩ = some (.string (mk [])) := (hb3.cell (p := ⟨w2.heap.size, 1, none⟩) (by simp)).trans (by simp)
    have f2 : w3.cell? ⟨w2.heap.size, 2, none⟩ = some (.slice A2 n2 c2) := (hb3.cell (p := ⟨w2.heap.size, 2, none⟩) (by simp)).trans (by simp)
    have hB3 : Below w.heap.size w w3 := ((hb1.alloc hz1 _).trans (hb2.mono (by simp; omega))).alloc (by omega) _ |>.trans (hb3.mono (by simp; omega))
    simp only [World.size_alloc] at ho13 ho23 L2
    go_wp2_with fail
    refine (markTable_any _ _ _ _ _ _ _ _ _ (by omega) (by omega) (by omega) ho23).mono ?_
    rintro e w4 ⟨rfl, hm4, hg4⟩
    have hz4 := hg4.size
    have ho14 := ho13.kept hg4 (fun k hk hg => by have h1 := (L1.out k hk).2; have h2 := (L2.out k hg).1; omega)
    have hn1 : some w1.heap.size ≠ (Value.slice A2 n2 c2).ownBlock := fun e => by have h2 := (L2.out _ e.symm).1; omega
    have hn2 : some w2.heap.size ≠ (Value.slice A2 n2 c2).ownBlock := fun e => by have h2 := (L2.out _ e.symm).2; omega
    have i0 : w4.cell? ⟨w1.heap.size, 0, none⟩ = some (.string (mk F)) := (hg4.cell_far _ (by simp; omega) hn1).trans e0
    have i1 : w4.cell? ⟨w1.heap.size, 1, none⟩ = some (.string (mk [])) := (hg4.cell_far _ (by simp; omega) hn1).trans e1
    have i2 : w4.cell? ⟨w1.heap.size, 2, none⟩ = some (.slice A1 n2 c1) := (hg4.cell_far _ (by simp; omega) hn1).trans e2
    have j0 : w4.cell? ⟨w2.heap.size, 0, none⟩ = some (.string (mk F)) := (hg4.cell_far _ (by simp; omega) hn2).trans f0
    have j1 : w4.cell? ⟨w2.heap.size, 1, none⟩ = some (.string (mk [])) := (hg4.cell_far _ (by simp; omega) hn2).trans f1
    have j2 : w4.cell? ⟨w2.heap.size, 2, none⟩ = some (.slice A2 n2 c2) := (hg4.cell_far _ (by simp; omega) hn2).trans f2
    have hB4 := hB3.grown hg4 (by omega) (fun g hg => by have h2 := (L2.out _ hg).1; omega)
    clear e0 e1 e2 f0 f1 f2 a0 a1 a2 hg4
    go_wp2_with fail
    refine (heldTable_any _ _ _ _ _ _ _ (by omega) (by omega) (by omega) hm4.pieces).mono ?_
    rintro e w5 ⟨rfl, hb5⟩
    have hz5 := hb5.size
    have ho15 := ho14.below hb5
    have hm5 := hm4.below hb5
    have k0 := (hb5.cell (p := ⟨w1.heap.size, 0, none⟩) (by simp; omega)).trans i0
    have k1 := (hb5.cell (p := ⟨w1.heap.size, 1, none⟩) (by simp; omega)).trans i1
    have k2 := (hb5.cell (p := ⟨w1.heap.size, 2, none⟩) (by simp; omega)).trans i2
    have l0 := (hb5.cell (p := ⟨w2.heap.size, 0, none⟩) (by simp; omega)).trans j0
    have l1 := (hb5.cell (p := ⟨w2.heap.size, 1, none⟩) (by simp; omega)).trans j1
    have l2 := (hb5.cell (p := ⟨w2.heap.size, 2, none⟩) (by simp; omega)).trans j2
    clear i0 i1 i2 j0 j1 j2
    go_wp2_with fail
    refine (h1 _).mono ?_
    rintro e w6 ⟨A6, n6, c6, rfl, ho6, hb6⟩
    obtain rfl : n6 = n2 := by rw [← HN.out, ho6.1]
    have hz6 := hb6.size
    have ho16 := ho15.below hb6
    have hm6 := hm5.below hb6
    have p0 := (hb6.cell (p := ⟨w1.heap.size, 0, none⟩) (by simp; omega)).trans k0
    have p1 := (hb6.cell (p := ⟨w1.heap.size, 1, none⟩) (by simp; omega)).trans k1
    have p2 := (hb6.cell (p := ⟨w1.heap.size, 2, none⟩) (by simp; omega)).trans k2
    have q0 := (hb6.cell (p := ⟨w2.heap.size, 0, none⟩) (by simp; omega)).trans l0
    have q1 := (hb6.cell (p := ⟨w2.heap.size, 1, none⟩) (by simp; omega)).trans l1
    have q2 := (hb6.cell (p := ⟨w2.heap.size, 2, none⟩) (by simp; omega)).trans l2
    have hw16 : w1.heap.size < w6.heap.size := by omega
    have hw26 : w2.heap.size < w6.heap.size := by omega
    clear k0 k1 k2 l0 l1 l2
    go_wp2_with fail
    refine (eqTable_same _ _ _ _ _ _ _ _ _ (by omega) (OwnP.pieces (T := 49) ⟨ho6.1, ho6.2.alloc _⟩) (OwnP.pieces (T := 49) ⟨ho16.1, ho16.2.alloc _⟩)).mono ?_
    rintro e w7 ⟨rfl, hb7⟩
    have hz7 := hb7.size
    simp at hz7
    have hm7 := OwnP.below (T := 49) ⟨hm6.1, hm6.2.alloc _⟩ hb7
    have r0 : w7.cell? ⟨w2.heap.size, 0, none⟩ = some (.string (mk F)) := (hb7.cell (p := ⟨w2.heap.size, 0, none⟩) (by simp; omega)).trans (by simp [go_sem, hw26, q0])
    have r1 : w7.cell? ⟨w2.heap.size, 1, none⟩ = some (.string (mk [])) := (hb7.cell (p := ⟨w2.heap.size, 1, none⟩) (by simp; omega)).trans (by simp [go_sem, hw26, q1])
    have r2 : w7.cell? ⟨w2.heap.size, 2, none⟩ = some (.slice A2 n6 c2) := (hb7.cell (p := ⟨w2.heap.size, 2, none⟩) (by simp; omega)).trans (by simp [go_sem, hw26, q2])
    have hB7 : Below w.heap.size w w7 := (((hB4.trans (hb5.mono (by omega))).trans (hb6.mono (by omega))).alloc (by omega) _).trans (hb7.mono (by simp; omega))
    clear p0 p1 p2 q0 q1 q2
    go_wp2_with fail
    refine (heldTable_any _ _ _ _ _ _ _ (by omega) (by omega) (by omega) hm7.pieces).mono ?_
    rintro e w8 ⟨rfl, hb8⟩
    go_wp2
    go_ret
    exact ⟨rfl, hB7.trans (hb8.mono (by omega))⟩
end Go.Proofs.Ytppfggfmpmccpaa.fnExactTableOf
