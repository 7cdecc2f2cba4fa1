/- The walk of the law FnExactTableText: the call returns true and turns nothing that was there. -/
import Derived.Test.YtppfggfmpmccpaaW17
import Derived.Test.YtppfggfmpmccpaaW22
import Derived.Deep.RegionHeld3
namespace Go.Proofs.Ytppfggfmpmccpaa.fnExactTableText
open Go.RowKit
set_option maxRecDepth 100000 in
set_option maxHeartbeats 800000 in
theorem walk (f m : ByteArray) (A : Option Addr) (n c : Nat) (ps : List (Bool × Int × Int)) (hf : f.size ≤ maxLen) (hm : m.size ≤ maxLen) (hn : n ≤ maxLen) (w : World) (hr : Pieces w w.heap.size A n ps) :
    Calls Try.prog 7 #[.agg #[.string f, .string m, .slice A n c]] w fun e w' => e = .returned (.bool true) ∧ Below w.heap.size w w' := by
  by_cases h : 1048576 < (f.size : Int) + m.size + n
  · go_enter Try.func7, Try.ntmps7
    go_wp2_with (go_at_call 16; refine (szTable_big _ _ _ _ _ _ _ hf hm hn (by omega) (by omega) (by omega)).mono ?_; rintro e w1 ⟨rfl, hb1⟩; obtain ⟨hc1, hf1⟩ := bcell hb1; have hz1 := hb1.size; (try simp at hz1); (try replace hz1 := Nat.lt_of_succ_le hz1); (try have hy1w : w.heap.size < w1.heap.size := by omega); (try have hx1w : w.heap.size + 1 < w1.heap.size := by omega))
    go_ret
    exact ⟨rfl, (by repeat (first | exact Below.refl _ _ | assumption | (refine bstep ?_ (by assumption)) | refine balloc ?_ _ | refine bdrew ?_ | refine bdrewN ?_ _ | refine bset ?_ (by first | (simp; done) | (simp; omega)) _))⟩
  · have hn2 : n ≤ 1048576 := by omega
    have hf2 : f.size ≤ 1048576 := by omega
    have hm2 : m.size ≤ 1048576 := by omega
    go_enter Try.func7, Try.ntmps7
    go_wp2_with fail
    refine (szTable_ok _ _ _ _ _ _ _ (by omega) (by omega)).mono ?_
    rintro e w1 ⟨rfl, hb1⟩
    have hz1 := hb1.size
    simp at hz1
    have a0 : w1.cell? ⟨w.heap.size, 0, none⟩ = some (.string f) := (hb1.cell (p := ⟨w.heap.size, 0, none⟩) (by simp)).trans (by simp)
    have a1 : w1.cell? ⟨w.heap.size, 1, none⟩ = some (.string m) := (hb1.cell (p := ⟨w.heap.size, 1, none⟩) (by simp)).trans (by simp)
    have a2 : w1.cell? ⟨w.heap.size, 2, none⟩ = some (.slice A n c) := (hb1.cell (p := ⟨w.heap.size, 2, none⟩) (by simp)).trans (by simp)
    have hB1 : Below w.heap.size w w1 := bstep (balloc (Below.refl _ _) _) hb1
    go_wp2_with fail
    refine (toTable_any _ _ _ _ _ _ _ hn2 ((hr.below hB1 (Nat.le_refl _)).more hB1.size)).mono ?_
    rintro e w2 ⟨A2, n2, c2, rfl, ho2, hb2⟩
    have hl := hr.1
    obtain rfl : n2 = n := by rw [← ho2.1, hl]
    rw [mk_of, mk_of]
    have hz2 := hb2.size
    go_wp2_with fail
    refine (specTableText_any _ _ _ _ _ _ _ hf2 hm2 hn2 ho2.pieces).mono ?_
    rintro e w3 ⟨rfl, hb3⟩
    have hz3 := hb3.size
    have hB3 := bstep (bstep hB1 hb2) hb3
    have b0 := (hb3.cell (p := ⟨w.heap.size, 0, none⟩) (by simp; omega)).trans ((hb2.cell (p := ⟨w.heap.size, 0, none⟩) (by simp; omega)).trans a0)
    have b1 := (hb3.cell (p := ⟨w.heap.size, 1, none⟩) (by simp; omega)).trans ((hb2.cell (p := ⟨w.heap.size, 1, none⟩) (by simp; omega)).trans a1)
    have b2 := (hb3.cell (p := ⟨w.heap.size, 2, none⟩) (by simp; omega)).trans ((hb2.cell (p := ⟨w.heap.size, 2, none⟩) (by simp; omega)).trans a2)
    clear a0 a1 a2
    go_wp2_with fail
    refine (toTable_any _ _ _ _ _ _ _ hn2 ((hr.below hB3 (Nat.le_refl _)).more hB3.size)).mono ?_
    rintro e w4 ⟨A4, n4, c4, rfl, ho4, hb4⟩
    obtain rfl : n4 = n2 := by rw [← ho4.1, hl]
    rw [mk_of, mk_of]
    have hz4 := hb4.size
    have d0 := (hb4.cell (p := ⟨w.heap.size, 0, none⟩) (by simp; omega)).trans b0
    have d1 := (hb4.cell (p := ⟨w.heap.size, 1, none⟩) (by simp; omega)).trans b1
    have d2 := (hb4.cell (p := ⟨w.heap.size, 2, none⟩) (by simp; omega)).trans b2
    clear b0 b1 b2
    go_wp2_with fail
    refine (implTableText_any _ _ _ _ _ _ _ hf2 hm2 hn2 (OwnP.pieces (T := 49) ⟨ho4.1, ho4.2.alloc _⟩)).mono ?_
    rintro e w5 ⟨rfl, hb5⟩
    have hz5 := hb5.size
    simp at hz5
    have ho5 := OwnP.below (T := 49) ⟨ho4.1, ho4.2.alloc _⟩ hb5
    have hw4 : w.heap.size < w4.heap.size := by omega
    have e0 : w5.cell? ⟨w.heap.size, 0, none⟩ = some (.string f) := (hb5.cell (p := ⟨w.heap.size, 0, none⟩) (by simp; omega)).trans (by simp [go_sem, hw4, d0])
    have e1 : w5.cell? ⟨w.heap.size, 1, none⟩ = some (.string m) := (hb5.cell (p := ⟨w.heap.size, 1, none⟩) (by simp; omega)).trans (by simp [go_sem, hw4, d1])
    have e2 : w5.cell? ⟨w.heap.size, 2, none⟩ = some (.slice A n4 c) := (hb5.cell (p := ⟨w.heap.size, 2, none⟩) (by simp; omega)).trans (by simp [go_sem, hw4, d2])
    have g0 : w5.cell? ⟨w4.heap.size, 0, none⟩ = some (.string f) := (hb5.cell (p := ⟨w4.heap.size, 0, none⟩) (by simp)).trans (by simp)
    have g1 : w5.cell? ⟨w4.heap.size, 1, none⟩ = some (.string m) := (hb5.cell (p := ⟨w4.heap.size, 1, none⟩) (by simp)).trans (by simp)
    have g2 : w5.cell? ⟨w4.heap.size, 2, none⟩ = some (.slice A4 n4 c4) := (hb5.cell (p := ⟨w4.heap.size, 2, none⟩) (by simp)).trans (by simp)
    have hB5 : Below w.heap.size w w5 := ((bstep hB3 hb4).alloc (by omega) _).trans (hb5.mono (by simp; omega))
    clear d0 d1 d2
    have hr5 : Pieces w5 w5.heap.size A n4 ps := (hr.below hB5 (Nat.le_refl _)).more hB5.size
    have hw45 : w4.heap.size < w5.heap.size := by omega
    go_wp2_with fail
    go_region_held3 (fun w' => w'.cell? ⟨w.heap.size, 0, none⟩ = some (.string f) ∧ w'.cell? ⟨w.heap.size, 1, none⟩ = some (.string m) ∧ w'.cell? ⟨w.heap.size, 2, none⟩ = some (.slice A n4 c) ∧ w'.cell? ⟨w4.heap.size, 0, none⟩ = some (.string f) ∧ w'.cell? ⟨w4.heap.size, 1, none⟩ = some (.string m) ∧ w'.cell? ⟨w4.heap.size, 2, none⟩ = some (.slice A4 n4 c4))
      (first
        | go_keep
        | (go_split_ands; exact ⟨(hb6.cell (p := ⟨w.heap.size, 0, none⟩) (by simp; omega)).trans (by assumption), (hb6.cell (p := ⟨w.heap.size, 1, none⟩) (by simp; omega)).trans (by assumption), (hb6.cell (p := ⟨w.heap.size, 2, none⟩) (by simp; omega)).trans (by assumption), (hb6.cell (p := ⟨w4.heap.size, 0, none⟩) (by simp; omega)).trans (by assumption), (hb6.cell (p := ⟨w4.heap.size, 1, none⟩) (by simp; omega)).trans (by assumption), (hb6.cell (p := ⟨w4.heap.size, 2, none⟩) (by simp; omega)).trans (by assumption)⟩)
        | (go_split_ands; exact ⟨(hb7.cell (p := ⟨w.heap.size, 0, none⟩) (by simp; omega)).trans (by assumption), (hb7.cell (p := ⟨w.heap.size, 1, none⟩) (by simp; omega)).trans (by assumption), (hb7.cell (p := ⟨w.heap.size, 2, none⟩) (by simp; omega)).trans (by assumption), (hb7.cell (p := ⟨w4.heap.size, 0, none⟩) (by simp; omega)).trans (by assumption), (hb7.cell (p := ⟨w4.heap.size, 1, none⟩) (by simp; omega)).trans (by assumption), (hb7.cell (p := ⟨w4.heap.size, 2, none⟩) (by simp; omega)).trans (by assumption)⟩))
      ((first
        | (go_at_call 18; refine (toTable_any _ _ _ _ _ _ _ hn2 (by exact hr5)).mono ?_; rintro e w6 ⟨A6, n6, c6, rfl, ho6, hb6⟩; have hz6 := hb6.size; simp at hz6; obtain rfl : n4 = n6 := hl.symm.trans ho6.1; rw [mk_of, mk_of])
        | (go_at_call 13; refine (eqTable_same _ _ _ _ _ _ _ _ _ hn2 (OwnP.below (by exact ho5) hb6).pieces ho6.pieces).mono ?_; rintro e w7 ⟨rfl, hb7⟩)))
    go_wp2
    go_ret
    exact ⟨rfl, (bdrew hB5).trans ((hb6.mono (by simp; omega)).trans (hb7.mono (by omega)))⟩
end Go.Proofs.Ytppfggfmpmccpaa.fnExactTableText
