/- What DrawMovePlace leaves. -/
import Derived.Test.YtlndlgbpnlfflaaD7
import Derived.Deep.RegionHeld3
namespace Go.Proofs.Ytlndlgbpnlfflaa
open Go.RowKit

theorem cell3_far {w : World} {b b' o : Nat} {x y z : Value} (h : ¬ b' = b) : (((w.setCell ⟨b, 0, none⟩ x).setCell ⟨b, 1, none⟩ y).setCell ⟨b, 2, none⟩ z).cell? ⟨b', o, none⟩ = w.cell? ⟨b', o, none⟩ :=
  World.cell?_of_block (a := ⟨b', o, none⟩) (by rw [Below.heap_setCell _ _ _ _ h, Below.heap_setCell _ _ _ _ h, Below.heap_setCell _ _ _ _ h])
/-- What a function that draws a change, a place and a choice leaves. -/
def DMoveV (w : World) (e : Ending) (w' : World) : Prop := ∃ (a c : Int) (p : ByteArray) (pl : Int) (b : Bool), e = .returned (.tuple #[.agg #[.int .i64 a, .int .i64 c, .string p], .int .i64 pl, .bool b]) ∧ p.size ≤ 130 ∧ Below w.heap.size w w'
set_option maxHeartbeats 1600000 in
theorem DrawMovePlace_any (A : Option Addr) (n c : Nat) (w : World) (h : Byt w w.heap.size A n) (hnc : n ≤ c) (hc : c ≤ maxLen) :
    Calls Try.prog 24 #[.slice A n c] w (DMoveV w) := by
  have hb0 : Below w.heap.size w (w.alloc (.cells #[.int .i64 0, .int .i64 0, .string ⟨#[]⟩] 38)) := balloc (Below.refl _ _) _
  have h' : Byt (w.alloc (.cells #[.int .i64 0, .int .i64 0, .string ⟨#[]⟩] 38)) (w.alloc (.cells #[.int .i64 0, .int .i64 0, .string ⟨#[]⟩] 38)).heap.size A n := (h.below hb0 (Nat.le_refl _)).more (by simp)
  go_enter Try.func24, Try.ntmps24
  go_wp2_with fail
  refine (open_any _ _ _ _ h' hnc hc).mono ?_
  rintro e w1 ⟨r, rfl, hr, hrd, hb1⟩
  simp only [World.size_alloc] at hr
  have B1 := (B3.new w 38 _ _ _).next hb1
  go_wp2_with fail
  refine (both_draw _ _ _ hrd (by omega)).mono ?_
  rintro e w2 ⟨s, x, y, p, rfl, hs, hp, hrd2, hg2⟩
  have B2 := B1.grown hg2 (by intro e; injection e with e; omega)
  have hb2 : Below w.heap.size w w2 := brd (hb0.trans (hb1.mono (by simp))) hg2 (by omega)
  have hr2 := hrd2.lt
  have hw2 : w.heap.size < w2.heap.size := B2.lt
  have T3 := B2.alloc (.cells #[.int .i64 x, .int .i64 y, .string p] 38)
  have U3 := B3.new w2 38 (.int .i64 x) (.int .i64 y) (.string p)
  have hrd3 := hrd2.alloc (.cells #[.int .i64 x, .int .i64 y, .string p] 38)
  have hb3 : Below w.heap.size w (w2.alloc (.cells #[.int .i64 x, .int .i64 y, .string p] 38)) := balloc hb2 _
  clear hb1 hg2 B1 B2 hrd hrd2 hb0 h h' hb2
  go_wp2_with fail
  generalize w2.alloc (.cells #[.int .i64 x, .int .i64 y, .string p] 38) = w3 at T3 U3 hrd3 hb3 ⊢
  obtain ⟨c0, c1, c2⟩ := U3.cells
  obtain ⟨d0, d1, d2⟩ := T3.cells
  obtain ⟨df0, df1, df2⟩ := T3.free
  have hne : w2.heap.size ≠ r := by omega
  have hwr : w.heap.size ≠ r := by omega
  have hww : ¬ w2.heap.size = w.heap.size := by omega
  go_region_held3 (fun w' => w'.cell? ⟨w2.heap.size, 0, none⟩ = some (.int .i64 x) ∧ w'.cell? ⟨w2.heap.size, 1, none⟩ = some (.int .i64 y) ∧ w'.cell? ⟨w2.heap.size, 2, none⟩ = some (.string p))
    (first
      | go_keep
      | (go_split_ands; exact ⟨gcell hg4 (show w3.drew.cell? _ = _ from c0) hne, gcell hg4 (show w3.drew.cell? _ = _ from c1) hne, gcell hg4 (show w3.drew.cell? _ = _ from c2) hne⟩)
      | (go_split_ands; exact ⟨gcell hg5 (by assumption) hne, gcell hg5 (by assumption) hne, gcell hg5 (by assumption) hne⟩)
      | (go_split_ands; exact ⟨(cell3_far hww).trans (by assumption), (cell3_far hww).trans (by assumption), (cell3_far hww).trans (by assumption)⟩))
    ((first
      | (go_at_call 53; (refine (place_draw r _ s _ _ (Rd.drew hrd3) (by omega) (by omega)).mono ?_); rintro e w4 ⟨pl, rfl, hrd4, hg4⟩; have B4 := B3.grown (B3.drew T3) hg4 (by intro e; injection e with e; omega))
      | (go_at_call 42; (refine (pick_any r _ _ _ hrd4 (by omega)).mono ?_); rintro e w5 ⟨K, rfl, hK0, hK1, hrd5, hg5⟩; have B5 := B3.grown B4 hg5 (by intro e; injection e with e; omega); obtain ⟨e0, e1, e2⟩ := B5.cells; obtain ⟨ef0, ef1, ef2⟩ := B5.free)))
  have B6 := B5.set_ (.int .i64 x) (.int .i64 y) (.string p)
  obtain ⟨f0, f1, f2⟩ := B6.cells
  have hb6 := brd (brd (bdrew hb3) hg4 (by omega)) hg5 (by omega)
  go_wp2
  refine bodyPost_ret (v := .tuple #[.agg #[.int .i64 x, .int .i64 y, .string p], .int .i64 pl, .bool (K == 0)]) (by simp [results, Try.results24, go_sem, f0, f1, f2]) rfl ⟨x, y, p, pl, (K == 0), rfl, hp, bset (bset (bset hb6 (Nat.le_refl _) _) (Nat.le_refl _) _) (Nat.le_refl _) _⟩
end Go.Proofs.Ytlndlgbpnlfflaa
