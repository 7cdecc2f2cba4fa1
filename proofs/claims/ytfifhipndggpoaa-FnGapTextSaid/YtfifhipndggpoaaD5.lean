/- What the drawing functions leave: gaps, places, changes. -/
import Derived.Test.YtfifhipndggpoaaD3
import Derived.Test.YtfifhipndggpoaaD4
import Derived.Test.YtfifhipndggpoaaPb
namespace Go.Proofs.Ytfifhipndggpoaa
open Go.RowKit

/-- What a function that draws a gap leaves. -/
def DGapV (w : World) (e : Ending) (w' : World) : Prop := ∃ a b : ByteArray, e = .returned (.agg #[.string a, .string b]) ∧ a.size + b.size ≤ 130 ∧ Below w.heap.size w w'
theorem DrawGapValid_any (A : Option Addr) (n c : Nat) (w : World) (h : Byt w w.heap.size A n) (hnc : n ≤ c) (hc : c ≤ maxLen) :
    Calls Try.prog 19 #[.slice A n c] w (DGapV w) := by
  have k0 := heap_alloc_new w (.cells #[.string ⟨#[]⟩, .string ⟨#[]⟩] 28)
  have hb0 : Below w.heap.size w (w.alloc (.cells #[.string ⟨#[]⟩, .string ⟨#[]⟩] 28)) := balloc (Below.refl _ _) _
  have h' : Byt (w.alloc (.cells #[.string ⟨#[]⟩, .string ⟨#[]⟩] 28)) (w.alloc (.cells #[.string ⟨#[]⟩, .string ⟨#[]⟩] 28)).heap.size A n := (h.below hb0 (Nat.le_refl _)).more (by simp)
  have K0 := Lib.hid k0
  clear k0
  go_enter Try.func19, Try.ntmps19
  go_wp2_with fail
  refine (open_any _ _ _ _ h' hnc hc).mono ?_
  rintro e w1 ⟨r, rfl, hr, hrd, hb1⟩
  simp only [World.size_alloc] at hr
  have k1 := (hb1.block w.heap.size (by simp)).trans K0.out
  have hl1 := heap_lt k1
  go_wp2_with fail
  refine (gap_draw _ _ _ _ hrd (by omega)).mono ?_
  rintro e w2 ⟨a, b, rfl, hs, hrd2, hg2⟩
  have k2 := (hg2.block w.heap.size hl1 (by intro e; injection e with e; omega)).trans k1
  have c0 := Lib.cell_of_heap k2 0
  have c1 := Lib.cell_of_heap k2 1
  have f0 := Lib.frozen_of_heap k2 0
  have f1 := Lib.frozen_of_heap k2 1
  have hb2 : Below w.heap.size w w2 := brd (hb0.trans (hb1.mono (by simp))) hg2 (by omega)
  clear k1 k2
  go_wp2
  refine bodyPost_ret (v := .agg #[.string a, .string b]) (by simp [results, Try.results19, go_sem, c0, c1]) rfl ⟨a, b, rfl, hs, bset (bset hb2 (Nat.le_refl _) _) (Nat.le_refl _) _⟩
theorem DrawGapText_any (A : Option Addr) (n c : Nat) (w : World) (h : Byt w w.heap.size A n) (hnc : n ≤ c) (hc : c ≤ maxLen) :
    Calls Try.prog 22 #[.slice A n c] w (DGapV w) := by
  have k0 := heap_alloc_new w (.cells #[.string ⟨#[]⟩, .string ⟨#[]⟩] 28)
  have hb0 : Below w.heap.size w (w.alloc (.cells #[.string ⟨#[]⟩, .string ⟨#[]⟩] 28)) := balloc (Below.refl _ _) _
  have h' : Byt (w.alloc (.cells #[.string ⟨#[]⟩, .string ⟨#[]⟩] 28)) (w.alloc (.cells #[.string ⟨#[]⟩, .string ⟨#[]⟩] 28)).heap.size A n := (h.below hb0 (Nat.le_refl _)).more (by simp)
  have K0 := Lib.hid k0
  clear k0
  go_enter Try.func22, Try.ntmps22
  go_wp2_with fail
  refine (open_any _ _ _ _ h' hnc hc).mono ?_
  rintro e w1 ⟨r, rfl, hr, hrd, hb1⟩
  simp only [World.size_alloc] at hr
  have k1 := (hb1.block w.heap.size (by simp)).trans K0.out
  have hl1 := heap_lt k1
  go_wp2_with fail
  refine (gap_draw _ _ _ _ hrd (by omega)).mono ?_
  rintro e w2 ⟨a, b, rfl, hs, hrd2, hg2⟩
  have k2 := (hg2.block w.heap.size hl1 (by intro e; injection e with e; omega)).trans k1
  have c0 := Lib.cell_of_heap k2 0
  have c1 := Lib.cell_of_heap k2 1
  have f0 := Lib.frozen_of_heap k2 0
  have f1 := Lib.frozen_of_heap k2 1
  have hb2 : Below w.heap.size w w2 := brd (hb0.trans (hb1.mono (by simp))) hg2 (by omega)
  clear k1 k2
  go_wp2
  refine bodyPost_ret (v := .agg #[.string a, .string b]) (by simp [results, Try.results22, go_sem, c0, c1]) rfl ⟨a, b, rfl, hs, bset (bset hb2 (Nat.le_refl _) _) (Nat.le_refl _) _⟩
/-- What a function that draws a text and a place leaves. -/
def DSpotV (w : World) (e : Ending) (w' : World) : Prop := ∃ (s : ByteArray) (p : Int), e = .returned (.tuple #[.string s, .int .i64 p]) ∧ s.size ≤ 125 ∧ Below w.heap.size w w'
theorem DrawGapOf_any (A : Option Addr) (n c : Nat) (w : World) (h : Byt w w.heap.size A n) (hnc : n ≤ c) (hc : c ≤ maxLen) :
    Calls Try.prog 26 #[.slice A n c] w (DSpotV w) := by
  go_enter Try.func26, Try.ntmps26
  go_wp2_with fail
  refine (open_any _ _ _ _ h hnc hc).mono ?_
  rintro e w1 ⟨r, rfl, hr, hrd, hb1⟩
  go_wp2_with fail
  refine (spot_draw _ _ _ hrd (by omega)).mono ?_
  rintro e w2 ⟨s, p, rfl, hs, hrd2, hg2⟩
  go_wp2
  go_ret2
  exact ⟨s, p, rfl, hs, brd hb1 hg2 hr⟩
end Go.Proofs.Ytfifhipndggpoaa
