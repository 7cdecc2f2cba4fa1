/- What the drawing functions leave: texts with changes. -/
import Derived.Test.YtckhhdhkchcljaaD6
namespace Go.Proofs.Ytckhhdhkchcljaa
open Go.RowKit

/-- What a drawn text and change leave. -/
def BothVal (T : TypeId) (w : World) (r P : Nat) (e : Ending) (w' : World) : Prop := ∃ (s : ByteArray) (a c : Int) (p : ByteArray), e = .returned (.tuple #[.string s, .agg #[.int .i64 a, .int .i64 c, .string p]]) ∧ s.size ≤ 125 ∧ p.size ≤ 130 ∧ Rd T w' r P ∧ w.grownBy w' (some r)
theorem both_draw (r P : Nat) (w : World) (h : Rd 84 w r P) (hP : P ≤ 999998000) :
    Calls Try.prog 53 #[.pointer (some ⟨r, 0, none⟩)] w (BothVal 84 w r (P + 100)) := by
  have hrl := h.lt
  have hg0 := World.grownBy_alloc w (.cells #[.int .i64 0, .int .i64 0, .string ⟨#[]⟩] 24) (some r)
  go_enter Try.func53, Try.ntmps53
  go_wp2_with fail
  refine (text_draw _ _ _ _ (h.alloc _) (by omega)).mono ?_
  rintro e w1 ⟨s, rfl, hs, hr1, hg1⟩
  have B1 := (B3.new w 24 _ _ _).grown hg1 (by intro e; injection e with e; omega)
  have hgw1 := gtrans hg0 hg1
  clear hg0 hg1 h
  go_wp2_with fail
  refine (change_draw _ _ _ _ _ hr1 (by omega) (by omega)).mono ?_
  rintro e w2 ⟨a, c, p, rfl, hp, hr2, hg2⟩
  have B2 := B1.grown hg2 (by intro e; injection e with e; omega)
  have hgw2 := gtrans hgw1 hg2
  obtain ⟨d0, d1, d2⟩ := B2.cells
  obtain ⟨df0, df1, df2⟩ := B2.free
  clear hg2 hgw1 hr1 B1
  go_wp2
  refine bodyPost_ret (v := .tuple #[.string s, .agg #[.int .i64 a, .int .i64 c, .string p]]) (by simp [results, Try.results53, go_sem, d0, d1, d2]) rfl ?_
  exact ⟨s, a, c, p, rfl, hs, hp, (((hr2.set (by simp only []; omega) _).set (by simp only []; omega) _).set (by simp only []; omega) _).more (by omega), gset (gset (gset hgw2 (Nat.le_refl _) _) (Nat.le_refl _) _) (Nat.le_refl _) _⟩
/-- What a function that draws a text and a change leaves. -/
def DBothV (w : World) (e : Ending) (w' : World) : Prop := ∃ (s : ByteArray) (a c : Int) (p : ByteArray), e = .returned (.tuple #[.string s, .agg #[.int .i64 a, .int .i64 c, .string p]]) ∧ s.size ≤ 125 ∧ p.size ≤ 130 ∧ Below w.heap.size w w'
theorem DrawReverseChange_any (A : Option Addr) (n c : Nat) (w : World) (h : Byt w w.heap.size A n) (hnc : n ≤ c) (hc : c ≤ maxLen) :
    Calls Try.prog 14 #[.slice A n c] w (DBothV w) := by
  have hb0 : Below w.heap.size w (w.alloc (.cells #[.int .i64 0, .int .i64 0, .string ⟨#[]⟩] 24)) := balloc (Below.refl _ _) _
  have h' : Byt (w.alloc (.cells #[.int .i64 0, .int .i64 0, .string ⟨#[]⟩] 24)) (w.alloc (.cells #[.int .i64 0, .int .i64 0, .string ⟨#[]⟩] 24)).heap.size A n := (h.below hb0 (Nat.le_refl _)).more (by simp)
  go_enter Try.func14, Try.ntmps14
  go_wp2_with fail
  refine (open_any _ _ _ _ h' hnc hc).mono ?_
  rintro e w1 ⟨r, rfl, hr, hrd, hb1⟩
  simp only [World.size_alloc] at hr
  have B1 := (B3.new w 24 _ _ _).next hb1
  go_wp2_with fail
  refine (both_draw _ _ _ hrd (by omega)).mono ?_
  rintro e w2 ⟨s, x, y, p, rfl, hs, hp, hrd2, hg2⟩
  have B2 := B1.grown hg2 (by intro e; injection e with e; omega)
  obtain ⟨d0, d1, d2⟩ := B2.cells
  obtain ⟨df0, df1, df2⟩ := B2.free
  have hb2 : Below w.heap.size w w2 := brd (hb0.trans (hb1.mono (by simp))) hg2 (by omega)
  clear hb1 hg2 B1
  go_wp2
  refine bodyPost_ret (v := .tuple #[.string s, .agg #[.int .i64 x, .int .i64 y, .string p]]) (by simp [results, Try.results14, go_sem, d0, d1, d2]) rfl ⟨s, x, y, p, rfl, hs, hp, bset (bset (bset hb2 (Nat.le_refl _) _) (Nat.le_refl _) _) (Nat.le_refl _) _⟩
end Go.Proofs.Ytckhhdhkchcljaa
