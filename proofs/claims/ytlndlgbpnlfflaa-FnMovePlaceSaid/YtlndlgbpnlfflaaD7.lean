/- What the drawing functions leave: texts with changes. -/
import Derived.Test.YtlndlgbpnlfflaaD6
namespace Go.Proofs.Ytlndlgbpnlfflaa
open Go.RowKit

/-- What a drawn text and change leave. -/
def BothVal (T : TypeId) (w : World) (r P : Nat) (e : Ending) (w' : World) : Prop := ∃ (s : ByteArray) (a c : Int) (p : ByteArray), e = .returned (.tuple #[.string s, .agg #[.int .i64 a, .int .i64 c, .string p]]) ∧ s.size ≤ 125 ∧ p.size ≤ 130 ∧ Rd T w' r P ∧ w.grownBy w' (some r)
theorem both_draw (r P : Nat) (w : World) (h : Rd 82 w r P) (hP : P ≤ 999998000) :
    Calls Try.prog 52 #[.pointer (some ⟨r, 0, none⟩)] w (BothVal 82 w r (P + 100)) := by
  have hrl := h.lt
  have hg0 := World.grownBy_alloc w (.cells #[.int .i64 0, .int .i64 0, .string ⟨#[]⟩] 38) (some r)
  go_enter Try.func52, Try.ntmps52
  go_wp2_with fail
  refine (text_draw _ _ _ _ (h.alloc _) (by omega)).mono ?_
  rintro e w1 ⟨s, rfl, hs, hr1, hg1⟩
  have B1 := (B3.new w 38 _ _ _).grown hg1 (by intro e; injection e with e; omega)
  have hgw1 := gtrans hg0 hg1
  clear hg0 hg1 h
  go_wp2_with fail
  refine (change_draw _ _ _ _ _ hr1 (by omega) (by omega)).mono ?_
  rintro e w2 ⟨a, c, p, rfl, hp, hr2, hg2⟩
  have B2 := B1.grown hg2 (by intro e; injection e with e; omega)
  have hgw2 := gtrans hgw1 hg2
  obtain ⟨d0, d1, d2⟩ := B2.cells
  obtain ⟨df0, df1, df2⟩ := B2.free
  clear hg2 hgw1 hr1 B1
  go_wp2
  refine bodyPost_ret (v := .tuple #[.string s, .agg #[.int .i64 a, .int .i64 c, .string p]]) (by simp [results, Try.results52, go_sem, d0, d1, d2]) rfl ?_
  exact ⟨s, a, c, p, rfl, hs, hp, (((hr2.set (by simp only []; omega) _).set (by simp only []; omega) _).set (by simp only []; omega) _).more (by omega), gset (gset (gset hgw2 (Nat.le_refl _) _) (Nat.le_refl _) _) (Nat.le_refl _) _⟩
/-- What a function that draws a text and a change leaves. -/
def DBothV (w : World) (e : Ending) (w' : World) : Prop := ∃ (s : ByteArray) (a c : Int) (p : ByteArray), e = .returned (.tuple #[.string s, .agg #[.int .i64 a, .int .i64 c, .string p]]) ∧ s.size ≤ 125 ∧ p.size ≤ 130 ∧ Below w.heap.size w w'
end Go.Proofs.Ytlndlgbpnlfflaa
