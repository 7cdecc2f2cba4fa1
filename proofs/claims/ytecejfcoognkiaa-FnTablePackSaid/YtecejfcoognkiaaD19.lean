/- What the drawing functions of the three table laws leave. -/
import Derived.Test.YtecejfcoognkiaaD18
namespace Go.Proofs.Ytecejfcoognkiaa
open Go.RowKit

/-- A drawn table (bounds only). -/
def DTabV (T : TypeId) (w : World) (e : Ending) (w' : World) : Prop := ∃ (F M : ByteArray) (A : Option Addr) (n c : Nat) (ps : List (Bool × Int × Int)), e = .returned (.agg #[.string F, .string M, .slice A n c]) ∧ F.size ≤ 126 ∧ M.size ≤ 1000 ∧ n ≤ 200 ∧ OwnP T w' w.heap.size A n c ps ∧ Below w.heap.size w w'
theorem DrawTableValid_any (A : Option Addr) (n c : Nat) (w : World) (h : Byt w w.heap.size A n) (hnc : n ≤ c) (hc : c ≤ maxLen) :
    Calls Try.prog 6 #[.slice A n c] w (DTabV 29 w) := by
  have z1 := B3.new w 25 (.string ⟨#[]⟩) (.string ⟨#[]⟩) (.slice none 0 0)
  have hb0 : Below w.heap.size w (w.alloc (.cells #[.string ⟨#[]⟩, .string ⟨#[]⟩, .slice none 0 0] 25)) := balloc (Below.refl _ _) _
  have h' : Byt (w.alloc (.cells #[.string ⟨#[]⟩, .string ⟨#[]⟩, .slice none 0 0] 25)) (w.alloc (.cells #[.string ⟨#[]⟩, .string ⟨#[]⟩, .slice none 0 0] 25)).heap.size A n := (h.below hb0 (Nat.le_refl _)).more (by simp)
  go_enter Try.func6, Try.ntmps6
  go_wp2_with fail
  refine (open_any _ _ _ _ h' hnc hc).mono ?_
  rintro e w2 ⟨r, rfl, hr, hrd, hb2⟩
  simp only [World.size_alloc] at hr
  have z2 := z1.next hb2
  have hb2' := hb0.trans (hb2.mono (by simp))
  clear z1 hb0 h' hb2
  go_wp2_with fail
  refine (table_draw r 0 _ _ hrd (by omega)).mono ?_
  rintro e w3 ⟨F, M, A', n', c', ps, rfl, hF, hM, hn, ho, hr3, hg3⟩
  have z3 := z2.grown hg3 (some_ne (by omega))
  have hb3 := brd hb2' hg3 (by omega)
  have ho3 := ho.base hb2'.size
  obtain ⟨d0, d1, d2⟩ := z3.cells
  obtain ⟨p0, p1, p2⟩ := z3.free
  obtain ⟨e0, e1, e2⟩ := (z3.set_ (.string F) (.string M) (.slice A' n' c')).cells
  clear z2 hb2' hg3 ho hrd
  go_wp2_with fail
  refine bodyPost_ret (v := .agg #[.string F, .string M, .slice A' n' c']) (by simp only [results, Try.results6]; simp [go_sem, e0, e1, e2]) rfl ?_
  exact ⟨F, M, A', n', c', ps, rfl, hF, hM, by omega, ho3.set3_far z3 (by decide) _ _ _, bset (bset (bset hb3 (Nat.le_refl _) _) (Nat.le_refl _) _) (Nat.le_refl _) _⟩
theorem DrawTableText_any (A : Option Addr) (n c : Nat) (w : World) (h : Byt w w.heap.size A n) (hnc : n ≤ c) (hc : c ≤ maxLen) :
    Calls Try.prog 10 #[.slice A n c] w (DTabV 29 w) := by
  have z1 := B3.new w 25 (.string ⟨#[]⟩) (.string ⟨#[]⟩) (.slice none 0 0)
  have hb0 : Below w.heap.size w (w.alloc (.cells #[.string ⟨#[]⟩, .string ⟨#[]⟩, .slice none 0 0] 25)) := balloc (Below.refl _ _) _
  have h' : Byt (w.alloc (.cells #[.string ⟨#[]⟩, .string ⟨#[]⟩, .slice none 0 0] 25)) (w.alloc (.cells #[.string ⟨#[]⟩, .string ⟨#[]⟩, .slice none 0 0] 25)).heap.size A n := (h.below hb0 (Nat.le_refl _)).more (by simp)
  go_enter Try.func10, Try.ntmps10
  go_wp2_with fail
  refine (open_any _ _ _ _ h' hnc hc).mono ?_
  rintro e w2 ⟨r, rfl, hr, hrd, hb2⟩
  simp only [World.size_alloc] at hr
  have z2 := z1.next hb2
  have hb2' := hb0.trans (hb2.mono (by simp))
  clear z1 hb0 h' hb2
  go_wp2_with fail
  refine (table_draw r 0 _ _ hrd (by omega)).mono ?_
  rintro e w3 ⟨F, M, A', n', c', ps, rfl, hF, hM, hn, ho, hr3, hg3⟩
  have z3 := z2.grown hg3 (some_ne (by omega))
  have hb3 := brd hb2' hg3 (by omega)
  have ho3 := ho.base hb2'.size
  obtain ⟨d0, d1, d2⟩ := z3.cells
  obtain ⟨p0, p1, p2⟩ := z3.free
  obtain ⟨e0, e1, e2⟩ := (z3.set_ (.string F) (.string M) (.slice A' n' c')).cells
  clear z2 hb2' hg3 ho hrd
  go_wp2_with fail
  refine bodyPost_ret (v := .agg #[.string F, .string M, .slice A' n' c']) (by simp only [results, Try.results10]; simp [go_sem, e0, e1, e2]) rfl ?_
  exact ⟨F, M, A', n', c', ps, rfl, hF, hM, by omega, ho3.set3_far z3 (by decide) _ _ _, bset (bset (bset hb3 (Nat.le_refl _) _) (Nat.le_refl _) _) (Nat.le_refl _) _⟩
end Go.Proofs.Ytecejfcoognkiaa
