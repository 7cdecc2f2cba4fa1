/- Plain facts for the laws on texts, gaps and changes. No program is named here. -/
import Derived.Test.YtlndlgbpnlfflaaPl
namespace Go.Proofs.Ytlndlgbpnlfflaa
open Go.RowKit

theorem tvB_take {l : List UInt8} (n : Nat) (h : tvB l = true) : tvB (l.take n) = true := by
  rw [tvB_iff] at h ⊢
  exact ⟨by rw [List.length_take]; omega, plain_take n h.2⟩
theorem tvB_drop {l : List UInt8} (n : Nat) (h : tvB l = true) : tvB (l.drop n) = true := by
  rw [tvB_iff] at h ⊢
  exact ⟨by rw [List.length_drop]; omega, plain_drop n h.2⟩
theorem tvB_nine (a b : List UInt8) : tvB (a ++ 9 :: b) = false := by
  refine tvB_false_of_plain ?_
  rw [plain_append, plain_cons]
  have : okI ((9 : UInt8).toNat : Int) = false := by decide
  rw [this]
  simp
theorem tvB_nil : tvB [] = true := by decide
theorem tvB_len {l : List UInt8} (h : tvB l = true) : l.length ≤ 120 := ((tvB_iff l).1 h).1
theorem tvB_plain {l : List UInt8} (h : tvB l = true) : plain l = true := ((tvB_iff l).1 h).2
theorem tvB_mk {l : List UInt8} (h : l.length ≤ 120) (h' : plain l = true) : tvB l = true := (tvB_iff l).2 ⟨h, h'⟩
theorem placeB_mk {l : List UInt8} {p : Int} (h : tvB l = true) (h0 : 0 ≤ p) (h1 : p ≤ l.length) : placeB l p = true := by simp [placeB, h, inI_yes h0 h1]
theorem placeB_far {l : List UInt8} {p : Int} (h1 : p < 0 ∨ (l.length : Int) < p) : placeB l p = false := by simp [placeB, inI_no h1]
theorem placeB_iff {l : List UInt8} {p : Int} : placeB l p = true ↔ (tvB l = true ∧ 0 ≤ p ∧ p ≤ l.length) := by simp [placeB, inI_iff]
/-! Gaps. -/
theorem gapOfL_1 {l : List UInt8} {p : Int} (h : placeB l p = true) : gapOfL l p = (l.take p.toNat, l.drop p.toNat) := by simp [gapOfL, h]
theorem gapOfL_0 {l : List UInt8} {p : Int} (h : placeB l p = false) : gapOfL l p = ([], []) := by simp [gapOfL, h]
theorem gapOfL_join {a b : List UInt8} (h : tvB (a ++ b) = true) : gapOfL (a ++ b) (a.length : Int) = (a, b) := by
  rw [gapOfL_1 (placeB_mk h (by omega) (by rw [List.length_append]; omega))]
  simp
theorem gapText_1 {a b : List UInt8} (h : tvB (a ++ b) = true) : gapTextL a b = a ++ b := by simp [gapTextL, h]
theorem gapText_0 {a b : List UInt8} (h : tvB (a ++ b) = false) : gapTextL a b = [] := by simp [gapTextL, h]
theorem gapText_of {l : List UInt8} {p : Int} (h : placeB l p = true) : gapTextL (gapOfL l p).1 (gapOfL l p).2 = l := by
  rw [gapOfL_1 h]
  have : tvB (l.take p.toNat ++ l.drop p.toNat) = true := by rw [List.take_append_drop]; exact placeB_tv h
  rw [gapText_1 this, List.take_append_drop]
theorem gapOf_len {l : List UInt8} {p : Int} (h : placeB l p = true) : ((gapOfL l p).1.length : Int) = p := by
  obtain ⟨_, h0, h1⟩ := placeB_iff.1 h
  rw [gapOfL_1 h, List.length_take]
  omega
/-- How far a gap moves. -/
def movedI (a b : List UInt8) (n : Int) : Int := max (-(a.length : Int)) (min (b.length : Int) n)
theorem movedI_range (a b : List UInt8) (n : Int) : -(a.length : Int) ≤ movedI a b n ∧ movedI a b n ≤ b.length := by unfold movedI; omega
theorem moveR_eq {a b : List UInt8} {n : Int} (h : tvB (a ++ b) = true) : moveR a b n = ((a ++ b).take ((a.length : Int) + movedI a b n).toNat, (a ++ b).drop ((a.length : Int) + movedI a b n).toNat) := by
  have hr := movedI_range a b n
  rw [moveR_1 h, gapOfL_1 (placeB_mk h (by unfold movedI at hr; omega) (by unfold movedI at hr; rw [List.length_append]; omega))]
  rfl
theorem moveR_join {a b : List UInt8} {n : Int} (h : tvB (a ++ b) = true) : (moveR a b n).1 ++ (moveR a b n).2 = a ++ b := by rw [moveR_eq h, List.take_append_drop]
theorem moveR_len {a b : List UInt8} {n : Int} (h : tvB (a ++ b) = true) : ((moveR a b n).1.length : Int) = a.length + movedI a b n := by
  have hr := movedI_range a b n
  rw [moveR_eq h, List.length_take, List.length_append]
  omega
theorem moveR_text {a b : List UInt8} {n : Int} (h : tvB (a ++ b) = true) : gapTextL (moveR a b n).1 (moveR a b n).2 = a ++ b := by
  rw [gapText_1 (by rw [moveR_join h]; exact h), moveR_join h]
theorem moveR_back {a b : List UInt8} {n : Int} (h : tvB (a ++ b) = true) : moveR (moveR a b n).1 (moveR a b n).2 (-(((moveR a b n).1.length : Int) - a.length)) = (a, b) := by
  have hr := movedI_range a b n
  have hl := moveR_len (n := n) h
  have hj := moveR_join (n := n) h
  generalize moveR a b n = x at hl hj ⊢
  have ht : tvB (x.1 ++ x.2) = true := by rw [hj]; exact h
  have hlen : (x.1.length : Int) + x.2.length = a.length + b.length := by
    have := congrArg List.length hj
    rw [List.length_append, List.length_append] at this
    omega
  have e : (x.1.length : Int) + movedI x.1 x.2 (-((x.1.length : Int) - a.length)) = a.length := by unfold movedI; omega
  rw [moveR_eq ht, e, hj]
  simp
theorem moveR_end {a b : List UInt8} {n : Int} (h : tvB (a ++ b) = true) : ((moveR a b n).1.length : Int) - a.length = n ∨ (moveR a b n).1 = [] ∨ (moveR a b n).2 = [] := by
  have hr := movedI_range a b n
  have hl := moveR_len (n := n) h
  have hj := congrArg List.length (moveR_join (n := n) h)
  rw [List.length_append, List.length_append] at hj
  by_cases h1 : movedI a b n = n
  · exact .inl (by omega)
  · by_cases h2 : movedI a b n = b.length
    · exact .inr (.inr (List.eq_nil_of_length_eq_zero (by omega)))
    · exact .inr (.inl (List.eq_nil_of_length_eq_zero (by unfold movedI at *; omega)))
/-- A gap at a place. -/
theorem moveR_step {l : List UInt8} {k : Nat} (h : tvB l = true) (hk : k ≤ l.length) : moveR (l.take k) (l.drop k) 1 = gapOfL l (min ((k : Int) + 1) l.length) := by
  have ht : tvB (l.take k ++ l.drop k) = true := by rw [List.take_append_drop]; exact h
  rw [moveR_1 ht, List.take_append_drop]
  congr 1
  rw [List.length_take, List.length_drop]
  omega
theorem moveR_far {a b : List UInt8} (h : tvB (a ++ b) = true) : moveR a b (-120) = gapOfL (a ++ b) 0 := by
  have := tvB_len h
  rw [List.length_append] at this
  rw [moveR_1 h]
  congr 1
  omega
/-! Changes. -/
theorem cutB_mk {l : List UInt8} {a c : Int} (h : tvB l = true) (h0 : 0 ≤ a) (h1 : 0 ≤ c) (h2 : a + c ≤ l.length) : cutB l a c = true := by
  simp only [cutB, Bool.and_eq_true, inI_iff]
  exact ⟨placeB_mk h h0 (by omega), h1, by omega⟩
theorem cutB_iff {l : List UInt8} {a c : Int} : cutB l a c = true ↔ (tvB l = true ∧ 0 ≤ a ∧ 0 ≤ c ∧ a + c ≤ l.length) := by
  simp only [cutB, Bool.and_eq_true, inI_iff, placeB_iff]
  constructor
  · rintro ⟨⟨h1, h2, h3⟩, h4, h5⟩
    exact ⟨h1, h2, h4, by omega⟩
  · rintro ⟨h1, h2, h3, h4⟩
    exact ⟨⟨h1, h2, by omega⟩, h3, by omega⟩
theorem fitsB_iff {l : List UInt8} {a c : Int} {p : List UInt8} : fitsB l a c p = true ↔ (tvB l = true ∧ 0 ≤ a ∧ 0 ≤ c ∧ a + c ≤ l.length ∧ plain p = true ∧ (l.length : Int) - c + p.length ≤ 120) := by
  constructor
  · intro h
    obtain ⟨h1, h2, h3, h4⟩ := cutB_iff.1 (fitsB_cut h)
    have h5 : tvB (outL l a c p) = true := by rw [← fitsB_yes (fitsB_cut h)]; exact h
    refine ⟨h1, h2, h3, h4, ?_, ?_⟩
    · rw [← plain_outL (a := a) (c := c) (tvB_plain h1)]
      exact tvB_plain h5
    · have := outL_length (p := p) h2 h3 h4
      have := tvB_len h5
      omega
  · rintro ⟨h1, h2, h3, h4, h5, h6⟩
    rw [fitsB_yes (cutB_mk h1 h2 h3 h4)]
    refine tvB_mk ?_ ?_
    · have := outL_length (p := p) h2 h3 h4
      omega
    · rw [plain_outL (tvB_plain h1)]
      exact h5
theorem fitsB_end {l : List UInt8} (h : tvB l = true) : fitsB l l.length 0 [] = true :=
  fitsB_iff.2 ⟨h, by omega, by omega, by omega, rfl, by have := tvB_len h; simp; omega⟩
theorem fitsB_behind {l p : List UInt8} {c : Int} : fitsB l ((l.length : Int) + 1) c p = false := by
  cases h : fitsB l ((l.length : Int) + 1) c p
  · rfl
  · obtain ⟨_, _, h3, h4, _⟩ := fitsB_iff.1 h
    omega
theorem out_tv {l : List UInt8} {a c : Int} {p : List UInt8} (h : fitsB l a c p = true) : tvB (outL l a c p) = true := by rw [← fitsB_yes (fitsB_cut h)]; exact h
theorem out_len {l : List UInt8} {a c : Int} {p : List UInt8} (h : fitsB l a c p = true) : ((outL l a c p).length : Int) = (l.length : Int) - c + p.length := by
  obtain ⟨_, h2, h3, h4, _⟩ := fitsB_iff.1 h
  exact outL_length h2 h3 h4
theorem out_head {l : List UInt8} {a c : Int} {p : List UInt8} (h : fitsB l a c p = true) : (outL l a c p).take a.toNat = l.take a.toNat := by
  obtain ⟨_, h2, h3, h4, _⟩ := fitsB_iff.1 h
  unfold outL
  rw [List.append_assoc, List.take_append_of_le_length (by rw [List.length_take]; omega), List.take_of_length_le (by rw [List.length_take]; omega)]
theorem out_mid {l : List UInt8} {a c : Int} {p : List UInt8} (h : fitsB l a c p = true) : ((outL l a c p).drop a.toNat).take p.length = p := by
  obtain ⟨_, h2, h3, h4, _⟩ := fitsB_iff.1 h
  unfold outL
  rw [List.append_assoc, List.drop_append_of_le_length (by rw [List.length_take]; omega), List.drop_of_length_le (by rw [List.length_take]; omega)]
  simp
theorem out_tail {l : List UInt8} {a c : Int} {p : List UInt8} (h : fitsB l a c p = true) : (outL l a c p).drop (a.toNat + p.length) = l.drop (a + c).toNat := by
  obtain ⟨_, h2, h3, h4, _⟩ := fitsB_iff.1 h
  unfold outL
  have e : (l.take a.toNat ++ p).length = a.toNat + p.length := by rw [List.length_append, List.length_take]; omega
  rw [← e, List.drop_left]
/-- The way back. -/
theorem rev_fits {l : List UInt8} {a c : Int} {p : List UInt8} (h : fitsB l a c p = true) : fitsB (outL l a c p) a p.length ((l.drop a.toNat).take ((a + c).toNat - a.toNat)) = true ∧ outL (outL l a c p) a p.length ((l.drop a.toNat).take ((a + c).toNat - a.toNat)) = l := by
  obtain ⟨h1, h2, h3, h4, h5, h6⟩ := fitsB_iff.1 h
  have hl := out_len h
  have hml : ((l.drop a.toNat).take ((a + c).toNat - a.toNat)).length = c.toNat := by
    rw [List.length_take, List.length_drop]
    omega
  refine ⟨fitsB_iff.2 ⟨out_tv h, h2, by omega, by omega, plain_take _ (plain_drop _ (tvB_plain h1)), ?_⟩, ?_⟩
  · have := tvB_len h1
    omega
  · have e1 := out_head h
    have e2 := out_tail h
    unfold outL
    rw [show (a + (p.length : Int)).toNat = a.toNat + p.length by omega]
    unfold outL at e1 e2
    rw [e1, e2]
    have e3 : l.drop (a + c).toNat = (l.drop a.toNat).drop ((a + c).toNat - a.toNat) := by
      rw [List.drop_drop]
      congr 1
      omega
    rw [e3, List.append_assoc, List.take_append_drop, List.take_append_drop]
theorem rev_rev {l : List UInt8} {a c : Int} {p : List UInt8} (h : fitsB l a c p = true) : revR (outL l a c p) a p.length ((l.drop a.toNat).take ((a + c).toNat - a.toNat)) = ((a, c, p), true) := by
  obtain ⟨h1, h2, h3, h4, h5, h6⟩ := fitsB_iff.1 h
  rw [revR_1 (rev_fits h).1]
  have hml : ((l.drop a.toNat).take ((a + c).toNat - a.toNat)).length = c.toNat := by
    rw [List.length_take, List.length_drop]
    omega
  rw [show (a + (p.length : Int)).toNat - a.toNat = p.length by omega, out_mid h, hml]
  simp [Int.toNat_of_nonneg h3]
/-! Two changes. -/
theorem z_ok : plain [122] = true := by decide
theorem tail_fits {l : List UInt8} (h : tvB l = true) (hl : l.length < 120) : fitsB l l.length 0 [122] = true ∧ outL l l.length 0 [122] = l ++ [122] ∧ tvB (l ++ [122]) = true := by
  refine ⟨fitsB_iff.2 ⟨h, by omega, by omega, by omega, z_ok, by simp; omega⟩, ?_, ?_⟩
  · unfold outL
    simp
  · refine tvB_mk (by simp; omega) ?_
    rw [plain_append, tvB_plain h, z_ok]
    rfl
theorem order_fits {l : List UInt8} {a x : Int} {p : List UInt8} (h : fitsB l a x p = true) (hl : l.length < 120) (ho : (outL l a x p).length < 120) : fitsB (l ++ [122]) a x p = true ∧ outL (l ++ [122]) a x p = outL l a x p ++ [122] := by
  obtain ⟨h1, h2, h3, h4, h5, h6⟩ := fitsB_iff.1 h
  have hlen := out_len h
  refine ⟨fitsB_iff.2 ⟨(tail_fits h1 hl).2.2, h2, h3, ?_, h5, ?_⟩, ?_⟩
  · rw [List.length_append]; simp; omega
  · rw [List.length_append]; simp; omega
  · unfold outL
    rw [List.take_append_of_le_length (by omega), List.drop_append_of_le_length (by omega)]
    simp
end Go.Proofs.Ytlndlgbpnlfflaa
