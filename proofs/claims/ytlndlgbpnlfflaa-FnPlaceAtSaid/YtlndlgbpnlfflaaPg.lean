/- Plain facts for the laws on lines. No program is named here. -/
import Derived.Test.YtlndlgbpnlfflaaPn
namespace Go.Proofs.Ytlndlgbpnlfflaa
open Go.RowKit

theorem nlAt_none : ∀ {l : List UInt8} {j : Nat}, j ≤ nlAt l → nlc (l.take j) = 0
  | [], j, _ => by simp [nlc]
  | c :: l, 0, _ => rfl
  | c :: l, j + 1, h => by
    by_cases hc : c = 10
    · subst hc
      rw [nlAt_nl] at h
      omega
    · rw [nlAt_no l hc] at h
      rw [List.take_succ_cons, nlc_cons_no _ hc]
      exact nlAt_none (by omega)
theorem nlAt_end : ∀ (l : List UInt8), nlAt l = l.length ∨ l[nlAt l]? = some 10
  | [] => .inl rfl
  | c :: l => by
    by_cases hc : c = 10
    · subst hc
      rw [nlAt_nl]
      exact .inr rfl
    · rw [nlAt_no l hc, List.length_cons, List.getElem?_cons_succ]
      rcases nlAt_end l with h | h
      · exact .inl (by omega)
      · exact .inr h
theorem nlAt_ge : ∀ {l : List UInt8} {j : Nat}, j ≤ l.length → nlc (l.take j) = 0 → j ≤ nlAt l
  | [], j, h, _ => by simp at h; omega
  | c :: l, 0, _, _ => Nat.zero_le _
  | c :: l, j + 1, h, h0 => by
    by_cases hc : c = 10
    · subst hc
      rw [List.take_succ_cons, nlc_cons_nl] at h0
      omega
    · rw [List.take_succ_cons, nlc_cons_no _ hc] at h0
      rw [nlAt_no l hc]
      have := nlAt_ge (l := l) (j := j) (by simp at h; omega) h0
      omega
theorem take_split (l : List UInt8) {k q : Nat} (h : k ≤ q) : l.take q = l.take k ++ (l.drop k).take (q - k) := by
  have e : q = k + (q - k) := by omega
  rw [e, List.take_add, Nat.add_sub_cancel_left]
theorem nlc_split (l : List UInt8) {k q : Nat} (h : k ≤ q) : nlc (l.take q) = nlc (l.take k) + nlc ((l.drop k).take (q - k)) := by rw [take_split l h, nlc_append]
/-- Between a line's start and its end. -/
theorem line_nlc {l : List UInt8} {n k q : Nat} (hs : IsStart l n k) (h1 : k ≤ q) (h2 : q ≤ k + nlAt (l.drop k)) : nlc (l.take q) = n := by
  rw [nlc_split l h1, hs.2.1, nlAt_none (by omega)]
  rfl
theorem line_end_le {l : List UInt8} {n k : Nat} (hs : IsStart l n k) : k + nlAt (l.drop k) ≤ l.length := by
  have h1 := nlAt_le (l.drop k)
  have h2 := hs.1
  rw [List.length_drop] at h1
  omega
theorem line_last {l : List UInt8} {n k q : Nat} (hs : IsStart l n k) (h1 : k ≤ q) (h2 : q ≤ k + nlAt (l.drop k)) : lastS (l.take q) = k := by
  have h3 := line_end_le hs
  refine lastS_of ⟨?_, ?_, ?_⟩
  · rw [List.length_take]
    omega
  · rw [List.take_take, Nat.min_eq_left h1, hs.2.1, line_nlc hs h1 h2]
  · rcases hs.2.2 with h | h
    · exact .inl h
    · by_cases hk : k = 0
      · exact .inl hk
      · refine .inr ?_
        rw [List.getElem?_take, if_pos (by omega)]
        exact h
/-- A place lies in its line. -/
theorem place_line {l : List UInt8} {p : Nat} (hp : p ≤ l.length) : IsStart l (nlc (l.take p)) (lastS (l.take p)) ∧ lastS (l.take p) ≤ p ∧ p ≤ lastS (l.take p) + nlAt (l.drop (lastS (l.take p))) := by
  have hs := lastS_isStart (l.take p)
  have h1 : lastS (l.take p) ≤ p := by
    have := hs.1
    rw [List.length_take] at this
    omega
  refine ⟨isStart_take hs, h1, ?_⟩
  have h2 := hs.2.1
  rw [List.take_take, Nat.min_eq_left h1] at h2
  have h3 := nlc_split l h1
  have h4 := nlAt_ge (l := l.drop (lastS (l.take p))) (j := p - lastS (l.take p)) (by rw [List.length_drop]; omega) (by omega)
  omega
/-- The line before. -/
theorem line_before {l : List UInt8} {n k : Nat} (hs : IsStart l (n + 1) k) : ∃ k', IsStart l n k' ∧ 1 ≤ k ∧ k' + nlAt (l.drop k') = k - 1 := by
  obtain ⟨h1, h2, h3⟩ := hs
  have hk : k ≠ 0 := fun e => by subst e; simp [nlc] at h2
  have h3' : l[k - 1]? = some 10 := by
    rcases h3 with h | h
    · exact absurd h hk
    · exact h
  have hlt : k - 1 < l.length := by omega
  have hn : nlc (l.take (k - 1)) = n := by
    have := nlc_take_succ l (k - 1) hlt
    rw [show k - 1 + 1 = k by omega, h2] at this
    rw [List.getElem?_eq_getElem hlt] at h3'
    injection h3' with h3'
    rw [if_pos h3'] at this
    omega
  obtain ⟨g1, g2, g3⟩ := place_line (l := l) (p := k - 1) (by omega)
  rw [hn] at g1
  refine ⟨lastS (l.take (k - 1)), g1, by omega, ?_⟩
  have g4 : nlAt (l.drop (lastS (l.take (k - 1)))) ≤ k - 1 - lastS (l.take (k - 1)) := by
    rcases Nat.lt_or_ge (k - 1 - lastS (l.take (k - 1))) (nlAt (l.drop (lastS (l.take (k - 1))))) with h | h
    · have e := nlAt_none (l := l.drop (lastS (l.take (k - 1)))) (j := k - 1 - lastS (l.take (k - 1)) + 1) (by omega)
      have hd : k - 1 - lastS (l.take (k - 1)) < (l.drop (lastS (l.take (k - 1)))).length := by rw [List.length_drop]; omega
      rw [nlc_take_succ _ _ hd] at e
      have hx : (l.drop (lastS (l.take (k - 1))))[k - 1 - lastS (l.take (k - 1))] = 10 := by
        rw [List.getElem_drop]
        rw [List.getElem?_eq_getElem hlt] at h3'
        injection h3' with h3'
        rw [← h3']
        congr 1
        omega
      rw [if_pos hx] at e
      omega
    · exact h
  omega
/-! The laws. -/
theorem lineStart_get {l : List UInt8} {n : Int} (h : 0 ≤ lineStartI l n) : ∃ m k : Nat, n = m ∧ lineStartI l n = k ∧ IsStart l m k ∧ tvB l = true := by
  by_cases h0 : tvB l = true ∧ 0 ≤ n
  · obtain ⟨m, rfl⟩ := Int.eq_ofNat_of_zero_le h0.2
    cases hs : startN l m with
    | none => rw [lineStartI_2 (by simpa using hs)] at h; omega
    | some k =>
      have hk : lineStartI l m = k := lineStartI_1 h0.1 (by omega) (by simpa using hs)
      exact ⟨m, k, rfl, hk, isStart_of hs, h0.1⟩
  · rw [lineStartI_0 (by
      by_cases ht : tvB l = true
      · exact .inr (by have h1 : ¬ 0 ≤ n := fun h => h0 ⟨ht, h⟩; omega)
      · exact .inl (by simpa using ht))] at h
    omega
theorem lineStart_of {l : List UInt8} {m k : Nat} (ht : tvB l = true) (hs : IsStart l m k) : lineStartI l m = k := lineStartI_1 ht (by omega) (by simpa using startN_of hs)
theorem lineEnd_of {l : List UInt8} {m k : Nat} (ht : tvB l = true) (hs : IsStart l m k) : lineEndI l m = ((k + nlAt (l.drop k) : Nat) : Int) := by
  rw [lineEndI_1 (lineStart_of ht hs)]
  omega
theorem lineOf_in {l : List UInt8} {m k q : Nat} (ht : tvB l = true) (hs : IsStart l m k) (h1 : k ≤ q) (h2 : q ≤ k + nlAt (l.drop k)) : lineOfI l q = m := by
  have h3 := line_end_le hs
  rw [lineOfI_1 (by simp [placeB, ht, inI]; omega)]
  have := line_nlc hs h1 h2
  simp [this]
theorem columnOf_in {l : List UInt8} {m k q : Nat} (ht : tvB l = true) (hs : IsStart l m k) (h1 : k ≤ q) (h2 : q ≤ k + nlAt (l.drop k)) : columnI l q = (q : Int) - k := by
  have h3 := line_end_le hs
  rw [columnI_1 (by simp [placeB, ht, inI]; omega)]
  have := line_last hs h1 h2
  simp [this]
theorem lineEnd_neg {l : List UInt8} {n : Int} (h : lineEndI l n < 0) : lineEndI l n = -1 := by
  rcases lineStartI_cases l n with e | ⟨k, e, _⟩
  · exact lineEndI_0 e
  · rw [lineEndI_1 e] at h
    omega
theorem lineStart_neg {l : List UInt8} {n : Int} (h : lineStartI l n < 0) : lineStartI l n = -1 := by
  rcases lineStartI_cases l n with e | ⟨k, e, _⟩
  · exact e
  · omega
theorem lineEnd_get {l : List UInt8} {n : Int} (h : 0 ≤ lineEndI l n) : ∃ m k : Nat, n = m ∧ IsStart l m k ∧ tvB l = true := by
  have h0 : 0 ≤ lineStartI l n := by
    rcases lineStartI_cases l n with e | ⟨k, e, _⟩
    · rw [lineEndI_0 e] at h
      omega
    · omega
  obtain ⟨m, k, e, _, hs, ht⟩ := lineStart_get h0
  exact ⟨m, k, e, hs, ht⟩
theorem lineMany_one {l : List UInt8} {m k : Nat} (ht : tvB l = true) (_ : IsStart l m k) : lineManyI ((l.drop k).take (nlAt (l.drop k))) = 1 := by
  have h1 : tvB ((l.drop k).take (nlAt (l.drop k))) = true := by
    rw [tvB_iff] at ht ⊢
    exact ⟨by rw [List.length_take, List.length_drop]; omega, plain_take _ (plain_drop _ ht.2)⟩
  rw [lineManyI_1 h1, nlAt_none (Nat.le_refl _)]
  rfl
theorem placeAt_neg {l : List UInt8} {n c : Int} (h : placeAtI l n c < 0) : placeAtI l n c = -1 := by
  rcases lineStartI_cases l n with e | ⟨k, e, _⟩
  · exact placeAtI_0 (.inl e)
  · by_cases hc : 0 ≤ c
    · rw [placeAtI_1 e hc] at h
      omega
    · exact placeAtI_0 (.inr (by omega))
theorem placeAt_get {l : List UInt8} {n c : Int} (h : 0 ≤ placeAtI l n c) : ∃ m k q : Nat, n = m ∧ IsStart l m k ∧ tvB l = true ∧ 0 ≤ c ∧ placeAtI l n c = q ∧ k ≤ q ∧ q ≤ k + nlAt (l.drop k) ∧ ((q : Int) - k = c ∨ ((q : Int) - k < c ∧ q = k + nlAt (l.drop k))) := by
  rcases lineStartI_cases l n with e | ⟨k, e, _⟩
  · rw [placeAtI_0 (.inl e)] at h
    omega
  · by_cases hc : 0 ≤ c
    · obtain ⟨m, k', e1, e2, hs, ht⟩ := lineStart_get (l := l) (n := n) (by omega)
      obtain rfl : k = k' := by omega
      obtain ⟨c', rfl⟩ := Int.eq_ofNat_of_zero_le hc
      refine ⟨m, k, k + min c' (nlAt (l.drop k)), e1, hs, ht, hc, ?_, by omega, by omega, by omega⟩
      rw [placeAtI_1 e hc]
      omega
    · rw [placeAtI_0 (.inr (by omega))] at h
      omega
theorem placeAt_in {l : List UInt8} {m k q : Nat} (ht : tvB l = true) (hs : IsStart l m k) (h1 : k ≤ q) (h2 : q ≤ k + nlAt (l.drop k)) : placeAtI l m ((q : Int) - k) = q := by
  rw [placeAtI_1 (lineStart_of ht hs) (by omega)]
  omega
theorem lineMany_le {l : List UInt8} {n : Int} (h : lineStartI l n < 0) (h0 : 0 ≤ n) : lineManyI l ≤ n := by
  by_cases ht : tvB l = true
  · rw [lineManyI_1 ht]
    obtain ⟨m, rfl⟩ := Int.eq_ofNat_of_zero_le h0
    rcases Nat.lt_or_ge (nlc l) m with h1 | h1
    · omega
    · obtain ⟨k, hk⟩ := startN_some h1
      rw [lineStartI_1 ht h0 (by simpa using hk)] at h
      omega
  · rw [lineManyI_0 (by simpa using ht)]
    omega
end Go.Proofs.Ytlndlgbpnlfflaa
