/- Contracts on lines, the second part: where all lines begin, LineStart, LineEnd, PlaceAt. -/
import Derived.Test.YtckhhdhkchcljaaDoorW2
import Derived.Test.YtckhhdhkchcljaaDoorW9
import Derived.Test.YtckhhdhkchcljaaDoorPm
import Derived.OwnWalk
import Derived.RegionTactic
import Derived.Deep.AppendLies
namespace Go.Proofs.YtckhhdhkchcljaaDoor
open Go.RowKit

/-- isLine. -/
def lineB (l : List UInt8) (n : Int) : Bool := tvB l && inI n 0 (lineManyI l - 1)
theorem lineB_1 {l : List UInt8} {n : Int} (h : lineB l n = true) : tvB l = true ∧ ∃ x : Nat, (startsTo l l.length)[n.toNat]? = some x ∧ lineStartI l n = x ∧ 0 ≤ n ∧ n.toNat < (startsTo l l.length).length := by
  unfold lineB at h
  rw [Bool.and_eq_true] at h
  obtain ⟨ht, hi⟩ := h
  rw [lineManyI_1 ht, inI_iff] at hi
  obtain ⟨x, h1, h2⟩ := isLine_start ht hi.1 (by omega)
  have hl := startsTo_length l l.length (Nat.le_refl _)
  rw [List.take_length] at hl
  exact ⟨ht, x, h1, h2, hi.1, by omega⟩
theorem lineB_0 {l : List UInt8} {n : Int} (h : lineB l n = false) : lineStartI l n = -1 := by
  unfold lineB at h
  rw [Bool.and_eq_false_iff] at h
  cases ht : tvB l
  · exact isLine_no (.inl ht)
  · rcases h with h | h
    · rw [ht] at h
      cases h
    · rw [lineManyI_1 ht] at h
      refine isLine_no ?_
      by_cases h0 : n < 0
      · exact .inr (.inl h0)
      · refine .inr (.inr ?_)
        rcases Int.lt_or_le (nlc l : Int) n with h' | h'
        · exact h'
        · rw [(inI_iff n 0 _).2 (by omega)] at h
          cases h
/-- strings.IndexByte of a line end. -/
def firstI (l : List UInt8) : Int := if nlAt l = l.length then -1 else (nlAt l : Int)
theorem indexByte_nl (l : List UInt8) : Lib.indexByte l 10 = firstI l := by
  unfold firstI
  induction l with
  | nil => rfl
  | cons c l ih =>
    unfold Lib.indexByte
    by_cases e : c = 10
    · subst e
      rw [nlAt_nl, if_neg (by simp : ¬ 0 = (10 :: l).length)]
      rfl
    · rw [nlAt_no _ e, if_neg (by simpa using e), ih]
      by_cases e2 : nlAt l = l.length
      · rw [if_pos e2, if_pos (by rw [e2]; rfl : nlAt l + 1 = (c :: l).length)]
        rfl
      · rw [if_neg e2, if_neg (by rw [beq_iff_eq]; omega), if_neg (by simp [e2])]
        omega
end Go.Proofs.YtckhhdhkchcljaaDoor
