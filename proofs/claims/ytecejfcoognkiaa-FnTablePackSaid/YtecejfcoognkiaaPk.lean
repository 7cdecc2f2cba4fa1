/- Plain facts on packed tables. No program is named here. -/
import Derived.Test.YtecejfcoognkiaaPt
namespace Go.Proofs.Ytecejfcoognkiaa
open Go.RowKit

/-- Whether a piece follows another one in its text. -/
def followsB (a p : Bool × Int × Int) : Bool := (a.1 == p.1) && decide (a.2.1 + a.2.2 = p.2.1)
/-- One further piece. -/
def packStep (out : List (Bool × Int × Int)) (p : Bool × Int × Int) : List (Bool × Int × Int) :=
  match out.getLast? with
  | some a => if followsB a p then out.dropLast ++ [(a.1, a.2.1, a.2.2 + p.2.2)] else out ++ [p]
  | none => [p]
/-- TablePack's pieces. -/
def packL (ps : List (Bool × Int × Int)) : List (Bool × Int × Int) := ps.foldl packStep []
theorem packL_nil : packL [] = [] := rfl
theorem packL_step {ps : List (Bool × Int × Int)} {k : Nat} {p : Bool × Int × Int} (h : ps[k]? = some p) : packL (ps.take (k + 1)) = packStep (packL (ps.take k)) p := by
  obtain ⟨hl, he⟩ := List.getElem?_eq_some_iff.1 h
  unfold packL
  rw [List.take_succ_eq_append_getElem hl, List.foldl_append, he]
  rfl
theorem packStep_nil (p : Bool × Int × Int) : packStep [] p = [p] := rfl
theorem packStep_yes {q : List (Bool × Int × Int)} {b : Bool} {x y : Int} {p : Bool × Int × Int} (h1 : b = p.1) (h2 : x + y = p.2.1) : packStep (q ++ [(b, x, y)]) p = q ++ [(b, x, y + p.2.2)] := by
  simp [packStep, followsB, h1, h2]
theorem packStep_no1 {q : List (Bool × Int × Int)} {b : Bool} {x y : Int} {p : Bool × Int × Int} (h1 : b ≠ p.1) : packStep (q ++ [(b, x, y)]) p = q ++ [(b, x, y)] ++ [p] := by
  simp [packStep, followsB, h1]
theorem packStep_no2 {q : List (Bool × Int × Int)} {b : Bool} {x y : Int} {p : Bool × Int × Int} (h2 : x + y ≠ p.2.1) : packStep (q ++ [(b, x, y)]) p = q ++ [(b, x, y)] ++ [p] := by
  simp [packStep, followsB, h2]
theorem last_cases {α : Type} (l : List α) : l = [] ∨ ∃ q a, l = q ++ [a] := by
  rcases List.eq_nil_or_concat l with h | ⟨q, a, h⟩
  · exact .inl h
  · exact .inr ⟨q, a, by simpa using h⟩
theorem allB_append {nf nm : Nat} (a b : List (Bool × Int × Int)) : allB nf nm (a ++ b) = (allB nf nm a && allB nf nm b) := by simp [allB]
theorem allB_one {nf nm : Nat} (p : Bool × Int × Int) : allB nf nm [p] = pieceB nf nm p := by simp [allB]
theorem pieceB_mk {nf nm : Nat} {b : Bool} {x y : Int} (h0 : 0 ≤ x) (h1 : 1 ≤ y) (h2 : x + y ≤ (roomN nf nm b : Int)) : pieceB nf nm (b, x, y) = true := by
  simp only [pieceB, Bool.and_eq_true, inI_iff]
  omega
theorem packStep_all {nf nm : Nat} {q : List (Bool × Int × Int)} {p : Bool × Int × Int} (hq : allB nf nm q = true) (hp : pieceB nf nm p = true) : allB nf nm (packStep q p) = true := by
  obtain ⟨b, x, y⟩ := p
  rcases last_cases q with rfl | ⟨q, ⟨b', x', y'⟩, rfl⟩
  · rw [packStep_nil, allB_one]
    exact hp
  · have hs : allB nf nm q = true ∧ pieceB nf nm (b', x', y') = true := by
      rw [allB_append, allB_one] at hq
      simpa using hq
    by_cases h1 : b' = b
    · by_cases h2 : x' + y' = x
      · subst h1
        have e := packStep_yes (q := q) (b := b') (x := x') (y := y') (p := (b', x, y)) rfl h2
        rw [e, allB_append, allB_one, hs.1]
        have g1 := pieceB_range hs.2
        have g2 := pieceB_range hp
        exact pieceB_mk (by omega) (by simp only; omega) (by simp only; omega)
      · rw [packStep_no2 (by exact h2), allB_append, allB_one, hq, hp]
        rfl
    · rw [packStep_no1 (by exact h1), allB_append, allB_one, hq, hp]
      rfl
theorem packL_all {nf nm : Nat} {ps : List (Bool × Int × Int)} (h : allB nf nm ps = true) : ∀ k, allB nf nm (packL (ps.take k)) = true
  | 0 => rfl
  | k + 1 => by
    by_cases hk : k < ps.length
    · rw [packL_step (List.getElem?_eq_getElem hk)]
      refine packStep_all (packL_all h k) ?_
      unfold allB at h
      rw [List.all_eq_true] at h
      exact h _ (List.getElem_mem hk)
    · rw [List.take_of_length_le (by omega)]
      have := packL_all h k
      rwa [List.take_of_length_le (by omega)] at this
theorem packStep_sum (q : List (Bool × Int × Int)) (p : Bool × Int × Int) : sumP (packStep q p) = sumP q + p.2.2 := by
  rcases last_cases q with rfl | ⟨q, ⟨b', x', y'⟩, rfl⟩
  · rw [packStep_nil, sumP_one]
    simp [sumP]
  · by_cases h1 : b' = p.1
    · by_cases h2 : x' + y' = p.2.1
      · rw [packStep_yes h1 h2]
        simp only [sumP_append, sumP_one]
        omega
      · rw [packStep_no2 h2]
        simp only [sumP_append, sumP_one]
    · rw [packStep_no1 h1]
      simp only [sumP_append, sumP_one]
theorem packStep_length (q : List (Bool × Int × Int)) (p : Bool × Int × Int) : (packStep q p).length ≤ q.length + 1 := by
  rcases last_cases q with rfl | ⟨q, ⟨b', x', y'⟩, rfl⟩
  · simp [packStep_nil]
  · by_cases h1 : b' = p.1
    · by_cases h2 : x' + y' = p.2.1
      · rw [packStep_yes h1 h2]
        simp
      · rw [packStep_no2 h2]
        simp
    · rw [packStep_no1 h1]
      simp
theorem packL_length (ps : List (Bool × Int × Int)) : ∀ k, (packL (ps.take k)).length ≤ k
  | 0 => Nat.le_refl _
  | k + 1 => by
    by_cases hk : k < ps.length
    · rw [packL_step (List.getElem?_eq_getElem hk)]
      have h1 := packStep_length (packL (ps.take k)) ps[k]
      have h2 := packL_length ps k
      omega
    · rw [List.take_of_length_le (by omega)]
      have := packL_length ps k
      rw [List.take_of_length_le (by omega)] at this
      omega
theorem packL_sum (ps : List (Bool × Int × Int)) : ∀ k, sumP (packL (ps.take k)) = sumP (ps.take k)
  | 0 => rfl
  | k + 1 => by
    by_cases hk : k < ps.length
    · have h := List.getElem?_eq_getElem hk
      rw [packL_step h, packStep_sum, packL_sum ps k, sumP_step (b := ps[k].1) (x := ps[k].2.1) (y := ps[k].2.2) h]
    · rw [List.take_of_length_le (by omega)]
      have := packL_sum ps k
      rwa [List.take_of_length_le (by omega)] at this
/-- TablePack. -/
def packF (f m : List UInt8) (ps : List (Bool × Int × Int)) : List UInt8 := if tableB f m ps then f else []
def packM (f m : List UInt8) (ps : List (Bool × Int × Int)) : List UInt8 := if tableB f m ps then m else []
def packP (f m : List UInt8) (ps : List (Bool × Int × Int)) : List (Bool × Int × Int) := if tableB f m ps then packL ps else []
theorem pack_0 {f m : List UInt8} {ps : List (Bool × Int × Int)} (h : tableB f m ps = false) : packF f m ps = [] ∧ packM f m ps = [] ∧ packP f m ps = [] := by simp [packF, packM, packP, h]
theorem pack_1 {f m : List UInt8} {ps : List (Bool × Int × Int)} (h : tableB f m ps = true) : packF f m ps = f ∧ packM f m ps = m ∧ packP f m ps = packL ps := by simp [packF, packM, packP, h]
end Go.Proofs.Ytecejfcoognkiaa
