/- Plain facts on packed tables: no neighbours follow, packing again changes nothing, the text stays. No program is named here. -/
import Derived.Test.YtecejfcoognkiaaPk
namespace Go.Proofs.Ytecejfcoognkiaa
open Go.RowKit

/-- No piece follows the one before it. -/
def apart (q : List (Bool × Int × Int)) : Prop := ∀ k a p, q[k]? = some a → q[k + 1]? = some p → followsB a p = false
theorem apart_nil : apart [] := fun k a p h => by cases h
theorem apart_one (p : Bool × Int × Int) : apart [p] := fun k a p' h h' => by
  rw [List.getElem?_eq_none (by simp)] at h'
  cases h'
theorem follows_start {a : Bool × Int × Int} {b : Bool} {x y y' : Int} : followsB a (b, x, y) = followsB a (b, x, y') := rfl
theorem apart_snoc {q : List (Bool × Int × Int)} {a p : Bool × Int × Int} (h : apart (q ++ [a])) (hp : followsB a p = false) : apart (q ++ [a] ++ [p]) := fun k c d h1 h2 => by
  have hl : k + 1 < (q ++ [a] ++ [p]).length := (List.getElem?_eq_some_iff.1 h2).1
  simp only [List.length_append, List.length_cons, List.length_nil] at hl
  by_cases hk : k + 1 < q.length + 1
  · rw [List.getElem?_append_left (by simp; omega)] at h1 h2
    exact h k c d h1 h2
  · have hk : k = q.length := by omega
    subst hk
    rw [List.getElem?_append_left (by simp), List.getElem?_append_right (Nat.le_refl _)] at h1
    rw [List.getElem?_append_right (by simp)] at h2
    simp at h1 h2
    subst h1 h2
    exact hp
theorem apart_last {q : List (Bool × Int × Int)} {b : Bool} {x y y' : Int} (h : apart (q ++ [(b, x, y)])) : apart (q ++ [(b, x, y')]) := fun k c d h1 h2 => by
  have hl : k + 1 < (q ++ [(b, x, y')]).length := (List.getElem?_eq_some_iff.1 h2).1
  simp only [List.length_append, List.length_cons, List.length_nil] at hl
  rw [List.getElem?_append_left (by omega)] at h1
  have h1' : (q ++ [(b, x, y)])[k]? = some c := by rw [List.getElem?_append_left (by omega)]; exact h1
  by_cases hk : k + 1 < q.length
  · refine h k c d h1' ?_
    rw [List.getElem?_append_left hk] at h2 ⊢
    exact h2
  · have hk : k + 1 = q.length := by omega
    have h3 : (q ++ [(b, x, y)])[k + 1]? = some (b, x, y) := by
      rw [List.getElem?_append_right (by omega), hk]
      simp
    have h4 := h k c _ h1' h3
    rw [List.getElem?_append_right (by omega), hk] at h2
    simp at h2
    subst h2
    exact h4
theorem packStep_apart {q : List (Bool × Int × Int)} (p : Bool × Int × Int) (h : apart q) : apart (packStep q p) := by
  rcases last_cases q with rfl | ⟨q, ⟨b', x', y'⟩, rfl⟩
  · rw [packStep_nil]
    exact apart_one p
  · by_cases h1 : b' = p.1
    · by_cases h2 : x' + y' = p.2.1
      · rw [packStep_yes h1 h2]
        exact apart_last h
      · rw [packStep_no2 h2]
        exact apart_snoc h (by simp [followsB, h2])
    · rw [packStep_no1 h1]
      exact apart_snoc h (by simp [followsB, h1])
theorem packL_apart (ps : List (Bool × Int × Int)) : ∀ k, apart (packL (ps.take k))
  | 0 => apart_nil
  | k + 1 => by
    by_cases hk : k < ps.length
    · rw [packL_step (List.getElem?_eq_getElem hk)]
      exact packStep_apart _ (packL_apart ps k)
    · rw [List.take_of_length_le (by omega)]
      have := packL_apart ps k
      rwa [List.take_of_length_le (by omega)] at this
theorem packL_fix {q : List (Bool × Int × Int)} (h : apart q) : ∀ k, packL (q.take k) = q.take k
  | 0 => rfl
  | k + 1 => by
    by_cases hk : k < q.length
    · rw [packL_step (List.getElem?_eq_getElem hk), packL_fix h k, List.take_succ_eq_append_getElem hk]
      cases k with
      | zero => rfl
      | succ k =>
        have hk' : k < q.length := by omega
        rw [List.take_succ_eq_append_getElem hk']
        have h1 := h k q[k] q[k + 1] (List.getElem?_eq_getElem hk') (List.getElem?_eq_getElem hk)
        generalize q[k] = a at h1 ⊢
        generalize q[k + 1] = p at h1 ⊢
        obtain ⟨b, x, y⟩ := a
        by_cases e1 : b = p.1
        · by_cases e2 : x + y = p.2.1
          · simp [followsB, e1, e2] at h1
          · exact packStep_no2 e2
        · exact packStep_no1 e1
    · rw [List.take_of_length_le (by omega)]
      have := packL_fix h k
      rwa [List.take_of_length_le (by omega)] at this
theorem packL_idem (ps : List (Bool × Int × Int)) : packL (packL ps) = packL ps := by
  have h1 : apart (packL ps) := by
    have := packL_apart ps ps.length
    rwa [List.take_of_length_le (Nat.le_refl _)] at this
  have := packL_fix h1 (packL ps).length
  rwa [List.take_of_length_le (Nat.le_refl _)] at this
theorem pieceL_join {f m : List UInt8} {b : Bool} {x y z : Int} (hx : 0 ≤ x) (hy : 0 ≤ y) (hz : 0 ≤ z) : pieceL f m (b, x, y) ++ pieceL f m (b, x + y, z) = pieceL f m (b, x, y + z) := by
  unfold pieceL
  simp only
  generalize (if b = true then m else f) = l
  rw [show (y + z).toNat = y.toNat + z.toNat by omega, show (x + y).toNat = x.toNat + y.toNat by omega, List.take_add, List.drop_drop]
theorem wholeL_append (f m : List UInt8) (a b : List (Bool × Int × Int)) : wholeL f m (a ++ b) = wholeL f m a ++ wholeL f m b := by simp [wholeL]
theorem wholeL_one (f m : List UInt8) (p : Bool × Int × Int) : wholeL f m [p] = pieceL f m p := by simp [wholeL]
theorem packStep_whole {f m : List UInt8} {q : List (Bool × Int × Int)} {p : Bool × Int × Int} (hq : allB f.length m.length q = true) (hp : pieceB f.length m.length p = true) : wholeL f m (packStep q p) = wholeL f m q ++ pieceL f m p := by
  obtain ⟨b, x, y⟩ := p
  rcases last_cases q with rfl | ⟨q, ⟨b', x', y'⟩, rfl⟩
  · rw [packStep_nil, wholeL_one, wholeL_nil]
    rfl
  · have hs : allB f.length m.length q = true ∧ pieceB f.length m.length (b', x', y') = true := by
      rw [allB_append, allB_one] at hq
      simpa using hq
    by_cases h1 : b' = b
    · by_cases h2 : x' + y' = x
      · subst h1 h2
        have e := packStep_yes (q := q) (b := b') (x := x') (y := y') (p := (b', x' + y', y)) rfl rfl
        have g1 := pieceB_range hs.2
        have g2 := pieceB_range hp
        rw [e, wholeL_append, wholeL_append, wholeL_one, wholeL_one, List.append_assoc, pieceL_join (by omega) (by omega) (by omega)]
      · rw [packStep_no2 (by exact h2), wholeL_append _ _ (q ++ [(b', x', y')]), wholeL_one]
    · rw [packStep_no1 (by exact h1), wholeL_append _ _ (q ++ [(b', x', y')]), wholeL_one]
theorem packL_whole {f m : List UInt8} {ps : List (Bool × Int × Int)} (h : allB f.length m.length ps = true) : ∀ k, wholeL f m (packL (ps.take k)) = wholeL f m (ps.take k)
  | 0 => rfl
  | k + 1 => by
    by_cases hk : k < ps.length
    · have e := List.getElem?_eq_getElem hk
      have hp : pieceB f.length m.length ps[k] = true := by
        unfold allB at h
        rw [List.all_eq_true] at h
        exact h _ (List.getElem_mem hk)
      rw [packL_step e, packStep_whole (packL_all h k) hp, packL_whole h k, wholeL_step e]
    · rw [List.take_of_length_le (by omega)]
      have := packL_whole h k
      rwa [List.take_of_length_le (by omega)] at this
/-- All that the law says of a packed table. -/
theorem pack_facts {f m : List UInt8} {ps : List (Bool × Int × Int)} (h : tableB f m ps = true) : tableB f m (packL ps) = true ∧ wholeL f m (packL ps) = wholeL f m ps ∧ packL (packL ps) = packL ps ∧ apart (packL ps) ∧ (packL ps).length ≤ ps.length := by
  obtain ⟨h1, h2⟩ := tableB_sum h
  have e : ps.take ps.length = ps := List.take_of_length_le (Nat.le_refl _)
  have a1 := packL_all h1 ps.length
  have a2 := packL_sum ps ps.length
  have a3 := packL_whole h1 ps.length
  have a4 := packL_apart ps ps.length
  have a5 := packL_length ps ps.length
  rw [e] at a1 a2 a3 a4 a5
  refine ⟨?_, a3, packL_idem ps, a4, a5⟩
  have h6 : piecesB f.length m.length (packL ps) = true := by
    unfold piecesB
    rw [a1, Bool.true_and, decide_eq_true_eq]
    omega
  unfold tableB at h ⊢
  rw [Bool.and_eq_true] at h
  rw [h6, h.2]
  rfl
end Go.Proofs.Ytecejfcoognkiaa
