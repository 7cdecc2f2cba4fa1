/- Plain facts on tables of pieces. No program is named here. -/
import Derived.Test.YtecejfcoognkiaaPq
namespace Go.Proofs.Ytecejfcoognkiaa
open Go.RowKit

/-- How many bytes the text of a piece's kind has. -/
def roomN (nf nm : Nat) (b : Bool) : Nat := if b then nm else nf
theorem roomN_t (nf nm : Nat) : roomN nf nm true = nm := rfl
theorem roomN_f (nf nm : Nat) : roomN nf nm false = nf := rfl
/-- A piece lies in its text. -/
def pieceB (nf nm : Nat) (p : Bool × Int × Int) : Bool := inI p.2.1 0 ((roomN nf nm p.1 : Int) - 1) && inI p.2.2 1 ((roomN nf nm p.1 : Int) - p.2.1)
theorem pieceB_no1 {nf nm : Nat} {b : Bool} {x y : Int} (h : inI x 0 ((roomN nf nm b : Int) - 1) = false) : pieceB nf nm (b, x, y) = false := by simp [pieceB, h]
theorem pieceB_no2 {nf nm : Nat} {b : Bool} {x y : Int} (h : inI y 1 ((roomN nf nm b : Int) - x) = false) : pieceB nf nm (b, x, y) = false := by simp [pieceB, h]
theorem pieceB_yes {nf nm : Nat} {b : Bool} {x y : Int} (h : inI x 0 ((roomN nf nm b : Int) - 1) = true) (h' : inI y 1 ((roomN nf nm b : Int) - x) = true) : pieceB nf nm (b, x, y) = true := by simp [pieceB, h, h']
theorem pieceB_no0 {nf nm : Nat} {b : Bool} {x y : Int} (h : inI x 0 (roomN nf nm b : Int) = false) : pieceB nf nm (b, x, y) = false := by
  refine pieceB_no1 ?_
  cases h2 : inI x 0 ((roomN nf nm b : Int) - 1)
  · rfl
  · rw [inI_iff] at h2
    rw [(inI_iff _ _ _).2 (by omega)] at h
    cases h
theorem pieceB_yes0 {nf nm : Nat} {b : Bool} {x y : Int} (h : inI x 0 (roomN nf nm b : Int) = true) (h' : inI y 1 ((roomN nf nm b : Int) - x) = true) : pieceB nf nm (b, x, y) = true := by
  refine pieceB_yes ?_ h'
  rw [inI_iff] at h h' ⊢
  omega
theorem pieceB_range {nf nm : Nat} {b : Bool} {x y : Int} (h : pieceB nf nm (b, x, y) = true) : 0 ≤ x ∧ 1 ≤ y ∧ x + y ≤ (roomN nf nm b : Int) := by
  simp only [pieceB, Bool.and_eq_true, inI_iff] at h
  omega
/-- All pieces' bytes. -/
def sumP (ps : List (Bool × Int × Int)) : Int := (ps.map fun p => p.2.2).sum
theorem sumP_nil : sumP [] = 0 := rfl
theorem sumP_append (a b : List (Bool × Int × Int)) : sumP (a ++ b) = sumP a + sumP b := by simp [sumP]
theorem sumP_one (p : Bool × Int × Int) : sumP [p] = p.2.2 := by simp [sumP]
theorem sumP_step {ps : List (Bool × Int × Int)} {k : Nat} {b : Bool} {x y : Int} (h : ps[k]? = some (b, x, y)) : sumP (ps.take (k + 1)) = sumP (ps.take k) + y := by
  obtain ⟨hl, he⟩ := List.getElem?_eq_some_iff.1 h
  rw [List.take_succ_eq_append_getElem hl, sumP_append, he, sumP_one]
def allB (nf nm : Nat) (ps : List (Bool × Int × Int)) : Bool := ps.all (pieceB nf nm)
theorem allB_step {nf nm : Nat} {ps : List (Bool × Int × Int)} {k : Nat} {p : Bool × Int × Int} (h : ps[k]? = some p) (ha : allB nf nm (ps.take k) = true) (hp : pieceB nf nm p = true) : allB nf nm (ps.take (k + 1)) = true := by
  obtain ⟨hl, he⟩ := List.getElem?_eq_some_iff.1 h
  unfold allB at ha ⊢
  rw [List.take_succ_eq_append_getElem hl, List.all_append, ha, he]
  simp [hp]
theorem allB_stop {nf nm : Nat} {ps : List (Bool × Int × Int)} {k : Nat} {p : Bool × Int × Int} (h : ps[k]? = some p) (hp : pieceB nf nm p = false) : allB nf nm ps = false := by
  obtain ⟨hl, he⟩ := List.getElem?_eq_some_iff.1 h
  unfold allB
  rw [List.all_eq_false]
  exact ⟨ps[k], List.getElem_mem hl, by rw [he]; simp [hp]⟩
theorem allB_sum {nf nm : Nat} : ∀ {ps : List (Bool × Int × Int)}, allB nf nm ps = true → 0 ≤ sumP ps
  | [], _ => Int.le_refl _
  | (b, x, y) :: ps, h => by
    have h' : pieceB nf nm (b, x, y) = true ∧ allB nf nm ps = true := by simpa [allB] using h
    have h1 := pieceB_range h'.1
    have h2 := allB_sum h'.2
    have h3 : sumP ((b, x, y) :: ps) = y + sumP ps := by simp [sumP]
    omega
theorem allB_take {nf nm : Nat} {ps : List (Bool × Int × Int)} (k : Nat) (h : allB nf nm ps = true) : sumP (ps.take k) ≤ sumP ps := by
  have e : ps = ps.take k ++ ps.drop k := (List.take_append_drop _ _).symm
  have h1 : allB nf nm (ps.drop k) = true := by
    unfold allB at h ⊢
    rw [List.all_eq_true] at h ⊢
    exact fun x hx => h x (List.mem_of_mem_drop hx)
  have h2 := allB_sum h1
  have h3 : sumP ps = sumP (ps.take k) + sumP (ps.drop k) := by rw [← sumP_append, ← e]
  omega
/-- The pieces lie in their texts, and have at most 120 bytes. -/
def piecesB (nf nm : Nat) (ps : List (Bool × Int × Int)) : Bool := allB nf nm ps && decide (sumP ps ≤ 120)
theorem piecesB_stop {nf nm : Nat} {ps : List (Bool × Int × Int)} {k : Nat} {p : Bool × Int × Int} (h : ps[k]? = some p) (hp : pieceB nf nm p = false) : piecesB nf nm ps = false := by simp [piecesB, allB_stop h hp]
theorem piecesB_more {nf nm : Nat} {ps : List (Bool × Int × Int)} {k : Nat} (h : 120 < sumP (ps.take k)) : piecesB nf nm ps = false := by
  unfold piecesB
  cases ha : allB nf nm ps
  · rfl
  · have := allB_take k ha
    rw [decide_eq_false (by omega)]
    rfl
theorem piecesB_end {nf nm : Nat} {ps : List (Bool × Int × Int)} {k : Nat} (hk : ps.length ≤ k) (h : allB nf nm (ps.take k) = true) (hs : sumP (ps.take k) ≤ 120) : piecesB nf nm ps = true := by
  rw [List.take_of_length_le hk] at h hs
  simp [piecesB, h, hs]
/-- TableValid. -/
def tableB (f m : List UInt8) (ps : List (Bool × Int × Int)) : Bool := piecesB f.length m.length ps && (tvB f && (decide ((m.length : Int) ≤ 400) && plain m))
theorem tableB_0 {f m : List UInt8} {ps : List (Bool × Int × Int)} (h : piecesB f.length m.length ps = false) : tableB f m ps = false := by simp [tableB, h]
theorem tableB_1 {f m : List UInt8} {ps : List (Bool × Int × Int)} (h : piecesB f.length m.length ps = true) : tableB f m ps = (tvB f && (decide ((m.length : Int) ≤ 400) && plain m)) := by simp [tableB, h]
theorem tableB_2 {f m : List UInt8} {ps : List (Bool × Int × Int)} (h : tvB f = false) : tableB f m ps = false := by simp [tableB, h]
theorem tableB_3 {f m : List UInt8} {ps : List (Bool × Int × Int)} (h : ¬ (m.length : Int) ≤ 400) : tableB f m ps = false := by simp [tableB]; intros; omega
theorem tableB_4 {f m : List UInt8} {ps : List (Bool × Int × Int)} (h : plain m = false) : tableB f m ps = false := by simp [tableB, h]
theorem tableB_5 {f m : List UInt8} {ps : List (Bool × Int × Int)} (h1 : tvB f = true) (h2 : (m.length : Int) ≤ 400) (h3 : plain m = true) : tableB f m ps = piecesB f.length m.length ps := by simp [tableB, h1, h2, h3]
/-- The text of a piece. -/
def pieceL (f m : List UInt8) (p : Bool × Int × Int) : List UInt8 := ((if p.1 then m else f).drop p.2.1.toNat).take p.2.2.toNat
/-- The texts of pieces, one behind the other. -/
def wholeL (f m : List UInt8) (ps : List (Bool × Int × Int)) : List UInt8 := ps.flatMap (pieceL f m)
theorem wholeL_nil (f m : List UInt8) : wholeL f m [] = [] := rfl
theorem wholeL_step {f m : List UInt8} {ps : List (Bool × Int × Int)} {k : Nat} {p : Bool × Int × Int} (h : ps[k]? = some p) : wholeL f m (ps.take (k + 1)) = wholeL f m (ps.take k) ++ pieceL f m p := by
  obtain ⟨hl, he⟩ := List.getElem?_eq_some_iff.1 h
  unfold wholeL
  rw [List.take_succ_eq_append_getElem hl, List.flatMap_append, he]
  simp
/-- TableText. -/
def tableTextL (f m : List UInt8) (ps : List (Bool × Int × Int)) : List UInt8 := if tableB f m ps then wholeL f m ps else []
theorem tableTextL_0 {f m : List UInt8} {ps : List (Bool × Int × Int)} (h : tableB f m ps = false) : tableTextL f m ps = [] := by simp [tableTextL, h]
theorem tableTextL_1 {f m : List UInt8} {ps : List (Bool × Int × Int)} (h : tableB f m ps = true) : tableTextL f m ps = wholeL f m ps := by simp [tableTextL, h]
theorem tableB_piece {f m : List UInt8} {ps : List (Bool × Int × Int)} (h : tableB f m ps = true) {k : Nat} {b : Bool} {x y : Int} (hk : ps[k]? = some (b, x, y)) : 0 ≤ x ∧ 1 ≤ y ∧ x + y ≤ (roomN f.length m.length b : Int) := by
  cases hp : pieceB f.length m.length (b, x, y)
  · rw [tableB_0 (piecesB_stop hk hp)] at h
    cases h
  · exact pieceB_range hp
theorem tableB_sum {f m : List UInt8} {ps : List (Bool × Int × Int)} (h : tableB f m ps = true) : allB f.length m.length ps = true ∧ sumP ps ≤ 120 := by
  simp only [tableB, piecesB, Bool.and_eq_true, decide_eq_true_eq] at h
  exact h.1
theorem wholeL_length {f m : List UInt8} : ∀ {ps : List (Bool × Int × Int)}, allB f.length m.length ps = true → ((wholeL f m ps).length : Int) = sumP ps
  | [], _ => rfl
  | (b, x, y) :: ps, h => by
    have h' : pieceB f.length m.length (b, x, y) = true ∧ allB f.length m.length ps = true := by simpa [allB] using h
    have h1 := pieceB_range h'.1
    have h2 := wholeL_length h'.2
    have h3 : sumP ((b, x, y) :: ps) = y + sumP ps := by simp [sumP]
    have h4 : wholeL f m ((b, x, y) :: ps) = pieceL f m (b, x, y) ++ wholeL f m ps := by simp [wholeL]
    rw [h3, h4, List.length_append]
    have h5 : ((pieceL f m (b, x, y)).length : Int) = y := by
      unfold pieceL
      cases b
      · rw [List.length_take, List.length_drop]
        simp [roomN] at h1 ⊢
        omega
      · rw [List.length_take, List.length_drop]
        simp [roomN] at h1 ⊢
        omega
    omega
theorem tableB_pieceB {f m : List UInt8} {ps : List (Bool × Int × Int)} (h : tableB f m ps = true) {k : Nat} {p : Bool × Int × Int} (hk : ps[k]? = some p) : pieceB f.length m.length p = true := by
  cases hp : pieceB f.length m.length p
  · rw [tableB_0 (piecesB_stop hk hp)] at h
    cases h
  · rfl
theorem allB_prefix {nf nm : Nat} {ps : List (Bool × Int × Int)} (k : Nat) (h : allB nf nm ps = true) : allB nf nm (ps.take k) = true := by
  unfold allB at h ⊢
  rw [List.all_eq_true] at h ⊢
  exact fun x hx => h x (List.mem_of_mem_take hx)
theorem wholeL_short {f m : List UInt8} {ps : List (Bool × Int × Int)} (h : tableB f m ps = true) (k : Nat) : (wholeL f m (ps.take k)).length ≤ 120 := by
  obtain ⟨h1, h2⟩ := tableB_sum h
  have h3 := wholeL_length (allB_prefix k h1)
  have h4 := allB_take k h1
  omega
end Go.Proofs.Ytecejfcoognkiaa
