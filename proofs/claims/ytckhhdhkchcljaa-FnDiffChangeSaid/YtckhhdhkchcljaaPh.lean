/- Plain facts for the law on differences. No program is named here. -/
import Derived.Test.YtckhhdhkchcljaaPf
namespace Go.Proofs.Ytckhhdhkchcljaa
open Go.RowKit

theorem cpl_take : ∀ (a b : List UInt8), a.take (cpl a b) = b.take (cpl a b)
  | [], b => by simp [cpl]
  | a :: as, [] => by simp [cpl]
  | a :: as, b :: bs => by
    by_cases h : a = b
    · subst h
      simp only [cpl, if_true]
      rw [List.take_succ_cons, List.take_succ_cons, cpl_take as bs]
    · simp [cpl, h]
theorem cpl_ne : ∀ (a b : List UInt8), cpl a b < a.length → cpl a b < b.length → a[cpl a b]? ≠ b[cpl a b]?
  | [], b, h, _ => by simp at h
  | a :: as, [], _, h => by simp at h
  | a :: as, b :: bs, h1, h2 => by
    by_cases h : a = b
    · subst h
      simp only [cpl, if_true, List.length_cons] at h1 h2 ⊢
      rw [List.getElem?_cons_succ, List.getElem?_cons_succ]
      exact cpl_ne as bs (by omega) (by omega)
    · simp [cpl, h]
theorem cpl_self : ∀ (a : List UInt8), cpl a a = a.length
  | [] => by simp [cpl]
  | a :: as => by simp [cpl, cpl_self as]
/-- How many bytes two texts have in common at the beginning, and then at the end. -/
def preN (a b : List UInt8) : Nat := cpl a b
def sufN (a b : List UInt8) : Nat := cpl (a.drop (preN a b)).reverse (b.drop (preN a b)).reverse
theorem pre_suf (a b : List UInt8) : preN a b + sufN a b ≤ a.length ∧ preN a b + sufN a b ≤ b.length := by
  have h1 := cpl_le a b
  have h2 := cpl_le (a.drop (preN a b)).reverse (b.drop (preN a b)).reverse
  simp only [List.length_reverse, List.length_drop] at h2
  unfold preN sufN at *
  unfold preN at *
  omega
theorem suf_drop (a b : List UInt8) : a.drop (a.length - sufN a b) = b.drop (b.length - sufN a b) := by
  have h := cpl_take (a.drop (preN a b)).reverse (b.drop (preN a b)).reverse
  have hs := pre_suf a b
  rw [show cpl (a.drop (preN a b)).reverse (b.drop (preN a b)).reverse = sufN a b from rfl] at h
  rw [List.take_reverse, List.take_reverse, List.length_drop, List.length_drop, List.drop_drop, List.drop_drop] at h
  have h2 := List.reverse_inj.1 h
  rw [show preN a b + (a.length - preN a b - sufN a b) = a.length - sufN a b by omega, show preN a b + (b.length - preN a b - sufN a b) = b.length - sufN a b by omega] at h2
  exact h2
/-- What is put. -/
def putL (a b : List UInt8) : List UInt8 := (b.drop (preN a b)).take (b.length - sufN a b - preN a b)
theorem putL_length (a b : List UInt8) : (putL a b).length = b.length - sufN a b - preN a b := by
  have hs := pre_suf a b
  unfold putL
  rw [List.length_take, List.length_drop]
  omega
theorem diffG_eq (a b : List UInt8) : diffG a b = ((preN a b : Int), ((a.length - preN a b - sufN a b : Nat) : Int), putL a b) := by
  have hs := pre_suf a b
  have h : (a.length : Int) - preN a b - sufN a b = ((a.length - preN a b - sufN a b : Nat) : Int) := by omega
  unfold diffG putL
  exact Prod.mk.injEq _ _ _ _ |>.mpr ⟨rfl, Prod.mk.injEq _ _ _ _ |>.mpr ⟨h, rfl⟩⟩
theorem diff_out {a b : List UInt8} : outL a (preN a b) ((a.length - preN a b - sufN a b : Nat) : Int) (putL a b) = b := by
  have hs := pre_suf a b
  unfold outL
  rw [show ((preN a b : Int)).toNat = preN a b by omega, show ((preN a b : Int) + ((a.length - preN a b - sufN a b : Nat) : Int)).toNat = a.length - sufN a b by omega]
  rw [suf_drop a b, show a.take (preN a b) = b.take (preN a b) from cpl_take a b]
  unfold putL
  rw [show b.drop (b.length - sufN a b) = (b.drop (preN a b)).drop (b.length - sufN a b - preN a b) by rw [List.drop_drop]; congr 1; omega]
  rw [List.append_assoc, List.take_append_drop, List.take_append_drop]
theorem diff_fits {a b : List UInt8} (ha : tvB a = true) (hb : tvB b = true) : fitsB a (preN a b) ((a.length - preN a b - sufN a b : Nat) : Int) (putL a b) = true := by
  have hs := pre_suf a b
  rw [fitsB_yes (cutB_mk ha (by omega) (by omega) (by omega)), diff_out]
  exact hb
theorem diff_self (a : List UInt8) : preN a a = a.length ∧ sufN a a = 0 ∧ putL a a = [] := by
  have h1 : preN a a = a.length := cpl_self a
  have h2 : sufN a a = 0 := by
    have := pre_suf a a
    omega
  refine ⟨h1, h2, ?_⟩
  refine List.eq_nil_of_length_eq_zero ?_
  rw [putL_length, h1, h2]
  omega
theorem diff_none {a b : List UInt8} (h1 : a.length - preN a b - sufN a b = 0) (h2 : putL a b = []) : a = b := by
  have h := diff_out (a := a) (b := b)
  rw [h1, h2] at h
  unfold outL at h
  rw [show ((preN a b : Int)).toNat = preN a b by omega, show ((preN a b : Int) + ((0 : Nat) : Int)).toNat = preN a b by omega] at h
  simpa using h
/-- Where both cut and put are there, they differ at both ends. -/
theorem diff_first {a b : List UInt8} (h1 : a.length - preN a b - sufN a b ≠ 0) (h2 : (putL a b).length ≠ 0) : a[preN a b]? ≠ (putL a b)[0]? := by
  rw [putL_length] at h2
  unfold putL
  rw [List.getElem?_take, if_pos (by omega), List.getElem?_drop, Nat.add_zero]
  exact cpl_ne a b (by unfold preN at *; omega) (by unfold preN at *; omega)
theorem diff_last {a b : List UInt8} (h1 : a.length - preN a b - sufN a b ≠ 0) (h2 : (putL a b).length ≠ 0) : a[preN a b + (a.length - preN a b - sufN a b) - 1]? ≠ (putL a b)[(putL a b).length - 1]? := by
  rw [putL_length] at h2 ⊢
  have hs := pre_suf a b
  have h := cpl_ne (a.drop (preN a b)).reverse (b.drop (preN a b)).reverse (by rw [List.length_reverse, List.length_drop]; show sufN a b < _; omega) (by rw [List.length_reverse, List.length_drop]; show sufN a b < _; omega)
  rw [show cpl (a.drop (preN a b)).reverse (b.drop (preN a b)).reverse = sufN a b from rfl] at h
  rw [List.getElem?_reverse (by rw [List.length_drop]; omega), List.getElem?_reverse (by rw [List.length_drop]; omega), List.length_drop, List.length_drop, List.getElem?_drop, List.getElem?_drop] at h
  unfold putL
  rw [List.getElem?_take, if_pos (by omega), List.getElem?_drop]
  rw [show preN a b + (a.length - preN a b - 1 - sufN a b) = preN a b + (a.length - preN a b - sufN a b) - 1 by omega, show preN a b + (b.length - preN a b - 1 - sufN a b) = preN a b + (b.length - sufN a b - preN a b - 1) by omega] at h
  exact h
end Go.Proofs.Ytckhhdhkchcljaa
