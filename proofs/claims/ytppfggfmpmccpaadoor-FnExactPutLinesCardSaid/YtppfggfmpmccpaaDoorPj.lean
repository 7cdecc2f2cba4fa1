/- Plain laws: lines joined. -/
import Derived.Test.YtppfggfmpmccpaaDoorPi
import Derived.Lib.Join
namespace Go.Proofs.YtppfggfmpmccpaaDoor
open Go.Lib
/-- Lines with line ends between them. -/
def joinL : List (List UInt8) → List UInt8
  | [] => []
  | [x] => x
  | x :: y :: xs => x ++ 10 :: joinL (y :: xs)
theorem joinL_snoc (xs : List (List UInt8)) (h : xs ≠ []) (y : List UInt8) : joinL (xs ++ [y]) = joinL xs ++ 10 :: y := by
  induction xs with
  | nil => exact absurd rfl h
  | cons x xs ih =>
    cases xs with
    | nil => rfl
    | cons z zs =>
      have := ih (by simp)
      show x ++ 10 :: joinL ((z :: zs) ++ [y]) = _
      rw [this]
      show _ = (x ++ 10 :: joinL (z :: zs)) ++ 10 :: y
      simp
theorem joinL_len_take (xs : List (List UInt8)) (k : Nat) : (joinL (xs.take k)).length ≤ (joinL xs).length := by
  induction xs generalizing k with
  | nil => simp [joinL]
  | cons x xs ih =>
    cases k with
    | zero => simp [joinL]
    | succ k =>
      cases xs with
      | nil => simp
      | cons z zs =>
        cases k with
        | zero => simp [joinL]
        | succ k =>
          have := ih (k + 1)
          simp only [List.take_succ_cons] at this ⊢
          simp only [joinL, List.length_append, List.length_cons]
          omega
theorem joinL_plain (xs : List (List UInt8)) : plain (joinL xs) = xs.all plain := by
  induction xs with
  | nil => rfl
  | cons x xs ih =>
    cases xs with
    | nil => simp [joinL]
    | cons z zs =>
      rw [List.all_cons, ← ih]
      show plain (x ++ 10 :: joinL (z :: zs)) = _
      rw [plain_append, plain_cons]
      simp [okI]
theorem joinL_mem_len (xs : List (List UInt8)) (x : List UInt8) (h : x ∈ xs) : x.length ≤ (joinL xs).length := by
  induction xs with
  | nil => cases h
  | cons y xs ih =>
    cases xs with
    | nil =>
      simp only [List.mem_singleton] at h
      subst h
      exact Nat.le_refl _
    | cons z zs =>
      show x.length ≤ (y ++ 10 :: joinL (z :: zs)).length
      rw [List.length_append, List.length_cons]
      rcases List.mem_cons.1 h with rfl | h
      · omega
      · have := ih h
        omega
/-- LinesText. -/
def linesTextL (xs : List (List UInt8)) : List UInt8 := if (xs.all fun l => nlc l == 0) && tvB (joinL xs) then joinL xs else []
theorem linesTextL_1 {xs : List (List UInt8)} (h : ∀ x ∈ xs, nlc x = 0) (h' : tvB (joinL xs) = true) : linesTextL xs = joinL xs := by
  unfold linesTextL
  rw [if_pos]
  rw [Bool.and_eq_true, List.all_eq_true]
  exact ⟨fun x hx => by simpa using h x hx, h'⟩
theorem linesTextL_0 {xs : List (List UInt8)} (h : (∃ x ∈ xs, nlc x ≠ 0) ∨ tvB (joinL xs) = false) : linesTextL xs = [] := by
  unfold linesTextL
  rw [if_neg]
  rw [Bool.and_eq_true, List.all_eq_true]
  rintro ⟨h1, h2⟩
  rcases h with ⟨x, hx, h3⟩ | h3
  · exact h3 (by simpa using h1 x hx)
  · rw [h3] at h2
    cases h2
theorem joinL_lib (xs : List (List UInt8)) : join xs [10] = joinL xs := by
  induction xs with
  | nil => rfl
  | cons x xs ih =>
    cases xs with
    | nil => exact join_one _ _
    | cons z zs =>
      show _ = x ++ 10 :: joinL (z :: zs)
      rw [← ih]
      simp [join, List.intercalate]
/-- The lines of a text, joined, are the text. -/
theorem joinL_lines (l : List UInt8) : joinL (linesL l) = l := by
  induction l with
  | nil => rfl
  | cons c l ih =>
    by_cases e : c = 10
    · subst e
      rw [linesL_nl]
      cases h : linesL l with
      | nil => exact absurd h (linesL_ne l)
      | cons x xs =>
        rw [h] at ih
        show [] ++ 10 :: joinL (x :: xs) = _
        rw [ih]
        rfl
    · rw [linesL_no _ e]
      cases h : linesL l with
      | nil => exact absurd h (linesL_ne l)
      | cons x xs =>
        rw [h] at ih
        cases xs with
        | nil =>
          simp only [joinL, List.headD_cons, List.tail_cons] at ih ⊢
          rw [ih]
        | cons z zs =>
          simp only [joinL, List.headD_cons, List.tail_cons] at ih ⊢
          rw [List.cons_append, ih]
theorem linesL_nlc (l : List UInt8) : ∀ x ∈ linesL l, nlc x = 0 := by
  induction l with
  | nil =>
    intro x hx
    simp [linesL] at hx
    subst hx
    rfl
  | cons c l ih =>
    intro x hx
    by_cases e : c = 10
    · subst e
      rw [linesL_nl] at hx
      rcases List.mem_cons.1 hx with rfl | hx
      · rfl
      · exact ih x hx
    · rw [linesL_no _ e] at hx
      cases h : linesL l with
      | nil => exact absurd h (linesL_ne l)
      | cons y ys =>
        rw [h] at hx ih
        rcases List.mem_cons.1 hx with rfl | hx
        · rw [nlc_cons_no _ e]
          exact ih y (List.mem_cons_self ..)
        · exact ih x (List.mem_cons_of_mem _ hx)
theorem joinL_len (xs : List (List UInt8)) (h : xs ≠ []) : (joinL xs).length + 1 = (xs.map List.length).sum + xs.length := by
  induction xs with
  | nil => exact absurd rfl h
  | cons x xs ih =>
    cases xs with
    | nil => simp [joinL]
    | cons y ys =>
      have := ih (by simp)
      have h1 : joinL (x :: y :: ys) = x ++ 10 :: joinL (y :: ys) := rfl
      rw [h1, List.length_append, List.length_cons]
      simp only [List.map_cons, List.sum_cons, List.length_cons] at this ⊢
      omega
/-- Some lines cut out. -/
theorem joinL_cut (xs : List (List UInt8)) (f t : Nat) (hft : f ≤ t) : (joinL (xs.take f ++ xs.drop t)).length ≤ (joinL xs).length := by
  by_cases h0 : xs.take f ++ xs.drop t = []
  · rw [h0]
    exact Nat.zero_le _
  · have hx : xs ≠ [] := by
      rintro rfl
      simp at h0
    have h1 := joinL_len _ h0
    have h2 := joinL_len _ hx
    have h3 : ((xs.take f ++ xs.drop t).map List.length).sum + (((xs.drop f).take (t - f)).map List.length).sum = (xs.map List.length).sum := by
      have e : xs = xs.take f ++ ((xs.drop f).take (t - f) ++ xs.drop t) := by
        have : xs.drop t = (xs.drop f).drop (t - f) := by rw [List.drop_drop]; congr 1; omega
        rw [this, List.take_append_drop, List.take_append_drop]
      conv => rhs; rw [e]
      simp only [List.map_append, List.sum_append]
      omega
    have h4 : (xs.take f ++ xs.drop t).length ≤ xs.length := by
      rw [List.length_append, List.length_take, List.length_drop]
      omega
    omega
theorem cut_valid {l : List UInt8} (h : tvB l = true) (f t : Nat) (hft : f ≤ t) : tvB (joinL ((linesL l).take f ++ (linesL l).drop t)) = true := by
  have h1 := joinL_cut (linesL l) f t hft
  rw [tvB_iff] at h ⊢
  have h2 := joinL_plain (linesL l)
  rw [joinL_lines] at h1 h2
  refine ⟨by omega, ?_⟩
  rw [joinL_plain, List.all_append, Bool.and_eq_true, List.all_eq_true, List.all_eq_true]
  rw [h.2] at h2
  have h3 := List.all_eq_true.1 h2.symm
  exact ⟨fun x hx => h3 x (List.mem_of_mem_take hx), fun x hx => h3 x (List.mem_of_mem_drop hx)⟩
theorem cut_text {l : List UInt8} (h : tvB l = true) (f t : Nat) (hft : f ≤ t) : linesTextL ((linesL l).take f ++ (linesL l).drop t) = joinL ((linesL l).take f ++ (linesL l).drop t) := by
  refine linesTextL_1 (fun x hx => linesL_nlc l x ?_) (cut_valid h f t hft)
  rcases List.mem_append.1 hx with hx | hx
  · exact List.mem_of_mem_take hx
  · exact List.mem_of_mem_drop hx
/-- CutLines. -/
def cutR (l : List UInt8) (f m : Int) : List UInt8 × Bool :=
  if tvB l then (if inI f 0 (nlc l : Int) && inI m 1 ((nlc l : Int) + 1 - f) then (joinL ((linesL l).take f.toNat ++ (linesL l).drop (f + m).toNat), true) else (l, false)) else ([], false)
theorem cutR_0 {l : List UInt8} {f m : Int} (h : tvB l = false) : cutR l f m = ([], false) := by simp [cutR, h]
theorem cutR_1 {l : List UInt8} {f m : Int} (h : tvB l = true) (h' : inI f 0 (nlc l : Int) = false ∨ inI m 1 ((nlc l : Int) + 1 - f) = false) : cutR l f m = (l, false) := by
  unfold cutR
  rw [if_pos h, if_neg]
  rw [Bool.and_eq_true]
  rintro ⟨a, b⟩
  rcases h' with h' | h'
  · rw [h'] at a; cases a
  · rw [h'] at b; cases b
theorem cutR_2 {l : List UInt8} {f m : Int} (h : tvB l = true) (h1 : inI f 0 (nlc l : Int) = true) (h2 : inI m 1 ((nlc l : Int) + 1 - f) = true) : cutR l f m = (joinL ((linesL l).take f.toNat ++ (linesL l).drop (f + m).toNat), true) := by
  unfold cutR
  rw [if_pos h, if_pos]
  rw [h1, h2]
  rfl
end Go.Proofs.YtppfggfmpmccpaaDoor
