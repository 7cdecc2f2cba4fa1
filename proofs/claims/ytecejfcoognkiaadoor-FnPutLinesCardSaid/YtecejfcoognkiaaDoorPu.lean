/- Plain laws: lines put between lines, lines of joined lines. -/
import Derived.Test.YtecejfcoognkiaaDoorPj
namespace Go.Proofs.YtecejfcoognkiaaDoor
open Go.Lib
theorem linesL_nonl : ∀ {x : List UInt8}, nlc x = 0 → linesL x = [x]
  | [], _ => rfl
  | c :: x, h => by
    by_cases e : c = 10
    · subst e
      rw [nlc_cons_nl] at h
      omega
    · rw [nlc_cons_no _ e] at h
      rw [linesL_no _ e, linesL_nonl h]
      rfl
/-- Two texts with a line end between them have the lines of both. -/
theorem linesL_app (x y : List UInt8) : linesL (x ++ 10 :: y) = linesL x ++ linesL y := by
  induction x with
  | nil => rw [List.nil_append, linesL_nl]; rfl
  | cons c x ih =>
    by_cases e : c = 10
    · subst e
      rw [List.cons_append, linesL_nl, linesL_nl, ih]
      rfl
    · rw [List.cons_append, linesL_no _ e, linesL_no _ e, ih]
      cases h : linesL x with
      | nil => exact absurd h (linesL_ne x)
      | cons z zs => rfl
theorem linesL_joinL : ∀ {zs : List (List UInt8)}, zs ≠ [] → (∀ z ∈ zs, nlc z = 0) → linesL (joinL zs) = zs
  | [], h, _ => absurd rfl h
  | [x], _, h => linesL_nonl (h x (by simp))
  | x :: y :: zs, _, h => by
    show linesL (x ++ 10 :: joinL (y :: zs)) = _
    rw [linesL_app, linesL_nonl (h x (by simp)), linesL_joinL (by simp) (fun z hz => h z (by simp only [List.mem_cons] at hz ⊢; exact .inr hz))]
    rfl
/-- The lines of a text with further lines. -/
def putZ (l : List UInt8) (k : Nat) (r : List UInt8) : List (List UInt8) := (linesL l).take k ++ linesL r ++ (linesL l).drop k
theorem putZ_length (l : List UInt8) (k : Nat) (r : List UInt8) : (putZ l k r).length = nlc l + 1 + (nlc r + 1) := by
  unfold putZ
  rw [List.length_append, List.length_append, List.length_take, List.length_drop, linesL_length, linesL_length]
  omega
theorem putZ_ne (l : List UInt8) (k : Nat) (r : List UInt8) : putZ l k r ≠ [] := by
  intro h
  have := putZ_length l k r
  rw [h, List.length_nil] at this
  omega
theorem putZ_nlc (l : List UInt8) (k : Nat) (r : List UInt8) : ∀ z ∈ putZ l k r, nlc z = 0 := by
  intro z hz
  unfold putZ at hz
  rcases List.mem_append.1 hz with hz | hz
  · rcases List.mem_append.1 hz with hz | hz
    · exact linesL_nlc l z (List.mem_of_mem_take hz)
    · exact linesL_nlc r z hz
  · exact linesL_nlc l z (List.mem_of_mem_drop hz)
theorem sum_take_drop (xs : List Nat) (k : Nat) : (xs.take k).sum + (xs.drop k).sum = xs.sum := by
  rw [← List.sum_append, List.take_append_drop]
theorem putZ_len (l : List UInt8) (k : Nat) (r : List UInt8) : (joinL (putZ l k r)).length = l.length + 1 + r.length := by
  have h1 := joinL_len _ (putZ_ne l k r)
  have h2 := joinL_len _ (linesL_ne l)
  have h3 := joinL_len _ (linesL_ne r)
  rw [joinL_lines, linesL_length] at h2 h3
  rw [putZ_length] at h1
  have h4 : ((putZ l k r).map List.length).sum = ((linesL l).map List.length).sum + ((linesL r).map List.length).sum := by
    unfold putZ
    rw [List.map_append, List.map_append, List.sum_append, List.sum_append, List.map_take, List.map_drop]
    have := sum_take_drop ((linesL l).map List.length) k
    omega
  omega
theorem putZ_plain {l r : List UInt8} (hl : plain l = true) (hr : plain r = true) (k : Nat) : plain (joinL (putZ l k r)) = true := by
  have h1 := joinL_plain (linesL l)
  have h2 := joinL_plain (linesL r)
  rw [joinL_lines, hl] at h1
  rw [joinL_lines, hr] at h2
  have h3 := List.all_eq_true.1 h1.symm
  have h4 := List.all_eq_true.1 h2.symm
  rw [joinL_plain, List.all_eq_true]
  intro z hz
  unfold putZ at hz
  rcases List.mem_append.1 hz with hz | hz
  · rcases List.mem_append.1 hz with hz | hz
    · exact h3 z (List.mem_of_mem_take hz)
    · exact h4 z hz
  · exact h3 z (List.mem_of_mem_drop hz)
theorem putZ_valid {l r : List UInt8} (hl : tvB l = true) (hr : tvB r = true) (k : Nat) : tvB (joinL (putZ l k r)) = decide (l.length + 1 + r.length ≤ 120) := by
  rw [tvB_iff] at hl hr
  by_cases h : l.length + 1 + r.length ≤ 120
  · rw [decide_eq_true h, tvB_iff, putZ_len]
    exact ⟨h, putZ_plain hl.2 hr.2 k⟩
  · rw [decide_eq_false h]
    cases ht : tvB (joinL (putZ l k r))
    · rfl
    · rw [tvB_iff, putZ_len] at ht
      omega
/-- PutLines. -/
def putR (l : List UInt8) (a : Int) (r : List UInt8) : List UInt8 × Bool :=
  if tvB l && tvB r then (if inI a 0 ((nlc l : Int) + 1) && decide (l.length + 1 + r.length ≤ 120) then (joinL (putZ l a.toNat r), true) else (l, false)) else ([], false)
theorem putR_0 {l r : List UInt8} {a : Int} (h : tvB l = false ∨ tvB r = false) : putR l a r = ([], false) := by
  rcases h with h | h <;> simp [putR, h]
theorem putR_1 {l r : List UInt8} {a : Int} (hl : tvB l = true) (hr : tvB r = true) (h : inI a 0 ((nlc l : Int) + 1) = false ∨ ¬ l.length + 1 + r.length ≤ 120) : putR l a r = (l, false) := by
  unfold putR
  rw [hl, hr]
  rcases h with h | h
  · simp [h]
  · simp [h]
theorem putR_2 {l r : List UInt8} {a : Int} (hl : tvB l = true) (hr : tvB r = true) (h : inI a 0 ((nlc l : Int) + 1) = true) (h2 : l.length + 1 + r.length ≤ 120) : putR l a r = (joinL (putZ l a.toNat r), true) := by
  simp [putR, hl, hr, h, h2]
theorem put_lines (l : List UInt8) (k : Nat) (r : List UInt8) : linesL (joinL (putZ l k r)) = putZ l k r := linesL_joinL (putZ_ne l k r) (putZ_nlc l k r)
theorem put_text {l r : List UInt8} (hl : tvB l = true) (hr : tvB r = true) (k : Nat) (h2 : l.length + 1 + r.length ≤ 120) : linesTextL (putZ l k r) = joinL (putZ l k r) :=
  linesTextL_1 (putZ_nlc l k r) (by rw [putZ_valid hl hr, decide_eq_true h2])
theorem put_nlc (l : List UInt8) (k : Nat) (r : List UInt8) : nlc (joinL (putZ l k r)) + 1 = nlc l + 1 + (nlc r + 1) := by
  rw [← linesL_length, put_lines, putZ_length]
/-- Cutting the lines that were put leads back. -/
theorem put_back {l r : List UInt8} (hl : tvB l = true) (hr : tvB r = true) (k : Nat) (hk : k ≤ nlc l + 1) (h2 : l.length + 1 + r.length ≤ 120) : cutR (joinL (putZ l k r)) (k : Int) ((nlc r : Int) + 1) = (l, true) := by
  have hn := put_nlc l k r
  rw [cutR_2 (by rw [putZ_valid hl hr, decide_eq_true h2]) (by simp only [inI, Bool.and_eq_true, decide_eq_true_eq]; omega) (by simp only [inI, Bool.and_eq_true, decide_eq_true_eq]; omega), put_lines]
  have e1 : ((k : Int)).toNat = k := by omega
  have e2 : ((k : Int) + ((nlc r : Int) + 1)).toNat = k + (nlc r + 1) := by omega
  rw [e1, e2]
  have hll := linesL_length l
  have hlr := linesL_length r
  have e3 : (putZ l k r).take k = (linesL l).take k := by
    unfold putZ
    rw [List.append_assoc, List.take_append_of_le_length (by rw [List.length_take]; omega), List.take_take, Nat.min_self]
  have e4 : (putZ l k r).drop (k + (nlc r + 1)) = (linesL l).drop k := by
    unfold putZ
    have hlen : ((linesL l).take k ++ linesL r).length = k + (nlc r + 1) := by
      rw [List.length_append, List.length_take, hlr]
      omega
    rw [← hlen, List.drop_left]
  rw [e3, e4, List.take_append_drop, joinL_lines]
/-- The lines that are left. -/
def cutZ (l : List UInt8) (f t : Nat) : List (List UInt8) := (linesL l).take f ++ (linesL l).drop t
theorem cut_lines (l : List UInt8) (f t : Nat) (h : cutZ l f t ≠ []) : linesL (joinL (cutZ l f t)) = cutZ l f t :=
  linesL_joinL h fun z hz => by
    unfold cutZ at hz
    rcases List.mem_append.1 hz with hz | hz
    · exact linesL_nlc l z (List.mem_of_mem_take hz)
    · exact linesL_nlc l z (List.mem_of_mem_drop hz)
theorem cutZ_at {l : List UInt8} {f t j : Nat} (hf : f ≤ t) (ht : t ≤ (linesL l).length) (_hj : j < (cutZ l f t).length) : (cutZ l f t)[j]? = (linesL l)[if f ≤ j then j + (t - f) else j]? := by
  unfold cutZ at *
  have hl : ((linesL l).take f).length = f := by rw [List.length_take]; omega
  by_cases h : f ≤ j
  · rw [if_pos h, List.getElem?_append_right (by omega), hl, List.getElem?_drop]
    congr 1
    omega
  · rw [if_neg h, List.getElem?_append_left (by omega), List.getElem?_take, if_pos (by omega)]
theorem cutZ_length (l : List UInt8) (f t : Nat) (hf : f ≤ t) (ht : t ≤ (linesL l).length) : (cutZ l f t).length + (t - f) = (linesL l).length := by
  unfold cutZ
  rw [List.length_append, List.length_take, List.length_drop]
  omega
/-- Lines that are joined and are a text have these lines. -/
theorem linesText_lines {xs : List (List UInt8)} (h : linesTextL xs ≠ []) : linesTextL xs = joinL xs ∧ linesL (linesTextL xs) = xs ∧ tvB (linesTextL xs) = true := by
  unfold linesTextL at h
  split at h
  · rename_i h1
    rw [Bool.and_eq_true, List.all_eq_true] at h1
    have h2 : ∀ x ∈ xs, nlc x = 0 := fun x hx => by simpa using h1.1 x hx
    have e := linesTextL_1 h2 h1.2
    refine ⟨e, ?_, by rw [e]; exact h1.2⟩
    rw [e]
    refine linesL_joinL ?_ h2
    rintro rfl
    exact h rfl
  · exact absurd rfl h
end Go.Proofs.YtecejfcoognkiaaDoor
