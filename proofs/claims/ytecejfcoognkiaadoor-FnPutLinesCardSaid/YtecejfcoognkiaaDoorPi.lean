/- Plain laws: a text cut at its line ends. -/
import Derived.Lib.SplitLaws
import Derived.Test.YtecejfcoognkiaaDoorPn
namespace Go.Proofs.YtecejfcoognkiaaDoor
open Go.Lib
/-- The lines of a text. -/
def linesL : List UInt8 → List (List UInt8)
  | [] => [[]]
  | c :: l => if c = 10 then [] :: linesL l else (c :: (linesL l).headD []) :: (linesL l).tail
theorem linesL_nil : linesL [] = [[]] := rfl
theorem linesL_nl (l : List UInt8) : linesL (10 :: l) = [] :: linesL l := by simp [linesL]
theorem linesL_no {c : UInt8} (l : List UInt8) (h : c ≠ 10) : linesL (c :: l) = (c :: (linesL l).headD []) :: (linesL l).tail := by simp [linesL, h]
theorem linesL_length (l : List UInt8) : (linesL l).length = nlc l + 1 := by
  induction l with
  | nil => rfl
  | cons c l ih =>
    by_cases e : c = 10
    · subst e
      rw [linesL_nl, nlc_cons_nl, List.length_cons, ih]
    · rw [linesL_no _ e, nlc_cons_no _ e, List.length_cons, List.length_tail, ih]
      omega
theorem linesL_ne (l : List UInt8) : linesL l ≠ [] := by
  intro h
  have := linesL_length l
  rw [h] at this
  cases this
theorem linesL_zero (l : List UInt8) : (linesL l)[0]? = some (l.take (nlAt l)) := by
  induction l with
  | nil => rfl
  | cons c l ih =>
    by_cases e : c = 10
    · subst e
      rw [linesL_nl]
      simp [nlAt]
    · rw [linesL_no _ e]
      have h1 : (linesL l).headD [] = l.take (nlAt l) := by
        cases h : linesL l with
        | nil => exact absurd h (linesL_ne l)
        | cons x xs =>
          rw [h] at ih
          simpa using ih
      rw [h1]
      simp [nlAt, e]
theorem linesL_at {l : List UInt8} : ∀ {k a : Nat}, startN l k = some a → (linesL l)[k]? = some ((l.drop a).take (nlAt (l.drop a))) := by
  induction l with
  | nil =>
    intro k a h
    match k with
    | 0 =>
      rw [startN_zero] at h
      injection h with h
      subst h
      exact linesL_zero _
    | k + 1 => cases h
  | cons c l ih =>
    intro k a h
    match k with
    | 0 =>
      rw [startN_zero] at h
      injection h with h
      subst h
      exact linesL_zero _
    | k + 1 =>
      by_cases e : c = 10
      · subst e
        rw [startN_nl] at h
        obtain ⟨b, hb, rfl⟩ := Option.map_eq_some_iff.1 h
        rw [linesL_nl, List.getElem?_cons_succ, ih hb, List.drop_succ_cons]
      · rw [startN_no _ _ e] at h
        obtain ⟨b, hb, rfl⟩ := Option.map_eq_some_iff.1 h
        have := ih hb
        rw [linesL_no _ e, List.getElem?_cons_succ, List.drop_succ_cons, List.getElem?_tail]
        exact this
theorem index_step {c : UInt8} {l : List UInt8} {i : Nat} (e : c ≠ 10) (hi : indexByte l 10 = (i : Int)) : indexByte (c :: l) 10 = ((i + 1 : Nat) : Int) := by
  unfold indexByte
  rw [if_neg (by simpa using e), hi, if_neg (by simp)]
  omega
theorem splitK_hit {l : List UInt8} {k i : Nat} (h : index l [10] = (i : Int)) : splitK [10] 0 (k + 1) l = l.take i :: splitK [10] 0 k (l.drop (i + 1)) := by
  show (if index l [10] == -1 then [l] else l.take ((index l [10]).toNat + 0) :: splitK [10] 0 k (l.drop ((index l [10]).toNat + 1))) = _
  rw [h, if_neg (by simp)]
  simp
theorem index_nl_hit {l : List UInt8} (h : 0 < nlc l) : ∃ i : Nat, index l [10] = (i : Int) := by
  rw [index_one]
  induction l with
  | nil => simp [nlc] at h
  | cons c l ih =>
    by_cases e : c = 10
    · subst e
      exact ⟨0, by simp [indexByte]⟩
    · rw [nlc_cons_no _ e] at h
      obtain ⟨i, hi⟩ := ih h
      refine ⟨i + 1, ?_⟩
      exact index_step e hi
theorem splitK_lines (l : List UInt8) : splitK [10] 0 (nlc l) l = linesL l := by
  induction l with
  | nil => rfl
  | cons c l ih =>
    by_cases e : c = 10
    · subst e
      rw [nlc_cons_nl, linesL_nl, splitK_hit (i := 0) (by rw [index_one]; simp [indexByte]), ← ih]
      rfl
    · rw [nlc_cons_no _ e, linesL_no _ e, ← ih]
      cases hn : nlc l with
      | zero => rfl
      | succ n =>
        obtain ⟨i, hi⟩ := index_nl_hit (l := l) (by omega)
        have hi' : index (c :: l) [10] = ((i + 1 : Nat) : Int) := by
          rw [index_one] at hi ⊢
          exact index_step e hi
        rw [splitK_hit hi', splitK_hit hi]
        rfl
/-- strings.Split at line ends. -/
theorem splitB_lines (s : ByteArray) : (splitB ⟨#[10]⟩ 0 (countB s ⟨#[10]⟩) s).map (·.data.toList) = linesL s.data.toList := by
  rw [splitB_data, show countB s ⟨#[10]⟩ = nlc s.data.toList from count_one 10 _]
  exact splitK_lines _
/-- The lines of a text, as byte arrays. -/
def linesB (s : ByteArray) : List ByteArray := (linesL s.data.toList).map mk
theorem linesB_length (s : ByteArray) : (linesB s).length = nlc s.data.toList + 1 := by
  unfold linesB
  rw [List.length_map, linesL_length]
theorem splitB_eq (s : ByteArray) : splitB ⟨#[10]⟩ 0 (countB s ⟨#[10]⟩) s = linesB s := by
  unfold linesB
  rw [← splitB_lines, List.map_map]
  refine (List.map_id'' (fun x => ?_) _).symm
  exact ext_data (mk_data _)
theorem countB_nl (s : ByteArray) : countB s ⟨#[10]⟩ = nlc s.data.toList := count_one 10 _
/-- Line k, by where it begins and ends. -/
theorem linesB_at {s : ByteArray} {k a : Nat} (h : startN s.data.toList k = some a) : (linesB s)[k]? = some (s.extract a (a + nlAt (s.data.toList.drop a))) := by
  unfold linesB
  rw [List.getElem?_map, linesL_at h, extract_mid, Nat.add_sub_cancel_left]
  rfl
/-- LinesOf. -/
def linesR (s : ByteArray) : List ByteArray := if tvB s.data.toList then linesB s else []
theorem linesR_0 {s : ByteArray} (h : tvB s.data.toList = false) : linesR s = [] := by simp [linesR, h]
theorem linesR_1 {s : ByteArray} (h : tvB s.data.toList = true) : linesR s = linesB s := by simp [linesR, h]
end Go.Proofs.YtecejfcoognkiaaDoor
