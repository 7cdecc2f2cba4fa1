/- Plain facts on lines: how many line ends a list of bytes has, and where its lines begin. No program is named here. -/
import Derived.Test.YtecejfcoognkiaaPl
namespace Go.Proofs.Ytecejfcoognkiaa
open Go.RowKit

/-- The number of line ends. -/
def nlc (l : List UInt8) : Nat := l.count 10
theorem nlc_nil : nlc [] = 0 := rfl
theorem nlc_append (a b : List UInt8) : nlc (a ++ b) = nlc a + nlc b := List.count_append
theorem nlc_cons_nl (l : List UInt8) : nlc (10 :: l) = nlc l + 1 := by simp [nlc]
theorem nlc_cons_no {c : UInt8} (l : List UInt8) (h : c ≠ 10) : nlc (c :: l) = nlc l := by simp [nlc, h]
theorem nlc_le (l : List UInt8) : nlc l ≤ l.length := List.count_le_length
theorem nlc_take_succ (l : List UInt8) (k : Nat) (h : k < l.length) : nlc (l.take (k + 1)) = nlc (l.take k) + if l[k] = 10 then 1 else 0 := by
  rw [List.take_succ_eq_append_getElem h, nlc_append]
  by_cases e : l[k] = 10 <;> simp [nlc, e]
theorem nlc_take_mono (l : List UInt8) {j k : Nat} (h : j ≤ k) : nlc (l.take j) ≤ nlc (l.take k) := by
  have e : l.take j = (l.take k).take j := by rw [List.take_take, Nat.min_eq_left h]
  rw [e]
  exact (List.take_sublist _ _).count_le _
theorem nlc_take_le (l : List UInt8) (k : Nat) : nlc (l.take k) ≤ nlc l := (List.take_sublist _ _).count_le _

/-- Line n begins at k. -/
def IsStart (l : List UInt8) (n k : Nat) : Prop := k ≤ l.length ∧ nlc (l.take k) = n ∧ (k = 0 ∨ l[k - 1]? = some 10)
/-- Where line n begins. -/
def startN : List UInt8 → Nat → Option Nat
  | _, 0 => some 0
  | [], _ + 1 => none
  | c :: l, n + 1 => if c = 10 then (startN l n).map (· + 1) else (startN l (n + 1)).map (· + 1)

theorem startN_zero (l : List UInt8) : startN l 0 = some 0 := by cases l <;> rfl
theorem startN_nl (l : List UInt8) (n : Nat) : startN (10 :: l) (n + 1) = (startN l n).map (· + 1) := by simp [startN]
theorem startN_no {c : UInt8} (l : List UInt8) (n : Nat) (h : c ≠ 10) : startN (c :: l) (n + 1) = (startN l (n + 1)).map (· + 1) := by simp [startN, h]
theorem startN_none {l : List UInt8} : ∀ {n : Nat}, nlc l < n → startN l n = none := by
  induction l with
  | nil =>
    intro n h
    match n with
    | n + 1 => rfl
  | cons c l ih =>
    intro n h
    match n with
    | n + 1 =>
      by_cases e : c = 10
      · subst e
        rw [nlc_cons_nl] at h
        rw [startN_nl, ih (by omega)]
        rfl
      · rw [nlc_cons_no _ e] at h
        rw [startN_no _ _ e, ih h]
        rfl
theorem startN_of {l : List UInt8} : ∀ {n k : Nat}, IsStart l n k → startN l n = some k := by
  induction l with
  | nil =>
    intro n k h
    obtain ⟨h1, h2, _⟩ := h
    have : k = 0 := by simpa using h1
    subst this
    have : n = 0 := by simpa [nlc] using h2.symm
    subst this
    rfl
  | cons c l ih =>
    intro n k h
    obtain ⟨h1, h2, h3⟩ := h
    match k with
    | 0 =>
      have : n = 0 := by simpa [nlc] using h2.symm
      subst this
      rfl
    | k + 1 =>
      rw [List.take_succ_cons] at h2
      have h3' : (c :: l)[k]? = some 10 := by simpa using h3
      by_cases e : c = 10
      · subst e
        rw [nlc_cons_nl] at h2
        subst h2
        rw [startN_nl, ih (k := k) ⟨by simpa using h1, rfl, ?_⟩]
        · rfl
        · cases k with
          | zero => exact .inl rfl
          | succ k => exact .inr (by simpa using h3')
      · rw [nlc_cons_no _ e] at h2
        have hk : k ≠ 0 := by
          rintro rfl
          simp at h3'
          exact e h3'
        obtain ⟨j, rfl⟩ := Nat.exists_eq_succ_of_ne_zero hk
        have hn : n ≠ 0 := by
          rintro rfl
          have h4 : l[j]? = some 10 := by simpa using h3'
          obtain ⟨hj, h5⟩ := List.getElem?_eq_some_iff.1 h4
          rw [Nat.succ_eq_add_one, nlc_take_succ l j hj, h5] at h2
          simp at h2
        obtain ⟨m, rfl⟩ := Nat.exists_eq_succ_of_ne_zero hn
        rw [Nat.succ_eq_add_one, startN_no _ _ e, ih (k := j + 1) ⟨by simpa using h1, h2, .inr (by simpa using h3')⟩]
        rfl
theorem isStart_of {l : List UInt8} : ∀ {n k : Nat}, startN l n = some k → IsStart l n k := by
  induction l with
  | nil =>
    intro n k h
    match n with
    | 0 =>
      simp [startN] at h
      subst h
      exact ⟨Nat.le_refl _, rfl, .inl rfl⟩
    | n + 1 => simp [startN] at h
  | cons c l ih =>
    intro n k h
    match n with
    | 0 =>
      simp [startN] at h
      subst h
      exact ⟨Nat.zero_le _, rfl, .inl rfl⟩
    | n + 1 =>
      by_cases e : c = 10
      · subst e
        rw [startN_nl] at h
        cases hs : startN l n with
        | none => rw [hs] at h; simp at h
        | some j =>
          rw [hs] at h
          simp at h
          subst h
          obtain ⟨h1, h2, h3⟩ := ih hs
          refine ⟨by simpa using h1, by rw [List.take_succ_cons, nlc_cons_nl, h2], .inr ?_⟩
          rcases h3 with h3 | h3
          · subst h3
            rfl
          · cases j with
            | zero => rfl
            | succ j => simpa using h3
      · rw [startN_no _ _ e] at h
        cases hs : startN l (n + 1) with
        | none => rw [hs] at h; simp at h
        | some j =>
          rw [hs] at h
          simp at h
          subst h
          obtain ⟨h1, h2, h3⟩ := ih hs
          refine ⟨by simpa using h1, by rw [List.take_succ_cons, nlc_cons_no _ e, h2], .inr ?_⟩
          rcases h3 with h3 | h3
          · subst h3
            simp [nlc] at h2
          · cases j with
            | zero => simp [nlc] at h2
            | succ j => simpa using h3
theorem startN_some {l : List UInt8} : ∀ {n : Nat}, n ≤ nlc l → ∃ k, startN l n = some k := by
  induction l with
  | nil =>
    intro n h
    have : n = 0 := by simpa [nlc] using h
    subst this
    exact ⟨0, rfl⟩
  | cons c l ih =>
    intro n h
    match n with
    | 0 => exact ⟨0, rfl⟩
    | n + 1 =>
      by_cases e : c = 10
      · subst e
        rw [nlc_cons_nl] at h
        obtain ⟨k, hk⟩ := ih (n := n) (by omega)
        exact ⟨k + 1, by rw [startN_nl, hk]; rfl⟩
      · rw [nlc_cons_no _ e] at h
        obtain ⟨k, hk⟩ := ih h
        exact ⟨k + 1, by rw [startN_no _ _ e, hk]; rfl⟩

/-- LineMany. -/
def lineManyI (l : List UInt8) : Int := if tvB l then (nlc l : Int) + 1 else -1
theorem lineManyI_0 {l : List UInt8} (h : tvB l = false) : lineManyI l = -1 := by simp [lineManyI, h]
theorem lineManyI_1 {l : List UInt8} (h : tvB l = true) : lineManyI l = (nlc l : Int) + 1 := by simp [lineManyI, h]
/-- LineOf. -/
def lineOfI (l : List UInt8) (p : Int) : Int := if placeB l p then (nlc (l.take p.toNat) : Int) else -1
theorem lineOfI_0 {l : List UInt8} {p : Int} (h : placeB l p = false) : lineOfI l p = -1 := by simp [lineOfI, h]
theorem lineOfI_1 {l : List UInt8} {p : Int} (h : placeB l p = true) : lineOfI l p = (nlc (l.take p.toNat) : Int) := by simp [lineOfI, h]
/-- LineStart. -/
def lineStartI (l : List UInt8) (n : Int) : Int := if tvB l && decide (0 ≤ n) then (match startN l n.toNat with | some k => (k : Int) | none => -1) else -1
theorem lineStartI_0 {l : List UInt8} {n : Int} (h : tvB l = false ∨ n < 0) : lineStartI l n = -1 := by
  unfold lineStartI
  rw [if_neg]
  intro k
  rw [Bool.and_eq_true, decide_eq_true_eq] at k
  rcases h with h | h
  · rw [h] at k
    exact absurd k.1 (by simp)
  · omega
theorem lineStartI_1 {l : List UInt8} {n : Int} {k : Nat} (h : tvB l = true) (hn : 0 ≤ n) (hk : startN l n.toNat = some k) : lineStartI l n = k := by
  unfold lineStartI
  rw [if_pos (by simp [h, hn]), hk]
theorem lineStartI_2 {l : List UInt8} {n : Int} (hk : startN l n.toNat = none) : lineStartI l n = -1 := by
  unfold lineStartI
  split
  · rw [hk]
  · rfl
/-- Where the last line begins. -/
def lastS (l : List UInt8) : Nat := (startN l (nlc l)).getD 0
theorem lastS_of {l : List UInt8} {k : Nat} (h : IsStart l (nlc l) k) : lastS l = k := by
  unfold lastS
  rw [startN_of h]
  rfl
theorem lastS_isStart (l : List UInt8) : IsStart l (nlc l) (lastS l) := by
  obtain ⟨k, hk⟩ := startN_some (Nat.le_refl (nlc l))
  have := isStart_of hk
  rwa [lastS_of this]
theorem isStart_take {l : List UInt8} {n k p : Nat} (h : IsStart (l.take p) n k) : IsStart l n k := by
  obtain ⟨h1, h2, h3⟩ := h
  have hk : k ≤ p ∧ k ≤ l.length := by simp at h1; omega
  refine ⟨hk.2, by rw [List.take_take, Nat.min_eq_left hk.1] at h2; exact h2, ?_⟩
  rcases h3 with h3 | h3
  · exact .inl h3
  · refine .inr ?_
    rw [List.getElem?_take] at h3
    split at h3
    · exact h3
    · simp at h3
theorem startN_place (l : List UInt8) (p : Nat) : startN l (nlc (l.take p)) = some (lastS (l.take p)) := startN_of (isStart_take (lastS_isStart (l.take p)))
theorem lastS_le (l : List UInt8) : lastS l ≤ l.length := (lastS_isStart l).1
/-- ColumnOf. -/
def columnI (l : List UInt8) (p : Int) : Int := if placeB l p then p - lastS (l.take p.toNat) else -1
theorem columnI_0 {l : List UInt8} {p : Int} (h : placeB l p = false) : columnI l p = -1 := by simp [columnI, h]
theorem columnI_1 {l : List UInt8} {p : Int} (h : placeB l p = true) : columnI l p = p - lastS (l.take p.toNat) := by simp [columnI, h]

/-! On byte arrays, in the walk's words. -/
theorem nlc_step_nl (s : ByteArray) (k : Nat) (h : k < s.size) (e : (s[k].toNat : Int) = 10) : nlc (s.data.toList.take (k + 1)) = nlc (s.data.toList.take k) + 1 := by
  rw [nlc_take_succ _ k (by simpa using h), if_pos]
  exact UInt8.toNat_inj.1 (by show s[k].toNat = 10; omega)
theorem nlc_step_no (s : ByteArray) (k : Nat) (h : k < s.size) (e : ¬ (s[k].toNat : Int) = 10) : nlc (s.data.toList.take (k + 1)) = nlc (s.data.toList.take k) := by
  rw [nlc_take_succ _ k (by simpa using h), if_neg, Nat.add_zero]
  intro h'
  have h2 : s[k] = 10 := h'
  exact e (by rw [h2]; rfl)
theorem nlc_end (s : ByteArray) (k : Nat) (h : s.size ≤ k) : nlc (s.data.toList.take k) = nlc s.data.toList := by rw [List.take_of_length_le (by simpa using h)]
theorem nlc_take_size (s : ByteArray) (k : Nat) : nlc (s.data.toList.take k) ≤ s.size := Nat.le_trans (nlc_take_le _ _) (Nat.le_trans (nlc_le _) (Nat.le_of_eq rfl))
theorem byte_nl (s : ByteArray) (k : Nat) (h : k < s.size) (e : (s[k].toNat : Int) = 10) : s.data.toList[k]? = some 10 := by
  rw [byte_at s k h]
  congr 1
  exact UInt8.toNat_inj.1 (by show s[k].toNat = 10; omega)
theorem byte_no (s : ByteArray) (k : Nat) (h : k < s.size) (e : ¬ (s[k].toNat : Int) = 10) : s.data.toList[k]? ≠ some 10 := by
  rw [byte_at s k h]
  intro h'
  injection h' with h'
  exact e (by rw [h']; rfl)
theorem notStart_byte (s : ByteArray) {m : Nat} (j : Nat) (h : j < s.size) (e : ¬ (s[j].toNat : Int) = 10) : ¬ IsStart s.data.toList m (j + 1) := by
  intro hs
  rcases hs.2.2 with h' | h'
  · omega
  · exact byte_no s j h e h'
/-- No place before k is where line m begins. -/
def NoStart (l : List UInt8) (m k : Nat) : Prop := ∀ j, j < k → ¬ IsStart l m j
theorem NoStart.zero (l : List UInt8) (m : Nat) : NoStart l m 0 := fun j h => absurd h (by omega)
theorem NoStart.step {l : List UInt8} {m k : Nat} (h : NoStart l m k) (hn : ¬ IsStart l m k) : NoStart l m (k + 1) := by
  intro j hj
  by_cases e : j = k
  · subst e
    exact hn
  · exact h j (by omega)
theorem NoStart.none {l : List UInt8} {m k : Nat} (h : NoStart l m k) (hk : l.length < k) : startN l m = none := by
  cases hs : startN l m with
  | none => rfl
  | some j =>
    have := isStart_of hs
    exact absurd this (h j (Nat.lt_of_le_of_lt this.1 hk))
/-- The places at which lines begin, as far as the first k bytes tell. -/
def startsTo (l : List UInt8) : Nat → List Nat
  | 0 => [0]
  | k + 1 => if l[k]? = some 10 then startsTo l k ++ [k + 1] else startsTo l k
theorem startsTo_nl {l : List UInt8} {k : Nat} (h : l[k]? = some 10) : startsTo l (k + 1) = startsTo l k ++ [k + 1] := by
  show (if _ then _ else _) = _
  rw [if_pos h]
theorem startsTo_no {l : List UInt8} {k : Nat} (h : l[k]? ≠ some 10) : startsTo l (k + 1) = startsTo l k := by
  show (if _ then _ else _) = _
  rw [if_neg h]
theorem startsTo_length (l : List UInt8) (k : Nat) : k ≤ l.length → (startsTo l k).length = nlc (l.take k) + 1 := by
  induction k with
  | zero => intro _; rfl
  | succ k ih =>
    intro hk
    have hkl : k < l.length := by omega
    have h1 := ih (by omega)
    by_cases e : l[k]? = some 10
    · rw [startsTo_nl e, List.length_append, h1, nlc_take_succ l k hkl, if_pos]
      · rfl
      · rw [List.getElem?_eq_getElem hkl] at e
        injection e
    · rw [startsTo_no e, h1, nlc_take_succ l k hkl, if_neg]
      intro e'
      exact e (by rw [List.getElem?_eq_getElem hkl, e'])
theorem startsTo_at (l : List UInt8) (k : Nat) : k ≤ l.length → ∀ n x, (startsTo l k)[n]? = some x → IsStart l n x := by
  induction k with
  | zero =>
    intro _ n x h
    match n with
    | 0 =>
      have : 0 = x := by simpa [startsTo] using h
      subst this
      exact ⟨Nat.zero_le _, rfl, .inl rfl⟩
    | n + 1 => simp [startsTo] at h
  | succ k ih =>
    intro hk n x h
    have hkl : k < l.length := by omega
    by_cases e : l[k]? = some 10
    · rw [startsTo_nl e] at h
      rcases Nat.lt_or_ge n (startsTo l k).length with hn | hn
      · rw [List.getElem?_append_left hn] at h
        exact ih (by omega) n x h
      · rw [List.getElem?_append_right hn] at h
        have hlen := startsTo_length l k (by omega)
        have hn0 : n - (startsTo l k).length = 0 := by
          rcases Nat.eq_zero_or_pos (n - (startsTo l k).length) with h0 | h0
          · exact h0
          · rw [List.getElem?_eq_none (by simp; omega)] at h
            cases h
        rw [hn0] at h
        have hx : k + 1 = x := by simpa using h
        subst hx
        refine ⟨hk, ?_, .inr (by simpa using e)⟩
        rw [nlc_take_succ l k hkl, if_pos (by rw [List.getElem?_eq_getElem hkl] at e; injection e)]
        omega
    · rw [startsTo_no e] at h
      exact ih (by omega) n x h
theorem startsTo_startN (l : List UInt8) (n x : Nat) (h : (startsTo l l.length)[n]? = some x) : startN l n = some x := startN_of (startsTo_at l l.length (Nat.le_refl _) n x h)
theorem startsTo_some (l : List UInt8) (n : Nat) (h : n ≤ nlc l) : ∃ x, (startsTo l l.length)[n]? = some x := by
  have hl := startsTo_length l l.length (Nat.le_refl _)
  rw [List.take_length] at hl
  exact ⟨_, List.getElem?_eq_getElem (by omega)⟩
/-- How many bytes stand before the first line end, or in all. -/
def nlAt (l : List UInt8) : Nat := (l.takeWhile fun c => c != 10).length
theorem nlAt_nil : nlAt [] = 0 := rfl
theorem nlAt_nl (l : List UInt8) : nlAt (10 :: l) = 0 := rfl
theorem nlAt_no {c : UInt8} (l : List UInt8) (h : c ≠ 10) : nlAt (c :: l) = nlAt l + 1 := by
  unfold nlAt
  rw [List.takeWhile_cons_of_pos (by simpa using h)]
  rfl
theorem nlAt_le (l : List UInt8) : nlAt l ≤ l.length := by
  unfold nlAt
  exact (List.takeWhile_prefix _).length_le
theorem nlAt_eq {l : List UInt8} : ∀ {k : Nat}, k ≤ l.length → (∀ j, j < k → l[j]? ≠ some 10) → (k = l.length ∨ l[k]? = some 10) → nlAt l = k := by
  induction l with
  | nil =>
    intro k hk _ _
    have : k = 0 := by simpa using hk
    subst this
    rfl
  | cons c l ih =>
    intro k hk hn he
    match k with
    | 0 =>
      rcases he with he | he
      · simp at he
      · have : c = 10 := by simpa using he
        subst this
        rfl
    | k + 1 =>
      have hc : c ≠ 10 := by
        have := hn 0 (by omega)
        simpa using this
      rw [nlAt_no _ hc, ih (k := k) (by simpa using hk) (fun j hj => by simpa using hn (j + 1) (by omega)) (by simpa using he)]
/-- LineEnd. -/
def lineEndI (l : List UInt8) (n : Int) : Int := if lineStartI l n < 0 then -1 else lineStartI l n + nlAt (l.drop (lineStartI l n).toNat)
theorem lineEndI_0 {l : List UInt8} {n : Int} (h : lineStartI l n = -1) : lineEndI l n = -1 := by
  unfold lineEndI
  rw [h]
  rfl
theorem lineEndI_1 {l : List UInt8} {n : Int} {k : Nat} (h : lineStartI l n = k) : lineEndI l n = (k : Int) + nlAt (l.drop k) := by
  unfold lineEndI
  rw [h, if_neg (by omega), Int.toNat_natCast]
theorem lineStartI_cases (l : List UInt8) (n : Int) : lineStartI l n = -1 ∨ ∃ k : Nat, lineStartI l n = k ∧ k ≤ l.length := by
  unfold lineStartI
  split
  · cases h : startN l n.toNat with
    | none => exact .inl rfl
    | some k => exact .inr ⟨k, rfl, (isStart_of h).1⟩
  · exact .inl rfl
/-- PlaceAt. -/
def placeAtI (l : List UInt8) (n c : Int) : Int := if lineStartI l n < 0 ∨ c < 0 then -1 else lineStartI l n + min c (lineEndI l n - lineStartI l n)
theorem placeAtI_0 {l : List UInt8} {n c : Int} (h : lineStartI l n = -1 ∨ c < 0) : placeAtI l n c = -1 := by
  unfold placeAtI
  rw [if_pos]
  rcases h with h | h
  · rw [h]
    exact .inl (by omega)
  · exact .inr h
theorem placeAtI_1 {l : List UInt8} {n c : Int} {k : Nat} (h : lineStartI l n = k) (hc : 0 ≤ c) : placeAtI l n c = k + min c (nlAt (l.drop k) : Int) := by
  unfold placeAtI
  rw [if_neg (by rw [h]; omega), lineEndI_1 h, h]
  congr 2
  omega
/-- isLine. -/
theorem isLine_start {l : List UInt8} {n : Int} (ht : tvB l = true) (h0 : 0 ≤ n) (h1 : n ≤ nlc l) : ∃ x, (startsTo l l.length)[n.toNat]? = some x ∧ lineStartI l n = x := by
  obtain ⟨x, hx⟩ := startsTo_some l n.toNat (by omega)
  exact ⟨x, hx, lineStartI_1 ht h0 (startsTo_startN l _ x hx)⟩
theorem isLine_no {l : List UInt8} {n : Int} (h : tvB l = false ∨ n < 0 ∨ (nlc l : Int) < n) : lineStartI l n = -1 := by
  rcases h with h | h | h
  · exact lineStartI_0 (.inl h)
  · exact lineStartI_0 (.inr h)
  · exact lineStartI_2 (startN_none (by omega))
end Go.Proofs.Ytecejfcoognkiaa
