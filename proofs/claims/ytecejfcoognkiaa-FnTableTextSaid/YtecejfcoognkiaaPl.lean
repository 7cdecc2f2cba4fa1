/- Plain facts on lists of bytes: which bytes may stand in a text, and when a text is valid. No program is named here. -/
import Derived.Below
import Derived.Lib.Strings
namespace Go.Proofs.Ytecejfcoognkiaa
open Go.RowKit

/-- The numbers of bytes that may stand in a text. -/
def okI (n : Int) : Bool := decide (n = 10) || (decide (32 ≤ n) && decide (n ≤ 126))
theorem okI_yes {n : Int} (h : n = 10 ∨ (32 ≤ n ∧ n ≤ 126)) : okI n = true := by
  unfold okI
  rcases h with h | ⟨h, h'⟩ <;> simp [*]
theorem okI_no {n : Int} (h : n ≠ 10) (h' : n < 32 ∨ 126 < n) : okI n = false := by
  unfold okI
  simp [h]
  omega
theorem okI_iff (n : Int) : okI n = true ↔ (n = 10 ∨ (32 ≤ n ∧ n ≤ 126)) := by
  unfold okI
  simp

/-- All bytes of a list may stand in a text. -/
def plain (l : List UInt8) : Bool := l.all fun c => okI (c.toNat : Int)
/-- A text is valid. -/
def tvB (l : List UInt8) : Bool := decide (l.length ≤ 120) && plain l

theorem plain_nil : plain [] = true := rfl
theorem plain_cons (c : UInt8) (l : List UInt8) : plain (c :: l) = (okI (c.toNat : Int) && plain l) := rfl
theorem plain_append (a b : List UInt8) : plain (a ++ b) = (plain a && plain b) := by simp [plain]
theorem plain_take_succ (l : List UInt8) (k : Nat) (h : k < l.length) : plain (l.take (k + 1)) = (plain (l.take k) && okI (l[k].toNat : Int)) := by
  rw [List.take_succ_eq_append_getElem h, plain_append]
  simp [plain]
theorem plain_false_of {l : List UInt8} (k : Nat) (h : k < l.length) (hf : okI (l[k].toNat : Int) = false) : plain l = false := by
  unfold plain
  rw [List.all_eq_false]
  exact ⟨l[k], List.getElem_mem h, by simp [hf]⟩
theorem tvB_iff (l : List UInt8) : tvB l = true ↔ (l.length ≤ 120 ∧ plain l = true) := by simp [tvB]
theorem tvB_false_of_plain {l : List UInt8} (h : plain l = false) : tvB l = false := by simp [tvB, h]
theorem tvB_false_of_length {l : List UInt8} (h : 120 < l.length) : tvB l = false := by
  unfold tvB
  rw [decide_eq_false (by omega)]
  rfl
/-- A number lies in a range. -/
def inI (n lo hi : Int) : Bool := decide (lo ≤ n) && decide (n ≤ hi)
theorem inI_yes {n lo hi : Int} (h : lo ≤ n) (h' : n ≤ hi) : inI n lo hi = true := by simp [inI, h, h']
theorem inI_no {n lo hi : Int} (h : n < lo ∨ hi < n) : inI n lo hi = false := by
  unfold inI
  rcases h with h | h
  · rw [decide_eq_false (by omega : ¬ lo ≤ n)]
    rfl
  · rw [decide_eq_false (by omega : ¬ n ≤ hi), Bool.and_false]
theorem inI_iff (n lo hi : Int) : inI n lo hi = true ↔ (lo ≤ n ∧ n ≤ hi) := by simp [inI]
theorem wrap64_u8 (c : UInt8) : wrap64 (c.toNat : Int) = (c.toNat : Int) := by
  have := c.toNat_lt
  unfold wrap64
  omega
theorem okI_stop {c : UInt8} (h : ¬ (c.toNat : Int) = 10) (h' : ((c.toNat : Int) != 10) = true ∧ (!inI (wrap64 (c.toNat : Int)) 32 126) = true) : okI (c.toNat : Int) = false := by
  rw [wrap64_u8] at h'
  have h2 : inI (c.toNat : Int) 32 126 = false := by simpa using h'.2
  rw [← Bool.not_eq_true, inI_iff] at h2
  exact okI_no h (by omega)
theorem okI_go {c : UInt8} (h : ¬ (c.toNat : Int) = 10) (h' : ((c.toNat : Int) != 10) = false ∨ (!inI (wrap64 (c.toNat : Int)) 32 126) = false) : okI (c.toNat : Int) = true := by
  rw [wrap64_u8] at h'
  have h2 : inI (c.toNat : Int) 32 126 = true := by
    rcases h' with h' | h'
    · exact absurd (by simpa using h') h
    · simpa using h'
  exact okI_yes (.inr ((inI_iff _ _ _).1 h2))
theorem plain_step (s : ByteArray) (k : Nat) (h : k < s.size) (hp : plain (s.data.toList.take k) = true) (ho : okI (s[k].toNat : Int) = true) : plain (s.data.toList.take (k + 1)) = true := by
  rw [plain_take_succ _ k (by simpa using h), hp]
  exact ho
theorem plain_stop (s : ByteArray) (k : Nat) (h : k < s.size) (ho : okI (s[k].toNat : Int) = false) : plain s.data.toList = false :=
  plain_false_of k (by simpa using h) ho
theorem plain_end (s : ByteArray) (k : Nat) (h : s.size ≤ k) (hp : plain (s.data.toList.take k) = true) : plain s.data.toList = true := by
  rwa [List.take_of_length_le (by simpa using h)] at hp
theorem tvB_end (s : ByteArray) (hp : plain s.data.toList = true) : tvB s.data.toList = decide ((s.size : Int) ≤ 120) := by
  unfold tvB
  rw [hp, Bool.and_true, Bool.eq_iff_iff]
  simp
  omega
theorem tvB_short (s : ByteArray) (h : s.size ≤ 120) : tvB s.data.toList = plain s.data.toList := by
  unfold tvB
  rw [decide_eq_true (by simpa using h), Bool.true_and]
theorem tvB_long (s : ByteArray) (h : 120 < s.size) : tvB s.data.toList = false := tvB_false_of_length (by simpa using h)
theorem ret_bool {a b : Bool} (h : a = b) : Ending.returned (.bool a) = .returned (.bool b) := by rw [h]
theorem ret_int {k : IntKind} {a b : Int} (h : a = b) : Ending.returned (.int k a) = .returned (.int k b) := by rw [h]
/-- A place of a valid text. -/
def placeB (l : List UInt8) (p : Int) : Bool := tvB l && inI p 0 (l.length : Int)
theorem placeB_no {l : List UInt8} {p : Int} (h : tvB l = false) : placeB l p = false := by simp [placeB, h]
theorem placeB_yes {s : ByteArray} {p : Int} (h : tvB s.data.toList = true) : placeB s.data.toList p = inI p 0 (s.size : Int) := by
  simp only [placeB, h, Bool.true_and]
  rfl
theorem placeB_tv {l : List UInt8} {p : Int} (h : placeB l p = true) : tvB l = true := by
  unfold placeB at h
  rw [Bool.and_eq_true] at h
  exact h.1
theorem placeB_in {l : List UInt8} {p : Int} (h : placeB l p = true) : inI p 0 (l.length : Int) = true := by
  unfold placeB at h
  rw [Bool.and_eq_true] at h
  exact h.2
/-- The bytes of a list, as a string's. -/
def mk (l : List UInt8) : ByteArray := ⟨l.toArray⟩
theorem mk_data (l : List UInt8) : (mk l).data.toList = l := rfl
theorem mk_size (l : List UInt8) : (mk l).size = l.length := rfl
theorem mk_of (s : ByteArray) : mk s.data.toList = s := rfl
theorem mk_inj {a b : List UInt8} (h : mk a = mk b) : a = b := by
  have := congrArg (fun s : ByteArray => s.data.toList) h
  simpa [mk] using this
theorem ext_data {a b : ByteArray} (h : a.data.toList = b.data.toList) : a = b := by
  have : mk a.data.toList = mk b.data.toList := by rw [h]
  exact this
theorem extract_data (s : ByteArray) (a b : Nat) : (s.extract a b).data.toList = (s.data.toList.drop a).take (b - a) := Lib.extract_data s a b
theorem extract_mid (s : ByteArray) (a b : Nat) : s.extract a b = mk ((s.data.toList.drop a).take (b - a)) := ext_data (extract_data s a b)
theorem extract_head (s : ByteArray) (n : Nat) : s.extract 0 n = mk (s.data.toList.take n) := ext_data (by rw [extract_data, mk_data]; simp)
theorem extract_tail (s : ByteArray) (n : Nat) : s.extract n s.size = mk (s.data.toList.drop n) :=
  ext_data (by
    rw [extract_data, mk_data, List.take_of_length_le]
    simp)
theorem append_mk (a b : ByteArray) : a ++ b = mk (a.data.toList ++ b.data.toList) := ext_data (by simp [mk, ByteArray.data_append])
/-- A gap as a value: two strings. -/
def gapV (g : List UInt8 × List UInt8) : Value := .agg #[.string (mk g.1), .string (mk g.2)]
/-- The gap of a text at a place. -/
def gapOfL (l : List UInt8) (p : Int) : List UInt8 × List UInt8 := if placeB l p then (l.take p.toNat, l.drop p.toNat) else ([], [])
theorem gapOfL_bad {l : List UInt8} {p : Int} (h : placeB l p = false) : gapV (gapOfL l p) = .agg #[.string ByteArray.empty, .string ByteArray.empty] := by
  unfold gapOfL
  rw [h]
  rfl
theorem gapOfL_good {l : List UInt8} {p : Int} (h : placeB l p = true) : gapV (gapOfL l p) = .agg #[.string (mk (l.take p.toNat)), .string (mk (l.drop p.toNat))] := by
  unfold gapOfL
  rw [h]
  rfl
theorem placeB_range {s : ByteArray} {p : Int} (h : placeB s.data.toList p = true) : 0 ≤ p ∧ p ≤ s.size := by
  unfold placeB at h
  rw [Bool.and_eq_true, inI_iff] at h
  exact h.2
/-- The text of a gap. -/
def gapTextL (a b : List UInt8) : List UInt8 := if tvB (a ++ b) then a ++ b else []
theorem gapTextL_bad {a b : List UInt8} (h : tvB (a ++ b) = false) : mk (gapTextL a b) = ByteArray.empty := by
  unfold gapTextL
  rw [h]
  rfl
theorem gapTextL_good {a b : List UInt8} (h : tvB (a ++ b) = true) : gapTextL a b = a ++ b := by
  unfold gapTextL
  rw [h]
  rfl
/-- The bytes that a change cuts out are there. -/
def cutB (l : List UInt8) (a c : Int) : Bool := placeB l a && inI c 0 (l.length - a)
/-- The text after a change. -/
def outL (l : List UInt8) (a c : Int) (p : List UInt8) : List UInt8 := l.take a.toNat ++ p ++ l.drop (a + c).toNat
/-- A change is possible. -/
def fitsB (l : List UInt8) (a c : Int) (p : List UInt8) : Bool := cutB l a c && tvB (outL l a c p)
theorem cutB_yes {s : ByteArray} {a c : Int} (h : placeB s.data.toList a = true) : cutB s.data.toList a c = inI c 0 ((s.size : Int) - a) := by
  unfold cutB
  rw [h, Bool.true_and]
  rfl
theorem cutB_no {l : List UInt8} {a c : Int} (h : placeB l a = false) : cutB l a c = false := by simp [cutB, h]
theorem fitsB_no {l : List UInt8} {a c : Int} {p : List UInt8} (h : cutB l a c = false) : fitsB l a c p = false := by simp [fitsB, h]
theorem fitsB_yes {l : List UInt8} {a c : Int} {p : List UInt8} (h : cutB l a c = true) : fitsB l a c p = tvB (outL l a c p) := by simp [fitsB, h]
theorem cutB_range {s : ByteArray} {a c : Int} (h : cutB s.data.toList a c = true) : 0 ≤ a ∧ a ≤ s.size ∧ 0 ≤ c ∧ a + c ≤ s.size := by
  unfold cutB at h
  rw [Bool.and_eq_true] at h
  have h1 := placeB_range h.1
  have h2 := (inI_iff _ _ _).1 h.2
  have h3 : (s.data.toList.length : Int) = s.size := rfl
  omega
theorem cutB_tv {l : List UInt8} {a c : Int} (h : cutB l a c = true) : tvB l = true := by
  unfold cutB placeB at h
  rw [Bool.and_eq_true, Bool.and_eq_true] at h
  exact h.1.1
theorem plain_take {l : List UInt8} (n : Nat) (h : plain l = true) : plain (l.take n) = true := by
  rw [← List.take_append_drop n l, plain_append, Bool.and_eq_true] at h
  exact h.1
theorem plain_drop {l : List UInt8} (n : Nat) (h : plain l = true) : plain (l.drop n) = true := by
  rw [← List.take_append_drop n l, plain_append, Bool.and_eq_true] at h
  exact h.2
theorem outL_length {l : List UInt8} {a c : Int} {p : List UInt8} (h0 : 0 ≤ a) (h1 : 0 ≤ c) (h2 : a + c ≤ l.length) : ((outL l a c p).length : Int) = (l.length : Int) - c + p.length := by
  unfold outL
  simp only [List.length_append, List.length_take, List.length_drop]
  omega
theorem plain_outL {l : List UInt8} {a c : Int} {p : List UInt8} (h : plain l = true) : plain (outL l a c p) = plain p := by
  unfold outL
  rw [plain_append, plain_append, plain_take _ h, plain_drop _ h, Bool.true_and, Bool.and_true]
theorem fits_spec {s p : ByteArray} {a c : Int} (h : cutB s.data.toList a c = true) : tvB (outL s.data.toList a c p.data.toList) = (plain p.data.toList && decide ((s.size : Int) - c + p.size ≤ 120)) := by
  have ht := cutB_tv h
  have hr := cutB_range h
  have hp := ((tvB_iff _).1 ht).2
  have hl := outL_length (l := s.data.toList) (p := p.data.toList) hr.1 hr.2.2.1 hr.2.2.2
  have e1 : (s.data.toList.length : Int) = s.size := rfl
  have e2 : (p.data.toList.length : Int) = p.size := rfl
  rw [e1, e2] at hl
  unfold tvB
  rw [plain_outL hp, Bool.and_comm]
  congr 1
  rw [Bool.eq_iff_iff, decide_eq_true_eq, decide_eq_true_eq]
  omega
theorem out_walk (s p : ByteArray) (a c : Int) : s.extract 0 a.toNat ++ p ++ s.extract (a + c).toNat s.size = mk (outL s.data.toList a c p.data.toList) := by
  rw [extract_head, extract_tail, append_mk, append_mk]
  rfl
/-- What ApplyChange returns. -/
def applyR (l : List UInt8) (a c : Int) (p : List UInt8) : List UInt8 × Bool := if tvB l then (if fitsB l a c p then (outL l a c p, true) else (l, false)) else ([], false)
theorem applyR_0 {l : List UInt8} {a c : Int} {p : List UInt8} (h : tvB l = false) : applyR l a c p = ([], false) := by simp [applyR, h]
theorem applyR_1 {l : List UInt8} {a c : Int} {p : List UInt8} (h : tvB l = true) (h' : fitsB l a c p = false) : applyR l a c p = (l, false) := by simp [applyR, h, h']
theorem applyR_2 {l : List UInt8} {a c : Int} {p : List UInt8} (h' : fitsB l a c p = true) : applyR l a c p = (outL l a c p, true) := by
  have h : tvB l = true := by
    unfold fitsB at h'
    rw [Bool.and_eq_true] at h'
    exact cutB_tv h'.1
  simp [applyR, h, h']
/-- A text and a bool, as two results. -/
def strBoolV (x : List UInt8 × Bool) : Value := .tuple #[.string (mk x.1), .bool x.2]
theorem fitsB_cut {l : List UInt8} {a c : Int} {p : List UInt8} (h : fitsB l a c p = true) : cutB l a c = true := by
  unfold fitsB at h
  rw [Bool.and_eq_true] at h
  exact h.1
/-- A change, as a value. -/
def changeV (x : Int × Int × List UInt8) : Value := .agg #[.int .i64 x.1, .int .i64 x.2.1, .string (mk x.2.2)]
/-- What ReverseChange returns. -/
def revR (l : List UInt8) (a c : Int) (p : List UInt8) : (Int × Int × List UInt8) × Bool := if fitsB l a c p then ((a, (p.length : Int), (l.drop a.toNat).take ((a + c).toNat - a.toNat)), true) else ((0, 0, []), false)
theorem revR_0 {l : List UInt8} {a c : Int} {p : List UInt8} (h' : fitsB l a c p = false) : revR l a c p = ((0, 0, []), false) := by simp [revR, h']
theorem revR_1 {l : List UInt8} {a c : Int} {p : List UInt8} (h' : fitsB l a c p = true) : revR l a c p = ((a, (p.length : Int), (l.drop a.toNat).take ((a + c).toNat - a.toNat)), true) := by simp [revR, h']
/-- What GapErase returns. -/
def eraseR (a b : List UInt8) (n : Int) : (List UInt8 × List UInt8) × Bool := if tvB (a ++ b) then (if inI n 0 (a.length : Int) then ((a.take ((a.length : Int) - n).toNat, b), true) else ((a, b), false)) else (([], []), false)
theorem eraseR_0 {a b : List UInt8} {n : Int} (h : tvB (a ++ b) = false) : eraseR a b n = (([], []), false) := by simp [eraseR, h]
theorem eraseR_1 {a b : List UInt8} {n : Int} (h : tvB (a ++ b) = true) (h' : inI n 0 (a.length : Int) = false) : eraseR a b n = ((a, b), false) := by simp [eraseR, h, h']
theorem eraseR_2 {a b : List UInt8} {n : Int} (h : tvB (a ++ b) = true) (h' : inI n 0 (a.length : Int) = true) : eraseR a b n = ((a.take ((a.length : Int) - n).toNat, b), true) := by simp [eraseR, h, h']
/-- What GapType returns. -/
def typeR (a b p : List UInt8) : (List UInt8 × List UInt8) × Bool := if tvB (a ++ b) then (if tvB (a ++ p ++ b) then ((a ++ p, b), true) else ((a, b), false)) else (([], []), false)
theorem typeR_0 {a b p : List UInt8} (h : tvB (a ++ b) = false) : typeR a b p = (([], []), false) := by simp [typeR, h]
theorem typeR_1 {a b p : List UInt8} (h : tvB (a ++ b) = true) (h' : tvB (a ++ p ++ b) = false) : typeR a b p = ((a, b), false) := by
  unfold typeR
  rw [h, h']
  rfl
theorem typeR_2 {a b p : List UInt8} (h : tvB (a ++ b) = true) (h' : tvB (a ++ p ++ b) = true) : typeR a b p = ((a ++ p, b), true) := by
  unfold typeR
  rw [h, h']
  rfl
/-- What GapMove returns. -/
def moveR (a b : List UInt8) (n : Int) : List UInt8 × List UInt8 := if tvB (a ++ b) then gapOfL (a ++ b) ((a.length : Int) + max (-(a.length : Int)) (min (b.length : Int) n)) else ([], [])
theorem moveR_0 {a b : List UInt8} {n : Int} (h : tvB (a ++ b) = false) : moveR a b n = ([], []) := by simp [moveR, h]
theorem moveR_1 {a b : List UInt8} {n : Int} (h : tvB (a ++ b) = true) : moveR a b n = gapOfL (a ++ b) ((a.length : Int) + max (-(a.length : Int)) (min (b.length : Int) n)) := by simp [moveR, h]
/-- How many bytes two lists have in common at the beginning. -/
def cpl : List UInt8 → List UInt8 → Nat
  | x :: a, y :: b => if x = y then cpl a b + 1 else 0
  | _, _ => 0
theorem cpl_eq {k : Nat} : ∀ {a b : List UInt8}, (∀ j, j < k → a[j]? = b[j]?) → k ≤ a.length → k ≤ b.length → (k = a.length ∨ k = b.length ∨ a[k]? ≠ b[k]?) → cpl a b = k := by
  induction k with
  | zero =>
    intro a b _ _ _ h
    match a, b with
    | [], _ => rfl
    | _ :: _, [] => rfl
    | x :: a, y :: b =>
      rcases h with h | h | h
      · simp at h
      · simp at h
      · unfold cpl
        rw [if_neg]
        intro e
        exact h (by simp [e])
  | succ k ih =>
    intro a b he ha hb h
    match a, b with
    | [], _ => simp at ha
    | _ :: _, [] => simp at hb
    | x :: a, y :: b =>
      have h0 := he 0 (by omega)
      simp at h0
      unfold cpl
      rw [if_pos h0, ih (fun j hj => by simpa using he (j + 1) (by omega)) (by simpa using ha) (by simpa using hb) (by simpa using h)]
theorem cpl_le (a b : List UInt8) : cpl a b ≤ a.length ∧ cpl a b ≤ b.length := by
  induction a generalizing b with
  | nil => simp [cpl]
  | cons x a ih =>
    match b with
    | [] => simp [cpl]
    | y :: b =>
      unfold cpl
      have := ih b
      split <;> simp <;> omega
/-- The first k bytes of two texts are the same. -/
def EqPre (a b : ByteArray) (k : Nat) : Prop := k ≤ a.size ∧ k ≤ b.size ∧ ∀ j, j < k → a.data.toList[j]? = b.data.toList[j]?
/-- k bytes are what two texts have in common at the beginning. -/
def IsPre (a b : ByteArray) (k : Nat) : Prop := cpl a.data.toList b.data.toList = k
theorem EqPre.zero (a b : ByteArray) : EqPre a b 0 := ⟨Nat.zero_le _, Nat.zero_le _, fun j h => absurd h (by omega)⟩
theorem byte_at (a : ByteArray) (k : Nat) (h : k < a.size) : a.data.toList[k]? = some a[k] := List.getElem?_eq_getElem (by simpa using h)
theorem EqPre.step {a b : ByteArray} {k : Nat} (h : EqPre a b k) (ha : k < a.size) (hb : k < b.size) (he : (a[k].toNat : Int) = (b[k].toNat : Int)) : EqPre a b (k + 1) := by
  refine ⟨ha, hb, fun j hj => ?_⟩
  by_cases hjk : j = k
  · subst hjk
    rw [byte_at a j ha, byte_at b j hb]
    congr 1
    exact UInt8.toNat_inj.1 (by omega)
  · exact h.2.2 j (by omega)
theorem EqPre.stop {a b : ByteArray} {k : Nat} (h : EqPre a b k) (ha : k < a.size) (hb : k < b.size) (he : ¬ (a[k].toNat : Int) = (b[k].toNat : Int)) : IsPre a b k := by
  refine cpl_eq h.2.2 (by simpa using h.1) (by simpa using h.2.1) (.inr (.inr fun e => he ?_))
  rw [byte_at a k ha, byte_at b k hb] at e
  injection e with e
  rw [e]
theorem EqPre.end_ {a b : ByteArray} {k : Nat} (h : EqPre a b k) (hk : a.size ≤ k ∨ b.size ≤ k) : IsPre a b k := by
  have h1 := h.1
  have h2 := h.2.1
  refine cpl_eq h.2.2 (by simpa using h.1) (by simpa using h.2.1) ?_
  rcases hk with hk | hk
  · left
    simp
    omega
  · right
    left
    simp
    omega
theorem IsPre.le {a b : ByteArray} {k : Nat} (h : IsPre a b k) : k ≤ a.size ∧ k ≤ b.size := by
  have := cpl_le a.data.toList b.data.toList
  unfold IsPre at h
  simp at this
  omega
/-- The last m bytes of what is left of two texts behind the first k ones are the same. -/
def EqSuf (a b : ByteArray) (k m : Nat) : Prop := k + m ≤ a.size ∧ k + m ≤ b.size ∧ ∀ j, j < m → (a.data.toList.drop k).reverse[j]? = (b.data.toList.drop k).reverse[j]?
def IsSuf (a b : ByteArray) (k m : Nat) : Prop := cpl (a.data.toList.drop k).reverse (b.data.toList.drop k).reverse = m
theorem EqSuf.zero {a b : ByteArray} {k : Nat} (h : k ≤ a.size) (h' : k ≤ b.size) : EqSuf a b k 0 := ⟨by omega, by omega, fun j h => absurd h (by omega)⟩
theorem rev_at (a : ByteArray) (k m : Nat) (h : k + m < a.size) : (a.data.toList.drop k).reverse[m]? = some (a[a.size - 1 - m]'(by omega)) := by
  rw [List.getElem?_reverse (by simp; omega), List.getElem?_drop, List.length_drop]
  have e : k + (a.data.toList.length - k - 1 - m) = a.size - 1 - m := by
    have : a.data.toList.length = a.size := rfl
    omega
  rw [e]
  exact byte_at a _ (by omega)
theorem EqSuf.step {a b : ByteArray} {k m : Nat} (h : EqSuf a b k m) (ha : k + m < a.size) (hb : k + m < b.size) (he : ((a[a.size - 1 - m]'(by omega)).toNat : Int) = ((b[b.size - 1 - m]'(by omega)).toNat : Int)) : EqSuf a b k (m + 1) := by
  refine ⟨ha, hb, fun j hj => ?_⟩
  by_cases hjm : j = m
  · subst hjm
    rw [rev_at a k j ha, rev_at b k j hb]
    congr 1
    exact UInt8.toNat_inj.1 (by omega)
  · exact h.2.2 j (by omega)
theorem EqSuf.stop {a b : ByteArray} {k m : Nat} (h : EqSuf a b k m) (ha : k + m < a.size) (hb : k + m < b.size) (he : ¬ ((a[a.size - 1 - m]'(by omega)).toNat : Int) = ((b[b.size - 1 - m]'(by omega)).toNat : Int)) : IsSuf a b k m := by
  refine cpl_eq h.2.2 (by simp; have := h.1; omega) (by simp; have := h.2.1; omega) (.inr (.inr fun e => he ?_))
  rw [rev_at a k m ha, rev_at b k m hb] at e
  injection e with e
  rw [e]
theorem EqSuf.end_ {a b : ByteArray} {k m : Nat} (h : EqSuf a b k m) (hk : a.size ≤ k + m ∨ b.size ≤ k + m) : IsSuf a b k m := by
  have h1 := h.1
  have h2 := h.2.1
  refine cpl_eq h.2.2 (by simp; omega) (by simp; omega) ?_
  rcases hk with hk | hk
  · left
    simp
    omega
  · right
    left
    simp
    omega
/-- What DiffChange returns for valid texts. -/
def diffG (a b : List UInt8) : Int × Int × List UInt8 :=
  ((cpl a b : Int), (a.length : Int) - cpl a b - cpl (a.drop (cpl a b)).reverse (b.drop (cpl a b)).reverse, (b.drop (cpl a b)).take (b.length - cpl (a.drop (cpl a b)).reverse (b.drop (cpl a b)).reverse - cpl a b))
theorem diffG_of {a b : ByteArray} {k m : Nat} (h : IsPre a b k) (h' : IsSuf a b k m) : diffG a.data.toList b.data.toList = ((k : Int), (a.size : Int) - k - m, (b.data.toList.drop k).take (b.size - m - k)) := by
  unfold IsPre at h
  unfold IsSuf at h'
  unfold diffG
  rw [h, h']
  rfl
/-- What DiffChange returns. -/
def diffR (a b : List UInt8) : Int × Int × List UInt8 := if tvB a && tvB b then diffG a b else (0, 0, [])
theorem diffR_0 {a b : List UInt8} (h : tvB a = false ∨ tvB b = false) : diffR a b = (0, 0, []) := by
  unfold diffR
  rcases h with h | h <;> simp [h]
theorem diffR_1 {a b : List UInt8} (h : tvB a = true) (h' : tvB b = true) : diffR a b = diffG a b := by simp [diffR, h, h']
theorem IsSuf.le {a b : ByteArray} {k m : Nat} (h : IsSuf a b k m) (hk : k ≤ a.size) (hk' : k ≤ b.size) : k + m ≤ a.size ∧ k + m ≤ b.size := by
  have := cpl_le (a.data.toList.drop k).reverse (b.data.toList.drop k).reverse
  unfold IsSuf at h
  simp at this
  omega
theorem tv_size {s : ByteArray} (h : tvB s.data.toList = true) : s.size ≤ 120 := by
  have := ((tvB_iff _).1 h).1
  simpa using this
/-- Where a place is after a change. -/
def mpI (at_ cut plen place : Int) (after : Bool) : Int :=
  if inI at_ 0 120 && inI cut 0 120 && inI place 0 120 && decide (plen ≤ 120) then
    (if place < at_ then place else if at_ + cut < place then place + plen - cut else if after then at_ + plen else at_)
  else -1
theorem mpI_bad {a c l p : Int} {b : Bool} (h : a < 0 ∨ 120 < a ∨ c < 0 ∨ 120 < c ∨ p < 0 ∨ 120 < p ∨ 120 < l) : mpI a c l p b = -1 := by
  unfold mpI
  rw [if_neg]
  intro k
  simp only [Bool.and_eq_true, inI_iff, decide_eq_true_eq] at k
  omega
theorem mpI_good {a c l p : Int} {b : Bool} (h1 : 0 ≤ a ∧ a ≤ 120) (h2 : 0 ≤ c ∧ c ≤ 120) (h3 : 0 ≤ p ∧ p ≤ 120) (h4 : l ≤ 120) :
    mpI a c l p b = if p < a then p else if a + c < p then p + l - c else if b then a + l else a := by
  unfold mpI
  rw [if_pos]
  simp only [Bool.and_eq_true, inI_iff, decide_eq_true_eq]
  omega
theorem mpI_1 {a c l p : Int} {b : Bool} (h1 : 0 ≤ a ∧ a ≤ 120) (h2 : 0 ≤ c ∧ c ≤ 120) (h3 : 0 ≤ p ∧ p ≤ 120) (h4 : l ≤ 120) (h : p < a) : mpI a c l p b = p := by
  rw [mpI_good h1 h2 h3 h4, if_pos h]
theorem mpI_2 {a c l p : Int} {b : Bool} (h1 : 0 ≤ a ∧ a ≤ 120) (h2 : 0 ≤ c ∧ c ≤ 120) (h3 : 0 ≤ p ∧ p ≤ 120) (h4 : l ≤ 120) (h : a ≤ p) (h' : a + c < p) : mpI a c l p b = p + l - c := by
  rw [mpI_good h1 h2 h3 h4, if_neg (by omega), if_pos h']
theorem mpI_3 {a c l p : Int} (h1 : 0 ≤ a ∧ a ≤ 120) (h2 : 0 ≤ c ∧ c ≤ 120) (h3 : 0 ≤ p ∧ p ≤ 120) (h4 : l ≤ 120) (h : a ≤ p) (h' : p ≤ a + c) : mpI a c l p true = a + l := by
  rw [mpI_good h1 h2 h3 h4, if_neg (by omega), if_neg (by omega), if_pos rfl]
theorem mpI_4 {a c l p : Int} (h1 : 0 ≤ a ∧ a ≤ 120) (h2 : 0 ≤ c ∧ c ≤ 120) (h3 : 0 ≤ p ∧ p ≤ 120) (h4 : l ≤ 120) (h : a ≤ p) (h' : p ≤ a + c) : mpI a c l p false = a := by
  rw [mpI_good h1 h2 h3 h4, if_neg (by omega), if_neg (by omega), if_neg (by simp)]
end Go.Proofs.Ytecejfcoognkiaa
