/- Contracts on lines, the second part: where all lines begin, LineStart, LineEnd, PlaceAt. -/
import Derived.Test.YtppfggfmpmccpaaDoorW2
import Derived.Test.YtppfggfmpmccpaaDoorW9
import Derived.Test.YtppfggfmpmccpaaDoorPm
import Derived.OwnWalk
import Derived.RegionTactic
import Derived.Deep.AppendLies
namespace Go.Proofs.YtppfggfmpmccpaaDoor
open Go.RowKit

/-- isLine. -/
def lineB (l : List UInt8) (n : Int) : Bool := tvB l && inI n 0 (lineManyI l - 1)
theorem lineB_1 {l : List UInt8} {n : Int} (h : lineB l n = true) : tvB l = true ∧ ∃ x : Nat, (startsTo l l.length)[n.toNat]? = some x ∧ lineStartI l n = x ∧ 0 ≤ n ∧ n.toNat < (startsTo l l.length).length := by
  unfold lineB at h
  rw [Bool.and_eq_true] at h
  obtain ⟨ht, hi⟩ := h
  rw [lineManyI_1 ht, inI_iff] at hi
  obtain ⟨x, h1, h2⟩ := isLine_start ht hi.1 (by omega)
  have hl := startsTo_length l l.length (Nat.le_refl _)
  rw [List.take_length] at hl
  exact ⟨ht, x, h1, h2, hi.1, by omega⟩
theorem lineB_0 {l : List UInt8} {n : Int} (h : lineB l n = false) : lineStartI l n = -1 := by
  unfold lineB at h
  rw [Bool.and_eq_false_iff] at h
  cases ht : tvB l
  · exact isLine_no (.inl ht)
  · rcases h with h | h
    · rw [ht] at h
      cases h
    · rw [lineManyI_1 ht] at h
      refine isLine_no ?_
      by_cases h0 : n < 0
      · exact .inr (.inl h0)
      · refine .inr (.inr ?_)
        rcases Int.lt_or_le (nlc l : Int) n with h' | h'
        · exact h'
        · rw [(inI_iff n 0 _).2 (by omega)] at h
          cases h
/-- strings.IndexByte of a line end. -/
def firstI (l : List UInt8) : Int := if nlAt l = l.length then -1 else (nlAt l : Int)
theorem indexByte_nl (l : List UInt8) : Lib.indexByte l 10 = firstI l := by
  unfold firstI
  induction l with
  | nil => rfl
  | cons c l ih =>
    unfold Lib.indexByte
    by_cases e : c = 10
    · subst e
      rw [nlAt_nl, if_neg (by simp : ¬ 0 = (10 :: l).length)]
      rfl
    · rw [nlAt_no _ e, if_neg (by simpa using e), ih]
      by_cases e2 : nlAt l = l.length
      · rw [if_pos e2, if_pos (by rw [e2]; rfl : nlAt l + 1 = (c :: l).length)]
        rfl
      · rw [if_neg e2, if_neg (by rw [beq_iff_eq]; omega), if_neg (by simp [e2])]
        omega
set_option maxHeartbeats 400000 in
theorem specLineEnd_any (s : ByteArray) (n : Int) (w : World) (hs : s.size ≤ maxLen) :
    Calls Tryd.prog 25 #[.string s, .int .i64 n] w fun e w' => e = .returned (.int .i64 (lineEndI s.data.toList n)) ∧ w = w' := by
  rcases lineStartI_cases s.data.toList n with hl | ⟨x, hl, hx⟩
  · rw [lineEndI_0 hl]
    have H := Lib.hid hl
    clear hl
    go_enter Tryd.func25, Tryd.ntmps25
    go_wp2_with (go_at_call 24; refine (specLineStart_any _ _ _ hs).mono ?_; rw [H.out]; rintro e w' ⟨rfl, rfl⟩)
    refine wp_loop_rounds 1 ?_
    rw [rounds_succ]
    go_wp2
    go_ret
    exact ⟨rfl, rfl⟩
  · rw [lineEndI_1 hl]
    have H := Lib.hid hl
    have hx2 : x ≤ s.size := by simpa using hx
    have hxs : s.size ≤ 9223372036854775807 := hs
    clear hl hx
    go_enter Tryd.func25, Tryd.ntmps25
    go_wp2_with (go_at_call 24; refine (specLineStart_any _ _ _ hs).mono ?_; rw [H.out]; rintro e w' ⟨rfl, rfl⟩)
    go_loop [5] (fun i => ∃ k : Nat, x ≤ k ∧ k ≤ s.size ∧ i = .int .i64 k ∧ ∀ j, x ≤ j → j < k → s.data.toList[j]? ≠ some 10) (fun i => s.size - (intOf i).toNat)
    case atStart => exact ⟨x, Nat.le_refl _, hx2, rfl, fun j h1 h2 => absurd h2 (by omega)⟩
    case round =>
      obtain ⟨k, hxk, hk, rfl, hno⟩ := hrel
      have hD : ∀ (h : k = s.size ∨ s.data.toList[k]? = some 10), nlAt (s.data.toList.drop x) = k - x := fun h => by
        refine nlAt_eq (by simp; omega) (fun j hj => ?_) ?_
        · rw [List.getElem?_drop]
          exact hno _ (by omega) (by omega)
        · rcases h with h | h
          · exact .inl (by simp; omega)
          · refine .inr ?_
            rw [List.getElem?_drop, show x + (k - x) = k by omega]
            exact h
      have HD := Lib.hid hD
      have HN := Lib.hid hno
      clear hD hno
      by_cases hlt : k < s.size
      · go_wp2
        · go_round
          case rel => exact ⟨k + 1, by omega, by omega, by go_num, fun j h1 h2 => by
            by_cases e : j = k
            · subst e
              exact byte_no s j hlt (by simpa using ‹((s[j].toNat : Int) != 10) = true›)
            · exact HN.out j h1 (by omega)⟩
          case measure => simp [intOf]; omega
        · go_ret
          exact ⟨ret_int (by rw [HD.out (.inr (byte_nl s k hlt (by simpa using ‹((s[k].toNat : Int) != 10) = false›)))]; omega), rfl⟩
      · go_wp2
        go_ret
        exact ⟨ret_int (by rw [HD.out (.inl (by omega))]; omega), rfl⟩
end Go.Proofs.YtppfggfmpmccpaaDoor
