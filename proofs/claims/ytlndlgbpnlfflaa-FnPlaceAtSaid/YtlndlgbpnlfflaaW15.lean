/- Contracts on lines, the second part: where all lines begin, LineStart, LineEnd, PlaceAt. -/
import Derived.Test.YtlndlgbpnlfflaaW2
import Derived.Test.YtlndlgbpnlfflaaW9
import Derived.Test.YtlndlgbpnlfflaaPm
import Derived.OwnWalk
import Derived.RegionTactic
import Derived.Deep.AppendLies
namespace Go.Proofs.Ytlndlgbpnlfflaa
open Go.RowKit

/-- isLine. -/
def lineB (l : List UInt8) (n : Int) : Bool := tvB l && inI n 0 (lineManyI l - 1)
theorem lineB_1 {l : List UInt8} {n : Int} (h : lineB l n = true) : tvB l = true ∧ ∃ x : Nat, (startsTo l l.length)[n.toNat]? = some x ∧ lineStartI l n = x ∧ 0 ≤ n ∧ n.toNat < (startsTo l l.length).length := by
  unfold lineB at h
  rw [Bool.and_eq_true] at h
  obtain ⟨ht, hi⟩ := h
  rw [lineManyI_1 ht, inI_iff] at hi
  obtain ⟨x, h1, h2⟩ := isLine_start ht hi.1 (by omega)
  have hl := startsTo_length l l.length (Nat.le_refl _)
  rw [List.take_length] at hl
  exact ⟨ht, x, h1, h2, hi.1, by omega⟩
theorem lineB_0 {l : List UInt8} {n : Int} (h : lineB l n = false) : lineStartI l n = -1 := by
  unfold lineB at h
  rw [Bool.and_eq_false_iff] at h
  cases ht : tvB l
  · exact isLine_no (.inl ht)
  · rcases h with h | h
    · rw [ht] at h
      cases h
    · rw [lineManyI_1 ht] at h
      refine isLine_no ?_
      by_cases h0 : n < 0
      · exact .inr (.inl h0)
      · refine .inr (.inr ?_)
        rcases Int.lt_or_le (nlc l : Int) n with h' | h'
        · exact h'
        · rw [(inI_iff n 0 _).2 (by omega)] at h
          cases h
/-- strings.IndexByte of a line end. -/
def firstI (l : List UInt8) : Int := if nlAt l = l.length then -1 else (nlAt l : Int)
theorem indexByte_nl (l : List UInt8) : Lib.indexByte l 10 = firstI l := by
  unfold firstI
  induction l with
  | nil => rfl
  | cons c l ih =>
    unfold Lib.indexByte
    by_cases e : c = 10
    · subst e
      rw [nlAt_nl, if_neg (by simp : ¬ 0 = (10 :: l).length)]
      rfl
    · rw [nlAt_no _ e, if_neg (by simpa using e), ih]
      by_cases e2 : nlAt l = l.length
      · rw [if_pos e2, if_pos (by rw [e2]; rfl : nlAt l + 1 = (c :: l).length)]
        rfl
      · rw [if_neg e2, if_neg (by rw [beq_iff_eq]; omega), if_neg (by simp [e2])]
        omega
theorem isLine_any (s : ByteArray) (n : Int) (w : World) (hs : s.size ≤ maxLen) :
    Calls Try.prog 55 #[.string s, .int .i64 n] w fun e w' => e = .returned (.bool (lineB s.data.toList n)) ∧ w = w' := by
  unfold lineB
  cases ht : tvB s.data.toList
  · rw [Bool.false_and]
    have H := Lib.hid ht
    clear ht
    go_enter Try.func55, Try.ntmps55
    go_wp2_with (go_at_call 49; refine (implTextValid_any _ _ hs).mono ?_; rw [H.out]; rintro e w' ⟨rfl, rfl⟩)
    go_ret
    exact ⟨rfl, rfl⟩
  · rw [Bool.true_and, lineManyI_1 ht]
    have H := Lib.hid ht
    have HL := Lib.hid (lineManyI_1 ht)
    have hn : nlc s.data.toList ≤ 120 := Nat.le_trans (nlc_le _) ((tvB_iff _).1 ht).1
    clear ht
    go_enter Try.func55, Try.ntmps55
    go_wp2_with (first | (go_at_call 49; refine (implTextValid_any _ _ hs).mono ?_; rw [H.out]; rintro e w' ⟨rfl, rfl⟩) | (go_at_call 45; refine (implLineMany_any _ _ hs).mono ?_; rw [HL.out]; rintro e w' ⟨rfl, rfl⟩) | (go_at_call 47; refine (in_any _ _ _ _).mono ?_; rintro e w' ⟨rfl, rfl⟩))
    go_ret
    exact ⟨by rw [Int.add_sub_cancel]; rfl, rfl⟩
/-- The cells of a list of numbers. -/
def numCells (ns : List Nat) : List Value := ns.map fun (n : Nat) => Value.int .i64 n
theorem intInfo : (Try.prog.info? 3).map (fun i => (i.zero, i.size, i.bytes)) = some (some (.int .i64 0), 1, 8) := by kernel_rfl
theorem numCells_at {ns : List Nat} {m x : Nat} (h : ns[m]? = some x) : (numCells ns)[m]? = some (.int .i64 x) := by
  unfold numCells
  rw [List.getElem?_map, h]
  rfl
def StartsV (w : World) (l : List UInt8) (e : Ending) (w' : World) : Prop :=
  ∃ g c : Nat, e = .returned (.slice (some ⟨g, 0, none⟩) (startsTo l l.length).length c) ∧ g < w'.heap.size ∧ w'.ownsRow w.heap.size 3 1 (.slice (some ⟨g, 0, none⟩) (startsTo l l.length).length c) (startsTo l l.length).length (numCells (startsTo l l.length)) ∧ Below w.heap.size w w'
set_option maxHeartbeats 800000 in
set_option maxRecDepth 100000 in
theorem starts_any (s : ByteArray) (w : World) (hs : s.size ≤ 120) : Calls Try.prog 61 #[.string s] w (StartsV w s.data.toList) := by
  obtain ⟨i0, hi, hi0, hi1, hi2⟩ := info_parts intInfo
  go_enter Try.func61, Try.ntmps61
  go_wp2
  go_loopw [3, 8] (fun o i wr => ∃ k c g : Nat, k ≤ s.size ∧ i = .int .i64 k ∧ o = .slice (some ⟨g, 0, none⟩) (startsTo s.data.toList k).length c ∧ g < wr.heap.size ∧ wr.ownsRow w.heap.size 3 1 (.slice (some ⟨g, 0, none⟩) (startsTo s.data.toList k).length c) (startsTo s.data.toList k).length (numCells (startsTo s.data.toList k)) ∧ Below w.heap.size w wr) (fun _ i _ => s.size - (intOf i).toNat)
  case atStart => exact ⟨0, 1, w.heap.size, Nat.zero_le _, rfl, rfl, by simp, World.ownsRow_lit w #[.int .i64 0] 1 (Nat.le_refl _) (by decide) rfl, balloc (Below.refl _ _) _⟩
  case round =>
    obtain ⟨k, c, g, hk, rfl, rfl, hg, hown, hbw⟩ := hrel
    have hz := hbw.size
    by_cases hlt : k < s.size
    · have hl := startsTo_length s.data.toList k (by simp; omega)
      have hl2 := nlc_take_size s k
      obtain ⟨m, hm⟩ : ∃ m, (startsTo s.data.toList k).length = m := ⟨_, rfl⟩
      rw [hm] at hown hl
      have HM := Lib.hid hm
      rw [hm]
      have hm2 : m ≤ s.size + 1 := by omega
      clear hm hl hl2
      go_wp2_with (at_builtin; refine wpList_append_lies _ rfl _ _ 63 rfl w.heap.size 3 i0 (.int .i64 0) 1 8 Try.underlying63 hi hi0 hi1 hi2 rfl (by decide) _ _ _ rfl (hown.alloc _) ⟨wr.heap.size, 0, none⟩ 1 1 [.int .i64 ((k : Int) + 1)] rfl rfl (World.news_of_block (cs := #[.int .i64 ((k : Int) + 1)]) (t := 3) (fr := (0, 0)) (heap_alloc_new wr _)) (by simp [Value.oneCell']) (by omega) (by unfold maxLen; omega) (by omega) (by simp; omega) (wr.heap.size + 1) (by simp) ?_; intro gg cap w3 hown3 hgrow3 hat3 hlt3)
      · have hs2 := startsTo_nl (l := s.data.toList) (k := k) (byte_nl s k hlt (eq_of_beq ‹((s[k].toNat : Int) == 10) = true›))
        go_roundw
        case rel => exact ⟨k + 1, cap, gg, by omega, by go_num, by rw [hs2, List.length_append, HM.out]; rfl, hlt3, by rw [hs2, List.length_append, HM.out]; rw [numCells, List.map_append]; exact hown3, (balloc hbw _).grown hgrow3 (by simp; omega) (fun i hi => (hown.lt i hi).1)⟩
        case measure => simp [intOf]; omega
      · have hs2 := startsTo_no (l := s.data.toList) (k := k) (byte_no s k hlt (ne_of_beq_false ‹((s[k].toNat : Int) == 10) = false›))
        rw [← hs2] at HM
        go_roundw
        case rel => exact ⟨k + 1, c, g, by omega, by go_num, by rw [HM.out], hg, by rw [HM.out, hs2]; exact hown, hbw⟩
        case measure => simp [intOf]; omega
    · have hkn : k = s.data.toList.length := by simp; omega
      subst hkn
      go_wp2
      go_ret
      exact ⟨g, c, rfl, hg, hown, hbw⟩
theorem implLineStart_any (s : ByteArray) (n : Int) (w : World) (hs : s.size ≤ maxLen) :
    Calls Try.prog 56 #[.string s, .int .i64 n] w fun e w' => e = .returned (.int .i64 (lineStartI s.data.toList n)) ∧ Below w.heap.size w w' := by
  cases hl : lineB s.data.toList n
  · rw [lineB_0 hl]
    have H := Lib.hid hl
    clear hl
    go_enter Try.func56, Try.ntmps56
    go_wp2_with (go_at_call 55; refine (isLine_any _ _ _ hs).mono ?_; rw [H.out]; rintro e w' ⟨rfl, rfl⟩)
    go_ret
    exact ⟨rfl, Below.refl _ _⟩
  · obtain ⟨ht, x, hx, hlx, hn0, hnl⟩ := lineB_1 hl
    rw [hlx]
    have H := Lib.hid hl
    have hs' := tv_size ht
    obtain ⟨m, rfl⟩ := Int.eq_ofNat_of_zero_le hn0
    rw [Int.toNat_natCast] at hx hnl
    have HX := Lib.hid hx
    obtain ⟨q, hq⟩ : ∃ q, (startsTo s.data.toList s.data.toList.length).length = q := ⟨_, rfl⟩
    rw [hq] at hnl
    have HQ := Lib.hid hq
    clear hl ht hx hlx hq
    go_enter Try.func56, Try.ntmps56
    go_wp2_with (first | (go_at_call 55; refine (isLine_any _ _ _ hs).mono ?_; rw [H.out]; rintro e w' ⟨rfl, rfl⟩) | (go_at_call 61; refine (starts_any _ _ hs').mono ?_; rintro e w1 ⟨g, c, rfl, hg, hown, hb⟩; rw [HQ.out] at hown ⊢; have hx := (hown.cellAt m (by omega)).trans (numCells_at HX.out)))
    go_ret
    exact ⟨rfl, hb⟩
set_option maxRecDepth 100000 in
theorem strIndex_nl (s : ByteArray) (w : World) :
    Calls Try.prog 62 #[.string s, .int .u8 10] w fun e w' => e = .returned (.int .i64 (firstI s.data.toList)) ∧ w = w' := by
  have h1 : Calls Try.prog 73 #[.string s, .int .u8 10] w fun e w' => e = .returned (.int .i64 (firstI s.data.toList)) ∧ w = w' := by
    go_enter Try.func73, Try.ntmps73
    go_wp2
    rw [run_callFunc_extern Try.func78 (by kernel_rfl) (by kernel_rfl) (by kernel_rfl) (e := Extern.BytealgIndexByte.indexByte) (by kernel_rfl), Lib.run_indexByteString]
    simp only [Result.andThen]
    rw [Oper.upon_value]
    go_wp2
    go_ret
    exact ⟨congrArg (fun z => Ending.returned (.int .i64 z)) (indexByte_nl _), rfl⟩
  go_enter Try.func62, Try.ntmps62
  go_wp2_with (go_at_call 73; refine h1.mono ?_; rintro e w' ⟨rfl, rfl⟩)
  go_ret
  exact ⟨rfl, rfl⟩
theorem implLineEnd_any (s : ByteArray) (n : Int) (w : World) (hs : s.size ≤ maxLen) :
    Calls Try.prog 32 #[.string s, .int .i64 n] w fun e w' => e = .returned (.int .i64 (lineEndI s.data.toList n)) ∧ Below w.heap.size w w' := by
  cases hl : lineB s.data.toList n
  · rw [lineEndI_0 (lineB_0 hl)]
    have H := Lib.hid hl
    clear hl
    go_enter Try.func32, Try.ntmps32
    go_wp2_with (go_at_call 55; refine (isLine_any _ _ _ hs).mono ?_; rw [H.out]; rintro e w' ⟨rfl, rfl⟩)
    go_ret
    exact ⟨rfl, Below.refl _ _⟩
  · obtain ⟨ht, x, hx, hlx, hn0, hnl⟩ := lineB_1 hl
    rw [lineEndI_1 hlx]
    have H := Lib.hid hl
    have hs' := tv_size ht
    obtain ⟨m, rfl⟩ := Int.eq_ofNat_of_zero_le hn0
    rw [Int.toNat_natCast] at hx hnl
    have hxs : x ≤ s.size := by have := (startsTo_at s.data.toList s.data.toList.length (Nat.le_refl _) _ _ hx).1; simpa using this
    have HX := Lib.hid hx
    obtain ⟨q, hq⟩ : ∃ q, (startsTo s.data.toList s.data.toList.length).length = q := ⟨_, rfl⟩
    rw [hq] at hnl
    have HQ := Lib.hid hq
    have he : (s.extract x s.size).data.toList = s.data.toList.drop x := by rw [extract_tail, mk_data]
    have hle := nlAt_le (s.data.toList.drop x)
    rw [List.length_drop] at hle
    obtain ⟨z, hz⟩ : ∃ z, nlAt (s.data.toList.drop x) = z := ⟨_, rfl⟩
    rw [hz] at hle ⊢
    have hle2 : x + z ≤ s.size := by simp at hle; omega
    by_cases hzz : x + z = s.size
    · have HE := Lib.hid (show firstI (s.extract x s.size).data.toList = -1 from by unfold firstI; rw [he, hz, if_pos (by rw [List.length_drop]; simp; omega)])
      have hzq : (x : Int) + z = s.size := by omega
      rw [hzq]
      clear hl ht hx hlx hq he hz hle hle2 hzz hzq
      go_enter Try.func32, Try.ntmps32
      go_wp2_with (first | (go_at_call 55; refine (isLine_any _ _ _ hs).mono ?_; rw [H.out]; rintro e w' ⟨rfl, rfl⟩) | (go_at_call 61; refine (starts_any _ _ hs').mono ?_; rintro e w1 ⟨g, c, rfl, hg, hown, hb⟩; rw [HQ.out] at hown ⊢; have hx := (hown.cellAt m (by omega)).trans (numCells_at HX.out)) | (go_at_call 62; refine (strIndex_nl _ _).mono ?_; rw [HE.out]; rintro e w' ⟨rfl, rfl⟩))
      go_ret
      exact ⟨rfl, hb⟩
    · have HE := Lib.hid (show firstI (s.extract x s.size).data.toList = (z : Int) from by unfold firstI; rw [he, hz, if_neg (by rw [List.length_drop]; simp; omega)])
      clear hl ht hx hlx hq he hz hle hzz
      go_enter Try.func32, Try.ntmps32
      go_wp2_with (first | (go_at_call 55; refine (isLine_any _ _ _ hs).mono ?_; rw [H.out]; rintro e w' ⟨rfl, rfl⟩) | (go_at_call 61; refine (starts_any _ _ hs').mono ?_; rintro e w1 ⟨g, c, rfl, hg, hown, hb⟩; rw [HQ.out] at hown ⊢; have hx := (hown.cellAt m (by omega)).trans (numCells_at HX.out)) | (go_at_call 62; refine (strIndex_nl _ _).mono ?_; rw [HE.out]; rintro e w' ⟨rfl, rfl⟩))
      go_ret
      exact ⟨rfl, hb⟩
set_option maxHeartbeats 400000 in
theorem specLineEnd_any (s : ByteArray) (n : Int) (w : World) (hs : s.size ≤ maxLen) :
    Calls Try.prog 58 #[.string s, .int .i64 n] w fun e w' => e = .returned (.int .i64 (lineEndI s.data.toList n)) ∧ w = w' := by
  rcases lineStartI_cases s.data.toList n with hl | ⟨x, hl, hx⟩
  · rw [lineEndI_0 hl]
    have H := Lib.hid hl
    clear hl
    go_enter Try.func58, Try.ntmps58
    go_wp2_with (go_at_call 57; refine (specLineStart_any _ _ _ hs).mono ?_; rw [H.out]; rintro e w' ⟨rfl, rfl⟩)
    refine wp_loop_rounds 1 ?_
    rw [rounds_succ]
    go_wp2
    go_ret
    exact ⟨rfl, rfl⟩
  · rw [lineEndI_1 hl]
    have H := Lib.hid hl
    have hx2 : x ≤ s.size := by simpa using hx
    have hxs : s.size ≤ 9223372036854775807 := hs
    clear hl hx
    go_enter Try.func58, Try.ntmps58
    go_wp2_with (go_at_call 57; refine (specLineStart_any _ _ _ hs).mono ?_; rw [H.out]; rintro e w' ⟨rfl, rfl⟩)
    go_loop [5] (fun i => ∃ k : Nat, x ≤ k ∧ k ≤ s.size ∧ i = .int .i64 k ∧ ∀ j, x ≤ j → j < k → s.data.toList[j]? ≠ some 10) (fun i => s.size - (intOf i).toNat)
    case atStart => exact ⟨x, Nat.le_refl _, hx2, rfl, fun j h1 h2 => absurd h2 (by omega)⟩
    case round =>
      obtain ⟨k, hxk, hk, rfl, hno⟩ := hrel
      have hD : ∀ (h : k = s.size ∨ s.data.toList[k]? = some 10), nlAt (s.data.toList.drop x) = k - x := fun h => by
        refine nlAt_eq (by simp; omega) (fun j hj => ?_) ?_
        · rw [List.getElem?_drop]
          exact hno _ (by omega) (by omega)
        · rcases h with h | h
          · exact .inl (by simp; omega)
          · refine .inr ?_
            rw [List.getElem?_drop, show x + (k - x) = k by omega]
            exact h
      have HD := Lib.hid hD
      have HN := Lib.hid hno
      clear hD hno
      by_cases hlt : k < s.size
      · go_wp2
        · go_round
          case rel => exact ⟨k + 1, by omega, by omega, by go_num, fun j h1 h2 => by
            by_cases e : j = k
            · subst e
              exact byte_no s j hlt (by simpa using ‹((s[j].toNat : Int) != 10) = true›)
            · exact HN.out j h1 (by omega)⟩
          case measure => simp [intOf]; omega
        · go_ret
          exact ⟨ret_int (by rw [HD.out (.inr (byte_nl s k hlt (by simpa using ‹((s[k].toNat : Int) != 10) = false›)))]; omega), rfl⟩
      · go_wp2
        go_ret
        exact ⟨ret_int (by rw [HD.out (.inl (by omega))]; omega), rfl⟩
theorem specPlaceAt_any (s : ByteArray) (n c : Int) (w : World) (hs : s.size ≤ maxLen) :
    Calls Try.prog 29 #[.string s, .int .i64 n, .int .i64 c] w fun e w' => e = .returned (.int .i64 (placeAtI s.data.toList n c)) ∧ w = w' := by
  rcases lineStartI_cases s.data.toList n with hl | ⟨x, hl, hx⟩
  · rw [placeAtI_0 (.inl hl)]
    have H := Lib.hid hl
    clear hl
    go_enter Try.func29, Try.ntmps29
    go_wp2_with (go_at_call 57; refine (specLineStart_any _ _ _ hs).mono ?_; rw [H.out]; rintro e w' ⟨rfl, rfl⟩)
    go_ret
    exact ⟨rfl, rfl⟩
  · by_cases hc : c < 0
    · rw [placeAtI_0 (.inr hc)]
      have H := Lib.hid hl
      clear hl
      go_enter Try.func29, Try.ntmps29
      go_wp2_with (go_at_call 57; refine (specLineStart_any _ _ _ hs).mono ?_; rw [H.out]; rintro e w' ⟨rfl, rfl⟩)
      go_ret
      exact ⟨rfl, rfl⟩
    · rw [placeAtI_1 hl (by omega)]
      have hle := lineEndI_1 hl
      have hz := nlAt_le (s.data.toList.drop x)
      rw [List.length_drop] at hz
      have hx2 : x ≤ s.size := by simpa using hx
      obtain ⟨z, hze⟩ : ∃ z, nlAt (s.data.toList.drop x) = z := ⟨_, rfl⟩
      rw [hze] at hz hle ⊢
      have hz2 : x + z ≤ s.size := by simp at hz; omega
      have hxs : s.size ≤ 9223372036854775807 := hs
      have H := Lib.hid hl
      have HE := Lib.hid hle
      clear hl hx hle hze hz
      by_cases hcz : c ≤ (z : Int)
      · rw [Int.min_eq_left hcz]
        go_enter Try.func29, Try.ntmps29
        go_wp2_with (first | (go_at_call 57; refine (specLineStart_any _ _ _ hs).mono ?_; rw [H.out]; rintro e w' ⟨rfl, rfl⟩) | (go_at_call 58; refine (specLineEnd_any _ _ _ hs).mono ?_; rw [HE.out]; rintro e w' ⟨rfl, rfl⟩))
        go_ret
        exact ⟨rfl, rfl⟩
      · rw [Int.min_eq_right (by omega)]
        go_enter Try.func29, Try.ntmps29
        go_wp2_with (first | (go_at_call 57; refine (specLineStart_any _ _ _ hs).mono ?_; rw [H.out]; rintro e w' ⟨rfl, rfl⟩) | (go_at_call 58; refine (specLineEnd_any _ _ _ hs).mono ?_; rw [HE.out]; rintro e w' ⟨rfl, rfl⟩))
        go_ret
        exact ⟨ret_int (by omega), rfl⟩
theorem implPlaceAt_any (s : ByteArray) (n c : Int) (w : World) (hs : s.size ≤ maxLen) :
    Calls Try.prog 28 #[.string s, .int .i64 n, .int .i64 c] w fun e w' => e = .returned (.int .i64 (placeAtI s.data.toList n c)) ∧ Below w.heap.size w w' := by
  cases hb : lineB s.data.toList n
  · rw [placeAtI_0 (.inl (lineB_0 hb))]
    have H := Lib.hid hb
    clear hb
    go_enter Try.func28, Try.ntmps28
    go_wp2_with (go_at_call 55; refine (isLine_any _ _ _ hs).mono ?_; rw [H.out]; rintro e w' ⟨rfl, rfl⟩)
    go_ret
    exact ⟨rfl, Below.refl _ _⟩
  · by_cases hc : c < 0
    · rw [placeAtI_0 (.inr hc)]
      have H := Lib.hid hb
      clear hb
      go_enter Try.func28, Try.ntmps28
      go_wp2_with (go_at_call 55; refine (isLine_any _ _ _ hs).mono ?_; rw [H.out]; rintro e w' ⟨rfl, rfl⟩)
      go_ret
      exact ⟨rfl, Below.refl _ _⟩
    · obtain ⟨_, x, hxm, hl, _, _⟩ := lineB_1 hb
      have hx := (startsTo_at s.data.toList s.data.toList.length (Nat.le_refl _) _ _ hxm).1
      clear hxm
      rw [placeAtI_1 hl (by omega)]
      have hle := lineEndI_1 hl
      have hz := nlAt_le (s.data.toList.drop x)
      rw [List.length_drop] at hz
      have hx2 : x ≤ s.size := by simpa using hx
      obtain ⟨z, hze⟩ : ∃ z, nlAt (s.data.toList.drop x) = z := ⟨_, rfl⟩
      rw [hze] at hz hle ⊢
      have hz2 : x + z ≤ s.size := by simp at hz; omega
      have hxs : s.size ≤ 9223372036854775807 := hs
      have HB := Lib.hid hb
      have H := Lib.hid hl
      have HE := Lib.hid hle
      clear hb hl hx hle hze hz
      by_cases hcz : c ≤ (z : Int)
      · rw [Int.min_eq_left hcz]
        go_enter Try.func28, Try.ntmps28
        go_wp2_with (first | (go_at_call 55; refine (isLine_any _ _ _ hs).mono ?_; rw [HB.out]; rintro e w' ⟨rfl, rfl⟩) | (go_at_call 56; refine (implLineStart_any _ _ _ hs).mono ?_; rw [H.out]; rintro e w1 ⟨rfl, hb1⟩; obtain ⟨hc1, hf1⟩ := bcell hb1; have hz1 := hb1.size; (try simp at hz1); (try replace hz1 := Nat.lt_of_succ_le hz1); (try have hy1w : w.heap.size < w1.heap.size := by omega); (try have hx1w : w.heap.size + 1 < w1.heap.size := by omega)) | (go_at_call 32; refine (implLineEnd_any _ _ _ hs).mono ?_; rw [HE.out]; rintro e w2 ⟨rfl, hb2⟩; obtain ⟨hc2, hf2⟩ := bcell hb2; have hz2 := hb2.size; (try simp at hz2); (try replace hz2 := Nat.lt_of_succ_le hz2); (try have hy2w : w.heap.size < w2.heap.size := by omega); (try have hx2w : w.heap.size + 1 < w2.heap.size := by omega)))
        go_ret
        exact ⟨rfl, hb1.trans (hb2.mono hz1)⟩
      · rw [Int.min_eq_right (by omega)]
        go_enter Try.func28, Try.ntmps28
        go_wp2_with (first | (go_at_call 55; refine (isLine_any _ _ _ hs).mono ?_; rw [HB.out]; rintro e w' ⟨rfl, rfl⟩) | (go_at_call 56; refine (implLineStart_any _ _ _ hs).mono ?_; rw [H.out]; rintro e w1 ⟨rfl, hb1⟩; obtain ⟨hc1, hf1⟩ := bcell hb1; have hz1 := hb1.size; (try simp at hz1); (try replace hz1 := Nat.lt_of_succ_le hz1); (try have hy1w : w.heap.size < w1.heap.size := by omega); (try have hx1w : w.heap.size + 1 < w1.heap.size := by omega)) | (go_at_call 32; refine (implLineEnd_any _ _ _ hs).mono ?_; rw [HE.out]; rintro e w2 ⟨rfl, hb2⟩; obtain ⟨hc2, hf2⟩ := bcell hb2; have hz2 := hb2.size; (try simp at hz2); (try replace hz2 := Nat.lt_of_succ_le hz2); (try have hy2w : w.heap.size < w2.heap.size := by omega); (try have hx2w : w.heap.size + 1 < w2.heap.size := by omega)))
        go_ret
        exact ⟨rfl, hb1.trans (hb2.mono hz1)⟩
end Go.Proofs.Ytlndlgbpnlfflaa
