/- Contracts on lines, the second part: where all lines begin, LineStart, LineEnd, PlaceAt. -/
import Derived.Test.YtecejfcoognkiaaDoorW2
import Derived.Test.YtecejfcoognkiaaDoorW9
import Derived.Test.YtecejfcoognkiaaDoorPm
import Derived.OwnWalk
import Derived.RegionTactic
import Derived.Deep.AppendLies
namespace Go.Proofs.YtecejfcoognkiaaDoor
open Go.RowKit

/-- isLine. -/
def lineB (l : List UInt8) (n : Int) : Bool := tvB l && inI n 0 (lineManyI l - 1)
theorem lineB_1 {l : List UInt8} {n : Int} (h : lineB l n = true) : tvB l = true ∧ ∃ x : Nat, (startsTo l l.length)[n.toNat]? = some x ∧ lineStartI l n = x ∧ 0 ≤ n ∧ n.toNat < (startsTo l l.length).length := by
  unfold lineB at h
  rw [Bool.and_eq_true] at h
  obtain ⟨ht, hi⟩ := h
  rw [lineManyI_1 ht, inI_iff] at hi
  obtain ⟨x, h1, h2⟩ := isLine_start ht hi.1 (by omega)
  have hl := startsTo_length l l.length (Nat.le_refl _)
  rw [List.take_length] at hl
  exact ⟨ht, x, h1, h2, hi.1, by omega⟩
theorem lineB_0 {l : List UInt8} {n : Int} (h : lineB l n = false) : lineStartI l n = -1 := by
  unfold lineB at h
  rw [Bool.and_eq_false_iff] at h
  cases ht : tvB l
  · exact isLine_no (.inl ht)
  · rcases h with h | h
    · rw [ht] at h
      cases h
    · rw [lineManyI_1 ht] at h
      refine isLine_no ?_
      by_cases h0 : n < 0
      · exact .inr (.inl h0)
      · refine .inr (.inr ?_)
        rcases Int.lt_or_le (nlc l : Int) n with h' | h'
        · exact h'
        · rw [(inI_iff n 0 _).2 (by omega)] at h
          cases h
/-- strings.IndexByte of a line end. -/
def firstI (l : List UInt8) : Int := if nlAt l = l.length then -1 else (nlAt l : Int)
theorem indexByte_nl (l : List UInt8) : Lib.indexByte l 10 = firstI l := by
  unfold firstI
  induction l with
  | nil => rfl
  | cons c l ih =>
    unfold Lib.indexByte
    by_cases e : c = 10
    · subst e
      rw [nlAt_nl, if_neg (by simp : ¬ 0 = (10 :: l).length)]
      rfl
    · rw [nlAt_no _ e, if_neg (by simpa using e), ih]
      by_cases e2 : nlAt l = l.length
      · rw [if_pos e2, if_pos (by rw [e2]; rfl : nlAt l + 1 = (c :: l).length)]
        rfl
      · rw [if_neg e2, if_neg (by rw [beq_iff_eq]; omega), if_neg (by simp [e2])]
        omega
theorem isLine_any (s : ByteArray) (n : Int) (w : World) (hs : s.size ≤ maxLen) :
    Calls Tryd.prog 34 #[.string s, .int .i64 n] w fun e w' => e = .returned (.bool (lineB s.data.toList n)) ∧ w = w' := by
  unfold lineB
  cases ht : tvB s.data.toList
  · rw [Bool.false_and]
    have H := Lib.hid ht
    clear ht
    go_enter Tryd.func34, Tryd.ntmps34
    go_wp2_with (go_at_call 26; refine (implTextValid_any _ _ hs).mono ?_; rw [H.out]; rintro e w' ⟨rfl, rfl⟩)
    go_ret
    exact ⟨rfl, rfl⟩
  · rw [Bool.true_and, lineManyI_1 ht]
    have H := Lib.hid ht
    have HL := Lib.hid (lineManyI_1 ht)
    have hn : nlc s.data.toList ≤ 120 := Nat.le_trans (nlc_le _) ((tvB_iff _).1 ht).1
    clear ht
    go_enter Tryd.func34, Tryd.ntmps34
    go_wp2_with (first | (go_at_call 26; refine (implTextValid_any _ _ hs).mono ?_; rw [H.out]; rintro e w' ⟨rfl, rfl⟩) | (go_at_call 17; refine (implLineMany_any _ _ hs).mono ?_; rw [HL.out]; rintro e w' ⟨rfl, rfl⟩) | (go_at_call 41; refine (in_any _ _ _ _).mono ?_; rintro e w' ⟨rfl, rfl⟩))
    go_ret
    exact ⟨by rw [Int.add_sub_cancel]; rfl, rfl⟩
/-- The cells of a list of numbers. -/
def numCells (ns : List Nat) : List Value := ns.map fun (n : Nat) => Value.int .i64 n
theorem intInfo : (Tryd.prog.info? 3).map (fun i => (i.zero, i.size, i.bytes)) = some (some (.int .i64 0), 1, 8) := by kernel_rfl
theorem numCells_at {ns : List Nat} {m x : Nat} (h : ns[m]? = some x) : (numCells ns)[m]? = some (.int .i64 x) := by
  unfold numCells
  rw [List.getElem?_map, h]
  rfl
def StartsV (w : World) (l : List UInt8) (e : Ending) (w' : World) : Prop :=
  ∃ g c : Nat, e = .returned (.slice (some ⟨g, 0, none⟩) (startsTo l l.length).length c) ∧ g < w'.heap.size ∧ w'.ownsRow w.heap.size 3 1 (.slice (some ⟨g, 0, none⟩) (startsTo l l.length).length c) (startsTo l l.length).length (numCells (startsTo l l.length)) ∧ Below w.heap.size w w'
set_option maxHeartbeats 800000 in
set_option maxRecDepth 100000 in
theorem starts_any (s : ByteArray) (w : World) (hs : s.size ≤ 120) : Calls Tryd.prog 35 #[.string s] w (StartsV w s.data.toList) := by
  obtain ⟨i0, hi, hi0, hi1, hi2⟩ := info_parts intInfo
  go_enter Tryd.func35, Tryd.ntmps35
  go_wp2
  go_loopw [3, 8] (fun o i wr => ∃ k c g : Nat, k ≤ s.size ∧ i = .int .i64 k ∧ o = .slice (some ⟨g, 0, none⟩) (startsTo s.data.toList k).length c ∧ g < wr.heap.size ∧ wr.ownsRow w.heap.size 3 1 (.slice (some ⟨g, 0, none⟩) (startsTo s.data.toList k).length c) (startsTo s.data.toList k).length (numCells (startsTo s.data.toList k)) ∧ Below w.heap.size w wr) (fun _ i _ => s.size - (intOf i).toNat)
  case atStart => exact ⟨0, 1, w.heap.size, Nat.zero_le _, rfl, rfl, by simp, World.ownsRow_lit w #[.int .i64 0] 1 (Nat.le_refl _) (by decide) rfl, balloc (Below.refl _ _) _⟩
  case round =>
    obtain ⟨k, c, g, hk, rfl, rfl, hg, hown, hbw⟩ := hrel
    have hz := hbw.size
    by_cases hlt : k < s.size
    · have hl := startsTo_length s.data.toList k (by simp; omega)
      have hl2 := nlc_take_size s k
      obtain ⟨m, hm⟩ : ∃ m, (startsTo s.data.toList k).length = m := ⟨_, rfl⟩
      rw [hm] at hown hl
      have HM := Lib.hid hm
      rw [hm]
      have hm2 : m ≤ s.size + 1 := by omega
      clear hm hl hl2
      go_wp2_with (at_builtin; refine wpList_append_lies _ rfl _ _ 46 rfl w.heap.size 3 i0 (.int .i64 0) 1 8 Tryd.underlying46 hi hi0 hi1 hi2 rfl (by decide) _ _ _ rfl (hown.alloc _) ⟨wr.heap.size, 0, none⟩ 1 1 [.int .i64 ((k : Int) + 1)] rfl rfl (World.news_of_block (cs := #[.int .i64 ((k : Int) + 1)]) (t := 3) (fr := (0, 0)) (heap_alloc_new wr _)) (by simp [Value.oneCell']) (by omega) (by unfold maxLen; omega) (by omega) (by simp; omega) (wr.heap.size + 1) (by simp) ?_; intro gg cap w3 hown3 hgrow3 hat3 hlt3)
      · have hs2 := startsTo_nl (l := s.data.toList) (k := k) (byte_nl s k hlt (eq_of_beq ‹((s[k].toNat : Int) == 10) = true›))
        go_roundw
        case rel => exact ⟨k + 1, cap, gg, by omega, by go_num, by rw [hs2, List.length_append, HM.out]; rfl, hlt3, by rw [hs2, List.length_append, HM.out]; rw [numCells, List.map_append]; exact hown3, (balloc hbw _).grown hgrow3 (by simp; omega) (fun i hi => (hown.lt i hi).1)⟩
        case measure => simp [intOf]; omega
      · have hs2 := startsTo_no (l := s.data.toList) (k := k) (byte_no s k hlt (ne_of_beq_false ‹((s[k].toNat : Int) == 10) = false›))
        rw [← hs2] at HM
        go_roundw
        case rel => exact ⟨k + 1, c, g, by omega, by go_num, by rw [HM.out], hg, by rw [HM.out, hs2]; exact hown, hbw⟩
        case measure => simp [intOf]; omega
    · have hkn : k = s.data.toList.length := by simp; omega
      subst hkn
      go_wp2
      go_ret
      exact ⟨g, c, rfl, hg, hown, hbw⟩
theorem implLineStart_any (s : ByteArray) (n : Int) (w : World) (hs : s.size ≤ maxLen) :
    Calls Tryd.prog 14 #[.string s, .int .i64 n] w fun e w' => e = .returned (.int .i64 (lineStartI s.data.toList n)) ∧ Below w.heap.size w w' := by
  cases hl : lineB s.data.toList n
  · rw [lineB_0 hl]
    have H := Lib.hid hl
    clear hl
    go_enter Tryd.func14, Tryd.ntmps14
    go_wp2_with (go_at_call 34; refine (isLine_any _ _ _ hs).mono ?_; rw [H.out]; rintro e w' ⟨rfl, rfl⟩)
    go_ret
    exact ⟨rfl, Below.refl _ _⟩
  · obtain ⟨ht, x, hx, hlx, hn0, hnl⟩ := lineB_1 hl
    rw [hlx]
    have H := Lib.hid hl
    have hs' := tv_size ht
    obtain ⟨m, rfl⟩ := Int.eq_ofNat_of_zero_le hn0
    rw [Int.toNat_natCast] at hx hnl
    have HX := Lib.hid hx
    obtain ⟨q, hq⟩ : ∃ q, (startsTo s.data.toList s.data.toList.length).length = q := ⟨_, rfl⟩
    rw [hq] at hnl
    have HQ := Lib.hid hq
    clear hl ht hx hlx hq
    go_enter Tryd.func14, Tryd.ntmps14
    go_wp2_with (first | (go_at_call 34; refine (isLine_any _ _ _ hs).mono ?_; rw [H.out]; rintro e w' ⟨rfl, rfl⟩) | (go_at_call 35; refine (starts_any _ _ hs').mono ?_; rintro e w1 ⟨g, c, rfl, hg, hown, hb⟩; rw [HQ.out] at hown ⊢; have hx := (hown.cellAt m (by omega)).trans (numCells_at HX.out)))
    go_ret
    exact ⟨rfl, hb⟩
set_option maxRecDepth 100000 in
theorem strIndex_nl (s : ByteArray) (w : World) :
    Calls Tryd.prog 36 #[.string s, .int .u8 10] w fun e w' => e = .returned (.int .i64 (firstI s.data.toList)) ∧ w = w' := by
  have h1 : Calls Tryd.prog 49 #[.string s, .int .u8 10] w fun e w' => e = .returned (.int .i64 (firstI s.data.toList)) ∧ w = w' := by
    go_enter Tryd.func49, Tryd.ntmps49
    go_wp2
    rw [run_callFunc_extern Tryd.func59 (by kernel_rfl) (by kernel_rfl) (by kernel_rfl) (e := Extern.BytealgIndexByte.indexByte) (by kernel_rfl), Lib.run_indexByteString]
    simp only [Result.andThen]
    rw [Oper.upon_value]
    go_wp2
    go_ret
    exact ⟨congrArg (fun z => Ending.returned (.int .i64 z)) (indexByte_nl _), rfl⟩
  go_enter Tryd.func36, Tryd.ntmps36
  go_wp2_with (go_at_call 49; refine h1.mono ?_; rintro e w' ⟨rfl, rfl⟩)
  go_ret
  exact ⟨rfl, rfl⟩
theorem implLineEnd_any (s : ByteArray) (n : Int) (w : World) (hs : s.size ≤ maxLen) :
    Calls Tryd.prog 15 #[.string s, .int .i64 n] w fun e w' => e = .returned (.int .i64 (lineEndI s.data.toList n)) ∧ Below w.heap.size w w' := by
  cases hl : lineB s.data.toList n
  · rw [lineEndI_0 (lineB_0 hl)]
    have H := Lib.hid hl
    clear hl
    go_enter Tryd.func15, Tryd.ntmps15
    go_wp2_with (go_at_call 34; refine (isLine_any _ _ _ hs).mono ?_; rw [H.out]; rintro e w' ⟨rfl, rfl⟩)
    go_ret
    exact ⟨rfl, Below.refl _ _⟩
  · obtain ⟨ht, x, hx, hlx, hn0, hnl⟩ := lineB_1 hl
    rw [lineEndI_1 hlx]
    have H := Lib.hid hl
    have hs' := tv_size ht
    obtain ⟨m, rfl⟩ := Int.eq_ofNat_of_zero_le hn0
    rw [Int.toNat_natCast] at hx hnl
    have hxs : x ≤ s.size := by have := (startsTo_at s.data.toList s.data.toList.length (Nat.le_refl _) _ _ hx).1; simpa using this
    have HX := Lib.hid hx
    obtain ⟨q, hq⟩ : ∃ q, (startsTo s.data.toList s.data.toList.length).length = q := ⟨_, rfl⟩
    rw [hq] at hnl
    have HQ := Lib.hid hq
    have he : (s.extract x s.size).data.toList = s.data.toList.drop x := by rw [extract_tail, mk_data]
    have hle := nlAt_le (s.data.toList.drop x)
    rw [List.length_drop] at hle
    obtain ⟨z, hz⟩ : ∃ z, nlAt (s.data.toList.drop x) = z := ⟨_, rfl⟩
    rw [hz] at hle ⊢
    have hle2 : x + z ≤ s.size := by simp at hle; omega
    by_cases hzz : x + z = s.size
    · have HE := Lib.hid (show firstI (s.extract x s.size).data.toList = -1 from by unfold firstI; rw [he, hz, if_pos (by rw [List.length_drop]; simp; omega)])
      have hzq : (x : Int) + z = s.size := by omega
      rw [hzq]
      clear hl ht hx hlx hq he hz hle hle2 hzz hzq
      go_enter Tryd.func15, Tryd.ntmps15
      go_wp2_with (first | (go_at_call 34; refine (isLine_any _ _ _ hs).mono ?_; rw [H.out]; rintro e w' ⟨rfl, rfl⟩) | (go_at_call 35; refine (starts_any _ _ hs').mono ?_; rintro e w1 ⟨g, c, rfl, hg, hown, hb⟩; rw [HQ.out] at hown ⊢; have hx := (hown.cellAt m (by omega)).trans (numCells_at HX.out)) | (go_at_call 36; refine (strIndex_nl _ _).mono ?_; rw [HE.out]; rintro e w' ⟨rfl, rfl⟩))
      go_ret
      exact ⟨rfl, hb⟩
    · have HE := Lib.hid (show firstI (s.extract x s.size).data.toList = (z : Int) from by unfold firstI; rw [he, hz, if_neg (by rw [List.length_drop]; simp; omega)])
      clear hl ht hx hlx hq he hz hle hzz
      go_enter Tryd.func15, Tryd.ntmps15
      go_wp2_with (first | (go_at_call 34; refine (isLine_any _ _ _ hs).mono ?_; rw [H.out]; rintro e w' ⟨rfl, rfl⟩) | (go_at_call 35; refine (starts_any _ _ hs').mono ?_; rintro e w1 ⟨g, c, rfl, hg, hown, hb⟩; rw [HQ.out] at hown ⊢; have hx := (hown.cellAt m (by omega)).trans (numCells_at HX.out)) | (go_at_call 36; refine (strIndex_nl _ _).mono ?_; rw [HE.out]; rintro e w' ⟨rfl, rfl⟩))
      go_ret
      exact ⟨rfl, hb⟩
set_option maxHeartbeats 400000 in
theorem specLineEnd_any (s : ByteArray) (n : Int) (w : World) (hs : s.size ≤ maxLen) :
    Calls Tryd.prog 32 #[.string s, .int .i64 n] w fun e w' => e = .returned (.int .i64 (lineEndI s.data.toList n)) ∧ w = w' := by
  rcases lineStartI_cases s.data.toList n with hl | ⟨x, hl, hx⟩
  · rw [lineEndI_0 hl]
    have H := Lib.hid hl
    clear hl
    go_enter Tryd.func32, Tryd.ntmps32
    go_wp2_with (go_at_call 31; refine (specLineStart_any _ _ _ hs).mono ?_; rw [H.out]; rintro e w' ⟨rfl, rfl⟩)
    refine wp_loop_rounds 1 ?_
    rw [rounds_succ]
    go_wp2
    go_ret
    exact ⟨rfl, rfl⟩
  · rw [lineEndI_1 hl]
    have H := Lib.hid hl
    have hx2 : x ≤ s.size := by simpa using hx
    have hxs : s.size ≤ 9223372036854775807 := hs
    clear hl hx
    go_enter Tryd.func32, Tryd.ntmps32
    go_wp2_with (go_at_call 31; refine (specLineStart_any _ _ _ hs).mono ?_; rw [H.out]; rintro e w' ⟨rfl, rfl⟩)
    go_loop [5] (fun i => ∃ k : Nat, x ≤ k ∧ k ≤ s.size ∧ i = .int .i64 k ∧ ∀ j, x ≤ j → j < k → s.data.toList[j]? ≠ some 10) (fun i => s.size - (intOf i).toNat)
    case atStart => exact ⟨x, Nat.le_refl _, hx2, rfl, fun j h1 h2 => absurd h2 (by omega)⟩
    case round =>
      obtain ⟨k, hxk, hk, rfl, hno⟩ := hrel
      have hD : ∀ (h : k = s.size ∨ s.data.toList[k]? = some 10), nlAt (s.data.toList.drop x) = k - x := fun h => by
        refine nlAt_eq (by simp; omega) (fun j hj => ?_) ?_
        · rw [List.getElem?_drop]
          exact hno _ (by omega) (by omega)
        · rcases h with h | h
          · exact .inl (by simp; omega)
          · refine .inr ?_
            rw [List.getElem?_drop, show x + (k - x) = k by omega]
            exact h
      have HD := Lib.hid hD
      have HN := Lib.hid hno
      clear hD hno
      by_cases hlt : k < s.size
      · go_wp2
        · go_round
          case rel => exact ⟨k + 1, by omega, by omega, by go_num, fun j h1 h2 => by
            by_cases e : j = k
            · subst e
              exact byte_no s j hlt (by simpa using ‹((s[j].toNat : Int) != 10) = true›)
            · exact HN.out j h1 (by omega)⟩
          case measure => simp [intOf]; omega
        · go_ret
          exact ⟨ret_int (by rw [HD.out (.inr (byte_nl s k hlt (by simpa using ‹((s[k].toNat : Int) != 10) = false›)))]; omega), rfl⟩
      · go_wp2
        go_ret
        exact ⟨ret_int (by rw [HD.out (.inl (by omega))]; omega), rfl⟩
end Go.Proofs.YtecejfcoognkiaaDoor
