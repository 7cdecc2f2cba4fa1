/- What the drawing functions leave: texts with lines and numbers, rows of lines. -/
import Derived.Test.YtecejfcoognkiaaDoorD8
import Derived.Test.YtecejfcoognkiaaDoorW25
import Derived.Test.YtecejfcoognkiaaDoorW31
namespace Go.Proofs.YtecejfcoognkiaaDoor
open Go.RowKit

/-- What a drawn text and line leave. -/
def LineV (T : TypeId) (w : World) (r P : Nat) (e : Ending) (w' : World) : Prop := ∃ (s : ByteArray) (p : Int), e = .returned (.tuple #[.string s, .int .i64 p]) ∧ s.size ≤ 125 ∧ (-1 ≤ p ∧ p ≤ 1000) ∧ Rd T w' r P ∧ w.grownBy w' (some r)
set_option maxHeartbeats 400000 in
theorem line_drawB (r P : Nat) (w : World) (h : Rd 61 w r P) (hP : P ≤ 999999000) :
    Calls Tryd.prog 40 #[.pointer (some ⟨r, 0, none⟩)] w (LineV 61 w r (P + 40)) := by
  go_enter Tryd.func40, Tryd.ntmps40
  go_wp2_with fail
  refine (text_draw _ _ _ _ h (by omega)).mono ?_
  rintro e w1 ⟨s, rfl, hs, hr1, hg1⟩
  have hsm : s.size ≤ maxLen := by unfold maxLen; omega
  have h1 : lineManyI s.data.toList = -1 ∨ 1 ≤ lineManyI s.data.toList := by
    cases ht : tvB s.data.toList
    · exact .inl (lineManyI_0 ht)
    · rw [lineManyI_1 ht]
      omega
  have h2 : lineManyI s.data.toList ≤ 126 := by
    cases ht : tvB s.data.toList
    · rw [lineManyI_0 ht]
      omega
    · rw [lineManyI_1 ht]
      have := nlc_le s.data.toList
      have e : s.data.toList.length = s.size := rfl
      omega
  generalize hm : lineManyI s.data.toList = m at h1 h2
  have HM := Lib.hid hm
  clear hm
  rcases (show m = -1 ∨ m = 1 ∨ 1 < m by omega) with rfl | rfl | hm1
  all_goals
    go_wp2_with (go_at_call 30; refine (specLineMany_any _ _ hsm).mono ?_; rw [HM.out]; rintro e w' ⟨rfl, rfl⟩)
    refine (pick_any r _ _ _ hr1 (by omega)).mono ?_
    rintro e w2 ⟨K, rfl, hK0, hK1, hr2, hg2⟩
    have hK2 := hK1 (by omega)
    have hK3 : K ≤ 1000 := by omega
    clear hK1 hK2
    go_wp2
    go_ret2
    exact ⟨s, _, rfl, hs, by omega, hr2.more (by omega), gtrans hg1 hg2⟩
/-- What a function that draws a text and two numbers leaves. -/
def DCutV (w : World) (e : Ending) (w' : World) : Prop := ∃ (s : ByteArray) (p m : Int), e = .returned (.tuple #[.string s, .int .i64 p, .int .i64 m]) ∧ s.size ≤ 125 ∧ (-1 ≤ p ∧ p ≤ 1000) ∧ (0 ≤ m ∧ m ≤ 5) ∧ Below w.heap.size w w'
theorem DrawCutLines_any (A : Option Addr) (n c : Nat) (w : World) (h : Byt w w.heap.size A n) (hnc : n ≤ c) (hc : c ≤ maxLen) :
    Calls Tryd.prog 22 #[.slice A n c] w (DCutV w) := by
  go_enter Tryd.func22, Tryd.ntmps22
  go_wp2_with fail
  refine (open_any _ _ _ _ h hnc hc).mono ?_
  rintro e w1 ⟨r, rfl, hr, hrd, hb1⟩
  go_wp2_with fail
  refine (line_drawB _ _ _ hrd (by omega)).mono ?_
  rintro e w2 ⟨s, p, rfl, hs, hp, hrd2, hg2⟩
  go_wp2_with fail
  refine (pick_any r _ _ _ hrd2 (by omega)).mono ?_
  rintro e w3 ⟨K, rfl, hK0, hK1, hr3, hg3⟩
  have hK2 := hK1 (by decide)
  go_wp2
  go_ret3
  exact ⟨s, p, K, rfl, hs, hp, by omega, brd hb1 (gtrans hg2 hg3) hr⟩
/-- What a function that draws two texts and a number leaves. -/
def DPutV (w : World) (e : Ending) (w' : World) : Prop := ∃ (s : ByteArray) (p : Int) (t : ByteArray), e = .returned (.tuple #[.string s, .int .i64 p, .string t]) ∧ s.size ≤ 125 ∧ (-1 ≤ p ∧ p ≤ 1000) ∧ t.size ≤ 125 ∧ Below w.heap.size w w'
theorem DrawPutLines_any (A : Option Addr) (n c : Nat) (w : World) (h : Byt w w.heap.size A n) (hnc : n ≤ c) (hc : c ≤ maxLen) :
    Calls Tryd.prog 18 #[.slice A n c] w (DPutV w) := by
  go_enter Tryd.func18, Tryd.ntmps18
  go_wp2_with fail
  refine (open_any _ _ _ _ h hnc hc).mono ?_
  rintro e w1 ⟨r, rfl, hr, hrd, hb1⟩
  go_wp2_with fail
  refine (line_drawB _ _ _ hrd (by omega)).mono ?_
  rintro e w2 ⟨s, p, rfl, hs, hp, hrd2, hg2⟩
  go_wp2_with fail
  refine (text_draw _ _ _ _ hrd2 (by omega)).mono ?_
  rintro e w3 ⟨t, rfl, ht, hr3, hg3⟩
  go_wp2
  go_ret3
  exact ⟨s, p, t, rfl, hs, hp, ht, brd hb1 (gtrans hg2 hg3) hr⟩
/-- What a function that draws lines leaves. -/
def DLinesV (T : TypeId) (w : World) (e : Ending) (w' : World) : Prop := ∃ (A : Option Addr) (n c : Nat) (xs : List ByteArray), e = .returned (.slice A n c) ∧ OwnS T w' w.heap.size A n c xs ∧ n ≤ 200 ∧ (∀ x ∈ xs, x.size ≤ 200) ∧ Below w.heap.size w w'
theorem strs_new {w : World} (T : TypeId) (x : ByteArray) (q : Nat) : Strs ((w.drewN q).alloc (.cells #[.string x] T)) (w.heap.size + 1) (some ⟨w.heap.size, 0, none⟩) 1 [x] := by
  refine ⟨rfl, fun _ => ⟨_, rfl, Nat.lt_succ_self _, fun k y hk => ?_⟩⟩
  cases k with
  | zero =>
    injection hk with hk
    subst hk
    exact Lib.cell_of_heap (heap_alloc_new (w.drewN q) _) 0
  | succ k => cases hk
set_option maxHeartbeats 800000 in
theorem DrawLinesText_any (A : Option Addr) (n c : Nat) (w : World) (h : Byt w w.heap.size A n) (hnc : n ≤ c) (hc : c ≤ maxLen) :
    Calls Tryd.prog 24 #[.slice A n c] w (DLinesV 9 w) := by
  obtain ⟨i0, hi, hz0, hz1, hz2⟩ := info_parts strInfo
  go_enter Tryd.func24, Tryd.ntmps24
  go_wp2_with fail
  refine (open_any _ _ _ _ h hnc hc).mono ?_
  rintro e w1 ⟨r, rfl, hr, hrd, hb1⟩
  go_wp2_with fail
  refine (text_draw _ _ _ _ hrd (by omega)).mono ?_
  rintro e w2 ⟨s, rfl, hs, hrd2, hg2⟩
  have hb2 := brd hb1 hg2 hr
  have hr2 := hrd2.lt
  go_wp2_with fail
  refine (specLinesOf_any s _ (by omega)).mono ?_
  rintro e w3 ⟨A3, n3, c3, rfl, ho3, hb3⟩
  have hrd3 := hrd2.below hb3 hr2
  have hb23 := bstep hb2 hb3
  have hx3 : n3 ≤ 126 ∧ ∀ x ∈ linesR s, x.size ≤ 200 := by
    have h2 := ho3.1
    have hsl : s.data.toList.length = s.size := rfl
    cases ht : tvB s.data.toList
    · rw [linesR_0 ht] at h2 ⊢
      exact ⟨by simp at h2; omega, fun x hx => by cases hx⟩
    · rw [linesR_1 ht] at h2 ⊢
      have := nlc_le s.data.toList
      rw [linesB_length] at h2
      refine ⟨by omega, fun x hx => ?_⟩
      obtain ⟨y, hy, rfl⟩ := List.mem_map.1 hx
      have h1 := joinL_mem_len _ _ hy
      rw [joinL_lines] at h1
      rw [mk_size]
      omega
  obtain ⟨xs, hxs⟩ : ∃ xs, linesR s = xs := ⟨_, rfl⟩
  rw [hxs] at ho3 hx3
  obtain ⟨hn3, hx3⟩ := hx3
  have HX := Lib.hid hx3
  clear hx3 hxs
  go_wp2_with fail
  refine (odd_any r _ _ _ hrd3 (by omega)).mono ?_
  rintro e w4 ⟨b, rfl, hrd4, hg4⟩
  have hne : ∀ (A : Option Addr) n c (w' : World) xs, OwnS 9 w' w2.heap.size A n c xs → ∀ k, (Value.slice A n c).ownBlock = some k → w2.heap.size ≤ k := fun A n c w' xs ho k hk => (ho.2.lt k hk).1
  have hkeep : ∀ (w w' : World) A n c xs, OwnS 9 w w2.heap.size A n c xs → w.grownBy w' (some r) → OwnS 9 w' w2.heap.size A n c xs := fun w w' A n c xs ho hg => by
    refine ⟨ho.1, ho.2.kept hg ?_⟩
    cases hk : (Value.slice A n c).ownBlock with
    | none => exact .inl rfl
    | some k => exact .inr fun e => by have h1 := hne _ _ _ _ _ ho k hk; injection e with e; omega
  have ho4 := hkeep _ _ _ _ _ _ ho3 hg4
  have hb4 := brd hb23 hg4 hr
  have hz23 := hb2.size
  cases b
  · go_wp2
    go_ret
    exact ⟨A3, n3, c3, xs, rfl, ho4.base hz23, by omega, HX.out, hb4⟩
  · go_wp2_with fail
    refine (pick_any r _ _ _ hrd4 (by omega)).mono ?_
    rintro e w5 ⟨K, rfl, hK0, hK1, hrd5, hg5⟩
    have ho5 := hkeep _ _ _ _ _ _ ho4 hg5
    have hb5 := brd hb4 hg5 hr
    have hz5 : w2.heap.size ≤ w5.heap.size := Nat.le_trans hb3.size (Nat.le_trans hg4.size hg5.size)
    have hz05 := hb5.size
    have ho6 : ∀ x, OwnS 9 (w5.alloc (.cells #[.string x] 9)) w2.heap.size A3 n3 c3 xs := fun x => ⟨ho5.1, ho5.2.alloc _⟩
    have hs6 : ∀ x, Strs (w5.alloc (.cells #[.string x] 9)) (w5.heap.size + 1) (some ⟨w5.heap.size, 0, none⟩) 1 [x] := fun x => strs_new (w := w5) 9 x 0
    have hz6 : ∀ x, w2.heap.size ≤ (w5.alloc (.cells #[.string x] 9)).heap.size := fun x => by simp; omega
    have hfin : ∀ (x : ByteArray) A' c' w', x.size ≤ 200 → OwnS 9 w' w2.heap.size A' (n3 + 1) c' (xs ++ [x]) → (w5.alloc (.cells #[.string x] 9)).grownBy w' (Value.slice A3 n3 c3).ownBlock → DLinesV 9 w (.returned (.slice A' (n3 + 1) c')) w' := fun x A' c' w' hx ho hg => by
      refine ⟨A', n3 + 1, c', xs ++ [x], rfl, ho.base hz23, by omega, fun y hy => ?_, ?_⟩
      · rcases List.mem_append.1 hy with hy | hy
        · exact HX.out y hy
        · have : y = x := by simpa using hy
          subst this
          exact hx
      · exact (balloc hb5 _).grown hg (by simp; omega) (fun k hk => Nat.le_trans hz23 (hne _ _ _ _ _ ho5 k hk))
    have HO6 := Lib.hid ho6
    have HS6 := Lib.hid hs6
    have HZ6 := Lib.hid hz6
    have HFIN := Lib.hid hfin
    have hown0 := owns_empty w5 w.heap.size 9 1 hz05
    have HE := Lib.hid hown0
    clear ho6 hs6 hz6 hfin hne hkeep hown0 ho3 ho4
    by_cases k0 : K = 0
    · subst k0
      go_wp2
      go_ret
      exact ⟨_, _, _, [], rfl, ⟨rfl, HE.out⟩, by omega, (fun x hx => by cases hx), balloc hb5 _⟩
    · have k0' : (K == 0) = false := by simpa using k0
      by_cases k1 : K = 1
      · subst k1
        go_wp2_with (at_builtin; refine wpList_append_strs rfl _ _ 24 rfl 9 i0 _ Tryd.underlying24 hi hz0 hz1 hz2 rfl w2.heap.size n3 c3 A3 xs rfl (HO6.out _) (some ⟨w5.heap.size, 0, none⟩) 1 1 (w5.heap.size + 1) _ rfl (HS6.out _) ?_ (HZ6.out _) (n3 + 1) rfl _ rfl ?_; omega; intro A7 c7 w7 ho7 hg7)
        go_ret
        exact HFIN.out _ _ _ _ (by decide) ho7 hg7
      · have k1' : (K == 1) = false := by simpa using k1
        by_cases k2 : K = 2
        · subst k2
          go_wp2_with (at_builtin; refine wpList_append_strs rfl _ _ 24 rfl 9 i0 _ Tryd.underlying24 hi hz0 hz1 hz2 rfl w2.heap.size n3 c3 A3 xs rfl (HO6.out _) (some ⟨w5.heap.size, 0, none⟩) 1 1 (w5.heap.size + 1) _ rfl (HS6.out _) ?_ (HZ6.out _) (n3 + 1) rfl _ rfl ?_; omega; intro A7 c7 w7 ho7 hg7)
          go_ret
          exact HFIN.out _ _ _ _ (by decide) ho7 hg7
        · have k2' : (K == 2) = false := by simpa using k2
          go_wp2_with (at_builtin; refine wpList_append_strs rfl _ _ 24 rfl 9 i0 _ Tryd.underlying24 hi hz0 hz1 hz2 rfl w2.heap.size n3 c3 A3 xs rfl (HO6.out _) (some ⟨w5.heap.size, 0, none⟩) 1 1 (w5.heap.size + 1) _ rfl (HS6.out _) ?_ (HZ6.out _) (n3 + 1) rfl _ rfl ?_; omega; intro A7 c7 w7 ho7 hg7)
          go_ret
          exact HFIN.out _ _ _ _ (by decide) ho7 hg7
end Go.Proofs.YtecejfcoognkiaaDoor
