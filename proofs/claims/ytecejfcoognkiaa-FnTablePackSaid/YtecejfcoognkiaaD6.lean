/- Changes drawn from codes. -/
import Derived.Test.YtecejfcoognkiaaD4
import Derived.Test.YtecejfcoognkiaaD3
import Derived.Test.YtecejfcoognkiaaPb
import Derived.Deep.DeepCutAuto
namespace Go.Proofs.Ytecejfcoognkiaa
open Go.RowKit

/-- What a drawn change leaves. -/
def ChangeVal (T : TypeId) (w : World) (r P : Nat) (e : Ending) (w' : World) : Prop := ∃ (a c : Int) (p : ByteArray), e = .returned (.agg #[.int .i64 a, .int .i64 c, .string p]) ∧ p.size ≤ 130 ∧ Rd T w' r P ∧ w.grownBy w' (some r)
theorem nonneg3 (a b c : Int) (h0 : 0 ≤ a) (h1 : 0 ≤ b) (h2 : 0 ≤ c) : ∀ x ∈ [a, b, c], 0 ≤ x := by
  intro x hx
  simp only [List.mem_cons, List.mem_nil_iff, or_false] at hx
  omega
set_option maxRecDepth 100000 in
set_option maxHeartbeats 6400000 in
theorem change_draw (r P : Nat) (s : ByteArray) (n : Int) (w : World) (h : Rd 55 w r P) (hP : P ≤ 999999000) (hs : s.size ≤ 130) :
    Calls Try.prog 33 #[.pointer (some ⟨r, 0, none⟩), .string s, .int .i64 n] w (ChangeVal 55 w r (P + 50)) := by
  have hrl := h.lt
  have k0 := Lib.hid (heap_alloc_new w (.cells #[.int .i64 0, .int .i64 0, .string ⟨#[]⟩] 50))
  have hg0 := World.grownBy_alloc w (.cells #[.int .i64 0, .int .i64 0, .string ⟨#[]⟩] 50) (some r)
  go_enter Try.func33, Try.ntmps33
  go_wp2_with fail
  refine (pick_any r _ _ _ (h.alloc _) (by omega)).mono ?_
  rintro e w1 ⟨K, rfl, hK0, hK1, hr1, hg1⟩
  have hK2 := hK1 (by omega)
  obtain ⟨a, rfl⟩ := Int.eq_ofNat_of_zero_le hK0
  have hz1 := hg1.size
  simp only [World.size_alloc] at hz1
  have B1 : B3 w1 w.heap.size 50 (.int .i64 0) (.int .i64 0) (.string ⟨#[]⟩) := (B3.new w 50 _ _ _).grown hg1 (by intro e; injection e with e; omega)
  have hgw1 := gtrans hg0 hg1
  clear hK0 hK1 hg0 hg1 k0 h
  go_upto_region 2 with fail
  go_cut [8] (fun s8 wx => ∃ c : Int, s8 = .int .i64 c ∧ Rd 55 wx r (P + 5) ∧ w.grownBy wx (some r) ∧ B3 wx w.heap.size 50 (.int .i64 0) (.int .i64 0) (.string ⟨#[]⟩))
  case first =>
    go_wp2_with fail
    refine (pick_any r _ _ _ hr1 (by omega)).mono ?_
    rintro e w2 ⟨K2, rfl, hK20, _, hr2, hg2⟩
    have hgw2 := gtrans hgw1 hg2
    have B2 := B1.grown hg2 (by intro e; injection e with e; omega)
    clear hg2 hgw1 hr1 B1
    go_wp2_with fail
    refine (pick_any r _ _ _ hr2 (by omega)).mono ?_
    rintro e w3 ⟨K3, rfl, hK30, _, hr3, hg3⟩
    have hgw3 := gtrans hgw2 hg3
    have hz3 := hr3.lt
    have B3' := (B2.grown hg3 (by intro e; injection e with e; omega)).alloc (.cells #[.int .i64 0, .int .i64 K2, .int .i64 K3] 3)
    have q3 : IntsAt (w3.alloc (.cells #[.int .i64 0, .int .i64 K2, .int .i64 K3] 3)) w3.heap.size 3 (fun x => 0 ≤ x) := IntsAt.new w3 3 [0, K2, K3] (nonneg3 _ _ _ (Int.le_refl _) hK20 hK30)
    clear hg3 hgw2 hr2 B2
    go_wp2_with fail
    refine (pick_any r _ _ _ (hr3.alloc _) (by omega)).mono ?_
    rintro e w4 ⟨I, rfl, hI0, hI1, hr4, hg4⟩
    have hI2 := hI1 (by decide)
    obtain ⟨i, rfl⟩ := Int.eq_ofNat_of_zero_le hI0
    have hgw4 := gtrans (galloc hgw3 _) hg4
    have B4 := B3'.grown hg4 (by intro e; injection e with e; omega)
    obtain ⟨x, hcx, hx⟩ := (q3.kept hg4 (by omega)) i (by omega)
    clear hg4 hgw3 hr3 B3' q3 hI0 hI1 hK20 hK30
    by_cases hm : (s.size : Int) - a ≤ x
    all_goals
      go_wp2_with fail
      go_meet
      exact ⟨_, rfl, hr4.more (by omega), hgw4, B4⟩
  case rest =>
  obtain ⟨cut, rfl, hr4, hgw4, B4⟩ := hcut
  clear hr1 hgw1 B1
  go_wp2_with fail
  refine (text_draw r _ _ _ hr4 (by omega)).mono ?_
  rintro e w5 ⟨p, rfl, hp, hr5, hg5⟩
  have hgw5 := gtrans hgw4 hg5
  have B5 := B4.grown hg5 (by intro e; injection e with e; omega)
  clear hg5 hgw4 hr4 B4
  go_upto_region 4 with fail
  go_cut [9] (fun s9 wx => ∃ q : ByteArray, s9 = .string q ∧ q.size ≤ 125 ∧ Rd 55 wx r (P + 39) ∧ w.grownBy wx (some r) ∧ B3 wx w.heap.size 50 (.int .i64 0) (.int .i64 0) (.string ⟨#[]⟩))
  case first =>
    go_wp2_with fail
    refine (pick_any r _ _ _ hr5 (by omega)).mono ?_
    rintro e w6 ⟨K6, rfl, hK60, _, hr6, hg6⟩
    have hgw6 := gtrans hgw5 hg6
    have B6 := B5.grown hg6 (by intro e; injection e with e; omega)
    clear hg6 hgw5 hr5 B5
    go_wp2_with fail
    refine (pick_any r _ _ _ hr6 (by omega)).mono ?_
    rintro e w7 ⟨K7, rfl, hK70, _, hr7, hg7⟩
    have hgw7 := gtrans hgw6 hg7
    have hz7 := hr7.lt
    have B7 := (B6.grown hg7 (by intro e; injection e with e; omega)).alloc (.cells #[.int .i64 0, .int .i64 K6, .int .i64 K7] 3)
    have q7 : IntsAt (w7.alloc (.cells #[.int .i64 0, .int .i64 K6, .int .i64 K7] 3)) w7.heap.size 3 (fun x => 0 ≤ x) := IntsAt.new w7 3 [0, K6, K7] (nonneg3 _ _ _ (Int.le_refl _) hK60 hK70)
    clear hg7 hgw6 hr6 B6
    go_wp2_with fail
    refine (pick_any r _ _ _ (hr7.alloc _) (by omega)).mono ?_
    rintro e w8 ⟨J, rfl, hJ0, hJ1, hr8, hg8⟩
    have hJ2 := hJ1 (by decide)
    obtain ⟨j, rfl⟩ := Int.eq_ofNat_of_zero_le hJ0
    have hgw8 := gtrans (galloc hgw7 _) hg8
    have B8 := B7.grown hg8 (by intro e; injection e with e; omega)
    obtain ⟨y, hcy, hy⟩ := (q7.kept hg8 (by omega)) j (by omega)
    clear hg8 hgw7 hr7 B7 q7 hJ0 hJ1 hK60 hK70
    by_cases hm2 : (p.size : Int) ≤ y
    all_goals
      go_wp2_with fail
      go_meet
      exact ⟨_, rfl, by first | omega | (rw [ByteArray.size_extract]; omega), hr8.more (by omega), hgw8, B8⟩
  case rest =>
  obtain ⟨q, rfl, hq, hr8, hgw8, B8⟩ := hcut
  obtain ⟨w8, rfl⟩ : ∃ w8 : World, w8 = wc := ⟨_, rfl⟩
  clear hr5 hgw5 B5
  have hr80 := hr8.lt
  have hw80 := B8.lt
  go_wp2_with fail
  refine (odd_any r _ _ _ (hr8.alloc _) (by omega)).mono ?_
  rintro e w9 ⟨b, rfl, hr9, hg9⟩
  have hz9 := hg9.size
  simp only [World.size_alloc] at hz9
  have G9 : B3 w9 w8.heap.size 50 (.int .i64 a) (.int .i64 cut) (.string q) := (B3.new w8 50 _ _ _).grown hg9 (by intro e; injection e with e; omega)
  have hgw9 := gtrans (galloc hgw8 _) hg9
  have B9 := (B8.alloc _).grown hg9 (by intro e; injection e with e; omega)
  have hne : ¬ w.heap.size = w8.heap.size := by omega
  have hne' : ¬ w8.heap.size = w.heap.size := by omega
  have hw8 : w.heap.size ≤ w8.heap.size := by omega
  clear hg9 B8 hgw8 hr8
  cases b
  · obtain ⟨d0, d1, d2⟩ := B9.cells
    obtain ⟨df0, df1, df2⟩ := B9.free
    obtain ⟨c0, c1, c2⟩ := G9.cells
    obtain ⟨cf0, cf1, cf2⟩ := G9.free
    go_wp2
    refine bodyPost_ret (v := .agg #[.int .i64 a, .int .i64 cut, .string q]) (by simp [results, Try.results33, go_sem, d0, d1, d2]) rfl ?_
    exact ⟨_, _, q, rfl, by omega, (((hr9.set (by simp only []; omega) _).set (by simp only []; omega) _).set (by simp only []; omega) _).more (by omega), gset (gset (gset hgw9 (Nat.le_refl _) _) (Nat.le_refl _) _) (Nat.le_refl _) _⟩
  · go_wp2_with fail
    refine (pick_any r _ _ _ hr9 (by omega)).mono ?_
    rintro e w10 ⟨K, rfl, hK0, hK1, hr10, hg10⟩
    have hgw10 := gtrans hgw9 hg10
    have hz10 := hg10.size
    have B10 := B9.grown hg10 (by intro e; injection e with e; omega)
    have G10 := G9.grown hg10 (by intro e; injection e with e; omega)
    clear hg10 hgw9 hr9 B9 G9 hK0 hK1
    by_cases h0 : K = 0
    · subst h0
      have q10 : IntsAt (w10.alloc (.cells #[.int .i64 (-1), .int .i64 ((s.size : Int) + 1), .int .i64 9223372036854775807] 3)) w10.heap.size 3 (fun _ => True) := IntsAt.new w10 3 [-1, ((s.size : Int) + 1), 9223372036854775807] (fun _ _ => trivial)
      go_wp2_with fail
      refine (pick_any r _ _ _ (hr10.alloc _) (by omega)).mono ?_
      rintro e w11 ⟨I, rfl, hI0, hI1, hr11, hg11⟩
      have hI2 := hI1 (by decide)
      obtain ⟨l, rfl⟩ := Int.eq_ofNat_of_zero_le hI0
      obtain ⟨v, hcv, _⟩ := (q10.kept hg11 (by omega)) l (by omega)
      have hgw11 := gtrans (galloc hgw10 _) hg11
      have B11 := (B10.alloc _).grown hg11 (by intro e; injection e with e; omega)
      have G11 := (G10.alloc _).grown hg11 (by intro e; injection e with e; omega)
      clear q10 hI0 hI1 hg11 B10 G10 hr10 hgw10
      obtain ⟨d0, d1, d2⟩ := B11.cells
      obtain ⟨df0, df1, df2⟩ := B11.free
      obtain ⟨c0, c1, c2⟩ := G11.cells
      obtain ⟨cf0, cf1, cf2⟩ := G11.free
      go_wp2
      refine bodyPost_ret (v := .agg #[.int .i64 v, .int .i64 cut, .string q]) (by simp [results, Try.results33, go_sem, d0, d1, d2]) rfl ?_
      exact ⟨_, _, q, rfl, by omega, ((((hr11.set (by simp only []; omega) _).set (by simp only []; omega) _).set (by simp only []; omega) _).set (by simp only []; omega) _).more (by omega), gset (gset (gset (gset hgw11 (by simp only []; omega) _) (Nat.le_refl _) _) (Nat.le_refl _) _) (Nat.le_refl _) _⟩
    · have h0' : (K == 0) = false := by simpa using h0
      by_cases h1 : K = 1
      · subst h1
        have q10 : IntsAt (w10.alloc (.cells #[.int .i64 (-1), .int .i64 ((s.size : Int) - a + 1), .int .i64 9223372036854775807] 3)) w10.heap.size 3 (fun _ => True) := IntsAt.new w10 3 [-1, ((s.size : Int) - a + 1), 9223372036854775807] (fun _ _ => trivial)
        go_wp2_with fail
        refine (pick_any r _ _ _ (hr10.alloc _) (by omega)).mono ?_
        rintro e w11 ⟨I, rfl, hI0, hI1, hr11, hg11⟩
        have hI2 := hI1 (by decide)
        obtain ⟨l, rfl⟩ := Int.eq_ofNat_of_zero_le hI0
        obtain ⟨v, hcv, _⟩ := (q10.kept hg11 (by omega)) l (by omega)
        have hgw11 := gtrans (galloc hgw10 _) hg11
        have B11 := (B10.alloc _).grown hg11 (by intro e; injection e with e; omega)
        have G11 := (G10.alloc _).grown hg11 (by intro e; injection e with e; omega)
        clear q10 hI0 hI1 hg11 B10 G10 hr10 hgw10
        obtain ⟨d0, d1, d2⟩ := B11.cells
        obtain ⟨df0, df1, df2⟩ := B11.free
        obtain ⟨c0, c1, c2⟩ := G11.cells
        obtain ⟨cf0, cf1, cf2⟩ := G11.free
        go_wp2
        refine bodyPost_ret (v := .agg #[.int .i64 a, .int .i64 v, .string q]) (by simp [results, Try.results33, go_sem, d0, d1, d2]) rfl ?_
        exact ⟨_, _, q, rfl, by omega, ((((hr11.set (by simp only []; omega) _).set (by simp only []; omega) _).set (by simp only []; omega) _).set (by simp only []; omega) _).more (by omega), gset (gset (gset (gset hgw11 (by simp only []; omega) _) (Nat.le_refl _) _) (Nat.le_refl _) _) (Nat.le_refl _) _⟩
      · have h1' : (K == 1) = false := by simpa using h1
        by_cases h2 : K = 2
        · subst h2
          obtain ⟨d0, d1, d2⟩ := B10.cells
          obtain ⟨df0, df1, df2⟩ := B10.free
          obtain ⟨c0, c1, c2⟩ := G10.cells
          obtain ⟨cf0, cf1, cf2⟩ := G10.free
          go_wp2
          refine bodyPost_ret (v := .agg #[.int .i64 a, .int .i64 cut, .string (q ++ ⟨#[9]⟩)]) (by simp [results, Try.results33, go_sem, d0, d1, d2]) rfl ?_
          exact ⟨_, _, _, rfl, by rw [longer, show (⟨#[9]⟩ : ByteArray).size = 1 from rfl]; omega, ((((hr10.set (by simp only []; omega) _).set (by simp only []; omega) _).set (by simp only []; omega) _).set (by simp only []; omega) _).more (by omega), gset (gset (gset (gset hgw10 (by simp only []; omega) _) (Nat.le_refl _) _) (Nat.le_refl _) _) (Nat.le_refl _) _⟩
        · have h2' : (K == 2) = false := by simpa using h2
          go_wp2
          go_loopw [] (fun wr => ∃ y : ByteArray, B3 wr w8.heap.size 50 (.int .i64 a) (.int .i64 cut) (.string y) ∧ y.size ≤ 125 ∧ B3 wr w.heap.size 50 (.int .i64 0) (.int .i64 0) (.string ⟨#[]⟩) ∧ Rd 55 wr r (P + 45) ∧ w.grownBy wr (some r)) (fun wr => leftOf ((wr.cell? ⟨w8.heap.size, 2, none⟩).getD undef))
          case atStart => exact ⟨q, G10, hq, B10, hr10.more (by omega), hgw10⟩
          case round =>
            obtain ⟨y, G, hy, B, hr, hg⟩ := hrel
            obtain ⟨d0, d1, d2⟩ := B.cells
            obtain ⟨df0, df1, df2⟩ := B.free
            obtain ⟨c0, c1, c2⟩ := G.cells
            obtain ⟨cf0, cf1, cf2⟩ := G.free
            by_cases hy1 : y.size ≤ 120
            · go_wp2
              go_roundw
              case rel => exact ⟨y ++ ⟨#[109, 111, 114, 101, 32]⟩, G.set2 _, by rw [longer, show (⟨#[109, 111, 114, 101, 32]⟩ : ByteArray).size = 5 from rfl]; omega, B.far (by simp only []; omega) _, hr.set (by simp only []; omega) _, gset hg (by simp only []; omega) _⟩
              case measure => rw [((G.set2 (.string (y ++ ⟨#[109, 111, 114, 101, 32]⟩))).cells).2.2, c2]; simp only [Option.getD_some, leftOf, longer, show (⟨#[109, 111, 114, 101, 32]⟩ : ByteArray).size = 5 from rfl]; omega
            · go_wp2
              refine bodyPost_ret (v := .agg #[.int .i64 a, .int .i64 cut, .string y]) (by simp [results, Try.results33, go_sem, d0, d1, d2]) rfl ?_
              exact ⟨_, _, y, rfl, by omega, (((hr.set (by simp only []; omega) _).set (by simp only []; omega) _).set (by simp only []; omega) _).more (by omega), gset (gset (gset hg (Nat.le_refl _) _) (Nat.le_refl _) _) (Nat.le_refl _) _⟩
end Go.Proofs.Ytecejfcoognkiaa
