/- Contracts of MoveMarks. -/
import Derived.Test.YtlbmmhibepdhlaaW3
import Derived.Test.YtlbmmhibepdhlaaW5
import Derived.Test.YtlbmmhibepdhlaaW10
import Derived.OwnWalk
import Derived.Deep.RegionHeld3
import Derived.Deep.AppendLies
namespace Go.Proofs.Ytlbmmhibepdhlaa
open Go.RowKit

theorem implMarkInfo : (Try.prog.info? 68).map (fun i => (i.zero, i.size, i.bytes)) = some (some (.agg #[.int .i64 0, .bool false]), 2, 16) := by kernel_rfl
set_option maxRecDepth 100000 in
set_option maxHeartbeats 3200000 in
theorem specMoveMarks_any (s : ByteArray) (A : Option Addr) (n cp : Nat) (ms : List (Int × Bool)) (a c : Int) (p : ByteArray) (w : World) (hs : s.size + p.size ≤ 1099511627776) (hn2 : n ≤ 1048576) (hr : Marks w w.heap.size A n ms) :
    Calls Try.prog 46 #[.string s, .slice A n cp, .agg #[.int .i64 a, .int .i64 c, .string p]] w (MadeV 68 w (moveMarksL s.data.toList ms a c p.data.toList)) := by
  have hs1 : s.size ≤ maxLen := by unfold maxLen; omega
  have hp1 : p.size ≤ maxLen := by unfold maxLen; omega
  cases hv : marksB s.data.toList ms
  · rw [moveMarksL_0 (.inl hv)]
    have HV := Lib.hid hv
    clear hv
    go_enter Try.func46, Try.ntmps46
    have hown0 := owns_empty (w.alloc (.cells #[.int .i64 a, .int .i64 c, .string p] 23)) w.heap.size 68 2 (by simp)
    simp only [World.size_alloc] at hown0
    have hrw : Marks ((w.alloc (.cells #[.int .i64 a, .int .i64 c, .string p] 23)).alloc (.cells #[] 68)) ((w.alloc (.cells #[.int .i64 a, .int .i64 c, .string p] 23)).alloc (.cells #[] 68)).heap.size A n ms := (hr.below (balloc (balloc (Below.refl _ _) _) _) (Nat.le_refl _)).more (by simp; omega)
    go_wp2
    refine wp_loop_rounds 1 ?_
    rw [rounds_succ]
    by_cases h0 : 0 < n
    · go_wp2_with (go_at_call 32; refine (specMarksValid_any _ _ _ _ _ _ hs1 hn2 hrw).mono ?_; rw [HV.out]; rintro e w' ⟨rfl, rfl⟩)
      go_ret
      exact ⟨_, _, _, rfl, ⟨rfl, hown0⟩, (by repeat (first | exact Below.refl _ _ | assumption | (refine bstep ?_ (by assumption)) | refine balloc ?_ _ | refine bdrew ?_ | refine bdrewN ?_ _ | (refine bset ?_ (by simp) _) | (refine bset ?_ (by simp; omega) _)))⟩
    · go_wp2
      go_ret
      exact ⟨_, _, _, rfl, ⟨rfl, hown0⟩, (by repeat (first | exact Below.refl _ _ | assumption | (refine bstep ?_ (by assumption)) | refine balloc ?_ _ | refine bdrew ?_ | refine bdrewN ?_ _ | (refine bset ?_ (by simp) _) | (refine bset ?_ (by simp; omega) _)))⟩
  · cases hf : fitsB s.data.toList a c p.data.toList
    · rw [moveMarksL_0 (.inr hf)]
      have HV := Lib.hid hv
      have HF := Lib.hid hf
      clear hv hf
      go_enter Try.func46, Try.ntmps46
      have hown0 := owns_empty (w.alloc (.cells #[.int .i64 a, .int .i64 c, .string p] 23)) w.heap.size 68 2 (by simp)
      simp only [World.size_alloc] at hown0
      have hrw : Marks ((w.alloc (.cells #[.int .i64 a, .int .i64 c, .string p] 23)).alloc (.cells #[] 68)) ((w.alloc (.cells #[.int .i64 a, .int .i64 c, .string p] 23)).alloc (.cells #[] 68)).heap.size A n ms := (hr.below (balloc (balloc (Below.refl _ _) _) _) (Nat.le_refl _)).more (by simp; omega)
      go_wp2
      refine wp_loop_rounds 1 ?_
      rw [rounds_succ]
      by_cases h0 : 0 < n
      · go_wp2_with (first | (go_at_call 32; refine (specMarksValid_any _ _ _ _ _ _ hs1 hn2 hrw).mono ?_; rw [HV.out]; rintro e w' ⟨rfl, rfl⟩) | (go_at_call 52; refine (specChangeFits_any _ _ _ _ _ hs).mono ?_; rw [HF.out]; rintro e w1 ⟨rfl, hb1⟩; obtain ⟨hc1, hf1⟩ := bcell hb1; have hz1 := hb1.size; (try simp at hz1); (try replace hz1 := Nat.lt_of_succ_le hz1); (try have hy1w : w.heap.size < w1.heap.size := by omega); (try have hx1w : w.heap.size + 1 < w1.heap.size := by omega)))
        go_ret
        exact ⟨_, _, _, rfl, ⟨rfl, owns_below hown0 hb1⟩, (by repeat (first | exact Below.refl _ _ | assumption | (refine bstep ?_ (by assumption)) | refine balloc ?_ _ | refine bdrew ?_ | refine bdrewN ?_ _ | (refine bset ?_ (by simp) _) | (refine bset ?_ (by simp; omega) _)))⟩
      · go_wp2
        go_ret
        exact ⟨_, _, _, rfl, ⟨rfl, hown0⟩, (by repeat (first | exact Below.refl _ _ | assumption | (refine bstep ?_ (by assumption)) | refine balloc ?_ _ | refine bdrew ?_ | refine bdrewN ?_ _ | (refine bset ?_ (by simp) _) | (refine bset ?_ (by simp; omega) _)))⟩
    · rw [moveMarksL_1 hv hf]
      obtain ⟨i0, hi, hi0, hi1, hi2⟩ := info_parts implMarkInfo
      have HV := Lib.hid hv
      have HF := Lib.hid hf
      clear hv hf
      go_enter Try.func46, Try.ntmps46
      go_wp2
      go_loopw [7, 8] (fun o i wr => ∃ (k c' : Nat) (A' : Option Addr), k ≤ n ∧ i = .int .i64 k ∧ o = .slice A' k c' ∧ wr.ownsRow (w.heap.size + 1) 68 2 (.slice A' k c') k (markCells (movedL a c p.size (ms.take k))) ∧ Below (w.heap.size + 1) (w.alloc (.cells #[.int .i64 a, .int .i64 c, .string p] 23)) wr) (fun _ i _ => n - (intOf i).toNat)
      case atStart =>
        have hown0 := owns_empty (w.alloc (.cells #[.int .i64 a, .int .i64 c, .string p] 23)) (w.heap.size + 1) 68 2 (by simp)
        simp only [World.size_alloc] at hown0
        exact ⟨0, 0, _, Nat.zero_le _, rfl, rfl, by simpa [movedL, markCells] using hown0, (Below.refl _ _).alloc (by simp) _⟩
      case round =>
        obtain ⟨k, c', A', hk, rfl, rfl, hown, hbw⟩ := hrel
        have hz := hbw.size
        simp at hz
        have b0 : wr.cell? ⟨w.heap.size, 0, none⟩ = some (.int .i64 a) := (hbw.cell (p := ⟨w.heap.size, 0, none⟩) (by simp)).trans (by simp)
        have b1 : wr.cell? ⟨w.heap.size, 1, none⟩ = some (.int .i64 c) := (hbw.cell (p := ⟨w.heap.size, 1, none⟩) (by simp)).trans (by simp)
        have b2 : wr.cell? ⟨w.heap.size, 2, none⟩ = some (.string p) := (hbw.cell (p := ⟨w.heap.size, 2, none⟩) (by simp)).trans (by simp)
        have hbw' : Below w.heap.size w wr := (balloc (Below.refl _ _) _).trans (hbw.mono (by omega))
        have hrb : Marks wr w.heap.size A n ms := hr.below hbw' (Nat.le_refl _)
        have hrw : Marks wr wr.heap.size A n ms := hrb.more (by omega)
        by_cases hlt : k < n
        · obtain ⟨ad, pl, b, rfl, hb, hms, m0, m1, m2⟩ := hrb.at_ hlt
          have HM := Lib.hid hms
          clear hms
          go_wp2_with (first | (go_at_call 32; refine (specMarksValid_any _ _ _ _ _ _ hs1 hn2 hrw).mono ?_; rw [HV.out]; rintro e w' ⟨rfl, rfl⟩) | (go_at_call 52; refine (specChangeFits_any _ _ _ _ _ hs).mono ?_; rw [HF.out]; rintro e w1 ⟨rfl, hb1⟩; obtain ⟨hc1, hf1⟩ := bcell hb1; have hz1 := hb1.size; (try simp at hz1); (try replace hz1 := Nat.lt_of_succ_le hz1); (try have hy1w : w.heap.size < w1.heap.size := by omega); (try have hx1w : w.heap.size + 1 < w1.heap.size := by omega)))
          have q0 : w1.cell? ⟨w.heap.size, 0, none⟩ = some (.int .i64 a) := (hc1 _ _ (by omega)).trans b0
          have q1 : w1.cell? ⟨w.heap.size, 1, none⟩ = some (.int .i64 c) := (hc1 _ _ (by omega)).trans b1
          have q2 : w1.cell? ⟨w.heap.size, 2, none⟩ = some (.string p) := (hc1 _ _ (by omega)).trans b2
          have q3 : w1.cell? (ad.add (k * 2)) = some (.int .i64 pl) := (hb1.cell (by rw [add_block]; omega)).trans m0
          have q4 : w1.cell? ⟨(ad.add (k * 2)).block, (ad.add (k * 2)).off + 1, none⟩ = some (.bool b) := (hb1.cell (by show (ad.add (k * 2)).block < _; rw [add_block]; omega)).trans m2
          have hown1 := owns_below hown hb1
          have hb' : ad.block < w1.heap.size := by omega
          have hkn : (k : Int) < (n : Int) := by omega
          have hwz : w.heap.size + 1 ≤ w1.heap.size := by omega
          clear b0 b1 b2 m0 m1 m2 hown hc1 hf1
          go_region_held3 (fun w' => w'.cell? ⟨w.heap.size, 0, none⟩ = some (.int .i64 a) ∧ w'.cell? ⟨w.heap.size, 1, none⟩ = some (.int .i64 c) ∧ w'.cell? ⟨w.heap.size, 2, none⟩ = some (.string p) ∧ w'.cell? (ad.add (k * 2)) = some (.int .i64 pl) ∧ w'.cell? ⟨(ad.add (k * 2)).block, (ad.add (k * 2)).off + 1, none⟩ = some (.bool b))
            (first
              | go_keep
              | exact ⟨(hb2.cell (p := ⟨w.heap.size, 0, none⟩) (by simp; omega)).trans q0, (hb2.cell (p := ⟨w.heap.size, 1, none⟩) (by simp; omega)).trans q1, (hb2.cell (p := ⟨w.heap.size, 2, none⟩) (by simp; omega)).trans q2, (hb2.cell (by rw [add_block]; simp; omega)).trans q3, (hb2.cell (by show (ad.add (k * 2)).block < _; rw [add_block]; simp; omega)).trans q4⟩
              | (go_split_ands
                 refine ⟨?_, ?_, ?_, ?_, ?_⟩
                 · (rw [hgrow3.cell_far _ (by simp; omega) (own_ne hown1 (by simp))]; assumption)
                 · (rw [hgrow3.cell_far _ (by simp; omega) (own_ne hown1 (by simp))]; assumption)
                 · (rw [hgrow3.cell_far _ (by simp; omega) (own_ne hown1 (by simp))]; assumption)
                 · (rw [hgrow3.cell_far _ (by rw [add_block]; simp; omega) (own_ne hown1 (by rw [add_block]; omega))]; assumption)
                 · (rw [hgrow3.cell_far _ (by show (ad.add (k * 2)).block < _; rw [add_block]; simp; omega) (own_ne hown1 (by show (ad.add (k * 2)).block < _; rw [add_block]; omega))]; assumption)))
            ((first
              | (go_at_call 67; refine (specMovePlace_any _ _ _ _ _ _ hp1).mono ?_; rintro e w2 ⟨rfl, hb2⟩; have hz2 := hb2.size; simp at hz2)
              | (refine step_append_lies _ (by rfl) _ _ _ (by rfl) (w.heap.size + 1) 68 i0 _ 2 16 Try.underlying49 hi hi0 hi1 hi2 rfl (by omega) (.slice A' k c') k _ (by rfl) ((owns_below hown1.drew hb2).alloc _)
                  ⟨w2.heap.size, 0, none⟩ 1 1 [.int .i64 (mpI a c p.size pl b), .bool b] (by rfl) (by rfl) (World.news_of_block (cs := #[.int .i64 (mpI a c p.size pl b), .bool b]) (t := 68) (fr := (0, 0)) (heap_alloc_new w2 _)) (by simp [Value.oneCell'])
                  (by omega) (by unfold maxLen; omega) (by omega) (by simp; have := hb2.size; simp at this; omega) (w2.heap.size + 1) (by simp) ?_; intro gg cap w3 hown3 hgrow3 hat3 hlt3)))
          go_wp2
          go_roundw
          case rel => exact ⟨k + 1, cap, some ⟨gg, 0, none⟩, by omega, by go_num, rfl, by rw [movedL_step HM.out, markCells_append]; exact hown3, (((hbw.trans (hb1.mono hz)).drew.trans (hb2.mono (by simp; omega))).alloc (by omega) _).grown hgrow3 (by simp; omega) (fun i hi => (hown1.lt i hi).1)⟩
          case measure => simp [intOf]; omega
        · have hkn : k = n := by omega
          subst hkn
          rw [List.take_of_length_le (by rw [hr.1]; exact Nat.le_refl _)] at hown
          have hl : (movedL a c p.size ms).length = k := by rw [movedL_length, hr.1]
          have HL := Lib.hid hl
          clear hl b0 b1 b2
          go_wp2
          go_ret
          exact ⟨_, _, _, rfl, ⟨HL.out, owns_base hown (by omega)⟩, hbw'⟩
set_option maxRecDepth 100000 in
set_option maxHeartbeats 3200000 in
theorem implMoveMarks_any (s : ByteArray) (A : Option Addr) (n cp : Nat) (ms : List (Int × Bool)) (a c : Int) (p : ByteArray) (w : World) (hs : s.size + p.size ≤ 1099511627776) (hn2 : n ≤ 1048576) (hr : Marks w w.heap.size A n ms) :
    Calls Try.prog 47 #[.string s, .slice A n cp, .agg #[.int .i64 a, .int .i64 c, .string p]] w (MadeV 68 w (moveMarksL s.data.toList ms a c p.data.toList)) := by
  have hs1 : s.size ≤ maxLen := by unfold maxLen; omega
  have hp1 : p.size ≤ maxLen := by unfold maxLen; omega
  have hrw : Marks (w.alloc (.cells #[.int .i64 a, .int .i64 c, .string p] 23)) (w.alloc (.cells #[.int .i64 a, .int .i64 c, .string p] 23)).heap.size A n ms := (hr.below (balloc (Below.refl _ _) _) (Nat.le_refl _)).more (by simp)
  cases hv : marksB s.data.toList ms
  · rw [moveMarksL_0 (.inl hv)]
    have HV := Lib.hid hv
    clear hv
    go_enter Try.func47, Try.ntmps47
    go_wp2_with (go_at_call 34; refine (implMarksValid_any _ _ _ _ _ _ hs1 hn2 hrw).mono ?_; rw [HV.out]; rintro e w1 ⟨rfl, hb1⟩; obtain ⟨hc1, hf1⟩ := bcell hb1; have hz1 := hb1.size; (try simp at hz1); (try replace hz1 := Nat.lt_of_succ_le hz1); (try have hy1w : w.heap.size < w1.heap.size := by omega); (try have hx1w : w.heap.size + 1 < w1.heap.size := by omega))
    go_ret
    exact ⟨_, _, _, rfl, ⟨rfl, World.ownsRow_nil _ _ _ _⟩, (by repeat (first | exact Below.refl _ _ | assumption | (refine bstep ?_ (by assumption)) | refine balloc ?_ _ | refine bdrew ?_ | refine bdrewN ?_ _ | (refine bset ?_ (by simp) _) | (refine bset ?_ (by simp; omega) _)))⟩
  · cases hf : fitsB s.data.toList a c p.data.toList
    · rw [moveMarksL_0 (.inr hf)]
      have HV := Lib.hid hv
      have HF := Lib.hid hf
      clear hv hf
      go_enter Try.func47, Try.ntmps47
      go_wp2_with (first | (go_at_call 34; refine (implMarksValid_any _ _ _ _ _ _ hs1 hn2 hrw).mono ?_; rw [HV.out]; rintro e w1 ⟨rfl, hb1⟩; obtain ⟨hc1, hf1⟩ := bcell hb1; have hz1 := hb1.size; (try simp at hz1); (try replace hz1 := Nat.lt_of_succ_le hz1); (try have hy1w : w.heap.size < w1.heap.size := by omega); (try have hx1w : w.heap.size + 1 < w1.heap.size := by omega)) | (go_at_call 58; refine (implChangeFits_any _ _ _ _ _ hs).mono ?_; rw [HF.out]; rintro e w2 ⟨rfl, hb2⟩; obtain ⟨hc2, hf2⟩ := bcell hb2; have hz2 := hb2.size; (try simp at hz2); (try replace hz2 := Nat.lt_of_succ_le hz2); (try have hy2w : w.heap.size < w2.heap.size := by omega); (try have hx2w : w.heap.size + 1 < w2.heap.size := by omega)))
      go_ret
      exact ⟨_, _, _, rfl, ⟨rfl, World.ownsRow_nil _ _ _ _⟩, (by repeat (first | exact Below.refl _ _ | assumption | (refine bstep ?_ (by assumption)) | refine balloc ?_ _ | refine bdrew ?_ | refine bdrewN ?_ _ | (refine bset ?_ (by simp) _) | (refine bset ?_ (by simp; omega) _)))⟩
    · rw [moveMarksL_1 hv hf]
      obtain ⟨i0, hi, hi0, hi1, hi2⟩ := info_parts implMarkInfo
      have HV := Lib.hid hv
      have HF := Lib.hid hf
      clear hv hf
      go_enter Try.func47, Try.ntmps47
      go_wp2_with (first | (go_at_call 34; refine (implMarksValid_any _ _ _ _ _ _ hs1 hn2 hrw).mono ?_; rw [HV.out]; rintro e w1 ⟨rfl, hb1⟩; obtain ⟨hc1, hf1⟩ := bcell hb1; have hz1 := hb1.size; (try simp at hz1); (try replace hz1 := Nat.lt_of_succ_le hz1); (try have hy1w : w.heap.size < w1.heap.size := by omega); (try have hx1w : w.heap.size + 1 < w1.heap.size := by omega)) | (go_at_call 58; refine (implChangeFits_any _ _ _ _ _ hs).mono ?_; rw [HF.out]; rintro e w2 ⟨rfl, hb2⟩; obtain ⟨hc2, hf2⟩ := bcell hb2; have hz2 := hb2.size; (try simp at hz2); (try replace hz2 := Nat.lt_of_succ_le hz2); (try have hy2w : w.heap.size < w2.heap.size := by omega); (try have hx2w : w.heap.size + 1 < w2.heap.size := by omega)))
      have hb12 : Below (w.heap.size + 1) (w.alloc (.cells #[.int .i64 a, .int .i64 c, .string p] 23)) w2 := by
        have h1 : Below (w.heap.size + 1) (w.alloc (.cells #[.int .i64 a, .int .i64 c, .string p] 23)) w1 := hb1.mono (by simp)
        exact h1.trans (hb2.mono (by omega))
      clear hc1 hf1 hc2 hf2
      go_loopw [7, 22] (fun o i wr => ∃ (k c' : Nat) (A' : Option Addr), k ≤ n ∧ i = .int .i64 k ∧ o = .slice A' k c' ∧ wr.ownsRow (w.heap.size + 1) 68 2 (.slice A' k c') k (markCells (movedL a c p.size (ms.take k))) ∧ Below (w.heap.size + 1) (w.alloc (.cells #[.int .i64 a, .int .i64 c, .string p] 23)) wr) (fun _ i _ => n - (intOf i).toNat)
      case atStart => exact ⟨0, 0, none, Nat.zero_le _, rfl, rfl, by simpa [movedL, markCells] using World.ownsRow_nil w2 (w.heap.size + 1) 68 2, hb12⟩
      case round =>
        clear hb1 hb2 hb12 hz1 hz2 hrw
        obtain ⟨k, c', A', hk, rfl, rfl, hown, hbw⟩ := hrel
        have hz := hbw.size
        simp at hz
        have b0 : wr.cell? ⟨w.heap.size, 0, none⟩ = some (.int .i64 a) := (hbw.cell (p := ⟨w.heap.size, 0, none⟩) (by simp)).trans (by simp)
        have b1 : wr.cell? ⟨w.heap.size, 1, none⟩ = some (.int .i64 c) := (hbw.cell (p := ⟨w.heap.size, 1, none⟩) (by simp)).trans (by simp)
        have b2 : wr.cell? ⟨w.heap.size, 2, none⟩ = some (.string p) := (hbw.cell (p := ⟨w.heap.size, 2, none⟩) (by simp)).trans (by simp)
        have hbw' : Below w.heap.size w wr := (balloc (Below.refl _ _) _).trans (hbw.mono (by omega))
        have hrb : Marks wr w.heap.size A n ms := hr.below hbw' (Nat.le_refl _)
        by_cases hlt : k < n
        · obtain ⟨ad, pl, b, rfl, hb, hms, m0, m1, m2⟩ := hrb.at_ hlt
          have HM := Lib.hid hms
          clear hms
          have hwz : w.heap.size + 1 ≤ wr.heap.size := by omega
          go_wp2_with fail
          have q0 : (wr.alloc (.cells #[.int .i64 pl, .bool b] 68)).cell? ⟨w.heap.size, 0, none⟩ = some (.int .i64 a) := (World.cell?_alloc_lt wr _ ⟨w.heap.size, 0, none⟩ (by simp; omega)).trans b0
          have q1 : (wr.alloc (.cells #[.int .i64 pl, .bool b] 68)).cell? ⟨w.heap.size, 1, none⟩ = some (.int .i64 c) := (World.cell?_alloc_lt wr _ ⟨w.heap.size, 1, none⟩ (by simp; omega)).trans b1
          have q2 : (wr.alloc (.cells #[.int .i64 pl, .bool b] 68)).cell? ⟨w.heap.size, 2, none⟩ = some (.string p) := (World.cell?_alloc_lt wr _ ⟨w.heap.size, 2, none⟩ (by simp; omega)).trans b2
          have q3 : (wr.alloc (.cells #[.int .i64 pl, .bool b] 68)).cell? ⟨wr.heap.size, 0, none⟩ = some (.int .i64 pl) := by simp
          have q4 : (wr.alloc (.cells #[.int .i64 pl, .bool b] 68)).cell? ⟨wr.heap.size, 1, none⟩ = some (.bool b) := by simp
          have hne := own_ne_hi hown (Nat.le_refl wr.heap.size)
          have hownx := hown.alloc (.cells #[.int .i64 pl, .bool b] 68)
          have hbx := hbw.alloc hwz (.cells #[.int .i64 pl, .bool b] 68)
          have hzx : wr.heap.size < (wr.alloc (.cells #[.int .i64 pl, .bool b] 68)).heap.size := by simp
          clear b0 b1 b2 m0 m1 m2
          obtain ⟨g, hg⟩ : ∃ g, wr.heap.size = g := ⟨_, rfl⟩
          generalize wr.alloc (.cells #[.int .i64 pl, .bool b] 68) = wx at *
          rw [hg] at q3 q4 hne hzx hwz ⊢
          clear hg hown hbw hbw' hrb hz
          go_region_held3 (fun w' => w'.cell? ⟨w.heap.size, 0, none⟩ = some (.int .i64 a) ∧ w'.cell? ⟨w.heap.size, 1, none⟩ = some (.int .i64 c) ∧ w'.cell? ⟨w.heap.size, 2, none⟩ = some (.string p) ∧ w'.cell? ⟨g, 0, none⟩ = some (.int .i64 pl) ∧ w'.cell? ⟨g, 1, none⟩ = some (.bool b))
            (first
              | go_keep
              | exact ⟨(hb2.cell (p := ⟨w.heap.size, 0, none⟩) (by simp; omega)).trans q0, (hb2.cell (p := ⟨w.heap.size, 1, none⟩) (by simp; omega)).trans q1, (hb2.cell (p := ⟨w.heap.size, 2, none⟩) (by simp; omega)).trans q2, (hb2.cell (p := ⟨g, 0, none⟩) (by simp; omega)).trans q3, (hb2.cell (p := ⟨g, 1, none⟩) (by simp; omega)).trans q4⟩
              | (go_split_ands
                 refine ⟨?_, ?_, ?_, ?_, ?_⟩
                 · (rw [hgrow3.cell_far _ (by simp; omega) (own_ne hownx (by simp))]; assumption)
                 · (rw [hgrow3.cell_far _ (by simp; omega) (own_ne hownx (by simp))]; assumption)
                 · (rw [hgrow3.cell_far _ (by simp; omega) (own_ne hownx (by simp))]; assumption)
                 · (rw [hgrow3.cell_far _ (by simp; omega) hne]; assumption)
                 · (rw [hgrow3.cell_far _ (by simp; omega) hne]; assumption)))
            ((first
              | (go_at_call 68; refine (implMovePlace_any _ _ _ _ _ _ hp1).mono ?_; rintro e w2 ⟨rfl, hb2⟩; have hz2 := hb2.size; simp at hz2)
              | (refine step_append_lies _ (by rfl) _ _ _ (by rfl) (w.heap.size + 1) 68 i0 _ 2 16 Try.underlying49 hi hi0 hi1 hi2 rfl (by omega) (.slice A' k c') k _ (by rfl) ((owns_below hownx.drew hb2).alloc _)
                  ⟨w2.heap.size, 0, none⟩ 1 1 [.int .i64 (mpI a c p.size pl b), .bool b] (by rfl) (by rfl) (World.news_of_block (cs := #[.int .i64 (mpI a c p.size pl b), .bool b]) (t := 68) (fr := (0, 0)) (heap_alloc_new w2 _)) (by simp [Value.oneCell'])
                  (by omega) (by unfold maxLen; omega) (by omega) (by simp; have := hb2.size; simp at this; omega) (w2.heap.size + 1) (by simp) ?_; intro gg cap w3 hown3 hgrow3 hat3 hlt3)))
          go_wp2
          go_roundw
          case rel => exact ⟨k + 1, cap, some ⟨gg, 0, none⟩, by omega, by go_num, rfl, by rw [movedL_step HM.out, markCells_append]; exact hown3, ((hbx.drew.trans (hb2.mono (by simp; omega))).alloc (by omega) _).grown hgrow3 (by simp; omega) (fun i hi => (hownx.lt i hi).1)⟩
          case measure => simp [intOf]; omega
        · have hkn : k = n := by omega
          subst hkn
          rw [List.take_of_length_le (by rw [hr.1]; exact Nat.le_refl _)] at hown
          have hl : (movedL a c p.size ms).length = k := by rw [movedL_length, hr.1]
          have HL := Lib.hid hl
          clear hl b0 b1 b2
          go_wp2
          go_ret
          exact ⟨_, _, _, rfl, ⟨HL.out, owns_base hown (by omega)⟩, hbw'⟩
end Go.Proofs.Ytlbmmhibepdhlaa
