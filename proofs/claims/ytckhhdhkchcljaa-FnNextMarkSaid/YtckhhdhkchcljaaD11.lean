/- Marks drawn from codes. -/
import Derived.Test.YtckhhdhkchcljaaD4
import Derived.Test.YtckhhdhkchcljaaPm
import Derived.WalkSmall
namespace Go.Proofs.Ytckhhdhkchcljaa
open Go.RowKit

/-- What drawn marks leave. -/
def MarksV (T M : TypeId) (w : World) (r P : Nat) (e : Ending) (w' : World) : Prop := ∃ (s : ByteArray) (A : Option Addr) (k c : Nat) (ms : List (Int × Bool)), e = .returned (.tuple #[.string s, .slice A k c]) ∧ s.size ≤ 125 ∧ k ≤ 11 ∧ OwnV M w' w.heap.size A k c ms ∧ Rd T w' r P ∧ w.grownBy w' (some r)
theorem own_ne_row {w : World} {base r : Nat} {e : TypeId} {size n : Nat} {v : Value} {xs : List Value} (h : w.ownsRow base e size v n xs) (hr : r < base) : v.ownBlock = none ∨ v.ownBlock ≠ some r := by
  right
  intro e1
  have := (h.lt r e1).1
  omega
theorem rd_row {T : TypeId} {w w' : World} {r P base : Nat} {e : TypeId} {size n : Nat} {v : Value} {xs : List Value} (h : Rd T w r P) (hg : w.grownBy w' v.ownBlock) (ho : w.ownsRow base e size v n xs) (hr : r < base) : Rd T w' r P :=
  h.kept hg fun g e1 => by have := (ho.lt g e1).1; omega
theorem grow_row {a w w' : World} {r base : Nat} {e : TypeId} {size n : Nat} {v : Value} {xs : List Value} (h : a.grownBy w (some r)) (hg : w.grownBy w' v.ownBlock) (ho : w.ownsRow base e size v n xs) (hb : a.heap.size ≤ base) : a.grownBy w' (some r) :=
  ⟨hg.os.trans h.os, hg.tape.trans h.tape, hg.output.trans h.output, Nat.le_trans h.size hg.size, fun i hi hne =>
    (hg.block i (Nat.lt_of_lt_of_le hi h.size) fun e1 => by have := (ho.lt i e1.symm).1; omega).trans (h.block i hi hne)⟩
theorem drawMarkInfo : (Try.prog.info? 43).map (fun i => (i.zero, i.size, i.bytes)) = some (some (.agg #[.int .i64 0, .bool false]), 2, 16) := by kernel_rfl
set_option maxRecDepth 100000 in
set_option maxHeartbeats 1600000 in
theorem marks_draw (r P : Nat) (n : Int) (w : World) (h : Rd 84 w r P) (hP : P ≤ 999990000) :
    Calls Try.prog 65 #[.pointer (some ⟨r, 0, none⟩), .int .i64 n] w (MarksV 84 43 w r (P + 200)) := by
  have hrl := h.lt
  obtain ⟨i0, hi, hi0, hi1, hi2⟩ := info_parts drawMarkInfo
  go_enter Try.func65, Try.ntmps65
  go_wp2_with fail
  refine (text_draw _ _ _ _ h (by omega)).mono ?_
  rintro e w1 ⟨s, rfl, hs, hr1, hg1⟩
  have hz1 := hg1.size
  have hown1 := owns_base (owns_empty w1 w1.heap.size 43 2 (Nat.le_refl _)) hz1
  have hr2 := hr1.alloc (.cells #[] 43)
  have hg2 := galloc hg1 (.cells #[] 43)
  go_wp2_with fail
  refine (pick_any r _ _ _ hr2 (by omega)).mono ?_
  rintro e w3 ⟨K, rfl, hK0, hK1, hr3, hg3⟩
  have hK2 := hK1 (by decide)
  obtain ⟨m, rfl⟩ := Int.eq_ofNat_of_zero_le hK0
  have hown3 := hown1.kept hg3 (own_ne_row hown1 hrl)
  have hgw3 := gtrans hg2 hg3
  clear hown1 hr1 hr2 hg1 hg2 hg3 hK0 hK1
  go_wp2
  go_loopw [7, 8] (fun o k wr => ∃ (ms : List (Int × Bool)) (A' : Option Addr) (q c' j : Nat), j ≤ 5 ∧ q + j ≤ 5 ∧ o = .slice A' q c' ∧ k = .int .i64 j ∧ Rd 84 wr r (P + 31 + (5 - j) * 6) ∧ OwnV 43 wr w.heap.size A' q c' ms ∧ w.grownBy wr (some r)) (fun _ k _ => (intOf k).toNat)
  case atStart => exact ⟨[], _, 0, 0, m, by omega, by omega, rfl, rfl, hr3.more (by omega), ⟨rfl, hown3⟩, hgw3⟩
  case round =>
    clear hr3 hown3 hgw3 hK2
    obtain ⟨ms, A', q, c', j, hj, hqj, rfl, rfl, hr, ho, hg⟩ := hrel
    have hz := hg.size
    by_cases hj0 : 0 < j
    · go_wp2_with fail
      refine (place_draw _ _ _ _ _ hr (by omega) (by omega)).mono ?_
      rintro e w4 ⟨p, rfl, hr4, hg4⟩
      go_wp2_with fail
      refine (pick_any r _ _ _ hr4 (by omega)).mono ?_
      rintro e w5 ⟨I, rfl, _, _, hr5, hg5⟩
      have ho5 := (ho.2.kept hg4 (own_ne_row ho.2 hrl)).kept hg5 (own_ne_row ho.2 hrl)
      have hgw5 := gtrans (gtrans hg hg4) hg5
      have hz5 := hgw5.size
      go_wp2_with (at_builtin; refine wpList_append_lies _ rfl _ _ 38 rfl w.heap.size 43 i0 _ 2 16 Try.underlying38 hi hi0 hi1 hi2 rfl (by decide) _ _ _ rfl (ho5.alloc _) ⟨w5.heap.size, 0, none⟩ 1 1 [.int .i64 p, .bool (I == 0)] rfl rfl (World.news_of_block (cs := #[.int .i64 p, .bool (I == 0)]) (t := 43) (fr := (0, 0)) (heap_alloc_new w5 _)) (by simp [Value.oneCell']) (by omega) (by unfold maxLen; omega) (by omega) (by simp; omega) (w5.heap.size + 1) (by simp) ?_; intro gg cap w6 hown6 hgrow6 hat6 hlt6)
      go_roundw
      case rel => exact ⟨ms ++ [(p, I == 0)], some ⟨gg, 0, none⟩, q + 1, cap, j - 1, by omega, by omega, rfl, congrArg (Value.int IntKind.i64) (by omega), (rd_row (hr5.alloc _) hgrow6 (ho5.alloc _) hrl).more (by omega), ⟨by rw [List.length_append, ho.1]; rfl, by rw [markCells_append]; exact hown6⟩, grow_row (galloc hgw5 _) hgrow6 (ho5.alloc _) (Nat.le_refl _)⟩
      case measure => simp [intOf]; omega
    · obtain rfl : j = 0 := by omega
      go_wp2_with fail
      refine (odd_any r _ _ _ hr (by omega)).mono ?_
      rintro e w4 ⟨b, rfl, hr4, hg4⟩
      have ho4 := ho.2.kept hg4 (own_ne_row ho.2 hrl)
      have hgw4 := gtrans hg hg4
      have hz4 := hgw4.size
      cases b
      · go_wp2
        go_ret2
        exact ⟨s, A', q, c', ms, rfl, hs, by omega, ⟨ho.1, ho4⟩, hr4.more (by omega), hgw4⟩
      · go_wp2_with fail
        refine (pick_any r _ _ _ hr4 (by omega)).mono ?_
        rintro e w5 ⟨I, rfl, _, _, hr5, hg5⟩
        have ho5 := ho4.kept hg5 (own_ne_row ho4 hrl)
        have hgw5 := gtrans hgw4 hg5
        have hz5 := hgw5.size
        by_cases hI : I = 0
        · subst hI
          go_wp2_with fail
          refine (place_draw _ _ _ _ _ hr5 (by omega) (by omega)).mono ?_
          rintro e w6 ⟨p, rfl, hr6, hg6⟩
          have ho6 := ho5.kept hg6 (own_ne_row ho5 hrl)
          have hgw6 := gtrans hgw5 hg6
          have hz6 := hgw6.size
          go_wp2_with (at_builtin; refine wpList_append_lies _ rfl _ _ 38 rfl w.heap.size 43 i0 _ 2 16 Try.underlying38 hi hi0 hi1 hi2 rfl (by decide) _ _ _ rfl (ho6.alloc _) ⟨w6.heap.size, 0, none⟩ 1 1 [.int .i64 p, .bool false] rfl rfl (World.news_of_block (cs := #[.int .i64 p, .bool false]) (t := 43) (fr := (0, 0)) (heap_alloc_new w6 _)) (by simp [Value.oneCell']) (by omega) (by unfold maxLen; omega) (by omega) (by simp; omega) (w6.heap.size + 1) (by simp) ?_; intro gg cap w7 hown7 hgrow7 hat7 hlt7)
          go_ret2
          exact ⟨s, some ⟨gg, 0, none⟩, q + 1, cap, ms ++ [(p, false)], rfl, hs, by omega, ⟨by rw [List.length_append, ho.1]; rfl, by rw [markCells_append]; exact hown7⟩, (rd_row (hr6.alloc _) hgrow7 (ho6.alloc _) hrl).more (by omega), grow_row (galloc hgw6 _) hgrow7 (ho6.alloc _) (Nat.le_refl _)⟩
        · have hI' : (I == 0) = false := by simpa using hI
          obtain ⟨w6, hrun, hown6, hg6⟩ := run_makeSlice_full (P := Try.prog) w5 w.heap.size 38 43 i0 _ 2 Try.underlying38 hi hi0 hi1 .i64 .i64 11 (by decide) (by rw [hi2]; decide) (by decide) hz5
          have hrun' : (Instr.makeSlice 38 (.int .i64 11) (.int .i64 11)).run Try.prog w5 = .ok (.slice (some ⟨w5.heap.size, 0, none⟩) 11 11) w6 := hrun
          have hm : (madeCells (Value.agg #[.int .i64 0, .bool false]).cells (11 * 2)).toList = markCells (List.replicate 11 (0, false)) := by kernel_rfl
          rw [hm] at hown6
          clear hrun hm
          go_wp2
          go_ret2
          exact ⟨s, some ⟨w5.heap.size, 0, none⟩, 11, 11, List.replicate 11 (0, false), rfl, hs, Nat.le_refl _, ⟨rfl, hown6⟩, (hr5.kept hg6 (fun _ e => by cases e)).more (by omega), gtrans hgw5 ⟨hg6.os, hg6.tape, hg6.output, hg6.size, fun i hi _ => hg6.block i hi (by simp)⟩⟩
end Go.Proofs.Ytckhhdhkchcljaa
