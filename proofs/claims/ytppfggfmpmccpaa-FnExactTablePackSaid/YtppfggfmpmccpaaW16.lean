/- Contracts of the laws' own functions on pieces and tables: measuring, copying, comparing, writing. -/
import Derived.Test.YtppfggfmpmccpaaW2
import Derived.Test.YtppfggfmpmccpaaW14
import Derived.Test.YtppfggfmpmccpaaPq
import Derived.OwnWalk
import Derived.StillTailTactics
import Derived.RegionTactic
namespace Go.Proofs.Ytppfggfmpmccpaa
open Go.RowKit

theorem szPieceS_ok (A : Option Addr) (n c : Nat) (left : Int) (w : World) (h : (n : Int) ≤ left) (h' : left ≤ 1048576) :
    Calls Try.prog 40 #[.slice A n c, .int .i64 left] w fun e w' => e = .returned (.int .i64 (left - n)) ∧ w = w' := by
  go_enter Try.func40, Try.ntmps40
  go_wp2
  go_ret
  exact ⟨rfl, rfl⟩
theorem szPieceS_big (A : Option Addr) (n c : Nat) (left : Int) (w : World) (hn : n ≤ maxLen) (h : left < (n : Int)) (h0 : 0 ≤ left) (h' : left ≤ 1048576) :
    Calls Try.prog 40 #[.slice A n c, .int .i64 left] w fun e w' => e = .returned (.int .i64 (-1)) ∧ w = w' := by
  unfold maxLen at hn
  go_enter Try.func40, Try.ntmps40
  go_wp2
  go_ret
  exact ⟨rfl, rfl⟩
theorem szTable_ok (a b : ByteArray) (A : Option Addr) (n c : Nat) (left : Int) (w : World) (h : (a.size : Int) + b.size + n ≤ left) (h' : left ≤ 1048576) :
    Calls Try.prog 16 #[.agg #[.string a, .string b, .slice A n c], .int .i64 left] w fun e w' => e = .returned (.int .i64 (left - a.size - b.size - n)) ∧ Below w.heap.size w w' := by
  go_enter Try.func16, Try.ntmps16
  go_wp2_with (go_at_call 40; refine (szPieceS_ok _ _ _ _ _ (by omega) (by omega)).mono ?_; rintro e w' ⟨rfl, rfl⟩)
  go_returns
  exact ⟨rfl, (by repeat (first | exact Below.refl _ _ | assumption | (refine bstep ?_ (by assumption)) | refine balloc ?_ _ | refine bdrew ?_ | refine bdrewN ?_ _ | refine bset ?_ (by first | (simp; done) | (simp; omega)) _))⟩
theorem szTable_big (a b : ByteArray) (A : Option Addr) (n c : Nat) (left : Int) (w : World) (ha : a.size ≤ maxLen) (hb : b.size ≤ maxLen) (hn : n ≤ maxLen) (h : left < (a.size : Int) + b.size + n) (h0 : 0 ≤ left) (h' : left ≤ 1048576) :
    Calls Try.prog 16 #[.agg #[.string a, .string b, .slice A n c], .int .i64 left] w fun e w' => e = .returned (.int .i64 (-1)) ∧ Below w.heap.size w w' := by
  have hn' := hn
  unfold maxLen at ha hb hn
  by_cases h1 : left < (a.size : Int)
  · go_enter Try.func16, Try.ntmps16
    go_wp2
    go_returns
    exact ⟨rfl, (by repeat (first | exact Below.refl _ _ | assumption | (refine bstep ?_ (by assumption)) | refine balloc ?_ _ | refine bdrew ?_ | refine bdrewN ?_ _ | refine bset ?_ (by first | (simp; done) | (simp; omega)) _))⟩
  · by_cases h2 : left - a.size < (b.size : Int)
    · go_enter Try.func16, Try.ntmps16
      go_wp2
      go_returns
      exact ⟨rfl, (by repeat (first | exact Below.refl _ _ | assumption | (refine bstep ?_ (by assumption)) | refine balloc ?_ _ | refine bdrew ?_ | refine bdrewN ?_ _ | refine bset ?_ (by first | (simp; done) | (simp; omega)) _))⟩
    · go_enter Try.func16, Try.ntmps16
      go_wp2_with (go_at_call 40; refine (szPieceS_big _ _ _ _ _ hn' (by omega) (by omega) (by omega)).mono ?_; rintro e w' ⟨rfl, rfl⟩)
      go_returns
      exact ⟨rfl, (by repeat (first | exact Below.refl _ _ | assumption | (refine bstep ?_ (by assumption)) | refine balloc ?_ _ | refine bdrew ?_ | refine bdrewN ?_ _ | refine bset ?_ (by first | (simp; done) | (simp; omega)) _))⟩
theorem toPiece_any (b : Bool) (x y : Int) (w : World) :
    Calls Try.prog 56 #[.agg #[.bool b, .int .i64 x, .int .i64 y]] w fun e w' => e = .returned (.agg #[.bool b, .int .i64 x, .int .i64 y]) ∧ Below w.heap.size w w' := by
  go_enter Try.func56, Try.ntmps56
  go_wp2
  go_returns
  exact ⟨rfl, (by repeat (first | exact Below.refl _ _ | assumption | (refine bstep ?_ (by assumption)) | refine balloc ?_ _ | refine bdrew ?_ | refine bdrewN ?_ _ | refine bset ?_ (by first | (simp; done) | (simp; omega)) _))⟩
theorem eqPiece_same (b : Bool) (x y : Int) (w : World) :
    Calls Try.prog 55 #[.agg #[.bool b, .int .i64 x, .int .i64 y], .agg #[.bool b, .int .i64 x, .int .i64 y]] w fun e w' => e = .returned (.bool true) ∧ Below w.heap.size w w' := by
  go_enter Try.func55, Try.ntmps55
  go_wp2
  go_returns
  exact ⟨rfl, (by repeat (first | exact Below.refl _ _ | assumption | (refine bstep ?_ (by assumption)) | refine balloc ?_ _ | refine bdrew ?_ | refine bdrewN ?_ _ | refine bset ?_ (by first | (simp; done) | (simp; omega)) _))⟩
set_option maxHeartbeats 400000 in
theorem eqPieceS_same (A A' : Option Addr) (n c c' : Nat) (ps : List (Bool × Int × Int)) (w : World) (hn2 : n ≤ 1048576) (h : Pieces w w.heap.size A n ps) (h' : Pieces w w.heap.size A' n ps) :
    Calls Try.prog 37 #[.slice A n c, .slice A' n c'] w fun e w' => e = .returned (.bool true) ∧ Below w.heap.size w w' := by
  go_enter Try.func37, Try.ntmps37
  go_wp2
  go_loopw [5] (fun i wr => ∃ k : Nat, k ≤ n ∧ i = .int .i64 k ∧ Below w.heap.size w wr) (fun i _ => n - (intOf i).toNat)
  case atStart => exact ⟨0, Nat.zero_le _, rfl, Below.refl _ _⟩
  case round =>
    obtain ⟨k, hk, rfl, hbw⟩ := hrel
    have hz := hbw.size
    by_cases hlt : k < n
    · obtain ⟨ad, b, x, y, rfl, hb, hps, hc0, _, _, hc1, hc2⟩ := (h.below hbw (Nat.le_refl _)).at_ hlt
      obtain ⟨ad', b', x', y', rfl, hb', hps', hc0', _, _, hc1', hc2'⟩ := (h'.below hbw (Nat.le_refl _)).at_ hlt
      rw [hps] at hps'
      injection hps' with hps'
      injection hps' with e1 e2
      injection e2 with e2 e3
      subst e1 e2 e3
      clear hps
      go_wp2_with fail
      go_still_tail 8, (by kernel_rfl)
      change wpList _ _ _ _ _ wr.drew
      go_wp2_with (go_at_call 55; refine (eqPiece_same _ _ _ _).mono ?_; rintro e w1 ⟨rfl, hb1⟩; obtain ⟨hc1, hf1⟩ := bcell hb1; have hz1 := hb1.size; (try simp at hz1); (try replace hz1 := Nat.lt_of_succ_le hz1); (try have hy1w : w.heap.size < w1.heap.size := by omega); (try have hx1w : w.heap.size + 1 < w1.heap.size := by omega))
      go_roundw
      case rel => exact ⟨k + 1, by omega, by go_num, bstep (bdrew hbw) hb1⟩
      case measure => simp [intOf]; omega
    · go_wp2
      go_ret
      exact ⟨rfl, hbw⟩
theorem eqTable_same (a b : ByteArray) (A A' : Option Addr) (n c c' : Nat) (ps : List (Bool × Int × Int)) (w : World) (hn2 : n ≤ 1048576) (h : Pieces w w.heap.size A n ps) (h' : Pieces w w.heap.size A' n ps) :
    Calls Try.prog 13 #[.agg #[.string a, .string b, .slice A n c], .agg #[.string a, .string b, .slice A' n c']] w fun e w' => e = .returned (.bool true) ∧ Below w.heap.size w w' := by
  have g : Pieces ((w.alloc (.cells #[.string a, .string b, .slice A n c] 24)).alloc (.cells #[.string a, .string b, .slice A' n c'] 24)) ((w.alloc (.cells #[.string a, .string b, .slice A n c] 24)).alloc (.cells #[.string a, .string b, .slice A' n c'] 24)).heap.size A n ps := (h.below (balloc (balloc (Below.refl _ _) _) _) (Nat.le_refl _)).more (by simp; omega)
  have g' : Pieces ((w.alloc (.cells #[.string a, .string b, .slice A n c] 24)).alloc (.cells #[.string a, .string b, .slice A' n c'] 24)) ((w.alloc (.cells #[.string a, .string b, .slice A n c] 24)).alloc (.cells #[.string a, .string b, .slice A' n c'] 24)).heap.size A' n ps := (h'.below (balloc (balloc (Below.refl _ _) _) _) (Nat.le_refl _)).more (by simp; omega)
  go_enter Try.func13, Try.ntmps13
  go_wp2_with (go_at_call 37; refine (eqPieceS_same _ _ _ _ _ _ _ hn2 g g').mono ?_; rintro e w1 ⟨rfl, hb1⟩; obtain ⟨hc1, hf1⟩ := bcell hb1; have hz1 := hb1.size; (try simp at hz1); (try replace hz1 := Nat.lt_of_succ_le hz1); (try have hy1w : w.heap.size < w1.heap.size := by omega); (try have hx1w : w.heap.size + 1 < w1.heap.size := by omega))
  go_returns
  exact ⟨rfl, (by repeat (first | exact Below.refl _ _ | assumption | (refine bstep ?_ (by assumption)) | refine balloc ?_ _ | refine bdrew ?_ | refine bdrewN ?_ _ | refine bset ?_ (by first | (simp; done) | (simp; omega)) _))⟩
theorem pieceInfo : (Try.prog.info? 49).map (fun i => (i.zero, i.size, i.bytes)) = some (some (.agg #[.bool false, .int .i64 0, .int .i64 0]), 3, 24) := by kernel_rfl
set_option maxHeartbeats 800000 in
theorem toPieceS_any (A : Option Addr) (n c : Nat) (ps : List (Bool × Int × Int)) (w : World) (hn2 : n ≤ 1048576) (h : Pieces w w.heap.size A n ps) :
    Calls Try.prog 43 #[.slice A n c] w (MadeP 49 w ps) := by
  obtain ⟨i0, hi, hz0, hz1, hz2⟩ := info_parts pieceInfo
  go_enter Try.func43, Try.ntmps43
  go_wp2_with (refine wpList_make_full _ rfl (.tmp 6) (.tmp 6) 22 rfl w.heap.size 49 i0 _ 3 Try.underlying22 hi hz0 hz1 .i64 .i64 _ _ n rfl rfl rfl rfl (by rw [hz2]; omega) (by unfold maxLen; omega) (Nat.le_refl _) ?_; intro w1 hown hgrow)
  go_wp2
  have hbw1 : Below w.heap.size w w1 := (Below.refl _ _).grown hgrow (Nat.le_refl _) (fun _ h => by cases h)
  have hlen : (madeCells (Value.agg #[.bool false, .int .i64 0, .int .i64 0]).cells (n * 3)).toList.length = n * 3 := hown.1
  have hml := h.1
  rw [← prowAt_zero ps (madeCells (Value.agg #[.bool false, .int .i64 0, .int .i64 0]).cells (n * 3)).toList] at hown
  obtain ⟨zs, hzs⟩ : ∃ zs, (madeCells (Value.agg #[.bool false, .int .i64 0, .int .i64 0]).cells (n * 3)).toList = zs := ⟨_, rfl⟩
  rw [hzs] at hown hlen
  clear hzs
  go_loopw [4] (fun i wr => ∃ k : Nat, k ≤ n ∧ i = .int .i64 k ∧ wr.ownsRow w.heap.size 49 3 (.slice (some ⟨w.heap.size, 0, none⟩) n n) n (prowAt ps k zs) ∧ Below w.heap.size w wr) (fun i _ => n - (intOf i).toNat)
  case atStart => exact ⟨0, Nat.zero_le _, rfl, hown, hbw1⟩
  case round =>
    clear hown hgrow hbw1 hi hz0 hz1 hz2
    obtain ⟨k, hk, rfl, hown, hbw⟩ := hrel
    have hz := hbw.size
    have hg := (owns_lt hown).2
    by_cases hlt : k < n
    · obtain ⟨ad, b, x, y, rfl, hb, hps, hc0, _, _, hc1, hc2⟩ := (h.below hbw (Nat.le_refl _)).at_ hlt
      have HM := Lib.hid hps
      have HL := Lib.hid hml
      have HZ := Lib.hid hlen
      clear hps hml hlen
      go_wp2_with fail
      refine (toPiece_any _ _ _ _).mono ?_
      rintro e w1 ⟨rfl, hb1⟩
      have hown1 := owns_below hown hb1
      have hz1 := hb1.size
      have q0 := hown1.cellAt (k * 3) (by omega)
      have q1 := hown1.cellAt (k * 3 + 1) (by omega)
      have q2 := hown1.cellAt (k * 3 + 2) (by omega)
      obtain ⟨v0, hv0⟩ : ∃ v0, (prowAt ps k zs)[k * 3]? = some v0 := ⟨_, List.getElem?_eq_getElem (by rw [prowAt_length (by have := HL.out; omega) (by have := HZ.out; omega), HZ.out]; omega)⟩
      obtain ⟨v1, hv1⟩ : ∃ v1, (prowAt ps k zs)[k * 3 + 1]? = some v1 := ⟨_, List.getElem?_eq_getElem (by rw [prowAt_length (by have := HL.out; omega) (by have := HZ.out; omega), HZ.out]; omega)⟩
      obtain ⟨v2, hv2⟩ : ∃ v2, (prowAt ps k zs)[k * 3 + 2]? = some v2 := ⟨_, List.getElem?_eq_getElem (by rw [prowAt_length (by have := HL.out; omega) (by have := HZ.out; omega), HZ.out]; omega)⟩
      rw [hv0] at q0
      rw [hv1] at q1
      rw [hv2] at q2
      have f0 := hown1.frozenAt (k * 3)
      have f1 := hown1.frozenAt (k * 3 + 1)
      have f2 := hown1.frozenAt (k * 3 + 2)
      clear hv0 hv1 hv2
      go_wp2
      go_roundw
      case rel => exact ⟨k + 1, by omega, by go_num, by rw [← prowAt_step HM.out (by have := HZ.out; omega)]; exact (((hown1.stored (k * 3) _).1.stored (k * 3 + 1) _).1.stored (k * 3 + 2) _).1, bset (bset (bset (bstep hbw hb1) (Nat.le_refl _) _) (Nat.le_refl _) _) (Nat.le_refl _) _⟩
      case measure => simp [intOf]; omega
    · have hkn : k = n := by omega
      subst hkn
      rw [prowAt_end hml hlen] at hown
      have HL := Lib.hid hml
      clear hml hlen
      go_wp2
      go_ret
      exact ⟨_, _, _, rfl, ⟨HL.out, hown⟩, hbw⟩
end Go.Proofs.Ytppfggfmpmccpaa
