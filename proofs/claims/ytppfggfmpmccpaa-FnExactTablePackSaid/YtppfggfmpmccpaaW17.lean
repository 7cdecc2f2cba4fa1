/- Contracts of the laws' own functions on tables: copying, writing, looking. -/
import Derived.Test.YtppfggfmpmccpaaW16
namespace Go.Proofs.Ytppfggfmpmccpaa
open Go.RowKit

set_option maxHeartbeats 400000 in
theorem toTable_any (a b : ByteArray) (A : Option Addr) (n c : Nat) (ps : List (Bool × Int × Int)) (w : World) (hn2 : n ≤ 1048576) (h : Pieces w w.heap.size A n ps) :
    Calls Try.prog 18 #[.agg #[.string a, .string b, .slice A n c]] w (MadeT 49 w a.data.toList b.data.toList ps) := by
  go_enter Try.func18, Try.ntmps18
  go_wp2_with fail
  refine (toPieceS_any _ _ _ _ _ hn2 ((h.below (B' := w.heap.size) (by repeat (first | exact Below.refl _ _ | assumption | (refine bstep ?_ (by assumption)) | refine balloc ?_ _ | refine bdrew ?_ | refine bdrewN ?_ _ | refine bset ?_ (by first | (simp; done) | (simp; omega)) _)) (Nat.le_refl _)).more (by simp; omega))).mono ?_
  rintro e w1 ⟨A1, n1, c1, rfl, ho, hb1⟩
  obtain ⟨hc1, hf1⟩ := bcell hb1
  have hz1 := hb1.size
  simp at hz1
  go_wp2
  refine bodyPost_ret (v := .agg #[.string a, .string b, .slice A1 n1 c1]) (by simp [results, Try.results18, go_sem, hc1]) rfl ?_
  have ho2 := ho.2
  simp only [World.size_alloc] at ho2
  refine ⟨_, _, _, rfl, ⟨ho.1, owns_base (base := w.heap.size + 1 + 1 + 1) ?_ (by omega)⟩, (by repeat (first | exact Below.refl _ _ | assumption | (refine bstep ?_ (by assumption)) | refine balloc ?_ _ | refine bdrew ?_ | refine bdrewN ?_ _ | refine bset ?_ (by first | (simp; done) | (simp; omega)) _))⟩
  repeat (first | exact ho2 | (refine ownsRow_setCell_below ?_ (by first | (simp; done) | (simp; omega)) _))
set_option maxHeartbeats 800000 in
theorem markPieceS_any (A : Option Addr) (n c base : Nat) (xs : List Value) (k0 : Int) (w : World) (hn : n ≤ 1048576) (h0 : 0 ≤ k0) (h1 : k0 ≤ 1048576) (hown : w.ownsRow base 49 3 (.slice A n c) n xs) :
    Calls Try.prog 38 #[.slice A n c, .int .i64 k0] w fun e w' => e = .returned (.int .i64 (k0 + 3 * n)) ∧ w'.ownsRow base 49 3 (.slice A n c) n (pieceCells (markedP k0 n)) ∧ w.grownBy w' (Value.slice A n c).ownBlock := by
  have hlen := hown.1
  rw [← prowAt_zero (markedP k0 n) xs] at hown
  go_enter Try.func38, Try.ntmps38
  go_wp2
  go_loopw [1, 5] (fun kk i wr => ∃ k : Nat, k ≤ n ∧ i = .int .i64 k ∧ kk = .int .i64 (k0 + 3 * k) ∧ wr.ownsRow base 49 3 (.slice A n c) n (prowAt (markedP k0 n) k xs) ∧ w.grownBy wr (Value.slice A n c).ownBlock) (fun _ i _ => n - (intOf i).toNat)
  case atStart => exact ⟨0, Nat.zero_le _, rfl, by simp, hown, World.grownBy.refl _ _⟩
  case round =>
    clear hown
    obtain ⟨k, hk, rfl, rfl, hown, hgr⟩ := hrel
    by_cases hlt : k < n
    · obtain ⟨g, cap, hv, hbg, hgl⟩ : ∃ g cap, Value.slice A n c = .slice (some ⟨g, 0, none⟩) n cap ∧ base ≤ g ∧ g < wr.heap.size := by
        rcases hown.2 with ⟨_, h0'⟩ | ⟨g, cap, cur, hv, hb, hg, _⟩
        · omega
        · refine ⟨g, cap, hv, hb, ?_⟩
          rcases Nat.lt_or_ge g wr.heap.size with h4 | h4
          · exact h4
          · rw [Array.getElem?_eq_none h4] at hg
            cases hg
      injection hv with hA _ hc
      subst hA hc
      have HZ := Lib.hid hlen
      clear hlen
      have q0 := hown.cellAt (k * 3) (by omega)
      have q1 := hown.cellAt (k * 3 + 1) (by omega)
      have q2 := hown.cellAt (k * 3 + 2) (by omega)
      have hpl : (prowAt (markedP k0 n) k xs).length = n * 3 := by rw [prowAt_length (by rw [markedP_length]; omega) (by have := HZ.out; omega), HZ.out]
      obtain ⟨v0, hv0⟩ : ∃ v0, (prowAt (markedP k0 n) k xs)[k * 3]? = some v0 := ⟨_, List.getElem?_eq_getElem (by omega)⟩
      obtain ⟨v1, hv1⟩ : ∃ v1, (prowAt (markedP k0 n) k xs)[k * 3 + 1]? = some v1 := ⟨_, List.getElem?_eq_getElem (by omega)⟩
      obtain ⟨v2, hv2⟩ : ∃ v2, (prowAt (markedP k0 n) k xs)[k * 3 + 2]? = some v2 := ⟨_, List.getElem?_eq_getElem (by omega)⟩
      rw [hv0] at q0
      rw [hv1] at q1
      rw [hv2] at q2
      have f0 := hown.frozenAt (k * 3)
      have f1 := hown.frozenAt (k * 3 + 1)
      have f2 := hown.frozenAt (k * 3 + 2)
      have HM := Lib.hid (markedP_at (k0 := k0) hlt)
      clear hv0 hv1 hv2 hpl
      go_wp2
      go_roundw
      case rel => exact ⟨k + 1, by omega, by go_num, congrArg (Value.int IntKind.i64) (by omega), by rw [← prowAt_step HM.out (by have := HZ.out; omega)]; exact (((hown.stored (k * 3) _).1.stored (k * 3 + 1) _).1.stored (k * 3 + 2) _).1, grown_trans hgr (grown_trans (grown_trans (hown.stored (k * 3) _).2 ((hown.stored (k * 3) _).1.stored (k * 3 + 1) _).2) (((hown.stored (k * 3) _).1.stored (k * 3 + 1) _).1.stored (k * 3 + 2) _).2)⟩
      case measure => simp [intOf]; omega
    · have hkn : k = n := by omega
      subst hkn
      rw [prowAt_end (markedP_length _ _) hlen] at hown
      clear hlen
      go_wp2
      go_ret
      exact ⟨rfl, hown, hgr⟩
set_option maxHeartbeats 400000 in
theorem heldPieceS_any (A : Option Addr) (n c B : Nat) (k0 : Int) (w : World) (hn : n ≤ 1048576) (h0 : 0 ≤ k0) (h1 : k0 ≤ 1048576) (h : Pieces w B A n (markedP k0 n)) :
    Calls Try.prog 39 #[.slice A n c, .int .i64 k0] w fun e w' => e = .returned (.int .i64 (k0 + 3 * n)) ∧ w = w' := by
  go_enter Try.func39, Try.ntmps39
  go_wp2
  go_loop [1, 5] (fun kk i => ∃ k : Nat, k ≤ n ∧ i = .int .i64 k ∧ kk = .int .i64 (k0 + 3 * k)) (fun _ i => n - (intOf i).toNat)
  case atStart => exact ⟨0, Nat.zero_le _, rfl, by simp⟩
  case round =>
    obtain ⟨k, hk, rfl, rfl⟩ := hrel
    by_cases hlt : k < n
    · obtain ⟨ad, b, x, y, rfl, hb, hps, hc0, hc1, hc2, hd1, hd2⟩ := h.at_ hlt
      rw [markedP_at hlt] at hps
      injection hps with hps
      injection hps with e1 e2
      injection e2 with e2 e3
      subst e1 e2 e3
      go_wp2
      go_round
      case rel => exact ⟨k + 1, by omega, by go_num, congrArg (Value.int IntKind.i64) (by omega)⟩
      case measure => simp [intOf]; omega
    · have hkn : k = n := by omega
      subst hkn
      go_wp2
      go_ret
      exact ⟨rfl, rfl⟩
theorem markTable_any (a b : ByteArray) (A : Option Addr) (n c base : Nat) (ps : List (Bool × Int × Int)) (k0 : Int) (w : World) (hn : n ≤ 1048576) (h0 : 0 ≤ k0) (h1 : k0 ≤ 1048576) (hown : OwnP 49 w base A n c ps) :
    Calls Try.prog 14 #[.agg #[.string a, .string b, .slice A n c], .int .i64 k0] w fun e w' => e = .returned (.int .i64 (k0 + 3 * n)) ∧ OwnP 49 w' base A n c (markedP k0 n) ∧ w.grownBy w' (Value.slice A n c).ownBlock := by
  have hg0 := World.grownBy_alloc w (.cells #[.string a, .string b, .slice A n c] 24) (Value.slice A n c).ownBlock
  go_enter Try.func14, Try.ntmps14
  go_wp2_with (go_at_call 38; refine (markPieceS_any _ _ _ _ _ _ _ hn h0 h1 (hown.2.alloc _)).mono ?_; rintro e w1 ⟨rfl, ho1, hg1⟩)
  go_ret
  exact ⟨rfl, ⟨markedP_length _ _, ho1⟩, grown_trans hg0 hg1⟩
theorem heldTable_any (a b : ByteArray) (A : Option Addr) (n c : Nat) (k0 : Int) (w : World) (hn : n ≤ 1048576) (h0 : 0 ≤ k0) (h1 : k0 ≤ 1048576) (h : Pieces w w.heap.size A n (markedP k0 n)) :
    Calls Try.prog 15 #[.agg #[.string a, .string b, .slice A n c], .int .i64 k0] w fun e w' => e = .returned (.int .i64 (k0 + 3 * n)) ∧ Below w.heap.size w w' := by
  go_enter Try.func15, Try.ntmps15
  go_wp2_with (go_at_call 39; refine (heldPieceS_any _ _ _ _ _ _ hn h0 h1 ((h.below (B' := w.heap.size) (balloc (Below.refl _ _) _) (Nat.le_refl _)))).mono ?_; rintro e w' ⟨rfl, rfl⟩)
  go_ret
  exact ⟨rfl, (by repeat (first | exact Below.refl _ _ | assumption | (refine bstep ?_ (by assumption)) | refine balloc ?_ _ | refine bdrew ?_ | refine bdrewN ?_ _ | refine bset ?_ (by first | (simp; done) | (simp; omega)) _))⟩
end Go.Proofs.Ytppfggfmpmccpaa
