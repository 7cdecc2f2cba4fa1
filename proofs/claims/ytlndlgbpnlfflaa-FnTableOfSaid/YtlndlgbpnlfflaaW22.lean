/- Contracts of TableText, whole. -/
import Derived.Test.YtlndlgbpnlfflaaW18
import Derived.Test.YtlndlgbpnlfflaaW20
import Derived.Test.YtlndlgbpnlfflaaW21
import Derived.Test.YtlndlgbpnlfflaaSh
import Derived.Deep.RegionHeld3
import Derived.Deep.AppendLies
namespace Go.Proofs.Ytlndlgbpnlfflaa
open Go.RowKit

theorem builderAt_below {T e : TypeId} {B b : Nat} {p : Value} {bs : List Value} {w w' : World} (h : Lib.BuilderAt T e B b p bs w) (hb : Below w.heap.size w w') : Lib.BuilderAt T e B b p bs w' := by
  have hlt := h.lt
  obtain ⟨hB, v, hbk, hown, hne⟩ := h
  exact ⟨hB, v, by rw [hb.block b hlt]; exact hbk, owns_below hown hb, hne⟩
theorem builder_below {T e : TypeId} {B b : Nat} {bs : List Value} {w w' : World} (h : Lib.IsBuilder T e B b bs w) (hb : Below w.heap.size w w') : Lib.IsBuilder T e B b bs w' := by
  rcases h with h | h
  · exact .inl (builderAt_below h hb)
  · exact .inr (builderAt_below h hb)
theorem builder_lt {T e : TypeId} {B b : Nat} {bs : List Value} {w : World} (h : Lib.IsBuilder T e B b bs w) : b < w.heap.size := by
  rcases h with h | h
  · exact h.lt
  · exact h.lt
set_option maxHeartbeats 800000 in
theorem whole_any (f m : ByteArray) (A : Option Addr) (n c : Nat) (ps : List (Bool × Int × Int)) (w : World) (hf : f.size ≤ 1048576) (hm : m.size ≤ 1048576) (hn2 : n ≤ 1048576) (hr : Pieces w w.heap.size A n ps) (ht : tableB f.data.toList m.data.toList ps = true) :
    Calls Try.prog 65 #[.agg #[.string f, .string m, .slice A n c]] w fun e w' => e = .returned (.string (mk (wholeL f.data.toList m.data.toList ps))) ∧ Below w.heap.size w w' := by
  have HT := Lib.hid ht
  clear ht
  go_enter Try.func65, Try.ntmps65
  go_wp2
  go_loopw [9] (fun i wr => ∃ k : Nat, k ≤ n ∧ i = .int .i64 k ∧ Lib.IsBuilder 88 5 (w.heap.size + 1) (w.heap.size + 1) (Lib.byteCells (wholeL f.data.toList m.data.toList (ps.take k))) wr ∧ Below (w.heap.size + 1) (w.alloc (.cells #[.string f, .string m, .slice A n c] 53)) wr) (fun i _ => n - (intOf i).toNat)
  case atStart => exact ⟨0, Nat.zero_le _, rfl, by have := Lib.fresh_isBuilder 88 5 (w.alloc (.cells #[.string f, .string m, .slice A n c] 53)); simp only [World.size_alloc] at this; exact this, (Below.refl _ _).alloc (by simp) _⟩
  case round =>
    obtain ⟨k, hk, rfl, hbu, hbw⟩ := hrel
    have hz := builder_lt hbu
    have hz' : w.heap.size < wr.heap.size := by omega
    have b0 : wr.cell? ⟨w.heap.size, 0, none⟩ = some (.string f) := (hbw.cell (p := ⟨w.heap.size, 0, none⟩) (by simp)).trans (by simp)
    have b1 : wr.cell? ⟨w.heap.size, 1, none⟩ = some (.string m) := (hbw.cell (p := ⟨w.heap.size, 1, none⟩) (by simp)).trans (by simp)
    have b2 : wr.cell? ⟨w.heap.size, 2, none⟩ = some (.slice A n c) := (hbw.cell (p := ⟨w.heap.size, 2, none⟩) (by simp)).trans (by simp)
    have hbw' : Below w.heap.size w wr := (balloc (Below.refl _ _) _).trans (hbw.mono (by omega))
    by_cases hlt : k < n
    · obtain ⟨ad, b, x, y, rfl, hb, hps, hc0, _, _, hc1, hc2⟩ := (hr.below hbw' (Nat.le_refl _)).at_ hlt
      have HM := Lib.hid hps
      clear hps
      have hp : pieceB f.size m.size (b, x, y) = true := tableB_pieceB HT.out HM.out
      have HS := Lib.hid (wholeL_step (f := f.data.toList) (m := m.data.toList) HM.out)
      have hsh := wholeL_short HT.out (k + 1)
      rw [HS.out, List.length_append] at hsh
      go_wp2_with fail
      refine (text_any f m _ _ _ b x y _ hf hm hp).mono ?_
      rintro e w1 ⟨rfl, hb1⟩
      have hz1 := hb1.size
      simp at hz1
      have hbu1 := builder_below (builder_below hbu (balloc (Below.refl _ _) (.cells #[.bool b, .int .i64 x, .int .i64 y] 78))) hb1
      go_wp2_with fail
      refine (builderWrite_any _ _ _ _ _ hbu1 (by rw [Lib.byteCells_length, mk_size]; omega) (by omega)).mono ?_
      rintro e w2 ⟨rfl, hbu2, hb2⟩
      go_wp2
      go_roundw
      case rel => exact ⟨k + 1, by omega, by go_num, .inr (by rw [HS.out, Lib.byteCells_append]; exact hbu2), ((hbw.alloc (by omega) _).trans (hb1.mono (by simp; omega))).trans hb2⟩
      case measure => simp [intOf]; omega
    · have hl := hr.1
      rw [List.take_of_length_le (by omega)] at hbu
      clear hl
      go_wp2_with (go_at_call 76; refine (Try.Builder_String_any _ _ _ _ hbu (by omega)).mono ?_; rintro e w1 ⟨rfl, hb1⟩)
      go_ret
      exact ⟨rfl, hbw'.trans (hb1.mono (by omega))⟩
theorem implTableText_any (f m : ByteArray) (A : Option Addr) (n c : Nat) (ps : List (Bool × Int × Int)) (w : World) (hf : f.size ≤ 1048576) (hm : m.size ≤ 1048576) (hn2 : n ≤ 1048576) (hr : Pieces w w.heap.size A n ps) :
    Calls Try.prog 39 #[.agg #[.string f, .string m, .slice A n c]] w fun e w' => e = .returned (.string (mk (tableTextL f.data.toList m.data.toList ps))) ∧ Below w.heap.size w w' := by
  have hr0 : Pieces (w.alloc (.cells #[.string f, .string m, .slice A n c] 53)) (w.alloc (.cells #[.string f, .string m, .slice A n c] 53)).heap.size A n ps := (hr.below (balloc (Below.refl _ _) _) (Nat.le_refl _)).more (by simp)
  cases ht : tableB f.data.toList m.data.toList ps
  · rw [tableTextL_0 ht]
    have H := Lib.hid ht
    clear ht
    go_enter Try.func39, Try.ntmps39
    go_wp2_with fail
    refine (implTableValid_any _ _ _ _ _ _ _ hf hm hn2 hr0).mono ?_
    rw [H.out]
    rintro e w1 ⟨rfl, hb1⟩
    go_wp2
    go_ret
    exact ⟨rfl, (by repeat (first | exact Below.refl _ _ | assumption | (refine bstep ?_ (by assumption)) | refine balloc ?_ _ | refine bdrew ?_ | refine bdrewN ?_ _ | refine bset ?_ (by first | (simp; done) | (simp; omega)) _))⟩
  · rw [tableTextL_1 ht]
    have H := Lib.hid ht
    clear ht
    go_enter Try.func39, Try.ntmps39
    go_wp2_with fail
    refine (implTableValid_any _ _ _ _ _ _ _ hf hm hn2 hr0).mono ?_
    rw [H.out]
    rintro e w1 ⟨rfl, hb1⟩
    obtain ⟨hc1, hf1⟩ := bcell hb1
    have hz1 := hb1.size
    simp at hz1
    have hr1 : Pieces w1 w1.heap.size A n ps := (hr0.below hb1 (Nat.le_refl _)).more hb1.size
    go_wp2_with fail
    refine (whole_any _ _ _ _ _ _ _ hf hm hn2 hr1 H.out).mono ?_
    rintro e w2 ⟨rfl, hb2⟩
    go_wp2
    go_ret
    exact ⟨rfl, (by repeat (first | exact Below.refl _ _ | assumption | (refine bstep ?_ (by assumption)) | refine balloc ?_ _ | refine bdrew ?_ | refine bdrewN ?_ _ | refine bset ?_ (by first | (simp; done) | (simp; omega)) _))⟩
end Go.Proofs.Ytlndlgbpnlfflaa
