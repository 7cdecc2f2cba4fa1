/- Contracts of the functions on changes and gaps. -/
import Derived.Test.YtlndlgbpnlfflaaW1
import Derived.Handy
import Derived.RegionTactic
import Derived.ChangeAlike
namespace Go.Proofs.Ytlndlgbpnlfflaa
open Go.RowKit

theorem bcell {W w1 : World} (hb : Below W.heap.size W w1) : (∀ b o, b < W.heap.size → w1.cell? ⟨b, o, none⟩ = W.cell? ⟨b, o, none⟩) ∧ (∀ b o, b < W.heap.size → w1.frozen? ⟨b, o, none⟩ = W.frozen? ⟨b, o, none⟩) :=
  ⟨fun b o h => hb.cell (p := ⟨b, o, none⟩) h, fun b o h => hb.frozen (p := ⟨b, o, none⟩) h⟩

theorem bstep {a w w' : World} (h : Below a.heap.size a w) (hb : Below w.heap.size w w') : Below a.heap.size a w' := h.trans (hb.mono h.size)
theorem balloc {a w : World} (h : Below a.heap.size a w) (o : Obj) : Below a.heap.size a (w.alloc o) := h.alloc h.size o
theorem bdrew {a w : World} (h : Below a.heap.size a w) : Below a.heap.size a w.drew := h.drew
theorem bdrewN {a w : World} (h : Below a.heap.size a w) (n : Nat) : Below a.heap.size a (w.drewN n) := ⟨h.os, h.tape, h.output, h.size, h.block⟩
theorem bset {a w : World} (h : Below a.heap.size a w) {p : Addr} (hp : a.heap.size ≤ p.block) (u : Value) : Below a.heap.size a (w.setCell p u) := h.setCell hp u

set_option maxHeartbeats 400000 in
theorem specGapOf_any (s : ByteArray) (p : Int) (w : World) (hs : s.size ≤ maxLen) :
    Calls Try.prog 44 #[.string s, .int .i64 p] w fun e w' => e = .returned (gapV (gapOfL s.data.toList p)) ∧ Below w.heap.size w w' := by
  have hs' := hs
  unfold maxLen at hs'
  cases h : tvB s.data.toList
  · rw [gapOfL_bad (placeB_no h)]
    have H := Lib.hid h
    clear h
    go_enter Try.func44, Try.ntmps44
    go_wp2_with (go_at_call 37; refine (specTextValid_any _ _ hs).mono ?_; rw [H.out]; rintro e w' ⟨rfl, rfl⟩)
    go_returns
    exact ⟨rfl, by go_grown⟩
  · have H := Lib.hid h
    by_cases hp : 0 ≤ p ∧ p ≤ s.size
    · have hb := inI_yes hp.1 hp.2
      rw [gapOfL_good (by rw [placeB_yes h]; exact hb), ← extract_head, ← extract_tail]
      have HB := Lib.hid hb
      clear hb h
      obtain ⟨hp0, hp1⟩ := hp
      go_enter Try.func44, Try.ntmps44
      go_wp2_with (first | (go_at_call 37; refine (specTextValid_any _ _ hs).mono ?_; rw [H.out]; rintro e w' ⟨rfl, rfl⟩) | (go_at_call 48; refine (l1In_any _ _ _ _).mono ?_; rw [HB.out]; rintro e w' ⟨rfl, rfl⟩))
      go_region
      go_wp2
      go_returns
      exact ⟨rfl, by go_grown⟩
    · have hb : inI p 0 (s.size : Int) = false := inI_no (by omega)
      rw [gapOfL_bad (by rw [placeB_yes h]; exact hb)]
      have HB := Lib.hid hb
      clear hb h
      go_enter Try.func44, Try.ntmps44
      go_wp2_with (first | (go_at_call 37; refine (specTextValid_any _ _ hs).mono ?_; rw [H.out]; rintro e w' ⟨rfl, rfl⟩) | (go_at_call 48; refine (l1In_any _ _ _ _).mono ?_; rw [HB.out]; rintro e w' ⟨rfl, rfl⟩))
      go_returns
      exact ⟨rfl, by go_grown⟩
set_option maxHeartbeats 400000 in
theorem implGapOf_any (s : ByteArray) (p : Int) (w : World) (hs : s.size ≤ maxLen) :
    Calls Try.prog 16 #[.string s, .int .i64 p] w fun e w' => e = .returned (gapV (gapOfL s.data.toList p)) ∧ Below w.heap.size w w' := by
  have hs' := hs
  unfold maxLen at hs'
  cases h : placeB s.data.toList p
  · rw [gapOfL_bad h]
    have H := Lib.hid h
    clear h
    go_enter Try.func16, Try.ntmps16
    go_wp2_with (go_at_call 46; refine (isPlace_any _ _ _ hs).mono ?_; rw [H.out]; rintro e w' ⟨rfl, rfl⟩)
    go_returns
    exact ⟨rfl, by go_grown⟩
  · have H := Lib.hid h
    obtain ⟨hp0, hp1⟩ := placeB_range h
    rw [gapOfL_good h, ← extract_head, ← extract_tail]
    clear h
    go_enter Try.func16, Try.ntmps16
    go_wp2_with (go_at_call 46; refine (isPlace_any _ _ _ hs).mono ?_; rw [H.out]; rintro e w' ⟨rfl, rfl⟩)
    go_region
    go_wp2
    go_returns
    exact ⟨rfl, by go_grown⟩
end Go.Proofs.Ytlndlgbpnlfflaa
