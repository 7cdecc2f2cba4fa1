/- What the drawing functions leave: texts. -/
import Derived.Test.YtlndlgbpnlfflaaD2
import Derived.Test.YtlndlgbpnlfflaaW9
namespace Go.Proofs.Ytlndlgbpnlfflaa
open Go.RowKit

/-- What a function that draws a text leaves. -/
def StrV (w : World) (e : Ending) (w' : World) : Prop := ∃ s : ByteArray, e = .returned (.string s) ∧ s.size ≤ 125 ∧ Below w.heap.size w w'
theorem DrawTableOf_any (A : Option Addr) (n c : Nat) (w : World) (h : Byt w w.heap.size A n) (hnc : n ≤ c) (hc : c ≤ maxLen) :
    Calls Try.prog 33 #[.slice A n c] w (StrV w) := by
  go_enter Try.func33, Try.ntmps33
  go_wp2_with fail
  refine (open_any _ _ _ _ h hnc hc).mono ?_
  rintro e w1 ⟨r, rfl, hr, hrd, hb1⟩
  go_wp2_with fail
  refine (text_draw _ _ _ _ hrd (by omega)).mono ?_
  rintro e w2 ⟨s, rfl, hs, hrd2, hg2⟩
  go_wp2
  go_ret
  exact ⟨s, rfl, hs, brd hb1 hg2 hr⟩
theorem alive_any (w : World) : Calls Try.prog 14 #[] w fun e w' => e = .returned (.bool true) ∧ w = w' := by
  have H := Lib.hid (show lineManyI (⟨#[97, 10, 98]⟩ : ByteArray).data.toList = 2 by decide)
  go_enter Try.func14, Try.ntmps14
  go_wp2_with fail
  refine (implLineMany_any _ _ (by decide)).mono ?_
  rw [H.out]
  rintro e w' ⟨rfl, rfl⟩
  go_wp2
  go_ret
  exact ⟨rfl, rfl⟩
theorem implTextValid_yes (s : ByteArray) (w : World) (h : tvB s.data.toList = true) : Calls Try.prog 49 #[.string s] w fun e w' => e = .returned (.bool true) ∧ w = w' := by
  have := implTextValid_any s w (by have := tv_size h; unfold maxLen; omega)
  rwa [h] at this
theorem implTextValid_no (s : ByteArray) (w : World) (hs : s.size ≤ maxLen) (h : tvB s.data.toList = false) : Calls Try.prog 49 #[.string s] w fun e w' => e = .returned (.bool false) ∧ w = w' := by
  have := implTextValid_any s w hs
  rwa [h] at this
end Go.Proofs.Ytlndlgbpnlfflaa
