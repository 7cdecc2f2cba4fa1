/- What the drawing functions leave: texts. -/
import Derived.Test.YtecejfcoognkiaaD2
import Derived.Test.YtecejfcoognkiaaW9
namespace Go.Proofs.Ytecejfcoognkiaa
open Go.RowKit

/-- What a function that draws a text leaves. -/
def StrV (w : World) (e : Ending) (w' : World) : Prop := ∃ s : ByteArray, e = .returned (.string s) ∧ s.size ≤ 125 ∧ Below w.heap.size w w'
theorem alive_any (w : World) : Calls Try.prog 9 #[] w fun e w' => e = .returned (.bool true) ∧ w = w' := by
  have H := Lib.hid (show lineManyI (⟨#[97, 10, 98]⟩ : ByteArray).data.toList = 2 by decide)
  go_enter Try.func9, Try.ntmps9
  go_wp2_with fail
  refine (implLineMany_any _ _ (by decide)).mono ?_
  rw [H.out]
  rintro e w' ⟨rfl, rfl⟩
  go_wp2
  go_ret
  exact ⟨rfl, rfl⟩
theorem implTextValid_yes (s : ByteArray) (w : World) (h : tvB s.data.toList = true) : Calls Try.prog 13 #[.string s] w fun e w' => e = .returned (.bool true) ∧ w = w' := by
  have := implTextValid_any s w (by have := tv_size h; unfold maxLen; omega)
  rwa [h] at this
theorem implTextValid_no (s : ByteArray) (w : World) (hs : s.size ≤ maxLen) (h : tvB s.data.toList = false) : Calls Try.prog 13 #[.string s] w fun e w' => e = .returned (.bool false) ∧ w = w' := by
  have := implTextValid_any s w hs
  rwa [h] at this
end Go.Proofs.Ytecejfcoognkiaa
