/- What the drawing functions leave: lines. -/
import Derived.Test.YtlndlgbpnlfflaaD3
import Derived.Test.YtlndlgbpnlfflaaD5
namespace Go.Proofs.Ytlndlgbpnlfflaa
open Go.RowKit

set_option maxHeartbeats 400000 in
theorem line_draw (r P : Nat) (w : World) (h : Rd 82 w r P) (hP : P ≤ 999999000) :
    Calls Try.prog 54 #[.pointer (some ⟨r, 0, none⟩)] w (SpotV 82 w r (P + 40)) := by
  go_enter Try.func54, Try.ntmps54
  go_wp2_with fail
  refine (text_draw _ _ _ _ h (by omega)).mono ?_
  rintro e w1 ⟨s, rfl, hs, hr1, hg1⟩
  have hsm : s.size ≤ maxLen := by unfold maxLen; omega
  have h1 : lineManyI s.data.toList = -1 ∨ 1 ≤ lineManyI s.data.toList := by
    cases ht : tvB s.data.toList
    · exact .inl (lineManyI_0 ht)
    · rw [lineManyI_1 ht]
      omega
  have h2 : lineManyI s.data.toList ≤ 126 := by
    cases ht : tvB s.data.toList
    · rw [lineManyI_0 ht]
      omega
    · rw [lineManyI_1 ht]
      have := nlc_le s.data.toList
      have e : s.data.toList.length = s.size := rfl
      omega
  generalize hm : lineManyI s.data.toList = m at h1 h2
  have HM := Lib.hid hm
  clear hm
  rcases (show m = -1 ∨ m = 1 ∨ 1 < m by omega) with rfl | rfl | hm1
  all_goals
    go_wp2_with (go_at_call 68; refine (specLineMany_any _ _ hsm).mono ?_; rw [HM.out]; rintro e w' ⟨rfl, rfl⟩)
    refine (pick_any r _ _ _ hr1 (by omega)).mono ?_
    rintro e w2 ⟨K, rfl, hK0, _, hr2, hg2⟩
    go_wp2
    go_ret2
    exact ⟨s, _, rfl, hs, hr2.more (by omega), gtrans hg1 hg2⟩
end Go.Proofs.Ytlndlgbpnlfflaa
