/- What the drawing functions leave: lines. -/
import Derived.Test.YtckhhdhkchcljaaD3
import Derived.Test.YtckhhdhkchcljaaD5
namespace Go.Proofs.Ytckhhdhkchcljaa
open Go.RowKit

set_option maxHeartbeats 400000 in
theorem line_draw (r P : Nat) (w : World) (h : Rd 84 w r P) (hP : P ≤ 999999000) :
    Calls Try.prog 75 #[.pointer (some ⟨r, 0, none⟩)] w (SpotV 84 w r (P + 40)) := by
  go_enter Try.func75, Try.ntmps75
  go_wp2_with fail
  refine (text_draw _ _ _ _ h (by omega)).mono ?_
  rintro e w1 ⟨s, rfl, hs, hr1, hg1⟩
  have hsm : s.size ≤ maxLen := by unfold maxLen; omega
  have h1 : lineManyI s.data.toList = -1 ∨ 1 ≤ lineManyI s.data.toList := by
    cases ht : tvB s.data.toList
    · exact .inl (lineManyI_0 ht)
    · rw [lineManyI_1 ht]
      omega
  have h2 : lineManyI s.data.toList ≤ 126 := by
    cases ht : tvB s.data.toList
    · rw [lineManyI_0 ht]
      omega
    · rw [lineManyI_1 ht]
      have := nlc_le s.data.toList
      have e : s.data.toList.length = s.size := rfl
      omega
  generalize hm : lineManyI s.data.toList = m at h1 h2
  have HM := Lib.hid hm
  clear hm
  rcases (show m = -1 ∨ m = 1 ∨ 1 < m by omega) with rfl | rfl | hm1
  all_goals
    go_wp2_with (go_at_call 71; refine (specLineMany_any _ _ hsm).mono ?_; rw [HM.out]; rintro e w' ⟨rfl, rfl⟩)
    refine (pick_any r _ _ _ hr1 (by omega)).mono ?_
    rintro e w2 ⟨K, rfl, hK0, _, hr2, hg2⟩
    go_wp2
    go_ret2
    exact ⟨s, _, rfl, hs, hr2.more (by omega), gtrans hg1 hg2⟩
theorem DrawLineStart_any (A : Option Addr) (n c : Nat) (w : World) (h : Byt w w.heap.size A n) (hnc : n ≤ c) (hc : c ≤ maxLen) :
    Calls Try.prog 39 #[.slice A n c] w (DSpotV w) := by
  go_enter Try.func39, Try.ntmps39
  go_wp2_with fail
  refine (open_any _ _ _ _ h hnc hc).mono ?_
  rintro e w1 ⟨r, rfl, hr, hrd, hb1⟩
  go_wp2_with fail
  refine (line_draw _ _ _ hrd (by omega)).mono ?_
  rintro e w2 ⟨s, p, rfl, hs, hrd2, hg2⟩
  go_wp2
  go_ret2
  exact ⟨s, p, rfl, hs, brd hb1 hg2 hr⟩
theorem DrawLineEnd_any (A : Option Addr) (n c : Nat) (w : World) (h : Byt w w.heap.size A n) (hnc : n ≤ c) (hc : c ≤ maxLen) :
    Calls Try.prog 36 #[.slice A n c] w (DSpotV w) := by
  go_enter Try.func36, Try.ntmps36
  go_wp2_with fail
  refine (open_any _ _ _ _ h hnc hc).mono ?_
  rintro e w1 ⟨r, rfl, hr, hrd, hb1⟩
  go_wp2_with fail
  refine (line_draw _ _ _ hrd (by omega)).mono ?_
  rintro e w2 ⟨s, p, rfl, hs, hrd2, hg2⟩
  go_wp2
  go_ret2
  exact ⟨s, p, rfl, hs, brd hb1 hg2 hr⟩
end Go.Proofs.Ytckhhdhkchcljaa
