/- The walk of the law FnExactPutLines: the call returns true and turns nothing that was there. -/
import Derived.Test.YtppfggfmpmccpaaDoorW32
namespace Go.Proofs.YtppfggfmpmccpaaDoor.fnExactPutLines
open Go.RowKit
set_option maxRecDepth 100000 in
set_option maxHeartbeats 1600000 in
theorem walk (s : ByteArray) (hs : s.size ≤ maxLen) (a : Int) (_ : (Lit.int .i64 a).wf = true) (r : ByteArray) (hr : r.size ≤ maxLen) (mL : Int) (w : World) (hm : w.cell? ⟨0, 0, none⟩ = some (.int .i64 mL)) :
    Calls Tryd.prog 3 #[.string s, .int .i64 a, .string r] w fun e w' => e = .returned (.bool true) ∧ Below w.heap.size w w' := by
  have hs' := hs
  have hr' := hr
  unfold maxLen at hs' hr'
  have hlt0 : 0 < w.heap.size := cell_lt hm
  by_cases hs2 : 1048576 < (s.size : Int)
  · go_enter Tryd.func3, Tryd.ntmps3
    go_wp2
    go_ret
    exact ⟨rfl, Below.refl _ _⟩
  · by_cases hr2 : 1048576 < (r.size : Int)
    · go_enter Tryd.func3, Tryd.ntmps3
      go_wp2
      go_ret
      exact ⟨rfl, Below.refl _ _⟩
    · obtain ⟨x, b, hx⟩ : ∃ x b, strBoolV (putR s.data.toList a r.data.toList) = .tuple #[.string x, .bool b] := ⟨_, _, rfl⟩
      have HX := Lib.hid hx
      clear hx
      go_enter Tryd.func3, Tryd.ntmps3
      go_wp2_with fail
      refine (specPutLines_any s a r _ (by omega) (by omega)).mono ?_
      rw [HX.out]
      rintro e w1 ⟨rfl, hb1⟩
      have hm1 := (hb1.cell (p := ⟨0, 0, none⟩) hlt0).trans hm
      go_wp2_with fail
      refine (implPutLines_any s a r mL _ (by omega) (by omega) hm1).mono ?_
      rw [HX.out]
      rintro e w2 ⟨rfl, hb2⟩
      go_wp2
      go_ret
      exact ⟨rfl, bstep hb1 hb2⟩
end Go.Proofs.YtppfggfmpmccpaaDoor.fnExactPutLines
