/- The walk of the law FnExactCutLines: the call returns true and turns nothing that was there. -/
import Derived.Test.YtppfggfmpmccpaaDoorW30
import Derived.Test.YtppfggfmpmccpaaDoorW31
namespace Go.Proofs.YtppfggfmpmccpaaDoor.fnExactCutLines
open Go.RowKit
theorem wf_bounds {a : Int} (h : (Lit.int .i64 a).wf = true) : -9223372036854775808 ≤ a ∧ a ≤ 9223372036854775807 := by
  simp only [Lit.wf] at h
  have h1 : IntKind.i64.min = -9223372036854775808 := rfl
  have h2 : IntKind.i64.max = 9223372036854775807 := rfl
  simp only [Bool.and_eq_true, decide_eq_true_eq, h1, h2] at h
  exact h
set_option maxRecDepth 100000 in
set_option maxHeartbeats 1600000 in
theorem walk (s : ByteArray) (hs : s.size ≤ maxLen) (f : Int) (hf : (Lit.int .i64 f).wf = true) (m : Int) (hm2 : (Lit.int .i64 m).wf = true) (mL : Int) (w : World) (hm : w.cell? ⟨0, 0, none⟩ = some (.int .i64 mL)) :
    Calls Tryd.prog 5 #[.string s, .int .i64 f, .int .i64 m] w fun e w' => e = .returned (.bool true) ∧ Below w.heap.size w w' := by
  have hs' := hs
  unfold maxLen at hs'
  have hlt0 : 0 < w.heap.size := cell_lt hm
  have hf' := wf_bounds hf
  have hm' := wf_bounds hm2
  clear hf hm2
  by_cases hs2 : 1048576 < (s.size : Int)
  · go_enter Tryd.func5, Tryd.ntmps5
    go_wp2
    go_ret
    exact ⟨rfl, Below.refl _ _⟩
  · obtain ⟨x, b, hx⟩ : ∃ x b, strBoolV (cutR s.data.toList f m) = .tuple #[.string x, .bool b] := ⟨_, _, rfl⟩
    have HX := Lib.hid hx
    have HF := Lib.hid hf'
    have HM := Lib.hid hm'
    clear hx hf' hm'
    go_enter Tryd.func5, Tryd.ntmps5
    go_wp2_with fail
    refine (specCutLines_any s f m _ (by omega) HF.out HM.out).mono ?_
    rw [HX.out]
    rintro e w1 ⟨rfl, hb1⟩
    have hm1 := (hb1.cell (p := ⟨0, 0, none⟩) hlt0).trans hm
    go_wp2_with fail
    refine (implCutLines_any s f m mL _ (by omega) hm1 HF.out HM.out).mono ?_
    rw [HX.out]
    rintro e w2 ⟨rfl, hb2⟩
    go_wp2
    go_ret
    exact ⟨rfl, bstep hb1 hb2⟩
end Go.Proofs.YtppfggfmpmccpaaDoor.fnExactCutLines
