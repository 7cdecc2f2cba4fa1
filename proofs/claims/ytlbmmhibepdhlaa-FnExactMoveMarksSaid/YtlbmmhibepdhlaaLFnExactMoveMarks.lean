/- The law FnExactMoveMarks: for every input the call returns true, and each argument reads afterwards as it read before. No condition. -/
import Derived.Test.YtlbmmhibepdhlaaRows
import Derived.ProofKit
import Derived.OpenShut
import Derived.ShutString
import Derived.ChangeOld
import Derived.Lib.SmallJoins
import Derived.Deep.SlicePairs
import Derived.Test.YtlbmmhibepdhlaaVFnExactMoveMarks
namespace Go.Proofs.Ytlbmmhibepdhlaa.fnExactMoveMarks
open Go.ChangeShapes Go.WideShapes Go.ChangeAt Go.RowKit Go.Joins
open Go.ChangeMaps (open_string shut_string)
set_option linter.unusedVariables false

theorem own : ownKnob Try.prog.godebug = none := by kernel_rfl
theorem laidOut : laidOutB Try.prog = true := by kernel_rfl
theorem cellsC : Try.prog.cellsOf 27 = 3 := by kernel_rfl
set_option maxRecDepth 100000 in
theorem lifted (os : Os) (started : os.Started) (H : Type) (enc : TypeId × Value → H) :
    ReturnsInHanded {} Try.checked os 14 .any (Rows.fnExactMoveMarksSpec.pre6 enc Try.prog Try.f14 Rows.fnExactMoveMarksRow.domain false) (Rows.fnExactMoveMarksSpec.post enc Try.prog Try.f14 false true false false) := by
  refine returnsInHanded_of_change (C := Try.checked) own started (by kernel_rfl) Try.func14
    (ChangeSpec.witness6 (enc := enc) (C := Try.checked) false ⟨#[], #[.string ByteArray.empty, .slice none 0 0, .agg #[.int .i64 0, .int .i64 0, .string ByteArray.empty]], []⟩ 8 (by kernel_rfl) (by kernel_rfl) (by kernel_rfl) (by kernel_rfl)) ?_
  intro W base args ds gs before hval0 hW hcnd _
  have hval : ∀ (j : Nat) t v, Try.f14.params[j]? = some t → args[j]? = some v → Value.okWide Try.prog W .any base t v := hval0
  have hW' := hW
  obtain ⟨p, q, hA0, hV, rfl, hfz, hnd⟩ := hW
  have hA : DataW.TrodAll enc Try.prog W 0 (fun _ => true) true Try.f14.params.toList args.toList ds p := hA0
  rw [Try.params14] at hA hval
  obtain ⟨v0, vs0, d0, ds0, p0, q0, hargs, rfl, rfl, h0, r0⟩ := trodAll_cons hA
  obtain ⟨v1, vs1, d1, ds1, p1, q1, rfl, rfl, rfl, h1, r1⟩ := trodAll_cons r0
  obtain ⟨v2, vs2, d2, ds2, p2, q2, rfl, rfl, rfl, h2, r2⟩ := trodAll_cons r1
  obtain ⟨rfl, rfl, rfl⟩ := trodAll_nil r2
  obtain rfl : args = #[v0, v1, v2] := by cases args; simp_all
  obtain ⟨rfl, rfl⟩ := trodVars_none hV
  have k0 := h0
  have lt0 : ∀ x ∈ p0, x.block < W.heap.size := by obtain ⟨m, hm⟩ := k0; exact DataW.trod_lt m _ _ _ hm
  obtain ⟨a0, rfl, rfl, _, w0⟩ := open_string Try.underlying9 (hval 0 9 v0 rfl rfl) h0
  have k1 := h1
  have lt1 : ∀ x ∈ p1, x.block < W.heap.size := by obtain ⟨m, hm⟩ := k1; exact DataW.trod_lt m _ _ _ hm
  obtain ⟨a1, len1, cap1, rfl⟩ := okWide_slice Try.underlying46 (hval 1 46 v1 rfl rfl)
  obtain ⟨ms1, ln1, w1⟩ : ∃ ms, len1 ≤ maxLen ∧ Marks W W.heap.size a1 len1 ms := by
    obtain ⟨fuel, hf⟩ := h1
    rcases Go.Deep.open_slice_pairs Try.underlying46 Try.underlying70 (by kernel_rfl) rfl rfl (by kernel_rfl) (by kernel_rfl) hf with ⟨hcs, _⟩ | ⟨a, l, c, m, n', V0, V1, D0, D1, P0, P1, hcs, _, hl, hm, hmm, _, hcell⟩
    · simp [Value.cells] at hcs
      obtain ⟨rfl, rfl, rfl⟩ := hcs
      exact ⟨[], Nat.zero_le _, marks_nil _ _ _⟩
    · simp [Value.cells] at hcs
      obtain ⟨rfl, rfl, rfl⟩ := hcs
      obtain ⟨ms, hms⟩ := marks_mk (w := W) (a := a) len1 fun i hi => by
        have hm' : i < m := by rw [hmm]; simp; omega
        obtain ⟨g0, g1, t0, t1⟩ := hcell i hm'
        obtain ⟨p, e0, _⟩ := DataW.trod_int Try.underlying3 t0
        obtain ⟨b, e1, _⟩ := DataW.trod_bool Try.underlying4 t1
        simp only [List.cons.injEq, and_true] at e0 e1
        exact ⟨p, b, by rw [g0, e0], by rw [g1, e1]⟩
      exact ⟨ms, Nat.le_trans hl hm, hms⟩
  have k2 := h2
  have lt2 : ∀ x ∈ p2, x.block < W.heap.size := by obtain ⟨m, hm⟩ := k2; exact DataW.trod_lt m _ _ _ hm
  obtain ⟨c20, c21, c22, y20, y21, y22, m2, rfl, rfl, _, hy20, hy21, hy22⟩ := open_agg3 Try.underlying27 (by kernel_rfl) cellsC (hval 2 27 v2 rfl rfl) h2
  obtain ⟨a20, e20, hd20, w20⟩ := DataW.trod_int Try.underlying3 hy20
  simp only [List.cons.injEq, and_true] at e20
  subst e20
  obtain ⟨a21, e21, hd21, w21⟩ := DataW.trod_int Try.underlying3 hy21
  simp only [List.cons.injEq, and_true] at e21
  subst e21
  obtain ⟨a22, e22, hd22, w22⟩ := DataW.trod_string Try.underlying9 hy22
  simp only [List.cons.injEq, and_true] at e22
  subst e22
  clear hA0 hval0
  refine (walk a0 w0 a1 len1 cap1 ms1 ln1 a20 a21 a22 w20 w21 w22 W w1).mono fun e W' ⟨he, bel⟩ => ?_
  subst he
  exact ⟨_, rfl, _, _, _, [], _, [], hW', trodAll_mk1 (shut_bool Try.underlying4 _), (trodAll_cons_mk (Below.trod laidOut (by kernel_rfl) (of_decide_eq_true (by kernel_rfl)) k0 bel lt0) (trodAll_cons_mk (Below.trod laidOut (by kernel_rfl) (of_decide_eq_true (by kernel_rfl)) k1 bel lt1) (trodAll_cons_mk (Below.trod laidOut (by kernel_rfl) (of_decide_eq_true (by kernel_rfl)) k2 bel lt2) trodAll_mk0))), rfl, bel.frame _, fun h => by cases h⟩

theorem over : Rows.fnExactMoveMarksRow.holds Try.pinned (OpenSpec.ofChange Rows.fnExactMoveMarksSpec) :=
  OpenClaim.holds_of_wide 14 Try.f14 rfl rfl rfl rfl rfl rfl rfl ⟨rfl, rfl, rfl, rfl, rfl⟩ rfl rfl rfl rfl rfl (by kernel_rfl) Try.func14 (by kernel_rfl)
    (of_decide_eq_true (by kernel_rfl)) (by unfold Func.isWrapper; first | (rw [if_pos (by decide +kernel)]; kernel_rfl) | (rw [if_neg (by decide +kernel)]; exact ⟨rfl, rfl⟩))
    (fun os started H enc _ => lifted os started H enc)

/-- The statement. -/
theorem proved : Rows.FnExactMoveMarksSaid := over
end Go.Proofs.Ytlbmmhibepdhlaa.fnExactMoveMarks
