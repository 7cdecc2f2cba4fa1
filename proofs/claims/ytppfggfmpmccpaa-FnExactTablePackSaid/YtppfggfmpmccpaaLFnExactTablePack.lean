/- The law FnExactTablePack: for every input the call returns true, and each argument reads afterwards as it read before. No condition. -/
import Derived.Test.YtppfggfmpmccpaaRows
import Derived.ProofKit
import Derived.OpenShut
import Derived.ShutString
import Derived.ChangeOld
import Derived.Lib.SmallJoins
import Derived.Test.YtppfggfmpmccpaaPo
import Derived.Test.YtppfggfmpmccpaaVFnExactTablePack
namespace Go.Proofs.Ytppfggfmpmccpaa.fnExactTablePack
open Go.ChangeShapes Go.WideShapes Go.ChangeAt Go.RowKit Go.Joins
open Go.ChangeMaps (open_string shut_string)
set_option linter.unusedVariables false

theorem own : ownKnob Try.prog.godebug = none := by kernel_rfl
theorem laidOut : laidOutB Try.prog = true := by kernel_rfl
theorem cellsT : Try.prog.cellsOf 31 = 3 := by kernel_rfl
set_option maxRecDepth 100000 in
theorem lifted (os : Os) (started : os.Started) (H : Type) (enc : TypeId × Value → H) :
    ReturnsInHanded {} Try.checked os 9 .any (Rows.fnExactTablePackSpec.pre6 enc Try.prog Try.f9 Rows.fnExactTablePackRow.domain false) (Rows.fnExactTablePackSpec.post enc Try.prog Try.f9 false true false false) := by
  refine returnsInHanded_of_change (C := Try.checked) own started (by kernel_rfl) Try.func9
    (ChangeSpec.witness6 (enc := enc) (C := Try.checked) false ⟨#[], #[.agg #[.string ByteArray.empty, .string ByteArray.empty, .slice none 0 0]], []⟩ 8 (by kernel_rfl) (by kernel_rfl) (by kernel_rfl) (by kernel_rfl)) ?_
  intro W base args ds gs before hval0 hW hcnd _
  have hval : ∀ (j : Nat) t v, Try.f9.params[j]? = some t → args[j]? = some v → Value.okWide Try.prog W .any base t v := hval0
  have hW' := hW
  obtain ⟨p, q, hA0, hV, rfl, hfz, hnd⟩ := hW
  have hA : DataW.TrodAll enc Try.prog W 0 (fun _ => true) true Try.f9.params.toList args.toList ds p := hA0
  rw [Try.params9] at hA hval
  obtain ⟨v0, vs0, d0, ds0, p0, q0, hargs, rfl, rfl, h0, r0⟩ := trodAll_cons hA
  obtain ⟨rfl, rfl, rfl⟩ := trodAll_nil r0
  obtain rfl : args = #[v0] := by cases args; simp_all
  obtain ⟨rfl, rfl⟩ := trodVars_none hV
  have k0 := h0
  have lt0 : ∀ x ∈ p0, x.block < W.heap.size := by obtain ⟨m, hm⟩ := k0; exact DataW.trod_lt m _ _ _ hm
  obtain ⟨c00, c01, c02, y00, y01, y02, m0, rfl, rfl, _, hy00, hy01, hy02⟩ := open_agg3 Try.underlying31 (by kernel_rfl) cellsT (hval 0 31 v0 rfl rfl) h0
  obtain ⟨a00, e00, hd00, w00⟩ := DataW.trod_string Try.underlying9 hy00
  simp only [List.cons.injEq, and_true] at e00
  subst e00
  obtain ⟨a01, e01, hd01, w01⟩ := DataW.trod_string Try.underlying9 hy01
  simp only [List.cons.injEq, and_true] at e01
  subst e01
  obtain ⟨a02, len0, cap0, ps0, e02, ln0, w0⟩ : ∃ A n c ps, c02 = .slice A n c ∧ n ≤ maxLen ∧ Pieces W W.heap.size A n ps := by
    rcases open_slice_three Try.underlying29 Try.underlying66 (by kernel_rfl) rfl rfl rfl (by kernel_rfl) (by kernel_rfl) (by kernel_rfl) hy02 with hcs | ⟨a, l, c, hcs, hl, hm, hcell⟩
    · simp only [List.cons.injEq, and_true] at hcs
      exact ⟨none, 0, 0, [], hcs, Nat.zero_le _, pieces_nil _ _ _⟩
    · simp only [List.cons.injEq, and_true] at hcs
      obtain ⟨ps, hps⟩ := pieces_mk (w := W) (a := a) l fun i hi => by
        obtain ⟨v0, v1, v2, k, y0, y1, y2, g0, g1, g2, t0, t1, t2⟩ := hcell i hi
        obtain ⟨b, e0, _⟩ := DataW.trod_bool Try.underlying4 t0
        obtain ⟨p, e1, _⟩ := DataW.trod_int Try.underlying3 t1
        obtain ⟨q, e2, _⟩ := DataW.trod_int Try.underlying3 t2
        simp only [List.cons.injEq, and_true] at e0 e1 e2
        exact ⟨b, p, q, by rw [g0, e0], by rw [g1, e1], by rw [g2, e2]⟩
      exact ⟨some a, l, c, ps, hcs, Nat.le_trans hl hm, hps⟩
  subst e02
  clear hA0 hval0
  refine (walk a00 a01 a02 len0 cap0 ps0 w00 w01 ln0 W w0).mono fun e W' ⟨he, bel⟩ => ?_
  subst he
  exact ⟨_, rfl, _, _, _, [], _, [], hW', trodAll_mk1 (shut_bool Try.underlying4 _), (trodAll_cons_mk (Below.trod laidOut (by kernel_rfl) (of_decide_eq_true (by kernel_rfl)) k0 bel lt0) trodAll_mk0), rfl, bel.frame _, fun h => by cases h⟩

theorem over : Rows.fnExactTablePackRow.holds Try.pinned (OpenSpec.ofChange Rows.fnExactTablePackSpec) :=
  OpenClaim.holds_of_wide 9 Try.f9 rfl rfl rfl rfl rfl rfl rfl ⟨rfl, rfl, rfl, rfl, rfl⟩ rfl rfl rfl rfl rfl (by kernel_rfl) Try.func9 (by kernel_rfl)
    (of_decide_eq_true (by kernel_rfl)) (by unfold Func.isWrapper; first | (rw [if_pos (by decide +kernel)]; kernel_rfl) | (rw [if_neg (by decide +kernel)]; exact ⟨rfl, rfl⟩))
    (fun os started H enc _ => lifted os started H enc)

/-- The statement. -/
theorem proved : Rows.FnExactTablePackSaid := over
end Go.Proofs.Ytppfggfmpmccpaa.fnExactTablePack
