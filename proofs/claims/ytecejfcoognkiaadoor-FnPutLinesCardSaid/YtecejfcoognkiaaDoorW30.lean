/- Contracts of CutLines. UNDER WAY. -/
import Derived.Test.YtecejfcoognkiaaDoorW25
import Derived.Test.YtecejfcoognkiaaDoorW26
import Derived.Test.YtecejfcoognkiaaDoorPj
import Derived.Lib.LazyBuf
import Derived.Lib.RowBridge
import Derived.WalkSmall
import Derived.IntWalk
namespace Go.Proofs.YtecejfcoognkiaaDoor
open Go.RowKit Go.Lib
theorem deleteS_any (T : TypeId) (w : World) (base g n c i j : Nat) (xs : List ByteArray) (h : OwnS T w base (some ⟨g, 0, none⟩) n c xs) (hij : i ≤ j) (hj : j ≤ n) :
    Calls Tryd.prog 44 #[.slice (some ⟨g, 0, none⟩) n c, .int .i64 i, .int .i64 j] w fun e w' => e = .returned (.slice (some ⟨g, 0, none⟩) (n - (j - i)) c) ∧ (∀ (k : Nat) x, (xs.take i ++ xs.drop j)[k]? = some x → w'.cell? ⟨g, 0 + k, none⟩ = some (.string x)) ∧ g < w'.heap.size ∧ Below base w w' := by
  have hxl := h.1
  obtain ⟨hbg, hgl⟩ := owns_lt h.2
  have hnc : n ≤ c ∧ c ≤ maxLen := by
    rcases h.2.2 with ⟨hv, h0⟩ | ⟨g', cap, cur, hv, _, hg, hc1, hc2, _⟩
    · cases hv
    · injection hv with _ _ h3
      omega
  have hcell : ∀ k, k < n → w.cell? ⟨g, 0 + k, none⟩ = some (.string (xs.getD k ⟨#[]⟩)) := fun k hk => by
    rw [Nat.zero_add, h.2.cellAt k (by omega), strCells_at (x := xs.getD k ⟨#[]⟩) (by rw [List.getD_eq_getElem?_getD, List.getElem?_eq_getElem (by omega)]; rfl)]
  have hst : strsOf (fun k => xs.getD k ⟨#[]⟩) n = datas xs := by
    unfold strsOf
    refine List.ext_getElem? fun k => ?_
    unfold datas
    rw [List.getElem?_map, List.getElem?_map]
    by_cases hk : k < n
    · rw [List.getElem?_range hk, List.getElem?_eq_getElem (by omega)]
      simp [List.getElem?_eq_getElem (show k < xs.length by omega)]
    · rw [List.getElem?_eq_none (by simp; omega), List.getElem?_eq_none (by omega)]
      rfl
  refine (Tryd.slices_Delete_string_cells g 0 n c i j (fun k => xs.getD k ⟨#[]⟩) w hnc.1 (by have := hnc.2; unfold maxLen at this; omega) hij hj hcell (fun k hk => by rw [Nat.zero_add]; exact h.2.frozenAt k)).mono ?_
  rintro e w' ⟨rfl, q, rfl⟩
  rw [hst]
  refine ⟨rfl, fun k x hk => ?_, ?_, below_setCells hbg _ _ _ (below_drewN (Below.refl _ _) _)⟩
  · have hl : k < (xs.take i ++ xs.drop j).length := (List.getElem?_eq_some_iff.1 hk).1
    rw [List.length_append, List.length_take, List.length_drop] at hl
    have := World.cell?_setCells_in g (((datas xs).take i ++ (datas xs).drop j ++ List.replicate (j - i) []).map encStr) 0 (w.drewN q) (fun m hm => by
      have hm2 : m < n := by simp [datas_length] at hm; omega
      show (w.cell? ⟨g, 0 + m, none⟩).isSome = true
      rw [hcell m hm2]
      rfl) k (by simp [datas_length]; omega)
    rw [this]
    refine congrArg some ?_
    rw [List.getElem_map]
    have e1 : ((datas xs).take i ++ (datas xs).drop j ++ List.replicate (j - i) [])[k]? = some x.data.toList := by
      rw [List.getElem?_append_left (by simp [datas_length]; omega)]
      unfold datas
      rw [← List.map_take, ← List.map_drop, ← List.map_append, List.getElem?_map, hk]
      rfl
    rw [Option.some.inj ((List.getElem?_eq_getElem _).symm.trans e1)]
  · exact Nat.lt_of_lt_of_le hgl (below_setCells hbg _ _ _ (below_drewN (Below.refl _ _) q)).size
set_option maxRecDepth 100000 in
set_option maxHeartbeats 800000 in
theorem implCutLines_any (s : ByteArray) (f m : Int) (mL : Int) (w : World) (hs : s.size < 4294967281) (hm : w.cell? ⟨0, 0, none⟩ = some (.int .i64 mL)) (hf : -9223372036854775808 ≤ f ∧ f ≤ 9223372036854775807) (hm0 : -9223372036854775808 ≤ m ∧ m ≤ 9223372036854775807) :
    Calls Tryd.prog 21 #[.string s, .int .i64 f, .int .i64 m] w fun e w' => e = .returned (strBoolV (cutR s.data.toList f m)) ∧ Below w.heap.size w w' := by
  have hsm : s.size ≤ maxLen := by unfold maxLen; omega
  cases ht : tvB s.data.toList
  · rw [cutR_0 ht]
    have H := Lib.hid ht
    clear ht
    go_enter Tryd.func21, Tryd.ntmps21
    go_wp2_with (go_at_call 26; refine (implTextValid_any _ _ hsm).mono ?_; rw [H.out]; rintro e w' ⟨rfl, rfl⟩)
    go_ret2
    exact ⟨rfl, Below.refl _ _⟩
  · have hl := linesB_length s
    have hn := nlc_le s.data.toList
    have hsl : s.data.toList.length = s.size := rfl
    have hsz := tv_size ht
    obtain ⟨N, hN⟩ : ∃ N, nlc s.data.toList = N := ⟨_, rfl⟩
    rw [hN] at hl hn
    have HT := Lib.hid ht
    go_enter Tryd.func21, Tryd.ntmps21
    go_wp2_with (first | (go_at_call 26; refine (implTextValid_any _ _ hsm).mono ?_; rw [HT.out]; rintro e w' ⟨rfl, rfl⟩) | fail)
    refine (linesOf_any s mL _ hs hm).mono ?_
    rintro e w1 ⟨A, n, c, rfl, ho, hb⟩
    obtain rfl : n = N + 1 := ho.1.symm.trans hl
    cases h1 : inI f 0 (N : Int)
    · have hR := cutR_1 (f := f) (m := m) ht (.inl (by rw [hN]; exact h1))
      have HR := Lib.hid hR
      have H1 := Lib.hid h1
      clear hR h1
      go_wp2_with (go_at_call 41; refine (in_any _ _ _ _).mono ?_; rw [H1.out]; rintro e w' ⟨rfl, rfl⟩)
      go_ret2
      exact ⟨by rw [HR.out]; rfl, hb⟩
    · obtain ⟨a1, a2⟩ := by simpa [inI] using h1
      obtain ⟨F, rfl⟩ := Int.eq_ofNat_of_zero_le a1
      cases h2 : inI m 1 ((N : Int) + 1 - F)
      · have hR := cutR_1 (f := F) (m := m) ht (.inr (by rw [hN]; exact h2))
        have HR := Lib.hid hR
        have H1 := Lib.hid h1
        have H2 := Lib.hid h2
        clear hR h1 h2
        go_wp2_with (first | (go_at_call 41; refine (in_any _ _ _ _).mono ?_; rw [H1.out]; rintro e w' ⟨rfl, rfl⟩) | (go_at_call 41; refine (in_any _ _ _ _).mono ?_; rw [H2.out]; rintro e w' ⟨rfl, rfl⟩))
        go_ret2
        exact ⟨by rw [HR.out]; rfl, hb⟩
      · obtain ⟨b1, b2⟩ := by simpa [inI] using h2
        obtain ⟨M, rfl⟩ := Int.eq_ofNat_of_zero_le (show 0 ≤ m by omega)
        have hR := cutR_2 (f := F) (m := M) ht (by rw [hN]; exact h1) (by rw [hN]; exact h2)
        rw [show ((F : Int)).toNat = F by omega, show ((F : Int) + (M : Int)).toNat = F + M by omega] at hR
        have HR := Lib.hid hR
        have H1 := Lib.hid h1
        have H2 := Lib.hid h2
        clear hR h1 h2
        obtain ⟨g, c2, hv, _, _⟩ := ho.2.form (by omega)
        injection hv with hA _ hc
        subst hA hc
        have hv := cut_valid ht F (F + M) (by omega)
        have hv2 := ((tvB_iff _).1 hv).1
        have e1 : IntKind.i64.wrap ((F : Int) + (M : Int)) = ((F + M : Nat) : Int) := by
          rw [show ((F + M : Nat) : Int) = (F : Int) + M by omega]
          exact IntWalk.i64_in _ (by omega)
        have ht' := ht
        clear ht
        go_wp2_with (first | (go_at_call 41; refine (in_any _ _ _ _).mono ?_; rw [H1.out]; rintro e w' ⟨rfl, rfl⟩) | (go_at_call 41; refine (in_any _ _ _ _).mono ?_; rw [H2.out]; rintro e w' ⟨rfl, rfl⟩) | fail)
        have hdel := deleteS_any 9 w1 w.heap.size g (N + 1) c F (F + M) (linesB s) ho (by omega) (by omega)
        rw [show ((F + M : Nat) : Int) = (F : Int) + M by omega] at hdel
        refine hdel.mono ?_
        rintro e w2 ⟨rfl, hcell, hgl, hb2⟩
        obtain ⟨ys, hys⟩ : ∃ ys, (linesB s).take F ++ (linesB s).drop (F + M) = ys := ⟨_, rfl⟩
        rw [hys] at hcell
        have hyl : ys.length = N + 1 - (F + M - F) := by
          rw [← hys, List.length_append, List.length_take, List.length_drop, hl]
          omega
        have hyd : ys.map (·.data.toList) = (linesL s.data.toList).take F ++ (linesL s.data.toList).drop (F + M) := by
          rw [← hys, List.map_append, List.map_take, List.map_drop]
          have : (linesB s).map (·.data.toList) = linesL s.data.toList := by
            unfold linesB
            rw [List.map_map]
            exact List.map_id'' (fun x => mk_data x) _
          rw [this]
        have hcap : N + 1 ≤ c := by
          rcases ho.2.2 with ⟨hv, h0⟩ | ⟨g', cap, cur, hv, _, hg, hc1, hc2, _⟩
          · cases hv
          · injection hv with _ _ h3
            omega
        have hj := Tryd.strings_Join g 0 c ys ⟨#[10]⟩ w2 hcell hgl (by omega) (by omega) (by
          rw [show (⟨#[10]⟩ : ByteArray).data.toList = [10] from rfl, joinL_lib, hyd]
          omega)
        rw [show (⟨#[10]⟩ : ByteArray).data.toList = [10] from rfl, joinL_lib, hyd, hyl, show N + 1 - (F + M - F) = N + 1 - M by omega] at hj
        clear hcell hys hyd hyl hdel
        go_wp2_with fail
        with_reducible refine hj.mono ?_
        rintro e w3 ⟨rfl, hb3⟩
        go_wp2
        go_ret2
        exact ⟨by rw [HR.out]; rfl, (hb.trans hb2).trans (hb3.mono (by have := hb.size; have := hb2.size; omega))⟩
end Go.Proofs.YtecejfcoognkiaaDoor
