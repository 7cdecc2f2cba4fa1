/- The walk of the law FnDiffChange: the call returns true and turns nothing that was there. -/
import Derived.Test.YtckhhdhkchcljaaD10
import Derived.Test.YtckhhdhkchcljaaD3
import Derived.Test.YtckhhdhkchcljaaW8
import Derived.Test.YtckhhdhkchcljaaW6
import Derived.Test.YtckhhdhkchcljaaPh
import Derived.Test.YtckhhdhkchcljaaPb
import Derived.Deep.RegionHeld3
import Derived.WalkSmall
import Derived.Lib.SlicesS
namespace Go.Proofs.Ytckhhdhkchcljaa.fnDiffChange
open Go.RowKit
theorem byte_ne {s p : ByteArray} {i j : Nat} (hi : i < s.size) (hj : j < p.size) (h : s.data.toList[i]? ≠ p.data.toList[j]?) : ((((s[i]'hi).toNat : Nat) : Int) != (((p[j]'hj).toNat : Nat) : Int)) = true := by
  rw [bne_iff_ne]
  intro h0
  apply h
  have h1 : i < s.data.toList.length := hi
  have h2 : j < p.data.toList.length := hj
  rw [List.getElem?_eq_getElem h1, List.getElem?_eq_getElem h2]
  have h3 : (s[i]'hi) = (p[j]'hj) := UInt8.toNat.inj (by omega)
  rw [ByteArray.getElem_eq_getElem_data, ByteArray.getElem_eq_getElem_data] at h3
  rw [Array.getElem_toList, Array.getElem_toList, h3]
set_option maxRecDepth 100000 in
set_option maxHeartbeats 3200000 in
theorem walk (A : Option Addr) (n c : Nat) (hnc : n ≤ c) (hc : c ≤ maxLen) (w : World) (hb : Byt w w.heap.size A n) :
    Calls Try.prog 5 #[.slice A n c] w fun e w' => e = .returned (.bool true) ∧ Below w.heap.size w w' := by
  have hc' := hc
  unfold maxLen at hc'
  by_cases h : 1048576 < n
  · go_enter Try.func5, Try.ntmps5
    go_wp2
    go_ret
    exact ⟨rfl, Below.refl _ _⟩
  · go_enter Try.func5, Try.ntmps5
    go_wp2_with fail
    refine (DrawDiffChange_any _ _ _ _ hb hnc hc).mono ?_
    rintro e w1 ⟨s, t, rfl, hs, ht, hb1⟩
    have hsm : s.size ≤ maxLen := by unfold maxLen; omega
    have htm : t.size ≤ maxLen := by unfold maxLen; omega
    go_wp2_with fail
    by_cases hv : tvB s.data.toList = true ∧ tvB t.data.toList = true
    · obtain ⟨hv1, hv2⟩ := hv
      obtain ⟨P, hP⟩ : ∃ P : ByteArray, mk (putL s.data.toList t.data.toList) = P := ⟨_, rfl⟩
      have hPd : P.data.toList = putL s.data.toList t.data.toList := by rw [← hP]; rfl
      obtain ⟨a, hae⟩ : ∃ a, preN s.data.toList t.data.toList = a := ⟨_, rfl⟩
      obtain ⟨K, hKe⟩ : ∃ K, s.data.toList.length - preN s.data.toList t.data.toList - sufN s.data.toList t.data.toList = K := ⟨_, rfl⟩
      have hX : changeV (diffR s.data.toList t.data.toList) = .agg #[.int .i64 a, .int .i64 K, .string P] := by
        rw [diffR_1 hv1 hv2, diffG_eq, ← hae, ← hKe, ← hP]; rfl
      have HX := Lib.hid hX
      have hbd := pre_suf s.data.toList t.data.toList
      have hsl : s.data.toList.length = s.size := rfl
      have htl : t.data.toList.length = t.size := rfl
      have hPs : P.size = (putL s.data.toList t.data.toList).length := by rw [← hPd]; rfl
      have hPl := putL_length s.data.toList t.data.toList
      have hfit := diff_fits hv1 hv2
      have hout := diff_out (a := s.data.toList) (b := t.data.toList)
      rw [hKe, hae, ← hPd] at hfit hout
      have HA := Lib.hid (show strBoolV (applyR s.data.toList a K P.data.toList) = .tuple #[.string t, .bool true] by rw [applyR_2 hfit, hout]; rfl)
      have hself := diff_self s.data.toList
      have HS := Lib.hid (show changeV (diffR s.data.toList s.data.toList) = .agg #[.int .i64 s.size, .int .i64 0, .string ⟨#[]⟩] by rw [diffR_1 hv1 hv1, diffG_eq, hself.1, hself.2.1, hself.2.2, hsl]; simp [changeV, mk])
      have HV1 := Lib.hid hv1
      have HV2 := Lib.hid hv2
      have hPsz : P.size ≤ 125 := by omega
      have haK : a + K ≤ s.size := by omega
      have hcase : (s = t ∧ K = 0 ∧ P = ⟨#[]⟩) ∨ (s ≠ t ∧ K = 0 ∧ P.size ≠ 0) ∨ (s ≠ t ∧ K ≠ 0 ∧ P = ⟨#[]⟩) ∨ (s ≠ t ∧ K ≠ 0 ∧ P.size ≠ 0 ∧ s.data.toList[a]? ≠ P.data.toList[0]? ∧ s.data.toList[a + K - 1]? ≠ P.data.toList[P.size - 1]?) := by
        by_cases hst : s = t
        · subst hst
          refine .inl ⟨rfl, ?_, ?_⟩
          · rw [← hKe, hself.1, hself.2.1]; omega
          · rw [← hP, hself.2.2]; rfl
        · by_cases hK0 : K = 0
          · refine .inr (.inl ⟨hst, hK0, fun h0 => hst ?_⟩)
            have h1 := diff_none (a := s.data.toList) (b := t.data.toList) (by omega) (List.eq_nil_of_length_eq_zero (by omega))
            cases s; cases t
            exact congrArg ByteArray.mk (Array.toList_inj.1 h1)
          · by_cases hP0 : P.size = 0
            · refine .inr (.inr (.inl ⟨hst, hK0, ?_⟩))
              cases P
              exact congrArg ByteArray.mk (Array.eq_empty_of_size_eq_zero hP0)
            · refine .inr (.inr (.inr ⟨hst, hK0, hP0, ?_, ?_⟩))
              · have := diff_first (a := s.data.toList) (b := t.data.toList) (by omega) (by omega)
                rwa [hae, ← hPd] at this
              · have := diff_last (a := s.data.toList) (b := t.data.toList) (by omega) (by omega)
                rwa [hKe, hae, ← hPs, ← hPd] at this
      have HC := Lib.hid hcase
      have HH := Lib.hid (And.intro hPs hPl)
      clear hcase hX hP hae hKe hPd hPs hPl hfit hout hself hbd hsl htl hv1 hv2
      with_reducible refine (implDiffChange_any s t _ hsm htm).mono ?_
      rw [HX.out]
      rintro e w3 ⟨rfl, hb3⟩
      have E4 := B3.new w3 24 (.int .i64 a) (.int .i64 K) (.string P)
      have hbw4 : Below w.heap.size w (w3.alloc (.cells #[.int .i64 a, .int .i64 K, .string P] 24)) := balloc (bstep hb1 hb3) _
      obtain ⟨c0, c1, c2⟩ := E4.cells
      go_wp2_with fail
      generalize w3.alloc (.cells #[.int .i64 a, .int .i64 K, .string P] 24) = w4 at E4 hbw4 c0 c1 c2 ⊢
      go_region_held3 (fun w' => w'.cell? ⟨w3.heap.size, 0, none⟩ = some (.int .i64 a) ∧ w'.cell? ⟨w3.heap.size, 1, none⟩ = some (.int .i64 K) ∧ w'.cell? ⟨w3.heap.size, 2, none⟩ = some (.string P))
        (first | go_keep | (go_split_ands; exact (E4.drew.next hb5).cells))
        ((go_at_call 22; (with_reducible refine (specDiffChange_any s t _ hsm htm).mono ?_); rw [HX.out]; rintro e w5 ⟨rfl, hb5⟩))
      have E5 := E4.drew.next hb5
      have hbw5 := bstep (bdrew hbw4) hb5
      clear E4 hbw4 c0 c1 c2
      obtain ⟨c0, c1, c2⟩ := E5.cells
      go_wp2_with (first | (go_at_call 23; (with_reducible refine (specTextValid_any s _ hsm).mono ?_); rw [HV1.out]; rintro e w6 ⟨rfl, rfl⟩) | (go_at_call 23; (with_reducible refine (specTextValid_any t _ htm).mono ?_); rw [HV2.out]; rintro e w6 ⟨rfl, rfl⟩) | fail)
      with_reducible refine (implApplyChange_any s a K P _ (by omega)).mono ?_
      rw [HA.out]
      rintro e w6 ⟨rfl, hb6⟩
      have E6 := E5.next hb6
      have hbw6 := bstep hbw5 hb6
      clear E5 hbw5 c0 c1 c2
      go_wp2_with fail
      with_reducible refine (implDiffChange_any s s _ hsm hsm).mono ?_
      rw [HS.out]
      rintro e w7 ⟨rfl, hb7⟩
      have D8 := (E6.next hb7).alloc (.cells #[.int .i64 s.size, .int .i64 0, .string ⟨#[]⟩] 24)
      have E8 := B3.new w7 24 (.int .i64 s.size) (.int .i64 0) (.string ⟨#[]⟩)
      have hbw8 : Below w.heap.size w (w7.alloc (.cells #[.int .i64 s.size, .int .i64 0, .string ⟨#[]⟩] 24)) := balloc (bstep hbw6 hb7) _
      clear E6 hbw6
      obtain ⟨c0, c1, c2⟩ := D8.cells
      obtain ⟨d0, d1, d2⟩ := E8.cells
      go_wp2_with fail
      generalize w7.alloc (.cells #[.int .i64 s.size, .int .i64 0, .string ⟨#[]⟩] 24) = w8 at D8 E8 hbw8 c0 c1 c2 d0 d1 d2 ⊢
      obtain hC | hC | hC | hC := HC.out
      · obtain ⟨rfl, rfl, rfl⟩ := hC
        have c1' : w8.cell? ⟨w3.heap.size, 1, none⟩ = some (.int .i64 0) := c1
        clear c1
        go_wp2_with fail
        refine wp_region_quiet_lit (by kernel_rfl) (by kernel_rfl) ?_
        try simp only [List.append_eq, List.cons_append, List.nil_append]
        repeat (go_big_quiet_step (fail))
        refine wpQuiet_nil ?_
        intro _ hw'
        obtain ⟨nq, hw''⟩ := hw'
        subst hw''
        go_wp2
        go_ret
        exact ⟨rfl, below_drewN hbw8 _⟩
      · obtain ⟨hst, rfl, hP⟩ := hC
        have c1' : w8.cell? ⟨w3.heap.size, 1, none⟩ = some (.int .i64 0) := c1
        clear c1
        have hst1 : (s.toList == t.toList) = false := (Lib.bytes_beq_false_iff _ _).2 hst
        have hP0 : P ≠ ⟨#[]⟩ := by
          rintro rfl
          exact hP rfl
        have hP1 : (P.toList == []) = false := by
          rw [← show (⟨#[]⟩ : ByteArray).toList = [] from by decide +kernel]
          exact (Lib.bytes_beq_false_iff P ⟨#[]⟩).2 hP0
        have hP2 : P.toList.isEmpty = false := by
          cases h0 : P.toList
          · rw [h0] at hP1; cases hP1
          · rfl
        have hP3 : ¬ P.toList = [] := by
          intro h0
          rw [h0] at hP1; cases hP1
        clear hP0
        clear hst hP
        go_wp2_with fail
        refine wp_region_quiet_lit (by kernel_rfl) (by kernel_rfl) ?_
        try simp only [List.append_eq, List.cons_append, List.nil_append]
        repeat (go_big_quiet_step (fail))
        refine wpQuiet_nil ?_
        intro _ hw'
        obtain ⟨nq, hw''⟩ := hw'
        subst hw''
        go_wp2
        go_ret
        exact ⟨rfl, below_drewN hbw8 _⟩
      · obtain ⟨hst, hK, rfl⟩ := hC
        have hst1 : (s.toList == t.toList) = false := (Lib.bytes_beq_false_iff _ _).2 hst
        have hK1 : ((K : Int) == 0) = false := by rw [beq_eq_false_iff_ne]; omega
        clear hst
        go_wp2_with fail
        refine wp_region_quiet_lit (by kernel_rfl) (by kernel_rfl) ?_
        try simp only [List.append_eq, List.cons_append, List.nil_append]
        repeat (go_big_quiet_step (fail))
        refine wpQuiet_nil ?_
        intro _ hw'
        obtain ⟨nq, hw''⟩ := hw'
        subst hw''
        go_wp2
        go_ret
        exact ⟨rfl, below_drewN hbw8 _⟩
      · obtain ⟨hst, hK, hP, hf, hl⟩ := hC
        have hst1 : (s.toList == t.toList) = false := (Lib.bytes_beq_false_iff _ _).2 hst
        have hK1 : ((K : Int) == 0) = false := by rw [beq_eq_false_iff_ne]; omega
        have hP0 : P ≠ ⟨#[]⟩ := by
          rintro rfl
          exact hP rfl
        have hP1 : (P.toList == []) = false := by
          rw [← show (⟨#[]⟩ : ByteArray).toList = [] from by decide +kernel]
          exact (Lib.bytes_beq_false_iff P ⟨#[]⟩).2 hP0
        have hP2 : P.toList.isEmpty = false := by
          cases h0 : P.toList
          · rw [h0] at hP1; cases hP1
          · rfl
        have hP3 : ¬ P.toList = [] := by
          intro h0
          rw [h0] at hP1; cases hP1
        clear hP0
        have i1 : a < s.size := by omega
        have i2 : a + K - 1 < s.size := by omega
        have i3 : 0 < P.size := by omega
        have i4 : P.size - 1 < P.size := by omega
        have q1 : IntKind.i64.wrap ((a : Int) + K) = (a : Int) + K := by exact IntWalk.i64_in _ (by omega)
        have q2 : IntKind.i64.wrap ((a : Int) + K - 1) = ((a + K - 1 : Nat) : Int) := by
          have e : ((a + K - 1 : Nat) : Int) = (a : Int) + K - 1 := by omega
          rw [e]
          exact IntWalk.i64_in _ (by omega)
        have q3 : IntKind.i64.wrap ((P.size : Int) - 1) = ((P.size - 1 : Nat) : Int) := by
          have e : ((P.size - 1 : Nat) : Int) = (P.size : Int) - 1 := by omega
          rw [e]
          exact IntWalk.i64_in _ (by omega)
        have hf1 : ((((s[a]'i1).toNat : Nat) : Int) != (((P[0]'i3).toNat : Nat) : Int)) = true := byte_ne i1 i3 hf
        have hl1 : ((((s[a + K - 1]'i2).toNat : Nat) : Int) != (((P[P.size - 1]'i4).toNat : Nat) : Int)) = true := byte_ne i2 i4 hl
        clear hf hl
        have j1 : (a : Int) < (s.size : Int) := by omega
        have j2 : ((a + K - 1 : Nat) : Int) < (s.size : Int) := by omega
        have j3 : (0 : Int) < (P.size : Int) := by omega
        have j4 : ((P.size - 1 : Nat) : Int) < (P.size : Int) := by omega
        clear hst
        go_wp2_with fail
        refine wp_region_quiet_lit (by kernel_rfl) (by kernel_rfl) ?_
        try simp only [List.append_eq, List.cons_append, List.nil_append]
        repeat (go_big_quiet_step (fail))
        refine wpQuiet_nil ?_
        intro _ hw'
        obtain ⟨nq, hw''⟩ := hw'
        subst hw''
        go_wp2
        go_ret
        exact ⟨rfl, below_drewN hbw8 _⟩
    · have hX : changeV (diffR s.data.toList t.data.toList) = .agg #[.int .i64 0, .int .i64 0, .string ⟨#[]⟩] := by
        rw [diffR_0]
        · rfl
        · cases h1 : tvB s.data.toList
          · exact .inl rfl
          · cases h2 : tvB t.data.toList
            · exact .inr rfl
            · exact absurd ⟨h1, h2⟩ hv
      have HX := Lib.hid hX
      clear hX
      with_reducible refine (implDiffChange_any s t _ hsm htm).mono ?_
      rw [HX.out]
      rintro e w3 ⟨rfl, hb3⟩
      have E4 := B3.new w3 24 (.int .i64 0) (.int .i64 0) (.string ⟨#[]⟩)
      have hbw4 : Below w.heap.size w (w3.alloc (.cells #[.int .i64 0, .int .i64 0, .string ⟨#[]⟩] 24)) := balloc (bstep hb1 hb3) _
      obtain ⟨c0, c1, c2⟩ := E4.cells
      go_wp2_with fail
      generalize w3.alloc (.cells #[.int .i64 0, .int .i64 0, .string ⟨#[]⟩] 24) = w4 at E4 hbw4 c0 c1 c2 ⊢
      go_region_held3 (fun w' => w'.cell? ⟨w3.heap.size, 0, none⟩ = some (.int .i64 0) ∧ w'.cell? ⟨w3.heap.size, 1, none⟩ = some (.int .i64 0) ∧ w'.cell? ⟨w3.heap.size, 2, none⟩ = some (.string ⟨#[]⟩))
        (first | go_keep | (go_split_ands; exact (E4.drew.next hb5).cells))
        ((go_at_call 22; (with_reducible refine (specDiffChange_any s t _ hsm htm).mono ?_); rw [HX.out]; rintro e w5 ⟨rfl, hb5⟩))
      have E5 := E4.drew.next hb5
      have hbw5 := bstep (bdrew hbw4) hb5
      clear E4 hbw4 c0 c1 c2
      obtain ⟨c0, c1, c2⟩ := E5.cells
      cases hv1 : tvB s.data.toList
      · have H := Lib.hid hv1
        clear hv1
        go_wp2_with (first | (go_at_call 23; refine (specTextValid_any _ _ hsm).mono ?_; rw [H.out]; rintro e w' ⟨rfl, rfl⟩) | (go_at_call 17; refine (alive_any _).mono ?_; rintro e w' ⟨rfl, rfl⟩))
        go_ret
        exact ⟨rfl, hbw5⟩
      · have hv2 : tvB t.data.toList = false := by
          cases h2 : tvB t.data.toList
          · rfl
          · exact absurd ⟨hv1, h2⟩ hv
        have H1 := Lib.hid hv1
        have H2 := Lib.hid hv2
        clear hv1 hv2
        go_wp2_with (first | (go_at_call 23; (with_reducible refine (specTextValid_any s _ hsm).mono ?_); rw [H1.out]; rintro e w6 ⟨rfl, rfl⟩) | (go_at_call 23; (with_reducible refine (specTextValid_any t _ htm).mono ?_); rw [H2.out]; rintro e w6 ⟨rfl, rfl⟩) | (go_at_call 17; refine (alive_any _).mono ?_; rintro e w' ⟨rfl, rfl⟩))
        go_ret
        exact ⟨rfl, hbw5⟩
end Go.Proofs.Ytckhhdhkchcljaa.fnDiffChange
