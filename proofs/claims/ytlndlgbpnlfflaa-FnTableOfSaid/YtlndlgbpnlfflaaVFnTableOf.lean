/- The walk of the law FnTableOf: the call returns true and turns nothing that was there. -/
import Derived.Test.YtlndlgbpnlfflaaD3
import Derived.Test.YtlndlgbpnlfflaaW19
import Derived.Test.YtlndlgbpnlfflaaW22
import Derived.Test.YtlndlgbpnlfflaaW34
import Derived.Test.YtlndlgbpnlfflaaPk
import Derived.Deep.RegionHeld3
namespace Go.Proofs.Ytlndlgbpnlfflaa.fnTableOf
open Go.RowKit
theorem of_valid {l : List UInt8} (h : tvB l = true) : tableB (tableOfF l) [] (tableOfP l) = true ∧ wholeL (tableOfF l) [] (tableOfP l) = l ∧ (tableOfP l).length ≤ 1 := by
  by_cases h0 : l.length = 0
  · rw [(tableOf_1 h h0).1, (tableOf_1 h h0).2]
    have : l = [] := List.eq_nil_of_length_eq_zero h0
    subst this
    exact ⟨by decide, rfl, by decide⟩
  · rw [(tableOf_2 h h0).1, (tableOf_2 h h0).2]
    have hl := ((tvB_iff _).1 h).1
    refine ⟨?_, ?_, Nat.le_refl _⟩
    · rw [tableB_1]
      · rw [h]
        rfl
      · unfold piecesB
        rw [allB_one, pieceB_mk (Int.le_refl _) (by omega) (by show (0 : Int) + (l.length : Int) ≤ (l.length : Int); omega), sumP_one]
        simp only [Bool.true_and, decide_eq_true_eq]
        omega
    · simp [wholeL, pieceL]
set_option maxRecDepth 100000 in
set_option maxHeartbeats 1600000 in
theorem walk (A : Option Addr) (n c : Nat) (hnc : n ≤ c) (hc : c ≤ maxLen) (w : World) (hb : Byt w w.heap.size A n) :
    Calls Try.prog 9 #[.slice A n c] w fun e w' => e = .returned (.bool true) ∧ Below w.heap.size w w' := by
  have hc' := hc
  unfold maxLen at hc'
  by_cases h : 1048576 < n
  · go_enter Try.func9, Try.ntmps9
    go_wp2
    go_ret
    exact ⟨rfl, Below.refl _ _⟩
  · go_enter Try.func9, Try.ntmps9
    go_wp2_with fail
    refine (DrawTableOf_any _ _ _ _ hb hnc hc).mono ?_
    rintro e w1 ⟨s, rfl, hs, hb1⟩
    have hsm : s.size ≤ maxLen := by unfold maxLen; omega
    have h1 := fun w => implTableOf_any s w hsm
    have h0 := fun w => specTableOf_any s w hsm
    have hF : (mk (tableOfF s.data.toList)).size ≤ 125 := by
      rw [mk_size]
      unfold tableOfF
      have : s.data.toList.length = s.size := rfl
      split
      · omega
      · simp
    have hv := of_valid (l := s.data.toList)
    have h2 : tvB s.data.toList = false → tableOfF s.data.toList = [] ∧ tableOfP s.data.toList = [] := fun h => tableOf_0 h
    have hP1 : (tableOfP s.data.toList).length ≤ 1 := by
      cases ht : tvB s.data.toList
      · rw [(h2 ht).2]
        exact Nat.zero_le _
      · exact (hv ht).2.2
    obtain ⟨P, hP⟩ : ∃ P, tableOfP s.data.toList = P := ⟨_, rfl⟩
    obtain ⟨F, hFe⟩ : ∃ F, tableOfF s.data.toList = F := ⟨_, rfl⟩
    rw [hP] at h0 h1 hv h2 hP1
    rw [hFe] at h0 h1 hF hv h2
    have H0 := Lib.hid h0
    have H1 := Lib.hid h1
    clear h0 h1 hP hFe
    obtain ⟨f, hf⟩ : ∃ f, mk F = f := ⟨_, rfl⟩
    have hfd : f.data.toList = F := by rw [← hf, mk_data]
    rw [hf] at hF
    have HF := Lib.hid hf
    go_wp2_with fail
    refine (H1.out _).mono ?_
    rintro e w2 ⟨A2, n2, c2, rfl, ho2, hb2⟩
    rw [HF.out, show mk [] = (⟨#[]⟩ : ByteArray) from rfl]
    have hn2 : n2 ≤ 1 := by rw [← ho2.1]; exact hP1
    have hbw2 := bstep hb1 hb2
    have B3' := B3.new w2 53 (.string f) (.string ⟨#[]⟩) (.slice A2 n2 c2)
    have ho3 : OwnP 78 (w2.alloc (.cells #[.string f, .string ⟨#[]⟩, .slice A2 n2 c2] 53)) w1.heap.size A2 n2 c2 P := ⟨ho2.1, ho2.2.alloc _⟩
    have hbw3 : Below w.heap.size w (w2.alloc (.cells #[.string f, .string ⟨#[]⟩, .slice A2 n2 c2] 53)) := balloc hbw2 _
    obtain ⟨c0, c1, c3⟩ := B3'.cells
    go_wp2_with fail
    clear ho2 hb1 hb2 hbw2
    generalize w2.alloc (.cells #[.string f, .string ⟨#[]⟩, .slice A2 n2 c2] 53) = w3 at B3' ho3 hbw3 c0 c1 c3 ⊢
    have hz3 := B3'.lt
    go_region_held3 (fun w' => w'.cell? ⟨w2.heap.size, 0, none⟩ = some (.string f) ∧ w'.cell? ⟨w2.heap.size, 1, none⟩ = some (.string ⟨#[]⟩) ∧ w'.cell? ⟨w2.heap.size, 2, none⟩ = some (.slice A2 n2 c2))
      (first
        | go_keep
        | (go_split_ands; exact ⟨(hb4.cell (p := ⟨w2.heap.size, 0, none⟩) hz3).trans (by assumption), (hb4.cell (p := ⟨w2.heap.size, 1, none⟩) hz3).trans (by assumption), (hb4.cell (p := ⟨w2.heap.size, 2, none⟩) hz3).trans (by assumption)⟩)
        | (go_split_ands; exact ⟨(hb5.cell (p := ⟨w2.heap.size, 0, none⟩) hz4).trans (by assumption), (hb5.cell (p := ⟨w2.heap.size, 1, none⟩) hz4).trans (by assumption), (hb5.cell (p := ⟨w2.heap.size, 2, none⟩) hz4).trans (by assumption)⟩))
      ((first
        | (go_at_call 36; (refine (H0.out _).mono ?_); rintro e w4 ⟨A4, n4, c4, rfl, ho4, hb4⟩; rw [HF.out, show mk [] = (⟨#[]⟩ : ByteArray) from rfl]; obtain rfl : n2 = n4 := ho3.1.symm.trans ho4.1; have hz4 : w2.heap.size < w4.heap.size := Nat.lt_of_lt_of_le hz3 hb4.size)
        | (go_at_call 35; (refine (samePieces_same f ⟨#[]⟩ A2 A4 n2 c2 c4 P _ (by omega) (OwnP.below (T := 78) (by exact ho3) hb4).pieces ho4.pieces).mono ?_); rintro e w5 ⟨rfl, hb5⟩)))
    have hb35 : Below w3.heap.size w3 w5 := (bdrew (Below.refl w3.heap.size w3)).trans (hb4.mono (Nat.le_refl _)) |>.trans (hb5.mono (Nat.le_trans (Nat.le_refl _) hb4.size))
    have B5 := B3'.next hb35
    have ho5 := ho3.below hb35
    have hbw5 := bstep hbw3 hb35
    clear B3' ho3 hbw3 hb35 hb4 hb5 ho4 c0 c1 c3
    obtain ⟨c0, c1, c3⟩ := B5.cells
    cases ht : tvB s.data.toList
    · have HT := Lib.hid ht
      obtain ⟨hF0, _⟩ := h2 ht
      subst hF0
      obtain rfl : (⟨#[]⟩ : ByteArray) = f := hf
      clear ht hv h2
      go_wp2_with (first | (go_at_call 37; refine (specTextValid_any _ _ hsm).mono ?_; rw [HT.out]; rintro e w' ⟨rfl, rfl⟩) | (go_at_call 14; refine (alive_any _).mono ?_; rintro e w' ⟨rfl, rfl⟩))
      go_ret
      exact ⟨rfl, hbw5⟩
    · have HT := Lib.hid ht
      obtain ⟨hv1, hv2, _⟩ := hv ht
      have hv1' : tableB f.data.toList (⟨#[]⟩ : ByteArray).data.toList P = true := by rw [hfd]; exact hv1
      have hv2' : mk (tableTextL f.data.toList (⟨#[]⟩ : ByteArray).data.toList P) = s := by
        rw [tableTextL_1 hv1', hfd, show (⟨#[]⟩ : ByteArray).data.toList = [] from rfl, hv2]
        exact ext_data (mk_data _)
      have HV1 := Lib.hid hv1'
      have HV2 := Lib.hid hv2'
      have hm0 : (⟨#[]⟩ : ByteArray).size ≤ 1048576 := by decide
      clear ht hv h2 hv1 hv2 hv1' hv2' hf hfd
      go_wp2_with (first | (go_at_call 37; refine (specTextValid_any _ _ hsm).mono ?_; rw [HT.out]; rintro e w' ⟨rfl, rfl⟩) | fail)
      refine (implTableValid_any f ⟨#[]⟩ A2 n2 c2 P _ (by omega) hm0 (by omega) ho5.pieces).mono ?_
      rw [HV1.out]
      rintro e w6 ⟨rfl, hb6⟩
      have B6 := B5.next hb6
      have ho6 := ho5.below hb6
      have hbw6 := bstep hbw5 hb6
      clear B5 ho5 hbw5 hb6 c0 c1 c3
      obtain ⟨c0, c1, c3⟩ := B6.cells
      go_wp2_with fail
      refine (implTableText_any f ⟨#[]⟩ A2 n2 c2 P _ (by omega) hm0 (by omega) ho6.pieces).mono ?_
      rw [HV2.out]
      rintro e w7 ⟨rfl, hb7⟩
      have B7 := B6.next hb7
      have hbw7 := bstep hbw6 hb7
      clear B6 ho6 hbw6 hb7 c0 c1 c3
      obtain ⟨c0, c1, c3⟩ := B7.cells
      go_wp2
      go_ret
      exact ⟨ret_bool (by simp <;> omega), hbw7⟩
end Go.Proofs.Ytlndlgbpnlfflaa.fnTableOf
