/- The walk of the law FnLineMany: the call returns true and turns nothing that was there. -/
import Derived.Test.YtckhhdhkchcljaaDoorD3
import Derived.Test.YtckhhdhkchcljaaDoorW25
import Derived.Test.YtckhhdhkchcljaaDoorPg
namespace Go.Proofs.YtckhhdhkchcljaaDoor.fnLineMany
open Go.RowKit
theorem app_data (s t : ByteArray) : (s ++ t).data.toList = s.data.toList ++ t.data.toList := by simp
theorem tv_more {s : ByteArray} (h : tvB s.data.toList = true) (h2 : s.size < 120) : tvB (s ++ ⟨#[10]⟩).data.toList = true := by
  rw [app_data]
  rw [tvB_iff] at h ⊢
  refine ⟨?_, ?_⟩
  · rw [List.length_append]
    have : s.data.toList.length = s.size := rfl
    have : (⟨#[10]⟩ : ByteArray).data.toList.length = 1 := rfl
    omega
  · rw [plain_append, h.2]
    rfl
theorem nlc_more (s : ByteArray) : nlc (s ++ ⟨#[10]⟩).data.toList = nlc s.data.toList + 1 := by
  rw [app_data, nlc_append]
  rfl
set_option maxRecDepth 100000 in
set_option maxHeartbeats 1600000 in
theorem walk (A : Option Addr) (n c : Nat) (hnc : n ≤ c) (hc : c ≤ maxLen) (m : Int) (w : World) (hm : w.cell? ⟨0, 0, none⟩ = some (.int .i64 m)) (hb : Byt w w.heap.size A n) :
    Calls Tryd.prog 3 #[.slice A n c] w fun e w' => e = .returned (.bool true) ∧ Below w.heap.size w w' := by
  have hc' := hc
  unfold maxLen at hc'
  have hlt0 : 0 < w.heap.size := cell_lt hm
  by_cases h : 1048576 < n
  · go_enter Tryd.func3, Tryd.ntmps3
    go_wp2
    go_ret
    exact ⟨rfl, Below.refl _ _⟩
  · go_enter Tryd.func3, Tryd.ntmps3
    go_wp2_with fail
    refine (DrawLineMany_any _ _ _ _ hb hnc hc).mono ?_
    rintro e w1 ⟨s, rfl, hs, hb1⟩
    have hsm : s.size ≤ maxLen := by unfold maxLen; omega
    have hm1 := (hb1.cell (p := ⟨0, 0, none⟩) hlt0).trans hm
    cases ht : tvB s.data.toList
    · have H := Lib.hid (lineManyI_0 ht)
      clear ht
      go_wp2_with (first | (go_at_call 5; refine (implLineMany_any _ _ hsm).mono ?_; rw [H.out]; rintro e w' ⟨rfl, rfl⟩) | (go_at_call 6; refine (specLineMany_any _ _ hsm).mono ?_; rw [H.out]; rintro e w' ⟨rfl, rfl⟩) | (go_at_call 7; refine (alive_any _).mono ?_; rintro e w' ⟨rfl, rfl⟩))
      go_ret
      exact ⟨rfl, hb1⟩
    · have hl := linesB_length s
      have hn := nlc_le s.data.toList
      have hsl : s.data.toList.length = s.size := rfl
      have hsz := tv_size ht
      have hr := linesR_1 ht
      have hmore : s.size < 120 → lineManyI (s ++ ⟨#[10]⟩).data.toList = (nlc s.data.toList : Int) + 1 + 1 := fun h2 => by
        rw [lineManyI_1 (tv_more ht h2), nlc_more]
        omega
      have hI := lineManyI_1 ht
      obtain ⟨N, hN⟩ : ∃ N, nlc s.data.toList = N := ⟨_, rfl⟩
      rw [hN] at hl hn hmore hI
      have H := Lib.hid (hI.trans (show (N : Int) + 1 = ((N + 1 : Nat) : Int) by omega))
      have HR := Lib.hid hr
      have HL := Lib.hid hl
      clear ht hr hl hN hI
      go_wp2_with (first | (go_at_call 5; refine (implLineMany_any _ _ hsm).mono ?_; rw [H.out]; rintro e w' ⟨rfl, rfl⟩) | (go_at_call 6; refine (specLineMany_any _ _ hsm).mono ?_; rw [H.out]; rintro e w' ⟨rfl, rfl⟩) | fail)
      refine (implLinesOf_any s m _ (by omega) hm1).mono ?_
      rintro e w2 ⟨A2, n2, c2, rfl, ho2, hb2⟩
      obtain rfl : n2 = N + 1 := by
        have h2 := ho2.1
        rw [HR.out, HL.out] at h2
        exact h2.symm
      have hbw2 := bstep hb1 hb2
      by_cases h3 : s.size = 120
      · go_wp2_with fail
        go_ret
        exact ⟨rfl, hbw2⟩
      · have h4 : ((s.size : Int) == 120) = false := by
          rw [beq_eq_false_iff_ne]
          omega
        have hX := hmore (by omega)
        have hsz2 : (s ++ ⟨#[10]⟩ : ByteArray).size ≤ maxLen := by
          rw [ByteArray.size_append]
          show s.size + 1 ≤ maxLen
          unfold maxLen
          omega
        have HX := Lib.hid hX
        clear hX hmore h3
        go_wp2_with (first | (go_at_call 5; refine (implLineMany_any _ _ hsz2).mono ?_; rw [HX.out]; rintro e w' ⟨rfl, rfl⟩) | fail)
        go_ret
        exact ⟨rfl, hbw2⟩
end Go.Proofs.YtckhhdhkchcljaaDoor.fnLineMany
