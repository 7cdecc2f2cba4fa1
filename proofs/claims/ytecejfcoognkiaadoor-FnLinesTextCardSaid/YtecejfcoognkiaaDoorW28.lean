/- Contracts of the program's LinesText, and of the laws' functions that copy and measure rows of strings. -/
import Derived.Test.YtecejfcoognkiaaDoorW2
import Derived.Test.YtecejfcoognkiaaDoorW26
import Derived.Test.YtecejfcoognkiaaDoorSh
import Derived.OwnWalk
import Derived.WalkSmall
namespace Go.Proofs.YtecejfcoognkiaaDoor
open Go.RowKit

theorem contains_nl (l : List UInt8) : decide (0 ≤ Lib.indexByte l 10) = !(nlc l == 0) := by
  by_cases h : nlc l = 0
  · have : Lib.indexByte l 10 = -1 := by
      induction l with
      | nil => rfl
      | cons c l ih =>
        have hc : c ≠ 10 := by
          rintro rfl
          rw [nlc_cons_nl] at h
          omega
        rw [nlc_cons_no _ hc] at h
        unfold Lib.indexByte
        rw [if_neg (by simpa using hc), ih h]
        rfl
    rw [this, h]
    rfl
  · obtain ⟨i, hi⟩ := index_nl_hit (l := l) (by omega)
    rw [Lib.index_one] at hi
    rw [hi]
    simp [h]
theorem heap_lt1 {w : World} {r : Nat} {o : Obj} (h : w.heap[r]? = some o) : r < w.heap.size := (Array.getElem?_eq_some_iff.1 h).1
set_option maxRecDepth 100000 in
set_option maxHeartbeats 800000 in
theorem implLinesText_any (T : TypeId) (base : Nat) (A : Option Addr) (n c : Nat) (xs : List ByteArray) (w : World) (hn : n ≤ 1099511627776) (hl : (joinL (datas xs)).length ≤ 1099511627776) (h : OwnS T w base A n c xs) :
    Calls Tryd.prog 16 #[.slice A n c] w fun e w' => e = .returned (.string (mk (linesTextL (datas xs)))) ∧ Below w.heap.size w w' := by
  obtain ⟨L, hL⟩ : ∃ L, datas xs = L := ⟨_, rfl⟩
  have hs := h.strs
  have hLl : L.length = n := by rw [← hL, datas_length, h.1]
  have HL := Lib.hid hL
  rw [hL] at hl ⊢
  clear hL
  go_enter Tryd.func16, Tryd.ntmps16
  go_wp2
  go_loop [4, 8] (fun _ i => ∃ (k : Nat), k ≤ n ∧ i = .int .i64 k ∧ Hid (∀ x ∈ L.take k, nlc x = 0)) (fun _ i => n - (intOf i).toNat)
  case atStart => exact ⟨0, Nat.zero_le _, rfl, Lib.hid (fun x hx => by simp at hx)⟩
  case round =>
    obtain ⟨k, hk, rfl, HA⟩ := hrel
    by_cases hlt : k < n
    · obtain ⟨ad, x, rfl, hb, hms, hc0⟩ := hs.at_ hlt
      have hd := datas_at hms
      rw [HL.out] at hd
      have j1 : (k : Int) < (n : Int) := by omega
      by_cases h0 : nlc x.data.toList = 0
      · have HC : Hid (∀ y ∈ L.take (k + 1), nlc y = 0) := Lib.hid fun y hy => by
          rw [List.take_add_one, hd, List.mem_append] at hy
          rcases hy with hy | hy
          · exact HA.out y hy
          · have : y = x.data.toList := by simpa using hy
            rw [this]
            exact h0
        have HK := Lib.hid ((contains_nl x.data.toList).trans (show (!(nlc x.data.toList == 0)) = false by rw [h0]; rfl))
        clear hd hms h0
        go_wp2_with fail
        refine (Tryd.strings_Contains_one x 10 _).mono ?_
        rw [HK.out]
        rintro e w1 ⟨rfl, rfl⟩
        go_wp2
        go_round
        case rel => exact ⟨k + 1, by omega, by go_num, HC⟩
        case measure => simp [intOf]; omega
      · have HE := Lib.hid (linesTextL_0 (xs := L) (.inl ⟨_, List.mem_of_getElem? hd, h0⟩))
        have HK := Lib.hid ((contains_nl x.data.toList).trans (show (!(nlc x.data.toList == 0)) = true by simp [h0]))
        clear hd hms h0
        go_wp2_with fail
        refine (Tryd.strings_Contains_one x 10 _).mono ?_
        rw [HK.out]
        rintro e w1 ⟨rfl, rfl⟩
        go_wp2
        go_ret
        exact ⟨by rw [HE.out]; rfl, Below.refl _ _⟩
    · have hkn : k = n := by omega
      subst hkn
      have hA := HA.out
      rw [List.take_of_length_le (by omega)] at hA
      obtain ⟨j, hj⟩ : ∃ j : ByteArray, mk (joinL L) = j := ⟨_, rfl⟩
      have hjd : j.data.toList = joinL L := by rw [← hj, mk_data]
      have hjs : j.size ≤ maxLen := by
        have h1 : j.size = (joinL L).length := by rw [← hjd]; rfl
        unfold maxLen
        omega
      have hres : mk (linesTextL L) = if tvB j.data.toList then j else ⟨#[]⟩ := by
        rw [hjd]
        cases ht : tvB (joinL L)
        · rw [linesTextL_0 (.inr ht)]
          rfl
        · rw [linesTextL_1 hA ht, hj]
          rfl
      have HR := Lib.hid hres
      have key : Calls Tryd.prog 38 #[.slice A k c, .string ⟨#[10]⟩] w fun e w' => e = .returned (.string j) ∧ Below w.heap.size w w' := by
        have hxl := h.1
        rcases h.2.2 with ⟨hv, h0⟩ | ⟨g, cap, cur, hv, _, hg, hc1, hc2, _⟩
        · injection hv with h1 _ h3
          subst h0 h1 h3
          have : L = [] := List.eq_nil_of_length_eq_zero hLl
          subst this
          refine (Tryd.strings_Join_none _ _ _ _).mono ?_
          rintro e w1 ⟨rfl, rfl⟩
          rw [← hj]
          exact ⟨rfl, Below.refl _ _⟩
        · injection hv with h1 _ h3
          subst h1 h3
          obtain ⟨_, hst⟩ := hs
          have hcell : ∀ (i : Nat) x, xs[i]? = some x → w.cell? ⟨g, 0 + i, none⟩ = some (.string x) := fun i x hx => by
            have hi : i < xs.length := (List.getElem?_eq_some_iff.1 hx).1
            obtain ⟨ad, he, _, hcc⟩ := hst (by omega)
            injection he with he
            subst he
            rw [Nat.zero_add, ← add_zero_off]
            exact hcc i x hx
          have hgl := heap_lt1 hg
          have := Tryd.strings_Join g 0 c xs ⟨#[10]⟩ w hcell hgl (by omega) (by omega) (by
            rw [show (⟨#[10]⟩ : ByteArray).data.toList = [10] from rfl, joinL_lib, show xs.map (·.data.toList) = L from HL.out]
            omega)
          rw [hxl] at this
          refine this.mono ?_
          rintro e w1 ⟨rfl, hb⟩
          refine ⟨?_, hb⟩
          rw [← hj, show (⟨#[10]⟩ : ByteArray).data.toList = [10] from rfl, joinL_lib, show xs.map (·.data.toList) = L from HL.out]
          rfl
      clear hres hA hj hjd
      go_wp2_with fail
      refine key.mono ?_
      rintro e w1 ⟨rfl, hb1⟩
      cases ht : tvB j.data.toList
      · have HT := Lib.hid ht
        have HR2 : Hid (mk (linesTextL L) = ⟨#[]⟩) := Lib.hid (by rw [HR.out, ht]; rfl)
        clear ht
        go_wp2_with (go_at_call 26; refine (implTextValid_any _ _ hjs).mono ?_; rw [HT.out]; rintro e w' ⟨rfl, rfl⟩)
        go_ret
        exact ⟨by rw [HR2.out]; rfl, hb1⟩
      · have HT := Lib.hid ht
        have HR2 : Hid (mk (linesTextL L) = j) := Lib.hid (by rw [HR.out, ht]; rfl)
        clear ht
        go_wp2_with (go_at_call 26; refine (implTextValid_any _ _ hjs).mono ?_; rw [HT.out]; rintro e w' ⟨rfl, rfl⟩)
        go_ret
        exact ⟨by rw [HR2.out]; rfl, hb1⟩
end Go.Proofs.YtecejfcoognkiaaDoor
