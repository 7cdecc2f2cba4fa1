/- Contracts of the reference's LinesText. -/
import Derived.Test.YtecejfcoognkiaaDoorW9
import Derived.Test.YtecejfcoognkiaaDoorPs
import Derived.Test.YtecejfcoognkiaaDoorPj
namespace Go.Proofs.YtecejfcoognkiaaDoor
open Go.RowKit

/-- The bytes of rows of strings. -/
def datas (xs : List ByteArray) : List (List UInt8) := xs.map (·.data.toList)
theorem datas_length (xs : List ByteArray) : (datas xs).length = xs.length := List.length_map _
theorem datas_at {xs : List ByteArray} {k : Nat} {x : ByteArray} (h : xs[k]? = some x) : (datas xs)[k]? = some x.data.toList := by
  unfold datas
  rw [List.getElem?_map, h, Option.map_some]
theorem join_first {L : List (List UInt8)} {x : List UInt8} (h : L[0]? = some x) : joinL (L.take 1) = x := by
  cases L with
  | nil => cases h
  | cons y ys => exact Option.some.inj h
theorem join_next {L : List (List UInt8)} {k : Nat} {x : List UInt8} (h : L[k]? = some x) (hk : 0 < k) : joinL (L.take (k + 1)) = joinL (L.take k) ++ 10 :: x := by
  rw [List.take_add_one, h]
  refine joinL_snoc _ ?_ _
  intro h0
  have h1 : k < L.length := (List.getElem?_eq_some_iff.1 h).1
  have := congrArg List.length h0
  rw [List.length_take, List.length_nil] at this
  omega
theorem lt_big {L : List (List UInt8)} {k : Nat} (h : 120 < (joinL (L.take k)).length) : linesTextL L = [] :=
  linesTextL_0 (.inr (tvB_false_of_length (Nat.lt_of_lt_of_le h (joinL_len_take L k))))
theorem lt_odd {L : List (List UInt8)} {k : Nat} {x : List UInt8} (hx : L[k]? = some x) (h : lineManyI x ≠ 1) : linesTextL L = [] := by
  have hm : x ∈ L := List.mem_of_getElem? hx
  by_cases hn : nlc x = 0
  · refine linesTextL_0 (.inr ?_)
    have ht : tvB x = false := by
      cases ht : tvB x
      · rfl
      · rw [lineManyI_1 ht, hn] at h
        exact absurd rfl h
    cases hj : tvB (joinL L)
    · rfl
    · rw [tvB_iff] at hj
      rw [joinL_plain, List.all_eq_true] at hj
      have h1 := joinL_mem_len L x hm
      have h2 : tvB x = true := (tvB_iff x).2 ⟨by omega, hj.2 x hm⟩
      rw [h2] at ht
      cases ht
  · exact linesTextL_0 (.inl ⟨x, hm, hn⟩)
theorem lt_end {L : List (List UInt8)} (h : ∀ x ∈ L, x = [] ∨ lineManyI x = 1) (hl : (joinL L).length ≤ 120) : linesTextL L = joinL L := by
  have key : ∀ x ∈ L, nlc x = 0 ∧ plain x = true := fun x hx => by
    rcases h x hx with rfl | h1
    · exact ⟨rfl, rfl⟩
    · have ht : tvB x = true := by
        cases ht : tvB x
        · rw [lineManyI_0 ht] at h1
          cases h1
        · rfl
      rw [lineManyI_1 ht] at h1
      exact ⟨by omega, ((tvB_iff x).1 ht).2⟩
  refine linesTextL_1 (fun x hx => (key x hx).1) ?_
  rw [tvB_iff, joinL_plain, List.all_eq_true]
  exact ⟨hl, fun x hx => (key x hx).2⟩
set_option maxRecDepth 100000 in
set_option maxHeartbeats 800000 in
theorem specLinesText_any (A : Option Addr) (n c : Nat) (xs : List ByteArray) (w : World) (hn : n ≤ 1099511627776) (hx : ∀ x ∈ xs, x.size ≤ 1099511627776) (h : Strs w w.heap.size A n xs) :
    Calls Tryd.prog 25 #[.slice A n c] w fun e w' => e = .returned (.string (mk (linesTextL (datas xs)))) ∧ w = w' := by
  obtain ⟨L, hL⟩ : ∃ L, datas xs = L := ⟨_, rfl⟩
  rw [hL]
  have hLl : L.length = n := by rw [← hL, datas_length, h.1]
  have HL := Lib.hid hL
  clear hL
  go_enter Tryd.func25, Tryd.ntmps25
  go_wp2
  go_loop [3, 4] (fun o i => ∃ (k : Nat) (t : ByteArray), k ≤ n ∧ i = .int .i64 k ∧ o = .string t ∧ t.size ≤ 120 ∧ Hid (t.data.toList = joinL (L.take k)) ∧ Hid (∀ x ∈ L.take k, x = [] ∨ lineManyI x = 1)) (fun _ i => n - (intOf i).toNat)
  case atStart => exact ⟨0, _, Nat.zero_le _, rfl, rfl, Nat.zero_le _, Lib.hid (by simp [joinL]), Lib.hid (fun x hx => by simp at hx)⟩
  case round =>
    obtain ⟨k, t, hk, rfl, rfl, ht, HT, HA⟩ := hrel
    by_cases hlt : k < n
    · obtain ⟨ad, x, rfl, hb, hms, hc0⟩ := h.at_ hlt
      have hxs := hx x (List.mem_of_getElem? hms)
      have hd := datas_at hms
      rw [HL.out] at hd
      have HD := Lib.hid hd
      clear hd hms
      have hx0 : ∀ v : Int, lineManyI x.data.toList = v → 0 < x.size → v ≠ 1 → linesTextL L = [] := fun v h1 _ h3 => lt_odd HD.out (by rw [h1]; exact h3)
      have HX := Lib.hid hx0
      have hstep : ∀ u : ByteArray, u.data.toList = joinL (L.take (k + 1)) → 120 < u.size → linesTextL L = [] := fun u h1 h2 => lt_big (k := k + 1) (by rw [← h1]; exact h2)
      have HB := Lib.hid hstep
      have hall : (x.size = 0 ∨ lineManyI x.data.toList = 1) → ∀ y ∈ L.take (k + 1), y = [] ∨ lineManyI y = 1 := fun h1 y hy => by
        rw [List.take_add_one, HD.out, List.mem_append] at hy
        rcases hy with hy | hy
        · exact HA.out y hy
        · have : y = x.data.toList := by simpa using hy
          subst this
          rcases h1 with h1 | h1
          · exact .inl (List.eq_nil_of_length_eq_zero h1)
          · exact .inr h1
      have HC := Lib.hid hall
      clear hx0 hstep hall
      obtain ⟨v, hv⟩ : ∃ v, lineManyI x.data.toList = v := ⟨_, rfl⟩
      have HV := Lib.hid hv
      clear hv
      have hxm : x.size ≤ maxLen := by unfold maxLen; omega
      have j1 : (k : Int) < (n : Int) := by omega
      by_cases h0 : 0 < k
      · have hu : (t ++ ⟨#[10]⟩ ++ x).data.toList = joinL (L.take (k + 1)) := by
          rw [join_next HD.out h0, ← HT.out]
          simp
        have HU := Lib.hid hu
        have hsz : (t ++ ⟨#[10]⟩ ++ x).size = t.size + 1 + x.size := by
          rw [ByteArray.size_append, ByteArray.size_append]
          rfl
        obtain ⟨u, hue⟩ : ∃ u, t ++ ⟨#[10]⟩ ++ x = u := ⟨_, rfl⟩
        rw [hue] at hu hsz HU
        have hsz1 : (t ++ ⟨#[10]⟩ : ByteArray).size ≤ 121 := by
          rw [ByteArray.size_append]
          show t.size + 1 ≤ 121
          omega
        clear hu
        by_cases hbig : 120 < u.size
        · have HBIG := Lib.hid hbig
          go_wp2
          go_ret
          exact ⟨by rw [HB.out u HU.out HBIG.out]; rfl, rfl⟩
        · by_cases hxz : x.size = 0
          · have HC1 := Lib.hid (HC.out (.inl hxz))
            have hxz' : ((x.size : Int) == 0) = true := by simp [hxz]
            go_wp2_with fail
            go_round
            case rel => exact ⟨k + 1, u, by omega, by go_num, rfl, by omega, HU, HC1⟩
            case measure => simp [intOf]; omega
          · have hxz2 : 0 < x.size := by omega
            by_cases hv1 : v = 1
            · have HC1 := Lib.hid (HC.out (.inr (HV.out.trans hv1)))
              subst hv1
              go_wp2_with (go_at_call 30; refine (specLineMany_any _ _ hxm).mono ?_; rw [HV.out]; rintro e w' ⟨rfl, rfl⟩)
              go_round
              case rel => exact ⟨k + 1, u, by omega, by go_num, rfl, by omega, HU, HC1⟩
              case measure => simp [intOf]; omega
            · have HE := Lib.hid (HX.out v HV.out hxz2 hv1)
              have hv2 : (v == 1) = false := by simpa using hv1
              have hv3 : (v != 1) = true := by simpa using hv1
              clear hv1
              go_wp2_with (go_at_call 30; refine (specLineMany_any _ _ hxm).mono ?_; rw [HV.out]; rintro e w' ⟨rfl, rfl⟩)
              go_ret
              exact ⟨by rw [HE.out]; rfl, rfl⟩
      · obtain rfl : k = 0 := by omega
        have hc1 : w.cell? ad = some (.string x) := hc0
        have hu : (t ++ x).data.toList = joinL (L.take (0 + 1)) := by
          rw [join_first HD.out]
          have := HT.out
          simp [joinL] at this
          simp [this]
        have HU := Lib.hid hu
        have hsz : (t ++ x).size = t.size + x.size := ByteArray.size_append
        obtain ⟨u, hue⟩ : ∃ u, t ++ x = u := ⟨_, rfl⟩
        rw [hue] at hu hsz HU
        clear hu
        by_cases hbig : 120 < u.size
        · have HBIG := Lib.hid hbig
          go_wp2
          go_ret
          exact ⟨by rw [HB.out u HU.out HBIG.out]; rfl, rfl⟩
        · by_cases hxz : x.size = 0
          · have HC1 := Lib.hid (HC.out (.inl hxz))
            have hxz' : ((x.size : Int) == 0) = true := by simp [hxz]
            go_wp2_with fail
            go_round
            case rel => exact ⟨0 + 1, u, by omega, by go_num, rfl, by omega, HU, HC1⟩
            case measure => simp [intOf]; omega
          · have hxz2 : 0 < x.size := by omega
            by_cases hv1 : v = 1
            · have HC1 := Lib.hid (HC.out (.inr (HV.out.trans hv1)))
              subst hv1
              go_wp2_with (go_at_call 30; refine (specLineMany_any _ _ hxm).mono ?_; rw [HV.out]; rintro e w' ⟨rfl, rfl⟩)
              go_round
              case rel => exact ⟨0 + 1, u, by omega, by go_num, rfl, by omega, HU, HC1⟩
              case measure => simp [intOf]; omega
            · have HE := Lib.hid (HX.out v HV.out hxz2 hv1)
              have hv2 : (v == 1) = false := by simpa using hv1
              have hv3 : (v != 1) = true := by simpa using hv1
              clear hv1
              go_wp2_with (go_at_call 30; refine (specLineMany_any _ _ hxm).mono ?_; rw [HV.out]; rintro e w' ⟨rfl, rfl⟩)
              go_ret
              exact ⟨by rw [HE.out]; rfl, rfl⟩
    · have hkn : k = n := by omega
      subst hkn
      have h1 := HT.out
      have h2 := HA.out
      rw [List.take_of_length_le (by omega)] at h1 h2
      have h3 : mk (linesTextL L) = t := by
        rw [lt_end h2 (by rw [← h1]; exact ht)]
        exact ext_data (by rw [mk_data, h1])
      have H3 := Lib.hid h3
      clear h1 h2 h3
      go_wp2
      go_ret
      exact ⟨by rw [H3.out]; rfl, rfl⟩
end Go.Proofs.YtecejfcoognkiaaDoor
