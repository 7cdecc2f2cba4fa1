/- The walk of the law FnLinesJoin: the call returns true and turns nothing that was there. -/
import Derived.Test.YtecejfcoognkiaaDoorD3
import Derived.Test.YtecejfcoognkiaaDoorD14
import Derived.Test.YtecejfcoognkiaaDoorW33
namespace Go.Proofs.YtecejfcoognkiaaDoor.fnLinesJoin
open Go.RowKit
theorem app3_data (a b : ByteArray) : (a ++ ⟨#[10]⟩ ++ b).data.toList = a.data.toList ++ 10 :: b.data.toList := by simp
theorem tv_parts {a b : ByteArray} (h : tvB (a ++ ⟨#[10]⟩ ++ b).data.toList = true) : tvB a.data.toList = true ∧ tvB b.data.toList = true := by
  rw [app3_data, tvB_iff] at h
  obtain ⟨h1, h2⟩ := h
  rw [List.length_append, List.length_cons] at h1
  rw [plain_append, plain_cons, Bool.and_eq_true, Bool.and_eq_true] at h2
  exact ⟨(tvB_iff _).2 ⟨by omega, h2.1⟩, (tvB_iff _).2 ⟨by omega, h2.2.2⟩⟩
theorem lines_app (a b : ByteArray) : linesB (a ++ ⟨#[10]⟩ ++ b) = linesB a ++ linesB b := by
  unfold linesB
  rw [app3_data, linesL_app, List.map_append]
set_option maxRecDepth 100000 in
set_option maxHeartbeats 1600000 in
theorem walk (A : Option Addr) (n c : Nat) (hnc : n ≤ c) (hc : c ≤ maxLen) (A' : Option Addr) (n' c' : Nat) (hnc' : n' ≤ c') (hc2 : c' ≤ maxLen) (m : Int) (w : World) (hm : w.cell? ⟨0, 0, none⟩ = some (.int .i64 m)) (hb : Byt w w.heap.size A n) (hb' : Byt w w.heap.size A' n') :
    Calls Tryd.prog 5 #[.slice A n c, .slice A' n' c'] w fun e w' => e = .returned (.bool true) ∧ Below w.heap.size w w' := by
  have hc' := hc
  have hc3 := hc2
  unfold maxLen at hc' hc3
  have hlt0 : 0 < w.heap.size := cell_lt hm
  by_cases h : 1048576 < n
  · go_enter Tryd.func5, Tryd.ntmps5
    go_wp2
    go_ret
    exact ⟨rfl, Below.refl _ _⟩
  · by_cases h2 : 1048576 < n'
    · go_enter Tryd.func5, Tryd.ntmps5
      go_wp2
      go_ret
      exact ⟨rfl, Below.refl _ _⟩
    · obtain ⟨i0, hi, hz0, hz1, hz2⟩ := info_parts strInfo
      go_enter Tryd.func5, Tryd.ntmps5
      go_wp2_with fail
      refine (DrawLinesOf_any _ _ _ _ hb hnc hc).mono ?_
      rintro e w1 ⟨a, rfl, ha, hb1⟩
      have hb1' : Byt w1 w1.heap.size A' n' := (hb'.below hb1 (Nat.le_refl _)).more hb1.size
      have hm1 := (hb1.cell (p := ⟨0, 0, none⟩) hlt0).trans hm
      have hl1 : 0 < w1.heap.size := cell_lt hm1
      go_wp2_with fail
      refine (DrawLinesOf_any _ _ _ _ hb1' hnc' hc2).mono ?_
      rintro e w2 ⟨b, rfl, hbs, hb2⟩
      have hm2 := (hb2.cell (p := ⟨0, 0, none⟩) hl1).trans hm1
      have hl2 : 0 < w2.heap.size := cell_lt hm2
      have hbw2 := bstep hb1 hb2
      go_wp2_with fail
      refine (implLinesOf_any a m _ (by omega) hm2).mono ?_
      rintro e w3 ⟨A3, n3, c3, rfl, ho3, hb3⟩
      have hm3 := (hb3.cell (p := ⟨0, 0, none⟩) hl2).trans hm2
      have hl3 : 0 < w3.heap.size := cell_lt hm3
      have hbw3 := bstep hbw2 hb3
      have hn3 : n3 ≤ 130 := by
        have h2 := ho3.1
        unfold linesR at h2
        split at h2
        · rw [linesB_length] at h2
          have := nlc_le a.data.toList
          have : a.data.toList.length = a.size := rfl
          omega
        · simp at h2
          omega
      go_wp2_with fail
      refine (specLinesOf_any a _ (by omega)).mono ?_
      rintro e w4 ⟨A4, n4, c4, rfl, ho4, hb4⟩
      obtain rfl : n4 = n3 := ho4.1.symm.trans ho3.1
      have ho34 := ho3.below hb4
      have hm4 := (hb4.cell (p := ⟨0, 0, none⟩) hl3).trans hm3
      have hl4 : 0 < w4.heap.size := cell_lt hm4
      have hbw4 := bstep hbw3 hb4
      go_wp2_with fail
      refine (sameTexts_same A3 A4 n4 c3 c4 _ _ (by omega) ho34.strs ho4.strs).mono ?_
      rintro e w5 ⟨rfl, hb5⟩
      have ho5 := ho34.below hb5
      have hm5 := (hb5.cell (p := ⟨0, 0, none⟩) hl4).trans hm4
      have hl5 : 0 < w5.heap.size := cell_lt hm5
      have hbw5 := bstep hbw4 hb5
      clear ho3 ho4 ho34 hb1 hb2 hb3 hb4 hb5 hbw2 hbw3 hbw4 hm1 hm2 hm3 hm4
      obtain ⟨x, hx⟩ : ∃ x, a ++ ⟨#[10]⟩ ++ b = x := ⟨_, rfl⟩
      have hxs : x.size ≤ 251 := by
        rw [← hx, ByteArray.size_append, ByteArray.size_append]
        show a.size + 1 + b.size ≤ 251
        omega
      have hxm : x.size ≤ maxLen := by unfold maxLen; omega
      have hs1 : (a ++ ⟨#[10]⟩ : ByteArray).size ≤ 126 := by
        rw [ByteArray.size_append]
        show a.size + 1 ≤ 126
        omega
      cases ht : tvB x.data.toList
      · have H := Lib.hid ht
        have HX := Lib.hid hx
        clear ht hx
        go_wp2_with (go_at_call 12; rw [HX.out]; refine (specTextValid_any _ _ hxm).mono ?_; rw [H.out]; rintro e w' ⟨rfl, rfl⟩)
        go_wp2_with (go_at_call 13; refine (alive_any _).mono ?_; rintro e w' ⟨rfl, rfl⟩)
        go_ret
        exact ⟨rfl, hbw5⟩
      · obtain ⟨ta, tb⟩ := tv_parts (a := a) (b := b) (by rw [hx]; exact ht)
        have hla := linesR_1 ta
        have hlb := linesR_1 tb
        have hlx : linesR x = linesB a ++ linesB b := by rw [linesR_1 ht, ← hx, lines_app]
        rw [hla] at ho5
        have H := Lib.hid ht
        have HX := Lib.hid hx
        have HLB := Lib.hid hlb
        have HLX := Lib.hid hlx
        clear ht hx ta tb hla hlb hlx
        have hst5 := ho5.strs
        go_wp2_with (go_at_call 12; rw [HX.out]; refine (specTextValid_any _ _ hxm).mono ?_; rw [H.out]; rintro e w' ⟨rfl, rfl⟩)
        go_wp2_with fail
        rw [HX.out]
        refine (implLinesOf_any x m _ (by omega) hm5).mono ?_
        rw [HLX.out]
        rintro e w6 ⟨A6, n6, c6, rfl, ho6, hb6⟩
        have hm6 := (hb6.cell (p := ⟨0, 0, none⟩) hl5).trans hm5
        have hl6 : 0 < w6.heap.size := cell_lt hm6
        have hbw6 := bstep hbw5 hb6
        have hs6 : Strs (w6.alloc (.cells #[] 9)) w6.heap.size A3 n4 (linesB a) := ((hst5.below hb6 (Nat.le_refl _)).more hb6.size).below (balloc (Below.refl _ _) _) (Nat.le_refl _)
        have ho7 : OwnS 9 (w6.alloc (.cells #[] 9)) w6.heap.size (some ⟨w6.heap.size, 0, none⟩) 0 0 [] := ⟨rfl, owns_empty w6 w6.heap.size 9 1 (Nat.le_refl _)⟩
        have HS6 := Lib.hid hs6
        have HB7 : Hid (w6.heap.size ≤ (w6.alloc (.cells #[] 9)).heap.size) := Lib.hid (by simp)
        have hsum7 : 0 + n4 ≤ 4194304 := by omega
        have HO7 := Lib.hid ho7
        have ho67 : OwnS 9 (w6.alloc (.cells #[] 9)) w5.heap.size A6 n6 c6 (linesB a ++ linesB b) := ⟨ho6.1, ho6.2.alloc _⟩
        have hlt6 := ho6.2.lt
        clear hs6 ho7 ho6
        go_wp2_with (at_builtin; refine wpList_append_strs rfl _ _ 24 rfl 9 i0 _ Tryd.underlying24 hi hz0 hz1 hz2 rfl w6.heap.size 0 0 (some ⟨w6.heap.size, 0, none⟩) [] rfl HO7.out A3 n4 c3 w6.heap.size (linesB a) rfl HS6.out hsum7 HB7.out n4 (Nat.zero_add _) (linesB a) rfl ?_; intro A7 c7 w7 ho7 hg7)
        have hg7' : (w6.alloc (.cells #[] 9)).grownBy w7 (some w6.heap.size) := hg7
        have hm6' : (w6.alloc (.cells #[] 9)).cell? ⟨0, 0, none⟩ = some (.int .i64 m) := ((balloc (Below.refl w6.heap.size w6) (.cells #[] 9)).cell (p := ⟨0, 0, none⟩) hl6).trans hm6
        have hm7 : w7.cell? ⟨0, 0, none⟩ = some (.int .i64 m) := (hg7'.cell_far ⟨0, 0, none⟩ (cell_lt hm6') (fun e => absurd (Option.some.inj e) (by show ¬ (0 = w6.heap.size); omega))).trans hm6'
        have hl7 : 0 < w7.heap.size := cell_lt hm7
        have hz67 : w6.heap.size + 1 ≤ w7.heap.size := by have := hg7'.size; rwa [World.size_alloc] at this
        have ho607 : OwnS 9 w7 w5.heap.size A6 n6 c6 (linesB a ++ linesB b) := by
          refine ⟨ho67.1, ho67.2.kept hg7' ?_⟩
          cases hk : (Value.slice A6 n6 c6).ownBlock with
          | none => exact .inl rfl
          | some k => exact .inr fun e => by have h1 := (hlt6 k hk).2; injection e with e; omega
        have hbw7 : Below w.heap.size w w7 := (balloc hbw6 (.cells #[] 9)).grown (row := some w6.heap.size) hg7 (by have := hbw6.size; simp; omega) (fun k hk => by cases hk; exact hbw6.size)
        refine (implLinesOf_any b m _ (by omega) hm7).mono ?_
        rw [HLB.out]
        rintro e w8 ⟨A8, n8, c8, rfl, ho8, hb8⟩
        have ho78 := ho7.below hb8
        have ho608 := ho607.below hb8
        have hz78 := hb8.size
        have hn8 : n8 ≤ 130 := by
          have h1 := ho8.1
          rw [linesB_length] at h1
          have h2 := nlc_le b.data.toList
          have h3 : b.data.toList.length = b.size := rfl
          omega
        have hst8 := ho8.strs
        have hsum8 : n4 + n8 ≤ 4194304 := by omega
        have hB8 : w6.heap.size ≤ w8.heap.size := by omega
        have hlt78 := ho78.2.lt
        have hn6 : n4 + n8 = n6 := by
          have h1 := ho78.1
          have h2 := ho8.1
          have h3 := ho608.1
          rw [List.length_append] at h3
          omega
        have HN6 := Lib.hid hn6
        clear ho67 ho607 hm6 hm6' hm7 ho7 hn6
        go_wp2_with (at_builtin; refine wpList_append_strs rfl _ _ 24 rfl 9 i0 _ Tryd.underlying24 hi hz0 hz1 hz2 rfl w6.heap.size n4 c7 A7 (linesB a) rfl ho78 A8 n8 c8 w8.heap.size (linesB b) rfl hst8 hsum8 hB8 n6 HN6.out (linesB a ++ linesB b) rfl ?_; intro A9 c9 w9 ho9 hg9)
        have ho609 : OwnS 9 w9 w5.heap.size A6 n6 c6 (linesB a ++ linesB b) := by
          refine ⟨ho608.1, ho608.2.kept hg9 ?_⟩
          cases hk : (Value.slice A6 n6 c6).ownBlock with
          | none => exact .inl rfl
          | some k => exact .inr fun e => by have h1 := (hlt6 k hk).2; have h2 := (hlt78 k e.symm).1; omega
        have hbw9 : Below w.heap.size w w9 := (bstep hbw7 hb8).grown hg9 (by have := hbw7.size; omega) (fun k hk => Nat.le_trans hbw6.size (hlt78 k hk).1)
        have hn6' : n6 ≤ 260 := by have := HN6.out; omega
        refine (sameTexts_same _ _ _ _ _ _ _ (by omega) ho609.strs ho9.strs).mono ?_
        rintro e w10 ⟨rfl, hb10⟩
        go_wp2
        go_ret
        exact ⟨rfl, bstep hbw9 hb10⟩
end Go.Proofs.YtecejfcoognkiaaDoor.fnLinesJoin
