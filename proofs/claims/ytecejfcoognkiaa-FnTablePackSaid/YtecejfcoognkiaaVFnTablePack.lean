/- The walk of the law FnTablePack: the call returns true and turns nothing that was there. -/
import Derived.Test.YtecejfcoognkiaaD20
import Derived.Test.YtecejfcoognkiaaD3
import Derived.Test.YtecejfcoognkiaaW18
import Derived.Test.YtecejfcoognkiaaW22
import Derived.Test.YtecejfcoognkiaaW23
import Derived.Test.YtecejfcoognkiaaW34
import Derived.Test.YtecejfcoognkiaaPv
namespace Go.Proofs.Ytecejfcoognkiaa.fnTablePack
open Go.RowKit

/-- What the operations of the first comparison leave. -/
def fcΦ (XF XM F M : ByteArray) (A1 A2 : Option Addr) (n1 c1 n2 c2 : Nat) (xs : List (Bool × Int × Int)) : Nat → World → Value → Prop
  | 0, _, v => v = .agg #[.string XF, .string XM, .slice A2 n2 c2]
  | 1, _, v => v = .agg #[.string F, .string M, .slice A1 n1 c1]
  | 2, w, v => ∃ A c, v = .agg #[.string XF, .string XM, .slice A n2 c] ∧ Pieces w w.heap.size A n2 xs
  | 3, _, v => v = .bool true
  | 4, _, v => v = .bool false
  | _, _, _ => True
theorem fcΦ_stab (XF XM F M : ByteArray) (A1 A2 : Option Addr) (n1 c1 n2 c2 : Nat) (xs : List (Bool × Int × Int)) : ∀ k w w' v, (fun w w' : World => Below w.heap.size w w') w w' → fcΦ XF XM F M A1 A2 n1 c1 n2 c2 xs k w v → fcΦ XF XM F M A1 A2 n1 c1 n2 c2 xs k w' v := fun k w w' v hb h => by
  by_cases hk : k < 5
  · rcases (by omega : k = 0 ∨ k = 1 ∨ k = 2 ∨ k = 3 ∨ k = 4) with rfl | rfl | rfl | rfl | rfl
    · exact h
    · exact h
    · obtain ⟨A, c, e, p⟩ := h
      exact ⟨A, c, e, (p.below hb (Nat.le_refl _)).more hb.size⟩
    · exact h
    · exact h
  · obtain ⟨j, rfl⟩ : ∃ j, k = j + 5 := ⟨k - 5, by omega⟩
    trivial
/-- What the operations of the last test leave. -/
def ltΦ (F M S : ByteArray) (t3 t4 : Nat) (A1 A2 : Option Addr) (n1 c1 n2 c2 : Nat) (xs : List (Bool × Int × Int)) : Nat → World → Value → Prop
  | 0, _, v => v = .agg #[.string F, .string M, .slice A2 n2 c2]
  | 1, _, v => v = .bool true
  | 2, _, v => v = .bool true
  | 3, _, v => v = .agg #[.string F, .string M, .slice A2 n2 c2]
  | 4, _, v => v = .string S
  | 5, _, v => v = .agg #[.string F, .string M, .slice A1 n1 c1]
  | 6, _, v => v = .string S
  | 7, _, v => v = .bool true
  | 8, _, v => v = .bool true
  | 9, _, v => v = .bool true
  | 10, _, v => v = .pointer (some ⟨t4, 2, none⟩)
  | 11, _, v => v = .slice A2 n2 c2
  | 12, _, v => v = .int .i64 (n2 : Int)
  | 13, _, v => v = .pointer (some ⟨t3, 2, none⟩)
  | 14, _, v => v = .slice A1 n1 c1
  | 15, _, v => v = .int .i64 (n1 : Int)
  | 16, _, v => v = .bool true
  | 17, _, v => v = .bool true
  | 18, _, v => v = .bool true
  | 19, _, v => v = .agg #[.string F, .string M, .slice A2 n2 c2]
  | 20, w, v => ∃ A c, v = .agg #[.string F, .string M, .slice A n2 c] ∧ Pieces w w.heap.size A n2 xs
  | 21, _, v => v = .agg #[.string F, .string M, .slice A2 n2 c2]
  | 22, _, v => v = .bool true
  | 23, _, v => v = .bool true
  | 24, _, v => v = .bool true
  | _, _, _ => True
theorem ltΦ_stab (F M S : ByteArray) (t3 t4 : Nat) (A1 A2 : Option Addr) (n1 c1 n2 c2 : Nat) (xs : List (Bool × Int × Int)) : ∀ k w w' v, (fun w w' : World => Below w.heap.size w w') w w' → ltΦ F M S t3 t4 A1 A2 n1 c1 n2 c2 xs k w v → ltΦ F M S t3 t4 A1 A2 n1 c1 n2 c2 xs k w' v := fun k w w' v hb h => by
  by_cases hk : k < 25
  · rcases (by omega : k = 0 ∨ k = 1 ∨ k = 2 ∨ k = 3 ∨ k = 4 ∨ k = 5 ∨ k = 6 ∨ k = 7 ∨ k = 8 ∨ k = 9 ∨ k = 10 ∨ k = 11 ∨ k = 12 ∨ k = 13 ∨ k = 14 ∨ k = 15 ∨ k = 16 ∨ k = 17 ∨ k = 18 ∨ k = 19 ∨ k = 20 ∨ k = 21 ∨ k = 22 ∨ k = 23 ∨ k = 24) with rfl | rfl | rfl | rfl | rfl | rfl | rfl | rfl | rfl | rfl | rfl | rfl | rfl | rfl | rfl | rfl | rfl | rfl | rfl | rfl | rfl | rfl | rfl | rfl | rfl
    case inr.inr.inr.inr.inr.inr.inr.inr.inr.inr.inr.inr.inr.inr.inr.inr.inr.inr.inr.inr.inl =>
      obtain ⟨A, c, e, p⟩ := h
      exact ⟨A, c, e, (p.below hb (Nat.le_refl _)).more hb.size⟩
    all_goals exact h
  · obtain ⟨j, rfl⟩ : ∃ j, k = j + 25 := ⟨k - 25, by omega⟩
    trivial
set_option maxRecDepth 100000 in
set_option maxHeartbeats 3200000 in
theorem walk (A : Option Addr) (n c : Nat) (hnc : n ≤ c) (hc : c ≤ maxLen) (w : World) (hb : Byt w w.heap.size A n) :
    Calls Try.prog 5 #[.slice A n c] w fun e w' => e = .returned (.bool true) ∧ Below w.heap.size w w' := by
  have hc' := hc
  unfold maxLen at hc'
  by_cases h : 1048576 < n
  · go_enter Try.func5, Try.ntmps5
    go_wp2
    go_ret
    exact ⟨rfl, Below.refl _ _⟩
  · go_enter Try.func5, Try.ntmps5
    go_wp2_with fail
    refine (DrawTablePack_any _ _ _ _ hb hnc hc).mono ?_
    rintro e w1 ⟨F, M, A1, n1, c1, ps, rfl, hF, hM, hn1, ho1, hb1⟩
    have t2 := B3.new w1 25 (.string F) (.string M) (.slice A1 n1 c1)
    have o2 := ho1.alloc (.cells #[.string F, .string M, .slice A1 n1 c1] 25)
    have b2 := balloc hb1 (.cells #[.string F, .string M, .slice A1 n1 c1] 25)
    clear ho1 hb1
    obtain ⟨c0, c1', c2⟩ := t2.cells
    go_wp2_with fail
    generalize w1.alloc (.cells #[.string F, .string M, .slice A1 n1 c1] 25) = w2 at t2 o2 b2 c0 c1' c2 ⊢
    generalize w1.heap.size = t3 at t2 c0 c1' c2 ⊢
    obtain ⟨xs, hxs⟩ : ∃ xs, packP F.data.toList M.data.toList ps = xs := ⟨_, rfl⟩
    obtain ⟨XF, hXF⟩ : ∃ X, mk (packF F.data.toList M.data.toList ps) = X := ⟨_, rfl⟩
    obtain ⟨XM, hXM⟩ : ∃ X, mk (packM F.data.toList M.data.toList ps) = X := ⟨_, rfl⟩
    have hxl : xs.length ≤ n1 := by
      rw [← hxs, ← o2.1]
      cases ht : tableB F.data.toList M.data.toList ps
      · rw [(pack_0 ht).2.2]
        exact Nat.zero_le _
      · rw [(pack_1 ht).2.2]
        exact (pack_facts ht).2.2.2.2
    have HXS := Lib.hid hxs
    have HXF := Lib.hid hXF
    have HXM := Lib.hid hXM
    clear hxs hXF hXM
    refine (implTablePack_any F M A1 n1 c1 _ ps _ (by omega) (by omega) (by omega) o2).mono ?_
    rw [HXS.out]
    rintro e w3 ⟨A2, n2, c2x, rfl, hx3, hb3⟩
    rw [HXF.out, HXM.out]
    have hn2 : n2 ≤ n1 := by rw [← hx3.1]; exact hxl
    have t3' := t2.next hb3
    have o3 := o2.below hb3
    have b3 := bstep b2 hb3
    have x3 := hx3.base b2.size
    clear t2 o2 b2 hb3 hx3 c0 c1' c2
    have t4 := t3'.alloc (.cells #[.string XF, .string XM, .slice A2 n2 c2x] 25)
    have u4 := B3.new w3 25 (.string XF) (.string XM) (.slice A2 n2 c2x)
    have o4 := o3.alloc (.cells #[.string XF, .string XM, .slice A2 n2 c2x] 25)
    have x4 := x3.alloc (.cells #[.string XF, .string XM, .slice A2 n2 c2x] 25)
    have b4 := balloc b3 (.cells #[.string XF, .string XM, .slice A2 n2 c2x] 25)
    clear t3' o3 x3 b3
    go_wp2_with fail
    generalize w3.alloc (.cells #[.string XF, .string XM, .slice A2 n2 c2x] 25) = w4 at t4 u4 o4 x4 b4 ⊢
    generalize w3.heap.size = t4a at u4 ⊢
    refine wp_region_slots (by kernel_rfl) (fun vs => ⟨#[.slice A n c, undef, .bool false, .pointer (some ⟨t3, 0, none⟩), .pointer (some ⟨t4a, 0, none⟩), undef, undef, undef, .slice A n c, .int .i64 (n : Int), .bool (decide ((1048576 : Int) < (n : Int))), .slice A n c, .agg #[.string F, .string M, .slice A1 n1 c1], .agg #[.string F, .string M, .slice A1 n1 c1], .agg #[.string XF, .string XM, .slice A2 n2 c2x], vs 0, vs 1, vs 2, vs 3, vs 4, undef, undef, undef, undef, undef, undef, undef, undef, undef, undef, undef, undef, undef, undef, undef, undef, undef, undef, undef, undef, undef, undef, undef, undef, undef, undef, undef, undef, undef, undef, undef, undef, undef, undef, undef, undef, undef, undef, undef, undef, undef, undef, undef, undef, undef, undef, undef, undef, undef, undef, undef, undef, undef, undef, undef, undef, undef, undef, undef, undef, undef, undef, undef, undef, undef, undef, undef], []⟩) (fun _ => undef) rfl (fcΦ XF XM F M A1 A2 n1 c1 n2 c2x xs) (fun _ w' => Below w.heap.size w w' ∧ B3 w' t3 25 (.string F) (.string M) (.slice A1 n1 c1) ∧ B3 w' t4a 25 (.string XF) (.string XM) (.slice A2 n2 c2x) ∧ OwnP 29 w' w.heap.size A1 n1 c1 ps ∧ OwnP 29 w' w.heap.size A2 n2 c2x xs) (fun w w' => Below w.heap.size w w') (fcΦ_stab XF XM F M A1 A2 n1 c1 n2 c2x xs) (by kernel_rfl) ⟨bdrew b4, t4.drew, u4.drew, o4, x4⟩ ?_ ?_
    · intro L m' vs w' i hi hm' hdp hI hΦ
      obtain ⟨hb, hT, hU, hO, hX⟩ := hI
      have hi' : i < 5 := hi
      rcases (by omega : i = 0 ∨ i = 1 ∨ i = 2 ∨ i = 3 ∨ i = 4) with rfl | rfl | rfl | rfl | rfl
      · obtain ⟨c0, c1', c2⟩ := hU.cells
        refine wpOp_step rfl (fun K hK => ?_)
        go_simp
        exact hK _ _ ⟨_, by simp [upd], Below.refl _ _, ⟨hb, hT, hU, hO, hX⟩, rfl⟩
      · obtain ⟨c0, c1', c2⟩ := hT.cells
        refine wpOp_step rfl (fun K hK => ?_)
        go_simp
        exact hK _ _ ⟨_, by simp [upd], Below.refl _ _, ⟨hb, hT, hU, hO, hX⟩, rfl⟩
      · have h1 : vs 1 = .agg #[.string F, .string M, .slice A1 n1 c1] := hΦ 1 (hdp 1 (by kernel_rfl))
        refine wpOp_step rfl (fun K hK => ?_)
        go_simp
        refine (specTablePack_any F M A1 n1 c1 _ ps _ (by omega) (by omega) (by omega) hO).mono ?_
        rw [HXS.out]
        rintro e w3' ⟨A3, n3, c3, rfl, hx3, hb3⟩
        rw [HXF.out, HXM.out]
        obtain rfl : n2 = n3 := hX.1.symm.trans hx3.1
        go_simp
        exact hK _ _ ⟨.agg #[.string XF, .string XM, .slice A3 n2 c3], by simp [upd, h1], hb3, ⟨bstep hb hb3, hT.next hb3, hU.next hb3, hO.below hb3, hX.below hb3⟩, ⟨A3, c3, rfl, hx3.pieces⟩⟩
      · have h0 : vs 0 = .agg #[.string XF, .string XM, .slice A2 n2 c2x] := hΦ 0 (hdp 0 (by kernel_rfl))
        obtain ⟨A3, c3, h2, hp⟩ : ∃ A c, vs 2 = .agg #[.string XF, .string XM, .slice A n2 c] ∧ Pieces w' w'.heap.size A n2 xs := hΦ 2 (hdp 2 (by kernel_rfl))
        refine wpOp_step rfl (fun K hK => ?_)
        go_simp
        refine (samePieces_same XF XM A2 A3 n2 c2x c3 xs _ (by omega) hX.pieces hp).mono ?_
        rintro e w3' ⟨rfl, hb3⟩
        go_simp
        exact hK _ _ ⟨.bool true, by simp [upd, h0, h2], hb3, ⟨bstep hb hb3, hT.next hb3, hU.next hb3, hO.below hb3, hX.below hb3⟩, rfl⟩
      · have h3 : vs 3 = .bool true := hΦ 3 (hdp 3 (by kernel_rfl))
        refine wpOp_step rfl (fun K hK => ?_)
        go_simp
        exact hK _ _ ⟨.bool false, by simp [upd, h3], Below.refl _ _, ⟨hb, hT, hU, hO, hX⟩, rfl⟩
    · intro m' vs w5 hm' hI hΦ
      obtain ⟨b5, t5, U5, o5, x5⟩ := hI
      have h4 : vs 4 = .bool false := hΦ 4 (by decide)
      rw [h4]
      clear h4 hΦ hm'
      obtain ⟨c0, c1', c2⟩ := t5.cells
      obtain ⟨tv, htv⟩ : ∃ tv, tableB F.data.toList M.data.toList ps = tv := ⟨_, rfl⟩
      have HTV := Lib.hid htv
      clear htv
      go_wp2_with fail
      refine (specTableValid_any F M A1 n1 c1 ps _ (by omega) (by omega) (by omega) o5.pieces).mono ?_
      rw [HTV.out]
      rintro e w6 ⟨rfl, hb6⟩
      have t6 := t5.next hb6
      have U6 := U5.next hb6
      have o6 := o5.below hb6
      have x6 := x5.below hb6
      have b6 := bstep b5 hb6
      clear t5 U5 o5 x5 b5 hb6 c0 c1' c2
      obtain ⟨c0, c1', c2⟩ := U6.cells
      cases tv
      · obtain rfl : n2 = 0 := by
          rw [← x6.1, ← HXS.out, (pack_0 HTV.out).2.2]
          rfl
        go_wp2_with (go_at_call 9; refine (alive_any _).mono ?_; rintro e w' ⟨rfl, rfl⟩)
        go_ret
        exact ⟨rfl, b6⟩
      · obtain rfl : F = XF := by rw [← HXF.out, (pack_1 HTV.out).1, mk_of]
        obtain rfl : M = XM := by rw [← HXM.out, (pack_1 HTV.out).2.1, mk_of]
        obtain rfl : packL ps = xs := by rw [← HXS.out, (pack_1 HTV.out).2.2]
        obtain ⟨hv1, hv2, hv3, hv4, _⟩ := pack_facts HTV.out
        have HV1 := Lib.hid hv1
        have HV2 : Hid (mk (tableTextL F.data.toList M.data.toList (packL ps)) = mk (tableTextL F.data.toList M.data.toList ps)) := Lib.hid (by rw [tableTextL_1 hv1, tableTextL_1 HTV.out, hv2])
        have HV3 : Hid (packF F.data.toList M.data.toList (packL ps) = F.data.toList ∧ packM F.data.toList M.data.toList (packL ps) = M.data.toList ∧ packP F.data.toList M.data.toList (packL ps) = packL ps) := Lib.hid ⟨(pack_1 hv1).1, (pack_1 hv1).2.1, by rw [(pack_1 hv1).2.2, hv3]⟩
        have HV4 := Lib.hid hv4
        clear hv1 hv2 hv3 hv4 HXS HXF HXM
        go_wp2_with fail
        go_loopw [5] (fun i wr => ∃ j : Nat, (j = 0 ∨ j + 1 ≤ n2) ∧ i = .int .i64 ((j : Int) + 1) ∧ Below w6.heap.size w6 wr) (fun i _ => n2 - (intOf i).toNat)
        case atStart => exact ⟨0, .inl rfl, rfl, Below.refl _ _⟩
        case round =>
          obtain ⟨j, hj, rfl, hbw⟩ := hrel
          have uw := U6.next hbw
          have xw := (x6.below hbw).pieces
          clear c0 c1' c2
          obtain ⟨c0, c1', c2⟩ := uw.cells
          by_cases hlt : j + 1 < n2
          · obtain ⟨ad, d1, x1, y1, hA1, had, hp1, q0, _, _, q1, q2⟩ := xw.at_ (show j < n2 by omega)
            subst hA1
            have PA := B3.new wr 29 (.bool d1) (.int .i64 x1) (.int .i64 y1)
            have ua := uw.alloc (.cells #[.bool d1, .int .i64 x1, .int .i64 y1] 29)
            have xa := ((x6.below hbw).alloc (.cells #[.bool d1, .int .i64 x1, .int .i64 y1] 29)).pieces
            obtain ⟨ad', d2, x2, y2, hA2, _, hp2, r0, _, _, r1, r2⟩ := xa.at_ hlt
            injection hA2 with hA2
            subst hA2
            have PA2 := PA.alloc (.cells #[.bool d2, .int .i64 x2, .int .i64 y2] 29)
            have PB := B3.new (wr.alloc (.cells #[.bool d1, .int .i64 x1, .int .i64 y1] 29)) 29 (.bool d2) (.int .i64 x2) (.int .i64 y2)
            have hfw := HV4.out j _ _ hp1 hp2
            have hrng := tableB_piece HV1.out hp1
            have hro : roomN F.data.toList.length M.data.toList.length d1 ≤ 1000 := by
              have e1 : F.data.toList.length = F.size := rfl
              have e2 : M.data.toList.length = M.size := rfl
              cases d1
              · rw [roomN_f]; omega
              · rw [roomN_t]; omega
            have hw : IntKind.i64.wrap (x1 + y1) = x1 + y1 := IntWalk.i64_in _ (by omega)
            have hlt' : (j : Int) + 1 < (n2 : Int) := by omega
            have hjn : (j : Int) < (n2 : Int) := by omega
            obtain ⟨s0, s1, s2⟩ := ua.cells
            obtain ⟨f0, f1, f2⟩ := PA2.cells
            obtain ⟨g0, g1, g2⟩ := PB.cells
            clear hp1 hp2 hrng hro
            by_cases hd : d1 = d2
            · subst hd
              have hd2 : ((x1 + y1) == x2) = false := by
                simp [followsB] at hfw
                simpa using hfw
              clear hfw
              go_wp2
              go_roundw
              case rel => exact ⟨j + 1, .inr hlt, by go_num, balloc (balloc hbw _) _⟩
              case measure => simp [intOf]; omega
            · have hd2 : (d1 == d2) = false := by simpa using hd
              clear hfw hd
              go_wp2
              go_roundw
              case rel => exact ⟨j + 1, .inr hlt, by go_num, balloc (balloc hbw _) _⟩
              case measure => simp [intOf]; omega
          · have hjn : ¬ ((j : Int) + 1 < (n2 : Int)) := by omega
            go_wp2_with fail
            obtain ⟨S, hS⟩ : ∃ S, mk (tableTextL F.data.toList M.data.toList ps) = S := ⟨_, rfl⟩
            have HS := Lib.hid hS
            have tw := t6.next hbw
            have ow := o6.below hbw
            have xw' := x6.below hbw
            have bw := bstep b6 hbw
            have hle : (n2 : Int) ≤ (n1 : Int) := by omega
            clear hS t6 U6 o6 x6 b6 hbw xw c0 c1' c2 hj hjn hlt HV4
            generalize vs = us
            refine wp_region_slots (by kernel_rfl) (fun vs => ⟨#[.slice A n c, undef, vs 24, .pointer (some ⟨t3, 0, none⟩), .pointer (some ⟨t4a, 0, none⟩), .int .i64 ((j : Int) + 1), u6, u7, .slice A n c, .int .i64 (n : Int), .bool (decide ((1048576 : Int) < (n : Int))), .slice A n c, .agg #[.string F, .string M, .slice A1 n1 c1], .agg #[.string F, .string M, .slice A1 n1 c1], .agg #[.string F, .string M, .slice A2 n2 c2x], us 0, us 1, us 2, us 3, .bool false, .agg #[.string F, .string M, .slice A1 n1 c1], .bool true, .bool false, undef, undef, undef, undef, undef, undef, undef, .int .i64 ((j : Int) + 1), .pointer (some ⟨t4a, 2, none⟩), .slice A2 n2 c2x, .int .i64 (n2 : Int), .bool false, u35, u36, u37, u38, u39, u40, u41, u42, u43, u44, u45, u46, u47, u48, u49, u50, u51, u52, u53, u54, u55, u56, u57, u58, u59, u60, u61, u62, vs 0, vs 1, vs 2, vs 3, vs 4, vs 5, vs 6, vs 7, vs 8, vs 9, vs 10, vs 11, vs 12, vs 13, vs 14, vs 15, vs 16, vs 17, vs 18, vs 19, vs 20, vs 21, vs 22, vs 23], []⟩) (fun k => if k = 24 then u2 else undef) rfl (ltΦ F M S t3 t4a A1 A2 n1 c1 n2 c2x (packL ps)) (fun _ w' => Below w.heap.size w w' ∧ B3 w' t3 25 (.string F) (.string M) (.slice A1 n1 c1) ∧ B3 w' t4a 25 (.string F) (.string M) (.slice A2 n2 c2x) ∧ OwnP 29 w' w.heap.size A1 n1 c1 ps ∧ OwnP 29 w' w.heap.size A2 n2 c2x (packL ps)) (fun w w' => Below w.heap.size w w') (ltΦ_stab F M S t3 t4a A1 A2 n1 c1 n2 c2x (packL ps)) (by kernel_rfl) ⟨bdrew bw, tw.drew, uw.drew, ow, xw'⟩ ?_ ?_
            · intro L m' vs w' i hi hm' hdp hI hΦ
              obtain ⟨hb, hT, hU, hO, hX⟩ := hI
              have hi' : i < 25 := hi
              rcases (by omega : i = 0 ∨ i = 1 ∨ i = 2 ∨ i = 3 ∨ i = 4 ∨ i = 5 ∨ i = 6 ∨ i = 7 ∨ i = 8 ∨ i = 9 ∨ i = 10 ∨ i = 11 ∨ i = 12 ∨ i = 13 ∨ i = 14 ∨ i = 15 ∨ i = 16 ∨ i = 17 ∨ i = 18 ∨ i = 19 ∨ i = 20 ∨ i = 21 ∨ i = 22 ∨ i = 23 ∨ i = 24) with rfl | rfl | rfl | rfl | rfl | rfl | rfl | rfl | rfl | rfl | rfl | rfl | rfl | rfl | rfl | rfl | rfl | rfl | rfl | rfl | rfl | rfl | rfl | rfl | rfl
              · obtain ⟨c0, c1', c2⟩ := hU.cells
                refine wpOp_step rfl (fun K hK => ?_)
                go_simp
                exact hK _ _ ⟨.agg #[.string F, .string M, .slice A2 n2 c2x], by simp [upd], Below.refl _ _, ⟨hb, hT, hU, hO, hX⟩, rfl⟩
              · have h0 : vs 0 = .agg #[.string F, .string M, .slice A2 n2 c2x] := hΦ 0 (hdp 0 (by kernel_rfl))
                refine wpOp_step rfl (fun K hK => ?_)
                go_simp
                refine (implTableValid_any F M A2 n2 c2x (packL ps) _ (by omega) (by omega) (by omega) hX.pieces).mono ?_
                rw [HV1.out]
                rintro e w3' ⟨rfl, hb3⟩
                go_simp
                exact hK _ _ ⟨.bool true, by simp [upd, h0], hb3, ⟨bstep hb hb3, hT.next hb3, hU.next hb3, hO.below hb3, hX.below hb3⟩, rfl⟩
              · have h1 : vs 1 = .bool true := hΦ 1 (hdp 1 (by kernel_rfl))
                refine wpOp_step rfl (fun K hK => ?_)
                go_simp
                exact hK _ _ ⟨.bool true, by simp [upd, h1], Below.refl _ _, ⟨hb, hT, hU, hO, hX⟩, rfl⟩
              · have h2 : vs 2 = .bool true := hΦ 2 (hdp 2 (by kernel_rfl))
                obtain ⟨c0, c1', c2⟩ := hU.cells
                refine wpOp_step rfl (fun K hK => ?_)
                go_simp
                exact hK _ _ ⟨.agg #[.string F, .string M, .slice A2 n2 c2x], by simp [upd, h2], Below.refl _ _, ⟨hb, hT, hU, hO, hX⟩, rfl⟩
              · have h2 : vs 2 = .bool true := hΦ 2 (hdp 2 (by kernel_rfl))
                have h3 : vs 3 = .agg #[.string F, .string M, .slice A2 n2 c2x] := hΦ 3 (hdp 3 (by kernel_rfl))
                refine wpOp_step rfl (fun K hK => ?_)
                go_simp
                refine (implTableText_any F M A2 n2 c2x (packL ps) _ (by omega) (by omega) (by omega) hX.pieces).mono ?_
                rw [HV2.out, HS.out]
                rintro e w3' ⟨rfl, hb3⟩
                go_simp
                exact hK _ _ ⟨.string S, by simp [upd, h2, h3], hb3, ⟨bstep hb hb3, hT.next hb3, hU.next hb3, hO.below hb3, hX.below hb3⟩, rfl⟩
              · have h2 : vs 2 = .bool true := hΦ 2 (hdp 2 (by kernel_rfl))
                obtain ⟨c0, c1', c2⟩ := hT.cells
                refine wpOp_step rfl (fun K hK => ?_)
                go_simp
                exact hK _ _ ⟨.agg #[.string F, .string M, .slice A1 n1 c1], by simp [upd, h2], Below.refl _ _, ⟨hb, hT, hU, hO, hX⟩, rfl⟩
              · have h2 : vs 2 = .bool true := hΦ 2 (hdp 2 (by kernel_rfl))
                have h5 : vs 5 = .agg #[.string F, .string M, .slice A1 n1 c1] := hΦ 5 (hdp 5 (by kernel_rfl))
                refine wpOp_step rfl (fun K hK => ?_)
                go_simp
                refine (implTableText_any F M A1 n1 c1 ps _ (by omega) (by omega) (by omega) hO.pieces).mono ?_
                rw [HS.out]
                rintro e w3' ⟨rfl, hb3⟩
                go_simp
                exact hK _ _ ⟨.string S, by simp [upd, h2, h5], hb3, ⟨bstep hb hb3, hT.next hb3, hU.next hb3, hO.below hb3, hX.below hb3⟩, rfl⟩
              · have h2 : vs 2 = .bool true := hΦ 2 (hdp 2 (by kernel_rfl))
                have h4 : vs 4 = .string S := hΦ 4 (hdp 4 (by kernel_rfl))
                have h6 : vs 6 = .string S := hΦ 6 (hdp 6 (by kernel_rfl))
                refine wpOp_step rfl (fun K hK => ?_)
                go_simp
                exact hK _ _ ⟨.bool true, by simp [upd, h2, h4, h6], Below.refl _ _, ⟨hb, hT, hU, hO, hX⟩, rfl⟩
              · have h2 : vs 2 = .bool true := hΦ 2 (hdp 2 (by kernel_rfl))
                have h7 : vs 7 = .bool true := hΦ 7 (hdp 7 (by kernel_rfl))
                refine wpOp_step rfl (fun K hK => ?_)
                go_simp
                exact hK _ _ ⟨.bool true, by simp [upd, h2, h7], Below.refl _ _, ⟨hb, hT, hU, hO, hX⟩, rfl⟩
              · have h8 : vs 8 = .bool true := hΦ 8 (hdp 8 (by kernel_rfl))
                refine wpOp_step rfl (fun K hK => ?_)
                go_simp
                exact hK _ _ ⟨.bool true, by simp [upd, h8], Below.refl _ _, ⟨hb, hT, hU, hO, hX⟩, rfl⟩
              · have h9 : vs 9 = .bool true := hΦ 9 (hdp 9 (by kernel_rfl))
                refine wpOp_step rfl (fun K hK => ?_)
                go_simp
                exact hK _ _ ⟨.pointer (some ⟨t4a, 2, none⟩), by simp [upd, h9], Below.refl _ _, ⟨hb, hT, hU, hO, hX⟩, rfl⟩
              · have h9 : vs 9 = .bool true := hΦ 9 (hdp 9 (by kernel_rfl))
                have h10 : vs 10 = .pointer (some ⟨t4a, 2, none⟩) := hΦ 10 (hdp 10 (by kernel_rfl))
                obtain ⟨c0, c1', c2⟩ := hU.cells
                refine wpOp_step rfl (fun K hK => ?_)
                go_simp
                exact hK _ _ ⟨.slice A2 n2 c2x, by simp [upd, h9, h10], Below.refl _ _, ⟨hb, hT, hU, hO, hX⟩, rfl⟩
              · have h9 : vs 9 = .bool true := hΦ 9 (hdp 9 (by kernel_rfl))
                have h11 : vs 11 = .slice A2 n2 c2x := hΦ 11 (hdp 11 (by kernel_rfl))
                refine wpOp_step rfl (fun K hK => ?_)
                go_simp
                exact hK _ _ ⟨.int .i64 (n2 : Int), by simp [upd, h9, h11], Below.refl _ _, ⟨hb, hT, hU, hO, hX⟩, rfl⟩
              · have h9 : vs 9 = .bool true := hΦ 9 (hdp 9 (by kernel_rfl))
                refine wpOp_step rfl (fun K hK => ?_)
                go_simp
                exact hK _ _ ⟨.pointer (some ⟨t3, 2, none⟩), by simp [upd, h9], Below.refl _ _, ⟨hb, hT, hU, hO, hX⟩, rfl⟩
              · have h9 : vs 9 = .bool true := hΦ 9 (hdp 9 (by kernel_rfl))
                have h13 : vs 13 = .pointer (some ⟨t3, 2, none⟩) := hΦ 13 (hdp 13 (by kernel_rfl))
                obtain ⟨c0, c1', c2⟩ := hT.cells
                refine wpOp_step rfl (fun K hK => ?_)
                go_simp
                exact hK _ _ ⟨.slice A1 n1 c1, by simp [upd, h9, h13], Below.refl _ _, ⟨hb, hT, hU, hO, hX⟩, rfl⟩
              · have h9 : vs 9 = .bool true := hΦ 9 (hdp 9 (by kernel_rfl))
                have h14 : vs 14 = .slice A1 n1 c1 := hΦ 14 (hdp 14 (by kernel_rfl))
                refine wpOp_step rfl (fun K hK => ?_)
                go_simp
                exact hK _ _ ⟨.int .i64 (n1 : Int), by simp [upd, h9, h14], Below.refl _ _, ⟨hb, hT, hU, hO, hX⟩, rfl⟩
              · have h9 : vs 9 = .bool true := hΦ 9 (hdp 9 (by kernel_rfl))
                have h12 : vs 12 = .int .i64 (n2 : Int) := hΦ 12 (hdp 12 (by kernel_rfl))
                have h15 : vs 15 = .int .i64 (n1 : Int) := hΦ 15 (hdp 15 (by kernel_rfl))
                refine wpOp_step rfl (fun K hK => ?_)
                go_simp
                exact hK _ _ ⟨.bool true, by simp [upd, h9, h12, h15], Below.refl _ _, ⟨hb, hT, hU, hO, hX⟩, rfl⟩
              · have h9 : vs 9 = .bool true := hΦ 9 (hdp 9 (by kernel_rfl))
                have h16 : vs 16 = .bool true := hΦ 16 (hdp 16 (by kernel_rfl))
                refine wpOp_step rfl (fun K hK => ?_)
                go_simp
                exact hK _ _ ⟨.bool true, by simp [upd, h9, h16], Below.refl _ _, ⟨hb, hT, hU, hO, hX⟩, rfl⟩
              · have h17 : vs 17 = .bool true := hΦ 17 (hdp 17 (by kernel_rfl))
                refine wpOp_step rfl (fun K hK => ?_)
                go_simp
                exact hK _ _ ⟨.bool true, by simp [upd, h17], Below.refl _ _, ⟨hb, hT, hU, hO, hX⟩, rfl⟩
              · have h18 : vs 18 = .bool true := hΦ 18 (hdp 18 (by kernel_rfl))
                obtain ⟨c0, c1', c2⟩ := hU.cells
                refine wpOp_step rfl (fun K hK => ?_)
                go_simp
                exact hK _ _ ⟨.agg #[.string F, .string M, .slice A2 n2 c2x], by simp [upd, h18], Below.refl _ _, ⟨hb, hT, hU, hO, hX⟩, rfl⟩
              · have h18 : vs 18 = .bool true := hΦ 18 (hdp 18 (by kernel_rfl))
                have h19 : vs 19 = .agg #[.string F, .string M, .slice A2 n2 c2x] := hΦ 19 (hdp 19 (by kernel_rfl))
                refine wpOp_step rfl (fun K hK => ?_)
                go_simp
                refine (implTablePack_any F M A2 n2 c2x _ (packL ps) _ (by omega) (by omega) (by omega) hX).mono ?_
                rw [HV3.out.1, HV3.out.2.1, HV3.out.2.2]
                rintro e w3' ⟨A3, n3, c3, rfl, hx3, hb3⟩
                rw [mk_of, mk_of]
                obtain rfl : n2 = n3 := hX.1.symm.trans hx3.1
                go_simp
                exact hK _ _ ⟨.agg #[.string F, .string M, .slice A3 n2 c3], by simp [upd, h18, h19], hb3, ⟨bstep hb hb3, hT.next hb3, hU.next hb3, hO.below hb3, hX.below hb3⟩, ⟨A3, c3, rfl, hx3.pieces⟩⟩
              · have h18 : vs 18 = .bool true := hΦ 18 (hdp 18 (by kernel_rfl))
                obtain ⟨c0, c1', c2⟩ := hU.cells
                refine wpOp_step rfl (fun K hK => ?_)
                go_simp
                exact hK _ _ ⟨.agg #[.string F, .string M, .slice A2 n2 c2x], by simp [upd, h18], Below.refl _ _, ⟨hb, hT, hU, hO, hX⟩, rfl⟩
              · have h18 : vs 18 = .bool true := hΦ 18 (hdp 18 (by kernel_rfl))
                have h21 : vs 21 = .agg #[.string F, .string M, .slice A2 n2 c2x] := hΦ 21 (hdp 21 (by kernel_rfl))
                obtain ⟨A3, c3, h20, hp⟩ : ∃ A c, vs 20 = .agg #[.string F, .string M, .slice A n2 c] ∧ Pieces w' w'.heap.size A n2 (packL ps) := hΦ 20 (hdp 20 (by kernel_rfl))
                refine wpOp_step rfl (fun K hK => ?_)
                go_simp
                refine (samePieces_same F M A3 A2 n2 c3 c2x (packL ps) _ (by omega) hp hX.pieces).mono ?_
                rintro e w3' ⟨rfl, hb3⟩
                go_simp
                exact hK _ _ ⟨.bool true, by simp [upd, h18, h20, h21], hb3, ⟨bstep hb hb3, hT.next hb3, hU.next hb3, hO.below hb3, hX.below hb3⟩, rfl⟩
              · have h18 : vs 18 = .bool true := hΦ 18 (hdp 18 (by kernel_rfl))
                have h22 : vs 22 = .bool true := hΦ 22 (hdp 22 (by kernel_rfl))
                refine wpOp_step rfl (fun K hK => ?_)
                go_simp
                exact hK _ _ ⟨.bool true, by simp [upd, h18, h22], Below.refl _ _, ⟨hb, hT, hU, hO, hX⟩, rfl⟩
              · have h23 : vs 23 = .bool true := hΦ 23 (hdp 23 (by kernel_rfl))
                refine wpOp_step rfl (fun K hK => ?_)
                go_simp
                exact hK _ _ ⟨.bool true, by simp [upd, h23], Below.refl _ _, ⟨hb, hT, hU, hO, hX⟩, rfl⟩
            · intro m' vs w8 hm' hI hΦ
              have h24 : vs 24 = .bool true := hΦ 24 (by decide)
              rw [h24]
              go_wp2
              go_ret
              exact ⟨rfl, hI.1⟩
end Go.Proofs.Ytecejfcoognkiaa.fnTablePack
