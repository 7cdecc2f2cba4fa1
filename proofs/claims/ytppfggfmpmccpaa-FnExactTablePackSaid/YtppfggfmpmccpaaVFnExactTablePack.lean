/- The walk of the law FnExactTablePack: the call returns true and turns nothing that was there. -/
import Derived.Test.YtppfggfmpmccpaaW17
import Derived.Test.YtppfggfmpmccpaaW23
import Derived.Deep.RegionHeld3
namespace Go.Proofs.Ytppfggfmpmccpaa.fnExactTablePack
open Go.RowKit
theorem short (f m : List UInt8) (ps : List (Bool × Int × Int)) : (packP f m ps).length ≤ ps.length := by
  unfold packP
  split
  · have := packL_length ps ps.length
    rwa [List.take_length] at this
  · exact Nat.zero_le _
set_option maxRecDepth 100000 in
set_option maxHeartbeats 3200000 in
theorem walk (f m : ByteArray) (A : Option Addr) (n c : Nat) (ps : List (Bool × Int × Int)) (hf : f.size ≤ maxLen) (hm : m.size ≤ maxLen) (hn : n ≤ maxLen) (w : World) (hr : Pieces w w.heap.size A n ps) :
    Calls Try.prog 9 #[.agg #[.string f, .string m, .slice A n c]] w fun e w' => e = .returned (.bool true) ∧ Below w.heap.size w w' := by
  by_cases h : 1048576 < (f.size : Int) + m.size + n
  · go_enter Try.func9, Try.ntmps9
    go_wp2_with (go_at_call 16; refine (szTable_big _ _ _ _ _ _ _ hf hm hn (by omega) (by omega) (by omega)).mono ?_; rintro e w1 ⟨rfl, hb1⟩; obtain ⟨hc1, hf1⟩ := bcell hb1; have hz1 := hb1.size; (try simp at hz1); (try replace hz1 := Nat.lt_of_succ_le hz1); (try have hy1w : w.heap.size < w1.heap.size := by omega); (try have hx1w : w.heap.size + 1 < w1.heap.size := by omega))
    go_ret
    exact ⟨rfl, (by repeat (first | exact Below.refl _ _ | assumption | (refine bstep ?_ (by assumption)) | refine balloc ?_ _ | refine bdrew ?_ | refine bdrewN ?_ _ | refine bset ?_ (by first | (simp; done) | (simp; omega)) _))⟩
  · have hn2 : n ≤ 1048576 := by omega
    have hf2 : f.size ≤ 1048576 := by omega
    have hm2 : m.size ≤ 1048576 := by omega
    have hs := short f.data.toList m.data.toList ps
    have hl := hr.1
    have h0 := fun A n c base w (ho : OwnP 49 w base A n c ps) (hn : n ≤ 1048576) => specTablePack_any f m A n c base ps w hf2 hm2 hn ho
    have h1 := fun A n c base w (ho : OwnP 49 w base A n c ps) (hn : n ≤ 1048576) => implTablePack_any f m A n c base ps w hf2 hm2 hn ho
    obtain ⟨F, hF⟩ : ∃ F, packF f.data.toList m.data.toList ps = F := ⟨_, rfl⟩
    obtain ⟨M, hM⟩ : ∃ F, packM f.data.toList m.data.toList ps = F := ⟨_, rfl⟩
    obtain ⟨P, hP⟩ : ∃ F, packP f.data.toList m.data.toList ps = F := ⟨_, rfl⟩
    rw [hF, hM, hP] at h0 h1
    rw [hP] at hs
    clear hF hM hP
    obtain ⟨p, hp⟩ : ∃ p, P.length = p := ⟨_, rfl⟩
    have HN := Lib.hid hp
    have HL := Lib.hid hl
    have H0 := Lib.hid h0
    have H1 := Lib.hid h1
    rw [hp, hl] at hs
    clear hp hl h0 h1
    have t0 := B3.new w 31 (.string f) (.string m) (.slice A n c)
    go_enter Try.func9, Try.ntmps9
    go_wp2_with fail
    refine (szTable_ok _ _ _ _ _ _ _ (by omega) (by omega)).mono ?_
    rintro e w1 ⟨rfl, hb1⟩
    have t1 := t0.next hb1
    have hB1 : Below w.heap.size w w1 := bstep (balloc (Below.refl _ _) _) hb1
    clear t0 hb1
    have hz1 := t1.lt
    obtain ⟨a0, a1, a2⟩ := t1.cells
    go_wp2_with fail
    refine (toTable_any _ _ _ _ _ _ _ hn2 ((hr.below hB1 (Nat.le_refl _)).more hB1.size)).mono ?_
    rintro e w2 ⟨A2, n2, c2, rfl, ho2, hb2⟩
    obtain rfl : n2 = n := by rw [← ho2.1, HL.out]
    rw [mk_of, mk_of]
    have t2 := t1.next hb2
    have hB2 := bstep hB1 hb2
    clear a0 a1 a2 t1 hB1 hb2 hz1
    go_wp2_with fail
    refine (H0.out _ _ _ _ _ ho2 hn2).mono ?_
    rintro e w3 ⟨A3, n3, c3, rfl, ho3, hb3⟩
    obtain rfl : n3 = p := by rw [← HN.out, ho3.1]
    have t3 := t2.next hb3
    have hB3 := bstep hB2 hb3
    have L3 := ho3.inR
    have hz2 := t2.lt
    have hz3 := hb3.size
    clear t2 hB2 hb3 ho2
    have t4 := t3.alloc (.cells #[.string (mk F), .string (mk M), .slice A3 n3 c3] 24)
    have u4 := B3.new w3 24 (.string (mk F)) (.string (mk M)) (.slice A3 n3 c3)
    have ho4 : OwnP 49 (w3.alloc (.cells #[.string (mk F), .string (mk M), .slice A3 n3 c3] 24)) _ A3 n3 c3 P := ⟨ho3.1, ho3.2.alloc _⟩
    have hB4 : Below w.heap.size w (w3.alloc (.cells #[.string (mk F), .string (mk M), .slice A3 n3 c3] 24)) := hB3.alloc hB3.size _
    have hb4 : w3.heap.size < (w3.alloc (.cells #[.string (mk F), .string (mk M), .slice A3 n3 c3] 24)).heap.size := by simp
    obtain ⟨a0, a1, a2⟩ := t4.cells
    go_wp2_with fail
    clear t3 ho3 hB3
    generalize w3.alloc (.cells #[.string (mk F), .string (mk M), .slice A3 n3 c3] 24) = w4 at t4 u4 ho4 hB4 hb4 a0 a1 a2 ⊢
    generalize w3.heap.size = g4 at u4 hb4 hz3 L3 ⊢
    refine (toTable_any _ _ _ _ _ _ _ hn2 ((hr.below hB4 (Nat.le_refl _)).more hB4.size)).mono ?_
    rintro e w5 ⟨A5, n5, c5, rfl, ho5, hb5⟩
    obtain rfl : n5 = n2 := by rw [← ho5.1, HL.out]
    rw [mk_of, mk_of]
    have L5 := ho5.inR
    have t5 := t4.next hb5
    have u5 := u4.next hb5
    have hq5 := ho4.below hb5
    have hB5 := bstep hB4 hb5
    have hz5 := hb5.size
    clear a0 a1 a2 t4 u4 ho4 hB4 hb5
    have t6 := t5.alloc (.cells #[.string f, .string m, .slice A5 n5 c5] 24)
    have u6 := u5.alloc (.cells #[.string f, .string m, .slice A5 n5 c5] 24)
    have x6 := B3.new w5 24 (.string f) (.string m) (.slice A5 n5 c5)
    have ho6 : OwnP 49 (w5.alloc (.cells #[.string f, .string m, .slice A5 n5 c5] 24)) _ A5 n5 c5 ps := ⟨ho5.1, ho5.2.alloc _⟩
    have hq6 : OwnP 49 (w5.alloc (.cells #[.string f, .string m, .slice A5 n5 c5] 24)) _ A3 n3 c3 P := ⟨hq5.1, hq5.2.alloc _⟩
    have hB6 : Below w.heap.size w (w5.alloc (.cells #[.string f, .string m, .slice A5 n5 c5] 24)) := hB5.alloc hB5.size _
    have hb6 : w5.heap.size < (w5.alloc (.cells #[.string f, .string m, .slice A5 n5 c5] 24)).heap.size := by simp
    obtain ⟨a0, a1, a2⟩ := x6.cells
    go_wp2_with fail
    clear t5 u5 ho5 hq5 hB5
    generalize w5.alloc (.cells #[.string f, .string m, .slice A5 n5 c5] 24) = w6 at t6 u6 x6 ho6 hq6 hB6 hb6 a0 a1 a2 ⊢
    generalize w5.heap.size = g6 at x6 hb6 hz5 L5 ⊢
    refine (H1.out _ _ _ _ _ ho6 hn2).mono ?_
    rintro e w7 ⟨A7, n7, c7, rfl, ho7, hb7⟩
    obtain rfl : n7 = n3 := by rw [← HN.out, ho7.1]
    have L7 := ho7.inR
    have t7 := t6.next hb7
    have u7 := u6.next hb7
    have x7 := x6.next hb7
    have hq7 := hq6.below hb7
    have hx7 := ho6.below hb7
    have hB7 := bstep hB6 hb7
    have hz7 := hb7.size
    clear a0 a1 a2 t6 u6 x6 ho6 hq6 hB6 hb7
    have t8 := t7.alloc (.cells #[.string (mk F), .string (mk M), .slice A7 n7 c7] 24)
    have u8 := u7.alloc (.cells #[.string (mk F), .string (mk M), .slice A7 n7 c7] 24)
    have x8 := x7.alloc (.cells #[.string (mk F), .string (mk M), .slice A7 n7 c7] 24)
    have v8 := B3.new w7 24 (.string (mk F)) (.string (mk M)) (.slice A7 n7 c7)
    have ho8 : OwnP 49 (w7.alloc (.cells #[.string (mk F), .string (mk M), .slice A7 n7 c7] 24)) _ A7 n7 c7 P := ⟨ho7.1, ho7.2.alloc _⟩
    have hq8 : OwnP 49 (w7.alloc (.cells #[.string (mk F), .string (mk M), .slice A7 n7 c7] 24)) _ A3 n7 c3 P := ⟨hq7.1, hq7.2.alloc _⟩
    have hx8 : OwnP 49 (w7.alloc (.cells #[.string (mk F), .string (mk M), .slice A7 n7 c7] 24)) _ A5 n5 c5 ps := ⟨hx7.1, hx7.2.alloc _⟩
    have hB8 : Below w.heap.size w (w7.alloc (.cells #[.string (mk F), .string (mk M), .slice A7 n7 c7] 24)) := hB7.alloc hB7.size _
    have hb8 : w7.heap.size < (w7.alloc (.cells #[.string (mk F), .string (mk M), .slice A7 n7 c7] 24)).heap.size := by simp
    obtain ⟨a0, a1, a2⟩ := u8.cells
    obtain ⟨b0, b1, b2⟩ := v8.cells
    go_wp2_with fail
    clear t7 u7 x7 ho7 hq7 hx7 hB7 a0 a1 a2 b0 b1 b2
    generalize w7.alloc (.cells #[.string (mk F), .string (mk M), .slice A7 n7 c7] 24) = w8 at t8 u8 x8 v8 ho8 hq8 hx8 hB8 hb8 ⊢
    generalize w7.heap.size = g8 at v8 hb8 hz7 L7 ⊢
    refine (eqTable_same _ _ _ _ _ _ _ _ _ (by omega) ho8.pieces hq8.pieces).mono ?_
    rintro e w9 ⟨rfl, hb9⟩
    have t9 := t8.next hb9
    have u9 := u8.next hb9
    have x9 := x8.next hb9
    have v9 := v8.next hb9
    have ho9 := ho8.below hb9
    have hq9 := hq8.below hb9
    have hx9 := hx8.below hb9
    have hB9 := bstep hB8 hb9
    have hr9 : Pieces w9 w9.heap.size A n5 ps := (hr.below hB9 (Nat.le_refl _)).more hB9.size
    have hz9 := hb9.size
    clear t8 u8 x8 v8 ho8 hq8 hx8 hB8 hb9
    obtain ⟨a0, a1, a2⟩ := t9.cells
    obtain ⟨d0, d1, d2⟩ := x9.cells
    have hw9 : w.heap.size < w9.heap.size := t9.lt
    have hg69 : g6 < w9.heap.size := x9.lt
    go_wp2_with fail
    go_region_held3 (fun w' => w'.cell? ⟨w.heap.size, 0, none⟩ = some (.string f) ∧ w'.cell? ⟨w.heap.size, 1, none⟩ = some (.string m) ∧ w'.cell? ⟨w.heap.size, 2, none⟩ = some (.slice A n5 c) ∧ w'.cell? ⟨g6, 0, none⟩ = some (.string f) ∧ w'.cell? ⟨g6, 1, none⟩ = some (.string m) ∧ w'.cell? ⟨g6, 2, none⟩ = some (.slice A5 n5 c5))
      (first
        | go_keep
        | (go_split_ands; exact ⟨(hb10.cell (p := ⟨w.heap.size, 0, none⟩) hw9).trans a0, (hb10.cell (p := ⟨w.heap.size, 1, none⟩) hw9).trans a1, (hb10.cell (p := ⟨w.heap.size, 2, none⟩) hw9).trans a2, (hb10.cell (p := ⟨g6, 0, none⟩) hg69).trans d0, (hb10.cell (p := ⟨g6, 1, none⟩) hg69).trans d1, (hb10.cell (p := ⟨g6, 2, none⟩) hg69).trans d2⟩)
        | (go_split_ands; exact ⟨(hb11.cell (p := ⟨w.heap.size, 0, none⟩) (by simp; omega)).trans (by assumption), (hb11.cell (p := ⟨w.heap.size, 1, none⟩) (by simp; omega)).trans (by assumption), (hb11.cell (p := ⟨w.heap.size, 2, none⟩) (by simp; omega)).trans (by assumption), (hb11.cell (p := ⟨g6, 0, none⟩) (by simp; omega)).trans (by assumption), (hb11.cell (p := ⟨g6, 1, none⟩) (by simp; omega)).trans (by assumption), (hb11.cell (p := ⟨g6, 2, none⟩) (by simp; omega)).trans (by assumption)⟩))
      ((first
        | (go_at_call 18; refine (toTable_any _ _ _ _ _ _ _ hn2 (by exact hr9)).mono ?_; rintro e w10 ⟨A10, n10, c10, rfl, ho10, hb10⟩; have hz10 := hb10.size; simp at hz10; obtain rfl : n5 = n10 := HL.out.symm.trans ho10.1; rw [mk_of, mk_of])
        | (go_at_call 13; refine (eqTable_same _ _ _ _ _ _ _ _ _ hn2 (OwnP.below (by exact hx9) hb10).pieces ho10.pieces).mono ?_; rintro e w11 ⟨rfl, hb11⟩)))
    have hb11' : Below w9.heap.size w9 w11 := ((Below.refl w9.heap.size w9).drew.trans (hb10.mono (Nat.le_refl _))).trans (hb11.mono hz10)
    have t11 := t9.next hb11'
    have u11 := u9.next hb11'
    have x11 := x9.next hb11'
    have v11 := v9.next hb11'
    have ho11 := ho9.below hb11'
    have hq11 := hq9.below hb11'
    have hx11 := hx9.below hb11'
    have hB11 := bstep hB9 hb11'
    have hz11 := hb11'.size
    clear t9 u9 x9 v9 ho9 hq9 hx9 hB9 hb10 hb11 hb11' a0 a1 a2 d0 d1 d2 hr9 ho10
    obtain ⟨d0, d1, d2⟩ := x11.cells
    go_wp2_with fail
    refine (markTable_any _ _ _ _ _ _ _ _ _ (by omega) (by omega) (by omega) hx11).mono ?_
    rintro e w12 ⟨rfl, hm12, hg12⟩
    have hz12 := hg12.size
    have u12 := u11.grown hg12 (L5.ne (.inl (by omega)))
    have v12 := v11.grown hg12 (L5.ne (.inr (by omega)))
    have t12 := t11.grown hg12 (L5.ne (.inl (by omega)))
    have ho12 := ho11.apart hg12 L7 L5 (.inr (by omega))
    have hq12 := hq11.apart hg12 L3 L5 (.inl (by omega))
    have hB12 := below_inR hB11 hg12 L5 (by omega)
    clear t11 u11 x11 v11 ho11 hq11 hx11 hB11 d0 d1 d2 hm12 hg12
    obtain ⟨a0, a1, a2⟩ := u12.cells
    obtain ⟨b0, b1, b2⟩ := v12.cells
    have hk12 : (0 : Int) ≤ 1 + 3 * (n5 : Int) := by omega
    go_wp2_with fail
    refine (eqTable_same _ _ _ _ _ _ _ _ _ (by omega) ho12.pieces hq12.pieces).mono ?_
    rintro e w13 ⟨rfl, hb13⟩
    have t13 := t12.next hb13
    have u13 := u12.next hb13
    have v13 := v12.next hb13
    have ho13 := ho12.below hb13
    have hq13 := hq12.below hb13
    have hB13 := bstep hB12 hb13
    have hz13 := hb13.size
    clear t12 u12 v12 ho12 hq12 hB12 hb13 a0 a1 a2 b0 b1 b2
    obtain ⟨b0, b1, b2⟩ := v13.cells
    go_wp2_with fail
    refine (markTable_any _ _ _ _ _ _ _ _ _ (by omega) (by omega) (by omega) ho13).mono ?_
    rintro e w14 ⟨rfl, hm14, hg14⟩
    have hz14 := hg14.size
    have u14 := u13.grown hg14 (L7.ne (.inl (by omega)))
    have v14 := v13.grown hg14 (L7.ne (.inr (by omega)))
    have t14 := t13.grown hg14 (L7.ne (.inl (by omega)))
    have hq14 := hq13.apart hg14 L3 L7 (.inl (by omega))
    have hB14 := below_inR hB13 hg14 L7 (by omega)
    clear t13 u13 v13 ho13 hq13 hB13 hg14 b0 b1 b2
    obtain ⟨b0, b1, b2⟩ := v14.cells
    go_wp2_with fail
    refine (heldTable_any _ _ _ _ _ _ _ (by omega) (by omega) (by omega) hm14.pieces).mono ?_
    rintro e w15 ⟨rfl, hb15⟩
    have t15 := t14.next hb15
    have u15 := u14.next hb15
    have v15 := v14.next hb15
    have hq15 := hq14.below hb15
    have hm15 := hm14.below hb15
    have hB15 := bstep hB14 hb15
    have hz15 := hb15.size
    have hr15 : Pieces w15 w15.heap.size A n5 ps := (hr.below hB15 (Nat.le_refl _)).more hB15.size
    clear t14 u14 v14 hq14 hm14 hB14 hb15 b0 b1 b2
    obtain ⟨a0, a1, a2⟩ := t15.cells
    go_wp2_with fail
    refine (toTable_any _ _ _ _ _ _ _ hn2 hr15).mono ?_
    rintro e w16 ⟨A16, n16, c16, rfl, ho16, hb16⟩
    obtain rfl : n5 = n16 := HL.out.symm.trans ho16.1
    rw [mk_of, mk_of]
    have u16 := u15.next hb16
    have v16 := v15.next hb16
    have hq16 := hq15.below hb16
    have hm16 := hm15.below hb16
    have hB16 := bstep hB15 hb16
    have hz16 := hb16.size
    clear t15 u15 v15 hq15 hm15 hB15 hb16 hr15 a0 a1 a2
    go_wp2_with fail
    refine (H1.out _ _ _ _ _ ho16 hn2).mono ?_
    rintro e w17 ⟨A17, n17, c17, rfl, ho17, hb17⟩
    obtain rfl : n17 = n7 := by rw [← HN.out, ho17.1]
    have u17 := u16.next hb17
    have v17 := v16.next hb17
    have hq17 := hq16.below hb17
    have hm17 := hm16.below hb17
    have hB17 := bstep hB16 hb17
    have hz17 := hb17.size
    clear u16 v16 hq16 hm16 hB16 hb17 ho16
    have u18 := u17.alloc (.cells #[.string (mk F), .string (mk M), .slice A17 n17 c17] 24)
    have v18 := v17.alloc (.cells #[.string (mk F), .string (mk M), .slice A17 n17 c17] 24)
    have ho18 : OwnP 49 (w17.alloc (.cells #[.string (mk F), .string (mk M), .slice A17 n17 c17] 24)) _ A17 n17 c17 P := ⟨ho17.1, ho17.2.alloc _⟩
    have hq18 : OwnP 49 (w17.alloc (.cells #[.string (mk F), .string (mk M), .slice A17 n17 c17] 24)) _ A3 n17 c3 P := ⟨hq17.1, hq17.2.alloc _⟩
    have hm18 : OwnP 49 (w17.alloc (.cells #[.string (mk F), .string (mk M), .slice A17 n17 c17] 24)) _ A7 n17 c7 (markedP 1 n17) := ⟨hm17.1, hm17.2.alloc _⟩
    have hB18 : Below w.heap.size w (w17.alloc (.cells #[.string (mk F), .string (mk M), .slice A17 n17 c17] 24)) := hB17.alloc hB17.size _
    obtain ⟨a0, a1, a2⟩ := u18.cells
    go_wp2_with fail
    clear u17 v17 ho17 hq17 hm17 hB17
    generalize w17.alloc (.cells #[.string (mk F), .string (mk M), .slice A17 n17 c17] 24) = w18 at u18 v18 ho18 hq18 hm18 hB18 a0 a1 a2 ⊢
    refine (eqTable_same _ _ _ _ _ _ _ _ _ (by omega) ho18.pieces hq18.pieces).mono ?_
    rintro e w19 ⟨rfl, hb19⟩
    have v19 := v18.next hb19
    have hm19 := hm18.below hb19
    have hB19 := bstep hB18 hb19
    clear u18 v18 ho18 hq18 hm18 hB18 hb19 a0 a1 a2
    obtain ⟨b0, b1, b2⟩ := v19.cells
    go_wp2_with fail
    refine (heldTable_any _ _ _ _ _ _ _ (by omega) (by omega) (by omega) hm19.pieces).mono ?_
    rintro e w20 ⟨rfl, hb20⟩
    go_wp2
    go_ret
    exact ⟨rfl, bstep hB19 hb20⟩
end Go.Proofs.Ytppfggfmpmccpaa.fnExactTablePack
