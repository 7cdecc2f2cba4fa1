/- The walk of the law FnExactMoveMarks: the call returns true and turns nothing that was there. -/
import Derived.Test.YtlbmmhibepdhlaaW11
import Derived.Test.YtlbmmhibepdhlaaW13
import Derived.Test.YtlbmmhibepdhlaaW14
namespace Go.Proofs.Ytlbmmhibepdhlaa.fnExactMoveMarks
open Go.RowKit
set_option maxRecDepth 100000 in
set_option maxHeartbeats 3200000 in
theorem walk (s : ByteArray) (hs : s.size ≤ maxLen) (A : Option Addr) (n cc : Nat) (ms : List (Int × Bool)) (hn : n ≤ maxLen) (a c : Int) (p : ByteArray) (_ : (Lit.int .i64 a).wf = true) (_ : (Lit.int .i64 c).wf = true) (hp : p.size ≤ maxLen) (w : World) (hr : Marks w w.heap.size A n ms) :
    Calls Try.prog 14 #[.string s, .slice A n cc, .agg #[.int .i64 a, .int .i64 c, .string p]] w fun e w' => e = .returned (.bool true) ∧ Below w.heap.size w w' := by
  have hs' := hs
  unfold maxLen at hs'
  by_cases h1 : 1048576 < (s.size : Int)
  · go_enter Try.func14, Try.ntmps14
    go_wp2
    go_ret
    exact ⟨rfl, (by repeat (first | exact Below.refl _ _ | assumption | (refine bstep ?_ (by assumption)) | refine balloc ?_ _ | refine bdrew ?_ | refine bdrewN ?_ _ | (refine bset ?_ (by simp) _) | (refine bset ?_ (by simp; omega) _)))⟩
  · by_cases h2 : 1048576 < (n : Int)
    · go_enter Try.func14, Try.ntmps14
      go_wp2_with (go_at_call 31; refine (szMarkS_big _ _ _ _ _ hn (by omega) (by omega) (by omega)).mono ?_; rintro e w' ⟨rfl, rfl⟩)
      go_ret
      exact ⟨rfl, (by repeat (first | exact Below.refl _ _ | assumption | (refine bstep ?_ (by assumption)) | refine balloc ?_ _ | refine bdrew ?_ | refine bdrewN ?_ _ | (refine bset ?_ (by simp) _) | (refine bset ?_ (by simp; omega) _)))⟩
    · by_cases h3 : 1048576 - (n : Int) < (p.size : Int)
      · go_enter Try.func14, Try.ntmps14
        go_wp2_with (first | (go_at_call 31; refine (szMarkS_ok _ _ _ _ _ (by omega) (by omega)).mono ?_; rintro e w' ⟨rfl, rfl⟩) | (go_at_call 18; refine (szChange_big _ _ _ _ _ hp (by omega) (by omega) (by omega)).mono ?_; rintro e w1 ⟨rfl, hb1⟩; obtain ⟨hc1, hf1⟩ := bcell hb1; have hz1 := hb1.size; (try simp at hz1); (try replace hz1 := Nat.lt_of_succ_le hz1); (try have hy1w : w.heap.size < w1.heap.size := by omega); (try have hx1w : w.heap.size + 1 < w1.heap.size := by omega)))
        go_ret
        exact ⟨rfl, (by repeat (first | exact Below.refl _ _ | assumption | (refine bstep ?_ (by assumption)) | refine balloc ?_ _ | refine bdrew ?_ | refine bdrewN ?_ _ | (refine bset ?_ (by simp) _) | (refine bset ?_ (by simp; omega) _)))⟩
      · have hps : s.size + p.size ≤ 1099511627776 := by omega
        have hn2 : n ≤ 1048576 := by omega
        go_enter Try.func14, Try.ntmps14
        go_wp2_with (first | (go_at_call 31; refine (szMarkS_ok _ _ _ _ _ (by omega) (by omega)).mono ?_; rintro e w' ⟨rfl, rfl⟩) | (go_at_call 18; refine (szChange_ok _ _ _ _ _ (by omega) (by omega)).mono ?_; rintro e w1 ⟨rfl, hb1⟩; obtain ⟨hc1, hf1⟩ := bcell hb1; have hz1 := hb1.size; (try simp at hz1); (try replace hz1 := Nat.lt_of_succ_le hz1); (try have hy1w : w.heap.size < w1.heap.size := by omega); (try have hx1w : w.heap.size + 1 < w1.heap.size := by omega)))
        have hbx : Below (w.heap.size + 1) (w.alloc (.cells #[.int .i64 a, .int .i64 c, .string p] 27)) w1 := hb1.mono (by simp)
        have q0 : w1.cell? ⟨w.heap.size, 0, none⟩ = some (.int .i64 a) := (hbx.cell (p := ⟨w.heap.size, 0, none⟩) (by simp)).trans (by simp)
        have q1 : w1.cell? ⟨w.heap.size, 1, none⟩ = some (.int .i64 c) := (hbx.cell (p := ⟨w.heap.size, 1, none⟩) (by simp)).trans (by simp)
        have q2 : w1.cell? ⟨w.heap.size, 2, none⟩ = some (.string p) := (hbx.cell (p := ⟨w.heap.size, 2, none⟩) (by simp)).trans (by simp)
        have hb01 : Below w.heap.size w w1 := bstep (balloc (Below.refl _ _) _) hb1
        have hr1 : Marks w1 w1.heap.size A n ms := (hr.below hb01 (Nat.le_refl _)).more hb01.size
        clear hc1 hf1 hbx hb1
        go_region_held3 (fun w' => w'.cell? ⟨w.heap.size, 0, none⟩ = some (.int .i64 a) ∧ w'.cell? ⟨w.heap.size, 1, none⟩ = some (.int .i64 c) ∧ w'.cell? ⟨w.heap.size, 2, none⟩ = some (.string p))
          (first
            | go_keep
            | (go_split_ands; exact ⟨(hb4.cell (p := ⟨w.heap.size, 0, none⟩) (by simp; omega)).trans (by assumption), (hb4.cell (p := ⟨w.heap.size, 1, none⟩) (by simp; omega)).trans (by assumption), (hb4.cell (p := ⟨w.heap.size, 2, none⟩) (by simp; omega)).trans (by assumption)⟩)
            | (go_split_ands; exact ⟨(hb2.cell (p := ⟨w.heap.size, 0, none⟩) (by simp; omega)).trans (by assumption), (hb2.cell (p := ⟨w.heap.size, 1, none⟩) (by simp; omega)).trans (by assumption), (hb2.cell (p := ⟨w.heap.size, 2, none⟩) (by simp; omega)).trans (by assumption)⟩)
            | (go_split_ands; exact ⟨(hb3.cell (p := ⟨w.heap.size, 0, none⟩) (by simp; omega)).trans (by assumption), (hb3.cell (p := ⟨w.heap.size, 1, none⟩) (by simp; omega)).trans (by assumption), (hb3.cell (p := ⟨w.heap.size, 2, none⟩) (by simp; omega)).trans (by assumption)⟩))
          ((first
            | (go_at_call 33; refine (toMarkS_any _ _ _ _ _ hn2 (by exact hr1)).mono ?_; rintro e w2 ⟨g2, rfl, ho2, hb2⟩; have hz2 := hb2.size; simp at hz2)
            | (go_at_call 20; refine (toChange_any _ _ _ _).mono ?_; rintro e w3 ⟨rfl, hb3⟩; have hz3 := hb3.size; have ho3 := ho2.below hb3)
            | (go_at_call 46; refine (specMoveMarks_any _ _ _ _ _ _ _ _ _ hps hn2 (ho3.marks ho3.lt.2)).mono ?_; rintro e w4 ⟨A4, n4, c4, rfl, ho4, hb4⟩; have hz4 := hb4.size)))
        have HB4 : Below (w.heap.size + 1) w1 w4 := (((Below.refl _ _).drew.trans (hb2.mono (by simp; omega))).trans (hb3.mono (by omega))).trans (hb4.mono (by omega))
        have hr4 : Marks w4 w4.heap.size A n ms := (hr.below (hb01.trans (HB4.mono (by omega))) (Nat.le_refl _)).more (by omega)
        obtain ⟨R, hR⟩ : ∃ R, moveMarksL s.data.toList ms a c p.data.toList = R := ⟨_, rfl⟩
        rw [hR] at ho4
        have HR := Lib.hid hR
        have hn4 := ho4.1
        have L4 := Lib.hid (ho4.2.lt)
        have hw1 : w.heap.size + 1 ≤ w1.heap.size := by omega
        clear hR hb2 ho2 hb3 ho3 hb4
        have hRn : R.length ≤ n := by
          rw [← HR.out]
          unfold moveMarksL
          split
          · rw [movedL_length, hr.1]
            exact Nat.le_refl _
          · exact Nat.zero_le _
        have HN4 := Lib.hid hn4
        have hn4' : n4 ≤ 1048576 := by omega
        clear hn4 hRn
        go_wp2_with fail
        refine (toMarkS_any _ _ _ _ _ hn2 hr4).mono ?_
        rintro e w5 ⟨g5, rfl, ho5, hb5⟩
        have hz5 := hb5.size
        have hg5 := ho5.lt
        have HB5 := HB4.trans (hb5.mono (by omega))
        have c0 := (HB5.cell (p := ⟨w.heap.size, 0, none⟩) (by simp)).trans q0
        have c1 := (HB5.cell (p := ⟨w.heap.size, 1, none⟩) (by simp)).trans q1
        have c2 := (HB5.cell (p := ⟨w.heap.size, 2, none⟩) (by simp)).trans q2
        go_wp2_with fail
        refine (toChange_any _ _ _ _).mono ?_
        rintro e w6 ⟨rfl, hb6⟩
        have hz6 := hb6.size
        have ho6 := ho5.below hb6
        clear c0 c1 c2
        go_wp2_with fail
        refine (implMoveMarks_any _ _ _ _ _ _ _ _ _ hps hn2 (ho6.marks ho6.lt.2)).mono ?_
        rw [HR.out]
        rintro e w7 ⟨A7, n7, c7, rfl, ho7, hb7⟩
        have hz7 := hb7.size
        have hn7 := ho7.1
        have L7 := Lib.hid (ho7.2.lt)
        obtain rfl : n7 = n4 := by rw [← hn7, ← HN4.out]
        clear hn7
        have ho47 := ((ho4.below hb5).below hb6).below hb7
        have ho57 := (ho6.below hb7)
        go_wp2_with fail
        refine (eqMarkS_same _ _ _ _ _ _ _ hn4' ho7.marks ho47.marks).mono ?_
        rintro e w8 ⟨rfl, hb8⟩
        have hz8 := hb8.size
        have HB8 := ((HB5.trans (hb6.mono (by omega))).trans (hb7.mono (by omega))).trans (hb8.mono (by omega))
        have hr8 : Marks w8 w8.heap.size A n ms := (hr.below (hb01.trans (HB8.mono (by omega))) (Nat.le_refl _)).more (by omega)
        go_wp2_with fail
        refine (toMarkS_any _ _ _ _ _ hn2 hr8).mono ?_
        rintro e w9 ⟨g9, rfl, ho9, hb9⟩
        have hz9 := hb9.size
        have ho59 := (ho57.below hb8).below hb9
        go_wp2_with fail
        refine (eqMarkS_same _ _ _ _ _ _ _ hn2 (ho59.marks ho59.lt.2) (ho9.marks ho9.lt.2)).mono ?_
        rintro e w10 ⟨rfl, hb10⟩
        have hz10 := hb10.size
        have ho510 := (ho59.below hb10).toV
        have ho410 := ((ho47.below hb8).below hb9).below hb10
        have ho710 := ((ho7.below hb8).below hb9).below hb10
        have HB10 := (HB8.trans (hb9.mono (by omega))).trans (hb10.mono (by omega))
        go_wp2_with fail
        refine (markMarkS_any _ _ _ _ _ _ _ hn2 (by omega) (by omega) ho510.2).mono ?_
        rintro e w11 ⟨rfl, hm11, hg11⟩
        have hz11 := hg11.size
        have ho411 := ho410.kept hg11 (fun k hk hg => by have h1 := (L4.out k hk).2; simp [Value.ownBlock] at hg; omega)
        have ho711 := ho710.kept hg11 (fun k hk hg => by have h1 := (L7.out k hk).1; simp [Value.ownBlock] at hg; omega)
        have HB11 := HB10.grown hg11 (by omega) (fun g hg => by simp [Value.ownBlock] at hg; omega)
        clear hm11 hg11 ho510 ho59 ho57 ho6 ho5 ho9
        go_wp2_with fail
        refine (eqMarkS_same _ _ _ _ _ _ _ hn4' ho711.marks ho411.marks).mono ?_
        rintro e w12 ⟨rfl, hb12⟩
        have hz12 := hb12.size
        have ho412 := ho411.below hb12
        have ho712 := ho711.below hb12
        have HB12 := HB11.trans (hb12.mono (by omega))
        go_wp2_with fail
        refine (markMarkS_any _ _ _ _ _ _ _ hn4' (by omega) (by omega) ho712.2).mono ?_
        rintro e w13 ⟨rfl, hm13, hg13⟩
        have hz13 := hg13.size
        have hv13 : OwnV 68 w13 w6.heap.size A7 n7 c7 (markedL 1 n7) := ⟨markedL_length _ _, hm13⟩
        have ho413 := ho412.kept hg13 (fun k hk hg => by have h1 := (L4.out k hk).2; have h2 := (L7.out k hg).1; omega)
        have HB13 := HB12.grown hg13 (by omega) (fun g hg => by have h2 := (L7.out g hg).1; omega)
        go_wp2_with fail
        refine (heldMarkS_any _ _ _ _ _ _ hn4' (by omega) (by omega) hv13.marks).mono ?_
        rintro e w' ⟨rfl, rfl⟩
        have d0 := (HB13.cell (p := ⟨w.heap.size, 0, none⟩) (by simp)).trans q0
        have d1 := (HB13.cell (p := ⟨w.heap.size, 1, none⟩) (by simp)).trans q1
        have d2 := (HB13.cell (p := ⟨w.heap.size, 2, none⟩) (by simp)).trans q2
        have hr13 : Marks w13 w13.heap.size A n ms := (hr.below (hb01.trans (HB13.mono (by omega))) (Nat.le_refl _)).more (by omega)
        have hww : w.heap.size < w13.heap.size := by omega
        clear hm13 hg13 q0 q1 q2
        go_wp2_with fail
        go_region_held3 (fun w' => w'.cell? ⟨w.heap.size, 0, none⟩ = some (.int .i64 a) ∧ w'.cell? ⟨w.heap.size, 1, none⟩ = some (.int .i64 c) ∧ w'.cell? ⟨w.heap.size, 2, none⟩ = some (.string p))
          (first
            | go_keep
            | (go_split_ands; exact ⟨(hb16.cell (p := ⟨w.heap.size, 0, none⟩) (by simp; omega)).trans (by assumption), (hb16.cell (p := ⟨w.heap.size, 1, none⟩) (by simp; omega)).trans (by assumption), (hb16.cell (p := ⟨w.heap.size, 2, none⟩) (by simp; omega)).trans (by assumption)⟩)
            | (go_split_ands; exact ⟨(hb14.cell (p := ⟨w.heap.size, 0, none⟩) (by simp; omega)).trans (by assumption), (hb14.cell (p := ⟨w.heap.size, 1, none⟩) (by simp; omega)).trans (by assumption), (hb14.cell (p := ⟨w.heap.size, 2, none⟩) (by simp; omega)).trans (by assumption)⟩)
            | (go_split_ands; exact ⟨(hb15.cell (p := ⟨w.heap.size, 0, none⟩) (by simp; omega)).trans (by assumption), (hb15.cell (p := ⟨w.heap.size, 1, none⟩) (by simp; omega)).trans (by assumption), (hb15.cell (p := ⟨w.heap.size, 2, none⟩) (by simp; omega)).trans (by assumption)⟩))
          ((first
            | (go_at_call 33; refine (toMarkS_any _ _ _ _ _ hn2 (by exact hr13)).mono ?_; rintro e w14 ⟨g14, rfl, ho14, hb14⟩; have hz14 := hb14.size; simp at hz14)
            | (go_at_call 20; refine (toChange_any _ _ _ _).mono ?_; rintro e w15 ⟨rfl, hb15⟩; have hz15 := hb15.size; have ho15 := ho14.below hb15)
            | (go_at_call 47; refine (implMoveMarks_any _ _ _ _ _ _ _ _ _ hps hn2 (ho15.marks ho15.lt.2)).mono ?_; rintro e w16 ⟨A16, n16, c16, rfl, ho16, hb16⟩; have hz16 := hb16.size)))
        rw [HR.out] at ho16
        have hn16 := ho16.1
        obtain rfl : n16 = n7 := by rw [← hn16, ← HN4.out]
        clear hn16 d0 d1 d2
        have ho416 := (((show OwnV 68 w13.drew w3.heap.size A4 n16 c4 R from ho413).below hb14).below hb15).below hb16
        have hv16 := (((show OwnV 68 w13.drew w6.heap.size A7 n16 c7 (markedL 1 n16) from hv13).below hb14).below hb15).below hb16
        have HB16 := ((HB13.drew.trans (hb14.mono (by simp; omega))).trans (hb15.mono (by omega))).trans (hb16.mono (by omega))
        go_wp2_with fail
        refine (eqMarkS_same _ _ _ _ _ _ _ hn4' ho16.marks ho416.marks).mono ?_
        rintro e w17 ⟨rfl, hb17⟩
        have hz17 := hb17.size
        have hv17 := hv16.below hb17
        have HB17 := HB16.trans (hb17.mono (by omega))
        go_wp2_with fail
        refine (heldMarkS_any _ _ _ _ _ _ hn4' (by omega) (by omega) hv17.marks).mono ?_
        rintro e w' ⟨rfl, rfl⟩
        go_wp2
        go_ret
        exact ⟨rfl, hb01.trans (HB17.mono (by omega))⟩
end Go.Proofs.Ytlbmmhibepdhlaa.fnExactMoveMarks
