/- The walk of the law FnGapMove: the call returns true and turns nothing that was there. -/
import Derived.Test.YtlndlgbpnlfflaaD17
import Derived.Test.YtlndlgbpnlfflaaD3
import Derived.Test.YtlndlgbpnlfflaaW7
import Derived.Test.YtlndlgbpnlfflaaPf
import Derived.Deep.RegionHeld3
import Derived.Test.YtlndlgbpnlfflaaR1
namespace Go.Proofs.Ytlndlgbpnlfflaa.fnGapMove
open Go.RowKit
theorem no_tf {P : Prop} (h : true = false) : P := by cases h
theorem mk_nil_empty : (mk []).toList.isEmpty = true := by
  rw [Lib.toList_data]
  rfl
/-- What each operation of the last region leaves. -/
def mvΦ (gx : Nat) (a b X Y U : ByteArray) (d q : Int) (E F G : Bool) : Nat → World → Value → Prop
  | 0, _, v => v = .agg #[.string X, .string Y]
  | 1, _, v => v = .string U
  | 2, _, v => v = .agg #[.string a, .string b]
  | 3, _, v => v = .string U
  | 4, _, v => v = .bool true
  | 5, _, v => v = .bool true
  | 6, _, v => v = .agg #[.string X, .string Y]
  | 7, _, v => v = .int .i64 d
  | 8, _, v => v = .int .i64 (-d)
  | 9, _, v => v = .agg #[.string a, .string b]
  | 10, _, v => v = .agg #[.string a, .string b]
  | 11, _, v => v = .bool true
  | 12, _, v => v = .bool true
  | 13, _, v => v = .bool true
  | 14, _, v => v = .int .i64 d
  | 15, _, v => v = .int .i64 q
  | 16, _, v => v = .bool E
  | 17, _, v => v = .bool E
  | 18, _, v => E = false → v = .pointer (some ⟨gx, 0, none⟩)
  | 19, _, v => E = false → v = .string X
  | 20, _, v => E = false → v = .bool F
  | 21, _, v => v = .bool (E || F)
  | 22, _, v => v = .bool (E || F)
  | 23, _, v => (E || F) = false → v = .pointer (some ⟨gx, 1, none⟩)
  | 24, _, v => (E || F) = false → v = .string Y
  | 25, _, v => (E || F) = false → v = .bool G
  | 26, _, v => v = .bool true
  | 27, _, v => v = .bool true
  | 28, _, v => v = .bool true
  | _, _, _ => True
theorem mvΦ_stab (gx : Nat) (a b X Y U : ByteArray) (d q : Int) (E F G : Bool) : ∀ k w w' v, (fun _ _ : World => True) w w' → mvΦ gx a b X Y U d q E F G k w v → mvΦ gx a b X Y U d q E F G k w' v := fun k _ _ v _ h => by
  by_cases hk : k < 29
  · rcases (by omega : k = 0 ∨ k = 1 ∨ k = 2 ∨ k = 3 ∨ k = 4 ∨ k = 5 ∨ k = 6 ∨ k = 7 ∨ k = 8 ∨ k = 9 ∨ k = 10 ∨ k = 11 ∨ k = 12 ∨ k = 13 ∨ k = 14 ∨ k = 15 ∨ k = 16 ∨ k = 17 ∨ k = 18 ∨ k = 19 ∨ k = 20 ∨ k = 21 ∨ k = 22 ∨ k = 23 ∨ k = 24 ∨ k = 25 ∨ k = 26 ∨ k = 27 ∨ k = 28) with rfl | rfl | rfl | rfl | rfl | rfl | rfl | rfl | rfl | rfl | rfl | rfl | rfl | rfl | rfl | rfl | rfl | rfl | rfl | rfl | rfl | rfl | rfl | rfl | rfl | rfl | rfl | rfl | rfl
    all_goals exact h
  · obtain ⟨j, rfl⟩ : ∃ j, k = j + 29 := ⟨k - 29, by omega⟩
    trivial
theorem move_good {a b : ByteArray} {n : Int} (h : tvB (a.data.toList ++ b.data.toList) = true) : ∃ (X Y U : ByteArray) (d : Int), gapV (moveR a.data.toList b.data.toList n) = .agg #[.string X, .string Y] ∧ X.size + Y.size = a.size + b.size ∧ (X.size : Int) - (a.size : Int) = d ∧ mk (gapTextL a.data.toList b.data.toList) = U ∧ mk (gapTextL X.data.toList Y.data.toList) = U ∧
    gapV (moveR X.data.toList Y.data.toList (-d)) = .agg #[.string a, .string b] ∧ (d = n ∨ X.toList.isEmpty = true ∨ Y.toList.isEmpty = true) := by
  have hal : a.data.toList.length = a.size := rfl
  have hbl : b.data.toList.length = b.size := rfl
  have h1 := moveR_join (n := n) h
  have h2 := moveR_text (n := n) h
  have h3 := moveR_back (n := n) h
  have h4 := moveR_end (n := n) h
  generalize moveR a.data.toList b.data.toList n = x at h1 h2 h3 h4 ⊢
  obtain ⟨x, y⟩ := x
  dsimp only at h1 h2 h3 h4
  have hl := congrArg List.length h1
  rw [List.length_append, List.length_append] at hl
  have hx : (mk x).size = x.length := mk_size _
  have hy : (mk y).size = y.length := mk_size _
  refine ⟨mk x, mk y, mk (a.data.toList ++ b.data.toList), _, rfl, by omega, rfl, by rw [gapText_1 h], by rw [mk_data, mk_data, h2], ?_, ?_⟩
  · rw [mk_data, mk_data, hx, ← hal, h3]
    rfl
  · rw [hx, ← hal]
    rcases h4 with h4 | rfl | rfl
    · exact .inl h4
    · exact .inr (.inl mk_nil_empty)
    · exact .inr (.inr mk_nil_empty)
set_option maxRecDepth 100000 in
set_option maxHeartbeats 16000000 in
theorem walk (A : Option Addr) (n c : Nat) (hnc : n ≤ c) (hc : c ≤ maxLen) (w : World) (hb : Byt w w.heap.size A n) :
    Calls Try.prog 3 #[.slice A n c] w fun e w' => e = .returned (.bool true) ∧ Below w.heap.size w w' := by
  have hc' := hc
  unfold maxLen at hc'
  by_cases h : 1048576 < n
  · go_enter Try.func3, Try.ntmps3
    go_wp2
    go_ret
    exact ⟨rfl, Below.refl _ _⟩
  · go_enter Try.func3, Try.ntmps3
    go_wp2_with fail
    refine (DrawGapMove_any _ _ _ _ hb hnc hc).mono ?_
    rintro e w1 ⟨a, b, q, rfl, hs, hq, hb1⟩
    have G2 := B2.new w1 24 (.string a) (.string b)
    have hb2 : Below w.heap.size w (w1.alloc (.cells #[.string a, .string b] 24)) := balloc hb1 _
    obtain ⟨c0, c1⟩ := G2.cells
    go_wp2_with fail
    generalize w1.alloc (.cells #[.string a, .string b] 24) = w2 at G2 hb2 c0 c1 ⊢
    generalize w1.heap.size = g at G2 c0 c1 ⊢
    cases ht : tvB (a.data.toList ++ b.data.toList)
    · have hR : gapV (moveR a.data.toList b.data.toList q) = .agg #[.string ⟨#[]⟩, .string ⟨#[]⟩] := by
        rw [moveR_0 ht]
        rfl
      have HR := Lib.hid hR
      have HT := Lib.hid ht
      clear hR ht
      with_reducible refine (implGapMove_any a b q w2 (by omega)).mono ?_
      rw [HR.out]
      rintro e w3 ⟨rfl, hb3⟩
      have G3 := G2.next hb3
      have hbw3 := bstep hb2 hb3
      have G4 := G3.alloc (.cells #[.string ⟨#[]⟩, .string ⟨#[]⟩] 24)
      have X4 := B2.new w3 24 (.string ⟨#[]⟩) (.string ⟨#[]⟩)
      have hbw4 : Below w.heap.size w (w3.alloc (.cells #[.string ⟨#[]⟩, .string ⟨#[]⟩] 24)) := balloc hbw3 _
      clear G2 hb2 hb3 G3 hbw3 c0 c1
      obtain ⟨c0, c1⟩ := G4.cells
      go_wp2_with fail
      generalize w3.alloc (.cells #[.string ⟨#[]⟩, .string ⟨#[]⟩] 24) = w4 at G4 X4 hbw4 c0 c1 ⊢
      generalize w3.heap.size = gx at X4 ⊢
      obtain ⟨d0, d1⟩ := X4.cells
      have hlx : gx < w4.heap.size := X4.lt
      have hlg : g < w4.heap.size := G4.lt
      go_region_held3 (fun w' => w'.cell? ⟨g, 0, none⟩ = some (.string a) ∧ w'.cell? ⟨g, 1, none⟩ = some (.string b) ∧ w'.cell? ⟨gx, 0, none⟩ = some (.string ⟨#[]⟩) ∧ w'.cell? ⟨gx, 1, none⟩ = some (.string ⟨#[]⟩))
        (first
          | go_keep
          | (go_split_ands; exact ⟨(hb5.cell (p := ⟨g, 0, none⟩) hlg).trans (by assumption), (hb5.cell (p := ⟨g, 1, none⟩) hlg).trans (by assumption), (hb5.cell (p := ⟨gx, 0, none⟩) hlx).trans (by assumption), (hb5.cell (p := ⟨gx, 1, none⟩) hlx).trans (by assumption)⟩))
        ((go_at_call 12; ((with_reducible refine (specGapMove_any a b q _ (by omega)).mono ?_); rw [HR.out]; rintro e w5 ⟨rfl, hb5⟩)))
      have G5 := G4.drew.next hb5
      have X5 := X4.drew.next hb5
      have hbw5 := bstep (bdrew hbw4) hb5
      clear G4 X4 hbw4 hb5 c0 c1 d0 d1
      obtain ⟨c0, c1⟩ := G5.cells
      go_wp2_with fail
      with_reducible refine (specGapValid_any a b _ (by omega)).mono ?_
      rw [HT.out]
      rintro e w6 ⟨rfl, hb6⟩
      have X6 := X5.next hb6
      have hbw6 := bstep hbw5 hb6
      clear G5 X5 hbw5 hb6 c0 c1
      obtain ⟨d0, d1⟩ := X6.cells
      go_wp2_with (go_at_call 14; refine (alive_any _).mono ?_; rintro e w' ⟨rfl, rfl⟩)
      go_ret
      exact ⟨rfl, hbw6⟩
    · obtain ⟨X, Y, U, d, hR, hXY, hd, hU, hU2, hB, hE⟩ := move_good (n := q) ht
      have HR := Lib.hid hR
      have HT := Lib.hid ht
      have HU := Lib.hid hU
      have HU2 := Lib.hid hU2
      have HB := Lib.hid hB
      clear hR ht hU hU2 hB
      have hd0 : -130 ≤ d := by omega
      have hd1 : d ≤ 130 := by omega
      have hw : IntKind.i64.wrap (-d) = -d := IntWalk.i64_in (-d) (by omega)
      with_reducible refine (implGapMove_any a b q w2 (by omega)).mono ?_
      rw [HR.out]
      rintro e w3 ⟨rfl, hb3⟩
      have G3 := G2.next hb3
      have hbw3 := bstep hb2 hb3
      have G4 := G3.alloc (.cells #[.string X, .string Y] 24)
      have X4 := B2.new w3 24 (.string X) (.string Y)
      have hbw4 : Below w.heap.size w (w3.alloc (.cells #[.string X, .string Y] 24)) := balloc hbw3 _
      clear G2 hb2 hb3 G3 hbw3 c0 c1
      obtain ⟨c0, c1⟩ := G4.cells
      go_wp2_with fail
      generalize w3.alloc (.cells #[.string X, .string Y] 24) = w4 at G4 X4 hbw4 c0 c1 ⊢
      generalize w3.heap.size = gx at X4 ⊢
      obtain ⟨d0, d1⟩ := X4.cells
      have hlx : gx < w4.heap.size := X4.lt
      have hlg : g < w4.heap.size := G4.lt
      go_region_held3 (fun w' => w'.cell? ⟨g, 0, none⟩ = some (.string a) ∧ w'.cell? ⟨g, 1, none⟩ = some (.string b) ∧ w'.cell? ⟨gx, 0, none⟩ = some (.string X) ∧ w'.cell? ⟨gx, 1, none⟩ = some (.string Y))
        (first
          | go_keep
          | (go_split_ands; exact ⟨(hb5.cell (p := ⟨g, 0, none⟩) hlg).trans (by assumption), (hb5.cell (p := ⟨g, 1, none⟩) hlg).trans (by assumption), (hb5.cell (p := ⟨gx, 0, none⟩) hlx).trans (by assumption), (hb5.cell (p := ⟨gx, 1, none⟩) hlx).trans (by assumption)⟩))
        ((go_at_call 12; ((with_reducible refine (specGapMove_any a b q _ (by omega)).mono ?_); rw [HR.out]; rintro e w5 ⟨rfl, hb5⟩)))
      have G5 := G4.drew.next hb5
      have X5 := X4.drew.next hb5
      have hbw5 := bstep (bdrew hbw4) hb5
      clear G4 X4 hbw4 hb5 c0 c1 d0 d1
      obtain ⟨c0, c1⟩ := G5.cells
      go_wp2_with fail
      with_reducible refine (specGapValid_any a b _ (by omega)).mono ?_
      rw [HT.out]
      rintro e w6 ⟨rfl, hb6⟩
      have G6 := G5.next hb6
      have X6 := X5.next hb6
      have hbw6 := bstep hbw5 hb6
      clear G5 X5 hbw5 hb6 c0 c1
      obtain ⟨c0, c1⟩ := G6.cells
      obtain ⟨d0, d1⟩ := X6.cells
      have hg6 : g < w6.heap.size := G6.lt
      have hx6 : gx < w6.heap.size := X6.lt
      obtain ⟨E, hEE⟩ : ∃ E, (d == q) = E := ⟨_, rfl⟩
      obtain ⟨F, hF⟩ : ∃ F, X.toList.isEmpty = F := ⟨_, rfl⟩
      obtain ⟨G, hGG⟩ : ∃ G, Y.toList.isEmpty = G := ⟨_, rfl⟩
      have hEFG : (E || F || G) = true := by
        rw [← hEE, ← hF, ← hGG]
        rcases hE with hE | hE | hE
        · simp [hE]
        · simp [hE]
        · simp [hE]
      clear hE
      go_wp2_with fail
      clear c0 c1 d0 d1
      refine wp_region_slots (by kernel_rfl) (fun vs => ⟨#[.slice A n c, undef, vs 28, .pointer (some ⟨g, 0, none⟩), .int .i64 q, .pointer (some ⟨gx, 0, none⟩), .int .i64 d, .slice A n c, .int .i64 n, .bool (decide ((1048576 : Int) < (n : Int))), .tuple #[.agg #[.string a, .string b], .int .i64 q], .slice A n c, .tuple #[.agg #[.string a, .string b], .int .i64 q], .agg #[.string a, .string b], .int .i64 q, .agg #[.string a, .string b], .int .i64 q, .agg #[.string X, .string Y], .agg #[.string X, .string Y], .agg #[.string a, .string b], .int .i64 q, .agg #[.string X, .string Y], .bool false, .agg #[.string a, .string b], .bool true, .bool false, undef, undef, undef, undef, undef, undef, .pointer (some ⟨gx, 0, none⟩), .string X, .int .i64 (X.size : Int), .pointer (some ⟨g, 0, none⟩), .string a, .int .i64 (a.size : Int), .int .i64 d, vs 0, vs 1, vs 2, vs 3, vs 4, vs 5, vs 6, vs 7, vs 8, vs 9, vs 10, vs 11, vs 12, vs 13, vs 14, vs 15, vs 16, vs 17, vs 18, vs 19, vs 20, vs 21, vs 22, vs 23, vs 24, vs 25, vs 26, vs 27], []⟩) (fun k => (#[undef, undef, undef, undef, undef, undef, undef, undef, undef, undef, undef, undef, undef, undef, undef, undef, undef, undef, undef, undef, undef, undef, undef, undef, undef, undef, undef, undef, .bool false] : Array Value).getD k undef) rfl (mvΦ gx a b X Y U d q E F G) (fun _ w' => Below w.heap.size w w' ∧ B2 w' g 24 (.string a) (.string b) ∧ B2 w' gx 24 (.string X) (.string Y)) (fun _ _ => True) (mvΦ_stab gx a b X Y U d q E F G) (by kernel_rfl) ⟨bdrew hbw6, G6.drew, X6.drew⟩ ?_ ?_
      · intro L m vs w' i hi hm hdp hI hΦ
        obtain ⟨hbw, hG, hX⟩ := hI
        obtain ⟨c0, c1⟩ := hG.cells
        obtain ⟨d0, d1⟩ := hX.cells
        have hi' : i < 29 := hi
        rcases (by omega : i = 0 ∨ i = 1 ∨ i = 2 ∨ i = 3 ∨ i = 4 ∨ i = 5 ∨ i = 6 ∨ i = 7 ∨ i = 8 ∨ i = 9 ∨ i = 10 ∨ i = 11 ∨ i = 12 ∨ i = 13 ∨ i = 14 ∨ i = 15 ∨ i = 16 ∨ i = 17 ∨ i = 18 ∨ i = 19 ∨ i = 20 ∨ i = 21 ∨ i = 22 ∨ i = 23 ∨ i = 24 ∨ i = 25 ∨ i = 26 ∨ i = 27 ∨ i = 28) with rfl | rfl | rfl | rfl | rfl | rfl | rfl | rfl | rfl | rfl | rfl | rfl | rfl | rfl | rfl | rfl | rfl | rfl | rfl | rfl | rfl | rfl | rfl | rfl | rfl | rfl | rfl | rfl | rfl
        · refine wpOp_step rfl (fun K hK => ?_)
          go_simp
          exact hK _ _ ⟨_, by simp [upd], trivial, ⟨hbw, hG, hX⟩, rfl⟩
        · have h0 : vs 0 = .agg #[.string X, .string Y] := hΦ 0 (hdp 0 (by kernel_rfl))
          refine wpOp_step rfl (fun K hK => ?_)
          go_simp
          with_reducible refine (implGapText_any X Y _ (by omega)).mono ?_
          rw [HU2.out]
          rintro e w3 ⟨rfl, hb3⟩
          go_simp
          exact hK _ _ ⟨_, by simp [upd, h0], trivial, ⟨bstep hbw hb3, hG.next hb3, hX.next hb3⟩, rfl⟩
        · refine wpOp_step rfl (fun K hK => ?_)
          go_simp
          exact hK _ _ ⟨_, by simp [upd], trivial, ⟨hbw, hG, hX⟩, rfl⟩
        · have h2 : vs 2 = .agg #[.string a, .string b] := hΦ 2 (hdp 2 (by kernel_rfl))
          refine wpOp_step rfl (fun K hK => ?_)
          go_simp
          with_reducible refine (implGapText_any a b _ (by omega)).mono ?_
          rw [HU.out]
          rintro e w3 ⟨rfl, hb3⟩
          go_simp
          exact hK _ _ ⟨_, by simp [upd, h2], trivial, ⟨bstep hbw hb3, hG.next hb3, hX.next hb3⟩, rfl⟩
        · have h1 : vs 1 = .string U := hΦ 1 (hdp 1 (by kernel_rfl))
          have h3 : vs 3 = .string U := hΦ 3 (hdp 3 (by kernel_rfl))
          refine wpOp_step rfl (fun K hK => ?_)
          go_simp
          exact hK _ _ ⟨_, by simp [upd, h1, h3], trivial, ⟨hbw, hG, hX⟩, rfl⟩
        · have h4 : vs 4 = .bool true := hΦ 4 (hdp 4 (by kernel_rfl))
          refine wpOp_step rfl (fun K hK => ?_)
          go_simp
          exact hK _ _ ⟨_, by simp [upd, h4], trivial, ⟨hbw, hG, hX⟩, rfl⟩
        · have h5 : vs 5 = .bool true := hΦ 5 (hdp 5 (by kernel_rfl))
          refine wpOp_step rfl (fun K hK => ?_)
          go_simp
          exact hK _ _ ⟨_, by simp [upd, h5], trivial, ⟨hbw, hG, hX⟩, rfl⟩
        · have h5 : vs 5 = .bool true := hΦ 5 (hdp 5 (by kernel_rfl))
          refine wpOp_step rfl (fun K hK => ?_)
          go_simp
          exact hK _ _ ⟨_, by simp [upd, h5], trivial, ⟨hbw, hG, hX⟩, rfl⟩
        · have h5 : vs 5 = .bool true := hΦ 5 (hdp 5 (by kernel_rfl))
          have h7 : vs 7 = .int .i64 d := hΦ 7 (hdp 7 (by kernel_rfl))
          refine wpOp_step rfl (fun K hK => ?_)
          go_simp
          exact hK _ _ ⟨.int .i64 (-d), by simp [upd, h5, h7], trivial, ⟨hbw, hG, hX⟩, by first | rfl | simp [hw] | (rw [hw]; rfl)⟩
        · have h5 : vs 5 = .bool true := hΦ 5 (hdp 5 (by kernel_rfl))
          have h6 : vs 6 = .agg #[.string X, .string Y] := hΦ 6 (hdp 6 (by kernel_rfl))
          have h8 : vs 8 = .int .i64 (-d) := hΦ 8 (hdp 8 (by kernel_rfl))
          refine wpOp_step rfl (fun K hK => ?_)
          go_simp
          with_reducible refine (implGapMove_any X Y (-d) _ (by omega)).mono ?_
          rw [HB.out]
          rintro e w3 ⟨rfl, hb3⟩
          go_simp
          exact hK _ _ ⟨_, by simp [upd, h5, h6, h8], trivial, ⟨bstep hbw hb3, hG.next hb3, hX.next hb3⟩, rfl⟩
        · have h5 : vs 5 = .bool true := hΦ 5 (hdp 5 (by kernel_rfl))
          refine wpOp_step rfl (fun K hK => ?_)
          go_simp
          exact hK _ _ ⟨_, by simp [upd, h5], trivial, ⟨hbw, hG, hX⟩, rfl⟩
        · have h5 : vs 5 = .bool true := hΦ 5 (hdp 5 (by kernel_rfl))
          have h9 : vs 9 = .agg #[.string a, .string b] := hΦ 9 (hdp 9 (by kernel_rfl))
          have h10 : vs 10 = .agg #[.string a, .string b] := hΦ 10 (hdp 10 (by kernel_rfl))
          refine wpOp_step rfl (fun K hK => ?_)
          go_simp
          exact hK _ _ ⟨_, by simp [upd, h5, h9, h10], trivial, ⟨hbw, hG, hX⟩, rfl⟩
        · have h5 : vs 5 = .bool true := hΦ 5 (hdp 5 (by kernel_rfl))
          have h11 : vs 11 = .bool true := hΦ 11 (hdp 11 (by kernel_rfl))
          refine wpOp_step rfl (fun K hK => ?_)
          go_simp
          exact hK _ _ ⟨_, by simp [upd, h5, h11], trivial, ⟨hbw, hG, hX⟩, rfl⟩
        · have h12 : vs 12 = .bool true := hΦ 12 (hdp 12 (by kernel_rfl))
          refine wpOp_step rfl (fun K hK => ?_)
          go_simp
          exact hK _ _ ⟨_, by simp [upd, h12], trivial, ⟨hbw, hG, hX⟩, rfl⟩
        · have h13 : vs 13 = .bool true := hΦ 13 (hdp 13 (by kernel_rfl))
          refine wpOp_step rfl (fun K hK => ?_)
          go_simp
          exact hK _ _ ⟨_, by simp [upd, h13], trivial, ⟨hbw, hG, hX⟩, rfl⟩
        · have h13 : vs 13 = .bool true := hΦ 13 (hdp 13 (by kernel_rfl))
          refine wpOp_step rfl (fun K hK => ?_)
          go_simp
          exact hK _ _ ⟨_, by simp [upd, h13], trivial, ⟨hbw, hG, hX⟩, rfl⟩
        · have h13 : vs 13 = .bool true := hΦ 13 (hdp 13 (by kernel_rfl))
          have h14 : vs 14 = .int .i64 d := hΦ 14 (hdp 14 (by kernel_rfl))
          have h15 : vs 15 = .int .i64 q := hΦ 15 (hdp 15 (by kernel_rfl))
          refine wpOp_step rfl (fun K hK => ?_)
          go_simp
          exact hK _ _ ⟨.bool E, by simp [upd, h13, h14, h15], trivial, ⟨hbw, hG, hX⟩, by first | rfl | simp [hEE] | (rw [hEE]; rfl)⟩
        · have h13 : vs 13 = .bool true := hΦ 13 (hdp 13 (by kernel_rfl))
          have h16 : vs 16 = .bool E := hΦ 16 (hdp 16 (by kernel_rfl))
          refine wpOp_step rfl (fun K hK => ?_)
          go_simp
          exact hK _ _ ⟨_, by simp [upd, h13, h16], trivial, ⟨hbw, hG, hX⟩, rfl⟩
        · have h17 : vs 17 = .bool E := hΦ 17 (hdp 17 (by kernel_rfl))
          cases E
          · refine wpOp_step rfl (fun K hK => ?_)
            go_simp
            exact hK _ _ ⟨_, by simp [upd, h17], trivial, ⟨hbw, hG, hX⟩, fun _ => rfl⟩
          · refine wpOp_step rfl (fun K hK => ?_)
            go_simp
            exact hK _ _ ⟨undef, by simp [upd, h17], trivial, ⟨hbw, hG, hX⟩, fun hh => no_tf hh⟩
        · have h17 : vs 17 = .bool E := hΦ 17 (hdp 17 (by kernel_rfl))
          have h18 : E = false → vs 18 = .pointer (some ⟨gx, 0, none⟩) := hΦ 18 (hdp 18 (by kernel_rfl))
          cases E
          · replace h18 := h18 rfl
            refine wpOp_step rfl (fun K hK => ?_)
            go_simp
            exact hK _ _ ⟨_, by simp [upd, h17, h18], trivial, ⟨hbw, hG, hX⟩, fun _ => rfl⟩
          · refine wpOp_step rfl (fun K hK => ?_)
            go_simp
            exact hK _ _ ⟨undef, by simp [upd, h17], trivial, ⟨hbw, hG, hX⟩, fun hh => no_tf hh⟩
        · have h17 : vs 17 = .bool E := hΦ 17 (hdp 17 (by kernel_rfl))
          have h19 : E = false → vs 19 = .string X := hΦ 19 (hdp 19 (by kernel_rfl))
          cases E
          · replace h19 := h19 rfl
            refine wpOp_step rfl (fun K hK => ?_)
            go_simp
            exact hK _ _ ⟨.bool F, by simp [upd, h17, h19], trivial, ⟨hbw, hG, hX⟩, fun _ => rfl⟩
          · refine wpOp_step rfl (fun K hK => ?_)
            go_simp
            exact hK _ _ ⟨undef, by simp [upd, h17], trivial, ⟨hbw, hG, hX⟩, fun hh => no_tf hh⟩
        · have h13 : vs 13 = .bool true := hΦ 13 (hdp 13 (by kernel_rfl))
          have h17 : vs 17 = .bool E := hΦ 17 (hdp 17 (by kernel_rfl))
          have h20 : E = false → vs 20 = .bool F := hΦ 20 (hdp 20 (by kernel_rfl))
          cases E
          · replace h20 := h20 rfl
            refine wpOp_step rfl (fun K hK => ?_)
            go_simp
            exact hK _ _ ⟨.bool F, by simp [upd, h13, h17, h20], trivial, ⟨hbw, hG, hX⟩, rfl⟩
          · refine wpOp_step rfl (fun K hK => ?_)
            go_simp
            exact hK _ _ ⟨.bool true, by simp [upd, h13, h17], trivial, ⟨hbw, hG, hX⟩, rfl⟩
        · have h13 : vs 13 = .bool true := hΦ 13 (hdp 13 (by kernel_rfl))
          have h21 : vs 21 = .bool (E || F) := hΦ 21 (hdp 21 (by kernel_rfl))
          refine wpOp_step rfl (fun K hK => ?_)
          go_simp
          exact hK _ _ ⟨_, by simp [upd, h13, h21], trivial, ⟨hbw, hG, hX⟩, rfl⟩
        · have h22 : vs 22 = .bool (E || F) := hΦ 22 (hdp 22 (by kernel_rfl))
          generalize hq : (E || F) = EF at h22 ⊢
          cases EF
          · refine wpOp_step rfl (fun K hK => ?_)
            go_simp
            exact hK _ _ ⟨_, by simp [upd, h22], trivial, ⟨hbw, hG, hX⟩, fun _ => rfl⟩
          · refine wpOp_step rfl (fun K hK => ?_)
            go_simp
            exact hK _ _ ⟨undef, by simp [upd, h22], trivial, ⟨hbw, hG, hX⟩, fun (hh : (E || F) = false) => no_tf (hq.symm.trans hh)⟩
        · have h22 : vs 22 = .bool (E || F) := hΦ 22 (hdp 22 (by kernel_rfl))
          have h23 : (E || F) = false → vs 23 = .pointer (some ⟨gx, 1, none⟩) := hΦ 23 (hdp 23 (by kernel_rfl))
          generalize hq : (E || F) = EF at h22 h23 ⊢
          cases EF
          · replace h23 := h23 rfl
            refine wpOp_step rfl (fun K hK => ?_)
            go_simp
            exact hK _ _ ⟨_, by simp [upd, h22, h23], trivial, ⟨hbw, hG, hX⟩, fun _ => rfl⟩
          · refine wpOp_step rfl (fun K hK => ?_)
            go_simp
            exact hK _ _ ⟨undef, by simp [upd, h22], trivial, ⟨hbw, hG, hX⟩, fun (hh : (E || F) = false) => no_tf (hq.symm.trans hh)⟩
        · have h22 : vs 22 = .bool (E || F) := hΦ 22 (hdp 22 (by kernel_rfl))
          have h24 : (E || F) = false → vs 24 = .string Y := hΦ 24 (hdp 24 (by kernel_rfl))
          generalize hq : (E || F) = EF at h22 h24 ⊢
          cases EF
          · replace h24 := h24 rfl
            refine wpOp_step rfl (fun K hK => ?_)
            go_simp
            exact hK _ _ ⟨.bool G, by simp [upd, h22, h24], trivial, ⟨hbw, hG, hX⟩, fun _ => rfl⟩
          · refine wpOp_step rfl (fun K hK => ?_)
            go_simp
            exact hK _ _ ⟨undef, by simp [upd, h22], trivial, ⟨hbw, hG, hX⟩, fun (hh : (E || F) = false) => no_tf (hq.symm.trans hh)⟩
        · have h13 : vs 13 = .bool true := hΦ 13 (hdp 13 (by kernel_rfl))
          have h22 : vs 22 = .bool (E || F) := hΦ 22 (hdp 22 (by kernel_rfl))
          have h25 : (E || F) = false → vs 25 = .bool G := hΦ 25 (hdp 25 (by kernel_rfl))
          have hor := hEFG
          generalize (E || F) = EF at h22 h25 hor ⊢
          cases EF
          · replace h25 := h25 rfl
            replace hor : G = true := by simpa using hor
            rw [hor] at h25
            refine wpOp_step rfl (fun K hK => ?_)
            go_simp
            exact hK _ _ ⟨_, by simp [upd, h13, h22, h25], trivial, ⟨hbw, hG, hX⟩, rfl⟩
          · refine wpOp_step rfl (fun K hK => ?_)
            go_simp
            exact hK _ _ ⟨_, by simp [upd, h13, h22], trivial, ⟨hbw, hG, hX⟩, rfl⟩
        · have h13 : vs 13 = .bool true := hΦ 13 (hdp 13 (by kernel_rfl))
          have h26 : vs 26 = .bool true := hΦ 26 (hdp 26 (by kernel_rfl))
          refine wpOp_step rfl (fun K hK => ?_)
          go_simp
          exact hK _ _ ⟨_, by simp [upd, h13, h26], trivial, ⟨hbw, hG, hX⟩, rfl⟩
        · have h27 : vs 27 = .bool true := hΦ 27 (hdp 27 (by kernel_rfl))
          refine wpOp_step rfl (fun K hK => ?_)
          go_simp
          exact hK _ _ ⟨_, by simp [upd, h27], trivial, ⟨hbw, hG, hX⟩, rfl⟩
      · intro m vs w' hm hI hΦ
        have h28 : vs 28 = .bool true := hΦ 28 (by decide)
        rw [h28]
        go_wp2
        first
        | go_ret
        | go_ret3
        exact ⟨rfl, hI.1⟩
end Go.Proofs.Ytlndlgbpnlfflaa.fnGapMove
