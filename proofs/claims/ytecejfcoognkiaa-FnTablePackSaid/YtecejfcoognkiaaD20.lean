/- What DrawTablePack leaves. -/
import Derived.Test.YtecejfcoognkiaaD19
namespace Go.Proofs.Ytecejfcoognkiaa
open Go.RowKit

theorem wpList_append_two {P : Program} {w : World} {ops : Array Oper} {rest : List Oper} {o : Oper} {a : Act} {Q : Exit → Act → World → Prop} (hgd : o.guard = none) (s x : Operand) (t : TypeId)
    (ho : o.op = .call { callee := .builtin .append, args := #[s, x], argTypes := #[t, t] })
    (T : TypeId) (i : TypeInfo) (z : Value) (ht : P.underlying t = some (.slice T)) (hi : P.info? T = some i) (hz : i.zero = some z) (hs3 : i.size = 3) (hb24 : i.bytes = 24) (hzs : z.cells.size = 3)
    (base n0 c0 : Nat) (A0 : Option Addr) (ps : List (Bool × Int × Int)) (hs : a.eval s = .slice A0 n0 c0) (hown : OwnP T w base A0 n0 c0 ps) (B : Nat) (b b' : Bool) (x0 y0 x1 y1 : Int) (hx : a.eval x = .slice (some ⟨B, 0, none⟩) 2 2)
    (hB : w.heap[B]? = some (.cells #[.bool b, .int .i64 x0, .int .i64 y0, .bool b', .int .i64 x1, .int .i64 y1] T (0, 0))) (hsum : n0 + 2 ≤ 4194304) (hbase : base ≤ w.heap.size)
    (h : ∀ g c' w', OwnP T w' base (some ⟨g, 0, none⟩) (n0 + 2) c' (ps ++ [(b, x0, y0), (b', x1, y1)]) → w.grownBy w' (Value.slice A0 n0 c0).ownBlock → ((Value.slice A0 n0 c0).ownBlock = some g ∨ g = w.heap.size) → wpList P ops Q rest (a.put o.dst (.slice (some ⟨g, 0, none⟩) (n0 + 2) c')) w') : wpList P ops Q (o :: rest) a w := by
  refine wpList_append_lies w hgd s x t ho base T i z 3 24 ht hi hz hs3 hb24 hzs (by decide) _ n0 (pieceCells ps) hs hown.2 ⟨B, 0, none⟩ 2 2 (pieceCells [(b, x0, y0), (b', x1, y1)]) hx rfl (World.news_of_block hB) (pieces_oneCell _) (by omega) (by unfold maxLen; omega) (by omega) hbase _ rfl ?_
  intro g c' w' h1 h2 h3 _
  refine h g c' w' ⟨by rw [List.length_append, hown.1]; rfl, ?_⟩ h2 h3
  rw [pieceCells_append]
  exact h1
set_option maxHeartbeats 1600000 in
theorem DrawTablePack_any (A : Option Addr) (n c : Nat) (w : World) (h : Byt w w.heap.size A n) (hnc : n ≤ c) (hc : c ≤ maxLen) :
    Calls Try.prog 14 #[.slice A n c] w (DTabV 29 w) := by
  obtain ⟨i0, hi0, hz0, hz1, hz2⟩ := info_parts pieceInfo5
  have z1 := B3.new w 25 (.string ⟨#[]⟩) (.string ⟨#[]⟩) (.slice none 0 0)
  have hb0 : Below w.heap.size w (w.alloc (.cells #[.string ⟨#[]⟩, .string ⟨#[]⟩, .slice none 0 0] 25)) := balloc (Below.refl _ _) _
  have h' : Byt (w.alloc (.cells #[.string ⟨#[]⟩, .string ⟨#[]⟩, .slice none 0 0] 25)) (w.alloc (.cells #[.string ⟨#[]⟩, .string ⟨#[]⟩, .slice none 0 0] 25)).heap.size A n := (h.below hb0 (Nat.le_refl _)).more (by simp)
  go_enter Try.func14, Try.ntmps14
  go_wp2_with fail
  refine (open_any _ _ _ _ h' hnc hc).mono ?_
  rintro e w2 ⟨r, rfl, hr, hrd, hb2⟩
  simp only [World.size_alloc] at hr
  have z2 := z1.next hb2
  have hb2' := hb0.trans (hb2.mono (by simp))
  clear z1 hb0 h' hb2
  go_wp2_with fail
  refine (table_draw r 0 _ _ hrd (by omega)).mono ?_
  rintro e w3 ⟨F, M, A', n', c', ps, rfl, hF, hM, hn, ho, hr3, hg3⟩
  have z3 := z2.grown hg3 (some_ne (by omega))
  have hb3 := brd hb2' hg3 (by omega)
  have hw2 := hb2'.size
  have hrl := hrd.lt
  have hlt3 : w.heap.size < w3.heap.size := z3.lt
  have hr3l := hr3.lt
  have t4 := B3.new w3 25 (.string F) (.string M) (.slice A' n' c')
  have z4 := z3.alloc (.cells #[.string F, .string M, .slice A' n' c'] 25)
  have hb4 := balloc hb3 (.cells #[.string F, .string M, .slice A' n' c'] 25)
  have r4 := hr3.alloc (.cells #[.string F, .string M, .slice A' n' c'] 25)
  have o4 := ho.alloc (.cells #[.string F, .string M, .slice A' n' c'] 25)
  clear z2 hb2' hg3 ho hrd z3 hb3 hr3
  go_wp2_with fail
  generalize w3.alloc (.cells #[.string F, .string M, .slice A' n' c'] 25) = w4 at z4 t4 hb4 r4 o4 ⊢
  generalize w3.heap.size = t5 at t4 hlt3 hr3l ⊢
  refine (pick_any r _ _ _ r4 (by omega)).mono ?_
  rintro e w5 ⟨K, rfl, hK0, hK1, r5, hg5⟩
  have hK2 := hK1 (by decide)
  have z5 := z4.grown hg5 (some_ne (by omega))
  have t5' := t4.grown hg5 (some_ne (by omega))
  have hb5 := brd hb4 hg5 (by omega)
  have o5 := (o4.reader hg5 hrl).base hw2
  clear z4 t4 hb4 r4 o4 hg5
  rcases (by omega : K = 0 ∨ K = 1) with rfl | rfl
  · have hA5 : ∀ k, (Value.slice A' n' c').ownBlock = some k → k < w5.heap.size := fun k hk => (o5.2.lt k hk).2
    have P5 := o5.pieces
    have hw5 := hb5.size
    have hz5 : w.heap.size < w5.heap.size := z5.lt
    have ht5 : t5 < w5.heap.size := t5'.lt
    go_wp2_with fail
    have hst : OwnP 29 (w5.alloc (.cells #[] 29)) w5.heap.size (some ⟨w5.heap.size, 0, none⟩) 0 0 [] := ⟨rfl, owns_empty w5 w5.heap.size 29 3 (Nat.le_refl _)⟩
    go_loopw [5, 6] (fun x i wr => ∃ (k g m cx : Nat) (qs : List (Bool × Int × Int)), k ≤ n' ∧ i = .int .i64 k ∧ x = .slice (some ⟨g, 0, none⟩) m cx ∧ m ≤ 2 * k ∧ OwnP 29 wr w5.heap.size (some ⟨g, 0, none⟩) m cx qs ∧ Below w5.heap.size w5 wr) (fun _ i _ => n' - (intOf i).toNat)
    case atStart => exact ⟨0, _, 0, 0, [], Nat.zero_le _, rfl, rfl, Nat.le_refl _, hst, balloc (Below.refl _ _) _⟩
    case round =>
      obtain ⟨k, g, m, cx, qs, hk, rfl, rfl, hm, ho, hbw⟩ := hrel
      have tw := t5'.below hbw ht5
      obtain ⟨c0, c1, c2⟩ := tw.cells
      have hzw := hbw.size
      by_cases hlt : k < n'
      · obtain ⟨ad, b, x, y, hA1, hb, hps, q0, _, _, q1, q2⟩ := (P5.below hbw (Nat.le_refl _)).at_ hlt
        subst hA1
        have hkn : (k : Int) < (n' : Int) := by omega
        have P1 := B3.new wr 29 (.bool b) (.int .i64 x) (.int .i64 y)
        have oa := ho.alloc (.cells #[.bool b, .int .i64 x, .int .i64 y] 29)
        have ba := balloc hbw (.cells #[.bool b, .int .i64 x, .int .i64 y] 29)
        obtain ⟨d0, d1, d2⟩ := P1.cells
        by_cases hy1 : 1 < y
        · by_cases hy2 : y < 200
          · go_wp2_with (at_builtin; refine wpList_append_two rfl _ _ 23 rfl 29 i0 _ Try.underlying23 hi0 hz0 hz1 hz2 rfl w5.heap.size _ _ _ _ rfl (OwnP.alloc oa _) (wr.heap.size + 1) b b _ _ _ _ rfl (new_at1 _ _ _) ?_ (balloc ba _).size ?_; omega; intro g2 cx2 w6 o6 hg6 hs6)
            go_roundw
            case rel => exact ⟨k + 1, g2, m + 2, cx2, _, by omega, by go_num, rfl, by omega, o6, (balloc ba _).grown hg6 (balloc ba _).size (fun k hk => (ho.2.lt k hk).1)⟩
            case measure => simp [intOf]; omega
          · go_wp2_with (at_builtin; refine wpList_append_piece2 rfl _ _ 23 rfl 29 i0 _ Try.underlying23 hi0 hz0 hz1 hz2 rfl w5.heap.size _ _ _ _ rfl (OwnP.alloc oa _) (wr.heap.size + 1) b _ _ rfl (new_at1 _ _ _) ?_ (balloc ba _).size ?_; omega; intro g2 cx2 w6 o6 hg6 hs6)
            go_roundw
            case rel => exact ⟨k + 1, g2, m + 1, cx2, _, by omega, by go_num, rfl, by omega, o6, (balloc ba _).grown hg6 (balloc ba _).size (fun k hk => (ho.2.lt k hk).1)⟩
            case measure => simp [intOf]; omega
        · go_wp2_with (at_builtin; refine wpList_append_piece2 rfl _ _ 23 rfl 29 i0 _ Try.underlying23 hi0 hz0 hz1 hz2 rfl w5.heap.size _ _ _ _ rfl (OwnP.alloc oa _) (wr.heap.size + 1) b _ _ rfl (new_at1 _ _ _) ?_ (balloc ba _).size ?_; omega; intro g2 cx2 w6 o6 hg6 hs6)
          go_roundw
          case rel => exact ⟨k + 1, g2, m + 1, cx2, _, by omega, by go_num, rfl, by omega, o6, (balloc ba _).grown hg6 (balloc ba _).size (fun k hk => (ho.2.lt k hk).1)⟩
          case measure => simp [intOf]; omega
      · have hkn : k = n' := by omega
        subst hkn
        obtain ⟨f0, f1, f2⟩ := tw.free
        have z6 := (z5.below hbw hz5).far (p := ⟨t5, 2, none⟩) (by simp only []; omega) (.slice (some ⟨g, 0, none⟩) m cx)
        have t6 := tw.set2 (.slice (some ⟨g, 0, none⟩) m cx)
        have o6 := (ho.set_far (q := ⟨t5, 2, none⟩) (ho.ne_block' tw (by decide)) (.slice (some ⟨g, 0, none⟩) m cx)).base hw5
        have b6 := bset (hb5.trans (hbw.mono hw5)) (p := ⟨t5, 2, none⟩) (by simp only []; omega) (.slice (some ⟨g, 0, none⟩) m cx)
        obtain ⟨x0, x1, x2⟩ := t6.cells
        obtain ⟨d0, d1, d2⟩ := z6.cells
        obtain ⟨p0, p1, p2⟩ := z6.free
        obtain ⟨e0, e1, e2⟩ := (z6.set_ (.string F) (.string M) (.slice (some ⟨g, 0, none⟩) m cx)).cells
        go_wp2_with fail
        refine bodyPost_ret (v := .agg #[.string F, .string M, .slice (some ⟨g, 0, none⟩) m cx]) (by simp only [results, Try.results14]; simp [go_sem, e0, e1, e2]) rfl ?_
        exact ⟨F, M, _, m, cx, qs, rfl, hF, hM, by omega, o6.set3_far z6 (by decide) _ _ _, bset (bset (bset b6 (Nat.le_refl _) _) (Nat.le_refl _) _) (Nat.le_refl _) _⟩
  · obtain ⟨c0, c1, c2⟩ := t5'.cells
    obtain ⟨d0, d1, d2⟩ := z5.cells
    obtain ⟨p0, p1, p2⟩ := z5.free
    obtain ⟨e0, e1, e2⟩ := (z5.set_ (.string F) (.string M) (.slice A' n' c')).cells
    go_wp2_with fail
    refine bodyPost_ret (v := .agg #[.string F, .string M, .slice A' n' c']) (by simp only [results, Try.results14]; simp [go_sem, e0, e1, e2]) rfl ?_
    exact ⟨F, M, A', n', c', ps, rfl, hF, hM, by omega, o5.set3_far z5 (by decide) _ _ _, bset (bset (bset hb5 (Nat.le_refl _) _) (Nat.le_refl _) _) (Nat.le_refl _) _⟩
end Go.Proofs.Ytecejfcoognkiaa
