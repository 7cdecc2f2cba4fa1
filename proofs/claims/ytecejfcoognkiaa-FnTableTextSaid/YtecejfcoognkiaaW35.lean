/- What the reference's l3Cut leaves: two rows of pieces (bounds only). -/
import Derived.Test.YtecejfcoognkiaaW23
namespace Go.Proofs.Ytecejfcoognkiaa
open Go.RowKit

/-- Two rows of pieces that grow side by side. -/
def CutSt (T : TypeId) (w0 wr : World) (ga na ca : Nat) (pa : List (Bool × Int × Int)) (gb nb cb : Nat) (pb : List (Bool × Int × Int)) : Prop :=
  OwnP T wr w0.heap.size (some ⟨ga, 0, none⟩) na ca pa ∧ OwnP T wr w0.heap.size (some ⟨gb, 0, none⟩) nb cb pb ∧ ga ≠ gb ∧ Below w0.heap.size w0 wr
section
variable {T : TypeId} {w0 wr w' : World} {ga na ca gb nb cb g n' c' : Nat} {pa pb p' : List (Bool × Int × Int)}
theorem CutSt.alloc (h : CutSt T w0 wr ga na ca pa gb nb cb pb) (o : Obj) : CutSt T w0 (wr.alloc o) ga na ca pa gb nb cb pb :=
  ⟨⟨h.1.1, h.1.2.alloc o⟩, ⟨h.2.1.1, h.2.1.2.alloc o⟩, h.2.2.1, balloc h.2.2.2 o⟩
theorem CutSt.swap (h : CutSt T w0 wr ga na ca pa gb nb cb pb) : CutSt T w0 wr gb nb cb pb ga na ca pa := ⟨h.2.1, h.1, h.2.2.1.symm, h.2.2.2⟩
theorem CutSt.growA (h : CutSt T w0 wr ga na ca pa gb nb cb pb) (ho : OwnP T w' w0.heap.size (some ⟨g, 0, none⟩) n' c' p') (hg : wr.grownBy w' (some ga)) (hgg : some ga = some g ∨ g = wr.heap.size) : CutSt T w0 w' g n' c' p' gb nb cb pb := by
  obtain ⟨ha, hb, hne, hbw⟩ := h
  have hla := ha.2.lt ga rfl
  have hlb := hb.2.lt gb rfl
  refine ⟨ho, ⟨hb.1, hb.2.kept hg (.inr fun e => hne ?_)⟩, ?_, hbw.grown hg (by omega) fun k hk => by injection hk with hk; omega⟩
  · have e' : some gb = some ga := e
    injection e' with e'
    exact e'.symm
  · rcases hgg with e | e
    · injection e with e
      omega
    · omega
theorem CutSt.growB (h : CutSt T w0 wr ga na ca pa gb nb cb pb) (ho : OwnP T w' w0.heap.size (some ⟨g, 0, none⟩) n' c' p') (hg : wr.grownBy w' (some gb)) (hgg : some gb = some g ∨ g = wr.heap.size) : CutSt T w0 w' ga na ca pa g n' c' p' := (h.swap.growA ho hg hgg).swap
end
theorem size_after {T : TypeId} {w0 wr : World} {ga na ca gb nb cb : Nat} {pa pb : List (Bool × Int × Int)} (h : CutSt T w0 wr ga na ca pa gb nb cb pb) (o : Obj) : w0.heap.size ≤ (wr.alloc o).heap.size := (balloc h.2.2.2 o).size
theorem new_at1 (w : World) (o p : Obj) : ((w.alloc o).alloc p).heap[w.heap.size + 1]? = some p := by
  have := heap_alloc_new (w.alloc o) p
  rwa [World.size_alloc] at this
theorem some_ne {a b : Nat} (h : a ≠ b) : some a ≠ some b := fun e => by
  injection e with e
  exact h e
/-- A piece appended to an owned row of pieces: the row stays where it was, or is new. -/
theorem wpList_append_piece2 {P : Program} {w : World} {ops : Array Oper} {rest : List Oper} {o : Oper} {a : Act} {Q : Exit → Act → World → Prop} (hgd : o.guard = none) (s x : Operand) (t : TypeId)
    (ho : o.op = .call { callee := .builtin .append, args := #[s, x], argTypes := #[t, t] })
    (T : TypeId) (i : TypeInfo) (z : Value) (ht : P.underlying t = some (.slice T)) (hi : P.info? T = some i) (hz : i.zero = some z) (hs3 : i.size = 3) (hb24 : i.bytes = 24) (hzs : z.cells.size = 3)
    (base n0 c0 : Nat) (A0 : Option Addr) (ps : List (Bool × Int × Int)) (hs : a.eval s = .slice A0 n0 c0) (hown : OwnP T w base A0 n0 c0 ps) (B : Nat) (b : Bool) (x0 y0 : Int) (hx : a.eval x = .slice (some ⟨B, 0, none⟩) 1 1)
    (hB : w.heap[B]? = some (.cells #[.bool b, .int .i64 x0, .int .i64 y0] T (0, 0))) (hsum : n0 + 1 ≤ 4194304) (hbase : base ≤ w.heap.size)
    (h : ∀ g c' w', OwnP T w' base (some ⟨g, 0, none⟩) (n0 + 1) c' (ps ++ [(b, x0, y0)]) → w.grownBy w' (Value.slice A0 n0 c0).ownBlock → ((Value.slice A0 n0 c0).ownBlock = some g ∨ g = w.heap.size) → wpList P ops Q rest (a.put o.dst (.slice (some ⟨g, 0, none⟩) (n0 + 1) c')) w') : wpList P ops Q (o :: rest) a w := by
  refine wpList_append_lies w hgd s x t ho base T i z 3 24 ht hi hz hs3 hb24 hzs (by decide) _ n0 (pieceCells ps) hs hown.2 ⟨B, 0, none⟩ 1 1 (pieceCells [(b, x0, y0)]) hx rfl (World.news_of_block hB) (pieces_oneCell _) (by omega) (by unfold maxLen; omega) (by omega) hbase _ rfl ?_
  intro g c' w' h1 h2 h3 _
  refine h g c' w' ⟨by rw [List.length_append, hown.1]; rfl, ?_⟩ h2 h3
  rw [pieceCells_append]
  exact h1
theorem pieceInfo5 : (Try.prog.info? 29).map (fun i => (i.zero, i.size, i.bytes)) = some (some (.agg #[.bool false, .int .i64 0, .int .i64 0]), 3, 24) := by kernel_rfl
/-- Two rows that share nothing, no longer than the first. -/
def TwoCut (T : TypeId) (w : World) (n : Nat) (e : Ending) (w' : World) : Prop := ∃ ga na ca pa gb nb cb pb, e = .returned (.tuple #[.slice (some ⟨ga, 0, none⟩) na ca, .slice (some ⟨gb, 0, none⟩) nb cb]) ∧ CutSt T w w' ga na ca pa gb nb cb pb ∧ na ≤ n ∧ nb ≤ n
set_option maxHeartbeats 1600000 in
theorem l3Cut_any (A : Option Addr) (n c : Nat) (t : Int) (ps : List (Bool × Int × Int)) (w : World) (hn2 : n ≤ 1048576) (hr : Pieces w w.heap.size A n ps) :
    Calls Try.prog 40 #[.slice A n c, .int .i64 t] w (TwoCut 29 w n) := by
  obtain ⟨i0, hi, hz0, hz1, hz2⟩ := info_parts pieceInfo5
  have hst : CutSt 29 w ((w.alloc (.cells #[] 29)).alloc (.cells #[] 29)) w.heap.size 0 0 [] (w.heap.size + 1) 0 0 [] := by
    refine ⟨⟨rfl, (owns_empty w w.heap.size 29 3 (Nat.le_refl _)).alloc _⟩, ⟨rfl, ?_⟩, by omega, balloc (balloc (Below.refl _ _) _) _⟩
    have := owns_empty (w.alloc (.cells #[] 29)) w.heap.size 29 3 (by simp)
    rw [World.size_alloc] at this
    exact this
  go_enter Try.func40, Try.ntmps40
  go_wp2_with fail
  generalize (w.alloc (.cells #[] 29)).alloc (.cells #[] 29) = w1 at hst ⊢
  go_loopw [1, 6, 7, 8] (fun t a b i wr => ∃ (k ga na ca gb nb cb : Nat) (pa pb : List (Bool × Int × Int)) (x : Int), k ≤ n ∧ t = .int .i64 x ∧ i = .int .i64 k ∧ a = .slice (some ⟨ga, 0, none⟩) na ca ∧ b = .slice (some ⟨gb, 0, none⟩) nb cb ∧ na ≤ k ∧ nb ≤ k ∧ CutSt 29 w wr ga na ca pa gb nb cb pb) (fun _ _ _ i _ => n - (intOf i).toNat)
  case atStart => exact ⟨0, _, 0, 0, _, 0, 0, [], [], t, Nat.zero_le _, rfl, rfl, rfl, rfl, Nat.le_refl _, Nat.le_refl _, hst⟩
  case round =>
    obtain ⟨k, ga, na, ca, gb, nb, cb, pa, pb, q, hk, rfl, rfl, rfl, rfl, hna, hnb, hc⟩ := hrel
    by_cases hlt : k < n
    · obtain ⟨ad, b, x, y, hA1, hb, hps, hc0, _, _, hc1, hc2⟩ := (hr.below hc.2.2.2 (Nat.le_refl _)).at_ hlt
      subst hA1
      have hkn : (k : Int) < (n : Int) := by omega
      have P1 := B3.new wr 29 (.bool b) (.int .i64 x) (.int .i64 y)
      have C1 := hc.alloc (.cells #[.bool b, .int .i64 x, .int .i64 y] 29)
      obtain ⟨d0, d1, d2⟩ := P1.cells
      have hga : wr.heap.size ≠ ga := by have := hc.1.2.lt ga rfl; omega
      have hgb : wr.heap.size ≠ gb := by have := hc.2.1.2.lt gb rfl; omega
      have HZ1 := size_after C1
      clear hps hc
      by_cases hqy : q < y
      · by_cases h0 : 0 < q
        · go_wp2_with (first
            | (at_builtin; refine wpList_append_piece2 rfl _ _ 23 rfl 29 i0 _ Try.underlying23 hi hz0 hz1 hz2 rfl w.heap.size _ _ _ _ rfl ((C1.alloc _).1) (wr.heap.size + 1) b _ _ rfl (new_at1 _ _ _) ?_ (HZ1 _) ?_; omega; intro ga2 ca2 w4 hoA hgA hsA; have C2 := (C1.alloc _).growA hoA hgA hsA; have P2 := (P1.alloc _).grown hgA (some_ne hga); obtain ⟨e0, e1, e2⟩ := P2.cells; have HZ2 := size_after C2)
            | (at_builtin; refine wpList_append_piece2 rfl _ _ 23 rfl 29 i0 _ Try.underlying23 hi hz0 hz1 hz2 rfl w.heap.size _ _ _ _ rfl ((C2.alloc _).2.1) (w4.heap.size) b _ _ rfl (heap_alloc_new _ _) ?_ (HZ2 _) ?_; omega; intro gb2 cb2 w5 hoB hgB hsB; have C3 := (C2.alloc _).growB hoB hgB hsB; have P3 := (P2.alloc _).grown hgB (some_ne hgb); obtain ⟨f0, f1, f2⟩ := P3.cells))
          go_roundw
          case rel => exact ⟨k + 1, ga2, na + 1, ca2, gb2, nb + 1, cb2, _, _, _, by omega, rfl, by go_num, rfl, rfl, by omega, by omega, C3⟩
          case measure => simp [intOf]; omega
        · by_cases hy : 0 < y
          · go_wp2_with (at_builtin; refine wpList_append_piece2 rfl _ _ 23 rfl 29 i0 _ Try.underlying23 hi hz0 hz1 hz2 rfl w.heap.size _ _ _ _ rfl ((C1.alloc _).2.1) (wr.heap.size + 1) b _ _ rfl (new_at1 _ _ _) ?_ (HZ1 _) ?_; omega; intro gb2 cb2 w5 hoB hgB hsB; have C3 := (C1.alloc _).growB hoB hgB hsB; have P3 := (P1.alloc _).grown hgB (some_ne hgb); obtain ⟨f0, f1, f2⟩ := P3.cells)
            go_roundw
            case rel => exact ⟨k + 1, ga, na, ca, gb2, nb + 1, cb2, _, _, _, by omega, rfl, by go_num, rfl, rfl, by omega, by omega, C3⟩
            case measure => simp [intOf]; omega
          · go_wp2_with fail
            go_roundw
            case rel => exact ⟨k + 1, ga, na, ca, gb, nb, cb, _, _, _, by omega, rfl, by go_num, rfl, rfl, by omega, by omega, C1⟩
            case measure => simp [intOf]; omega
      · by_cases hy : 0 < y
        · go_wp2_with (at_builtin; refine wpList_append_piece2 rfl _ _ 23 rfl 29 i0 _ Try.underlying23 hi hz0 hz1 hz2 rfl w.heap.size _ _ _ _ rfl ((C1.alloc _).1) (wr.heap.size + 1) b _ _ rfl (new_at1 _ _ _) ?_ (HZ1 _) ?_; omega; intro ga2 ca2 w4 hoA hgA hsA; have C2 := (C1.alloc _).growA hoA hgA hsA; have P2 := (P1.alloc _).grown hgA (some_ne hga); obtain ⟨e0, e1, e2⟩ := P2.cells; have HZ2 := size_after C2)
          go_roundw
          case rel => exact ⟨k + 1, ga2, na + 1, ca2, gb, nb, cb, _, _, _, by omega, rfl, by go_num, rfl, rfl, by omega, by omega, C2⟩
          case measure => simp [intOf]; omega
        · go_wp2_with fail
          go_roundw
          case rel => exact ⟨k + 1, ga, na, ca, gb, nb, cb, _, _, _, by omega, rfl, by go_num, rfl, rfl, by omega, by omega, C1⟩
          case measure => simp [intOf]; omega
    · have hkn : k = n := by omega
      subst hkn
      go_wp2
      go_returns
      exact ⟨ga, na, ca, pa, gb, nb, cb, pb, rfl, hc, hna, hnb⟩
end Go.Proofs.Ytecejfcoognkiaa
