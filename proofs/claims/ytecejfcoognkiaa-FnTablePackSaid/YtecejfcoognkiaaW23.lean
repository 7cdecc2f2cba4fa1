/- Contracts of TablePack. -/
import Derived.Test.YtecejfcoognkiaaW18
import Derived.Test.YtecejfcoognkiaaPk
import Derived.Test.YtecejfcoognkiaaPb
import Derived.OwnWalk
import Derived.WalkSmall
import Derived.StillTailTactics
import Derived.IntWalk
import Derived.Deep.RegionLaw
import Derived.Deep.RegionHeld3
import Derived.RegionTactic
import Derived.BigQuiet
import Derived.Deep.QuietTactic
import Derived.Deep.AppendLies
import Derived.Laws.AppendOwnNone
import Derived.Lib.Builder
namespace Go.Proofs.Ytecejfcoognkiaa
open Go.RowKit

theorem pieces_oneCell (ps : List (Bool × Int × Int)) : ∀ u ∈ pieceCells ps, u.oneCell' = true := by
  intro u hu
  simp only [pieceCells, List.mem_flatMap] at hu
  obtain ⟨p, _, hp⟩ := hu
  simp only [List.mem_cons, List.mem_nil_iff, or_false] at hp
  rcases hp with rfl | rfl | rfl <;> rfl
theorem own_form {T : TypeId} {w : World} {base s n : Nat} {v : Value} {xs : List Value} (h : w.ownsRow base T s v n xs) : ∃ A c, v = .slice A n c := by
  rcases h.2 with ⟨hv, h0⟩ | ⟨g, cap, _, hv, _⟩
  · subst h0
    exact ⟨_, _, hv⟩
  · exact ⟨_, _, hv⟩
theorem blk3 {w : World} {b : Nat} {T : TypeId} {x y z : Value} (h : w.heap[b]? = some (.cells #[x, y, z] T (0, 0))) :
    w.cell? ⟨b, 0, none⟩ = some x ∧ w.cell? ⟨b, 1, none⟩ = some y ∧ w.cell? ⟨b, 2, none⟩ = some z ∧ w.frozen? ⟨b, 0, none⟩ = false ∧ w.frozen? ⟨b, 1, none⟩ = false ∧ w.frozen? ⟨b, 2, none⟩ = false :=
  ⟨Lib.cell_of_heap h 0, Lib.cell_of_heap h 1, Lib.cell_of_heap h 2, Lib.frozen_of_heap h 0, Lib.frozen_of_heap h 1, Lib.frozen_of_heap h 2⟩
theorem at_new1 (w : World) (a b c d : Obj) : ((((w.alloc a).alloc b).alloc c).alloc d).heap[w.heap.size + 1]? = some b := by
  rw [Below.heap_alloc _ _ _ (by simp only [World.size_alloc]; omega), Below.heap_alloc _ _ _ (by simp only [World.size_alloc]; omega)]
  have := heap_alloc_new (w.alloc a) b
  simpa only [World.size_alloc] using this
theorem at_new2 (w : World) (a b c d : Obj) : ((((w.alloc a).alloc b).alloc c).alloc d).heap[w.heap.size + 1 + 1]? = some c := by
  rw [Below.heap_alloc _ _ _ (by simp only [World.size_alloc]; omega)]
  have := heap_alloc_new ((w.alloc a).alloc b) c
  simpa only [World.size_alloc] using this
/-- A piece appended to an owned row of pieces. -/
theorem wpList_append_piece {P : Program} {w : World} {ops : Array Oper} {rest : List Oper} {o : Oper} {a : Act} {Q : Exit → Act → World → Prop} (hgd : o.guard = none) (s x : Operand) (t : TypeId)
    (ho : o.op = .call { callee := .builtin .append, args := #[s, x], argTypes := #[t, t] })
    (T : TypeId) (i : TypeInfo) (z : Value) (ht : P.underlying t = some (.slice T)) (hi : P.info? T = some i) (hz : i.zero = some z) (hs3 : i.size = 3) (hb24 : i.bytes = 24) (hzs : z.cells.size = 3)
    (base n0 c0 : Nat) (A0 : Option Addr) (ps : List (Bool × Int × Int)) (hs : a.eval s = .slice A0 n0 c0) (hown : OwnP T w base A0 n0 c0 ps) (B : Nat) (b : Bool) (x0 y0 : Int) (hx : a.eval x = .slice (some ⟨B, 0, none⟩) 1 1)
    (hB : w.heap[B]? = some (.cells #[.bool b, .int .i64 x0, .int .i64 y0] T (0, 0))) (hsum : n0 + 1 ≤ 4194304) (hbase : base ≤ w.heap.size)
    (h : ∀ g c' w', OwnP T w' base (some ⟨g, 0, none⟩) (n0 + 1) c' (ps ++ [(b, x0, y0)]) → w.grownBy w' (Value.slice A0 n0 c0).ownBlock → g < w'.heap.size → wpList P ops Q rest (a.put o.dst (.slice (some ⟨g, 0, none⟩) (n0 + 1) c')) w') : wpList P ops Q (o :: rest) a w := by
  refine wpList_append_lies w hgd s x t ho base T i z 3 24 ht hi hz hs3 hb24 hzs (by decide) _ n0 (pieceCells ps) hs hown.2 ⟨B, 0, none⟩ 1 1 (pieceCells [(b, x0, y0)]) hx rfl (World.news_of_block hB) (pieces_oneCell _) (by omega) (by unfold maxLen; omega) (by omega) hbase _ rfl ?_
  intro g c' w' h1 h2 _ h4
  refine h g c' w' ⟨by rw [List.length_append, hown.1]; rfl, ?_⟩ h2 h4
  rw [pieceCells_append]
  exact h1
theorem pieceInfo3 : (Try.prog.info? 29).map (fun i => (i.zero, i.size, i.bytes)) = some (some (.agg #[.bool false, .int .i64 0, .int .i64 0]), 3, 24) := by kernel_rfl
set_option maxHeartbeats 400000 in
theorem ownTable_any (f m : ByteArray) (A : Option Addr) (n c base : Nat) (ps : List (Bool × Int × Int)) (w : World) (hn2 : n ≤ 1048576) (ho : OwnP 29 w base A n c ps) :
    Calls Try.prog 29 #[.agg #[.string f, .string m, .slice A n c]] w (MadeT 29 w f.data.toList m.data.toList ps) := by
  obtain ⟨i0, hi, hz0, hz1, hz2⟩ := info_parts pieceInfo3
  have hown0 := owns_empty (((w.alloc (.cells #[.string f, .string m, .slice A n c] 25)).alloc (.cells #[.string ⟨#[]⟩, .string ⟨#[]⟩, .slice none 0 0] 25)).alloc (.cells #[.string f, .string m, .slice A n c] 25)) (w.heap.size + 1 + 1 + 1) 29 3 (by simp)
  simp only [World.size_alloc] at hown0
  have ho4 := (((ho.2.alloc (.cells #[.string f, .string m, .slice A n c] 25)).alloc (.cells #[.string ⟨#[]⟩, .string ⟨#[]⟩, .slice none 0 0] 25)).alloc (.cells #[.string f, .string m, .slice A n c] 25)).alloc (.cells #[] 29)
  have m1 := at_new1 w (.cells #[.string f, .string m, .slice A n c] 25) (.cells #[.string ⟨#[]⟩, .string ⟨#[]⟩, .slice none 0 0] 25) (.cells #[.string f, .string m, .slice A n c] 25) (.cells #[] 29)
  have m2 := at_new2 w (.cells #[.string f, .string m, .slice A n c] 25) (.cells #[.string ⟨#[]⟩, .string ⟨#[]⟩, .slice none 0 0] 25) (.cells #[.string f, .string m, .slice A n c] 25) (.cells #[] 29)
  rcases ho.2.2 with ⟨hv, h0⟩ | ⟨g, cap, cur, hv, hgb, hgg, _⟩
  · injection hv with hA hn hc
    subst hA hc hn
    obtain rfl : ps = [] := List.eq_nil_of_length_eq_zero ho.1
    clear ho h0 ho4 m1 m2
    go_enter Try.func29, Try.ntmps29
    go_wp2_with (at_builtin; refine wpList_append_own_none _ rfl _ _ 23 rfl (w.heap.size + 1 + 1 + 1) 29 i0 3 Try.underlying23 hi _ _ _ rfl hown0 rfl ?_)
    go_returns
    refine ⟨_, _, _, rfl, ⟨rfl, owns_base (base := w.heap.size + 1 + 1 + 1) ?_ (by omega)⟩, (by repeat (first | exact Below.refl _ _ | assumption | (refine bstep ?_ (by assumption)) | refine balloc ?_ _ | refine bdrew ?_ | refine bdrewN ?_ _ | refine bset ?_ (by first | (simp; done) | (simp; omega)) _))⟩
    have := owns_empty (((w.alloc (.cells #[.string f, .string m, .slice none 0 0] 25)).alloc (.cells #[.string f, .string m, .slice (some ⟨w.heap.size + 1 + 1 + 1, 0, none⟩) 0 0] 25)).alloc (.cells #[.string f, .string m, .slice (some ⟨w.heap.size + 1 + 1 + 1, 0, none⟩) 0 0] 25)) (w.heap.size + 1 + 1 + 1) 29 3 (by simp)
    simp only [World.size_alloc] at this
    exact this
  · injection hv with hA hn hc
    subst hA hc
    have hl := ho.1
    have HL := Lib.hid hl
    have HP := Lib.hid (pieceCells_length ps)
    have hcl := ho4.cells (g := g) rfl
    have HC := Lib.hid hcl
    have hcl2 := HP.out
    rw [hl] at hcl2
    have HL2 := Lib.hid hcl2
    have M1 := Lib.hid m1
    have M2 := Lib.hid m2
    clear hl ho hcl hcl2 ho4 hgg m1 m2
    go_enter Try.func29, Try.ntmps29
    go_wp2_with (at_builtin; refine wpList_append_own _ rfl _ _ 23 rfl (w.heap.size + 1 + 1 + 1) 29 i0 _ 3 24 Try.underlying23 hi hz0 hz1 hz2 rfl (by decide) _ _ _ rfl hown0 ⟨g, 0, none⟩ n c (pieceCells ps) rfl HL2.out HC.out (pieces_oneCell ps) (by unfold maxLen; omega) (by omega) (by simp) ?_; intro v' w1 hown1 hgrow1 _; obtain ⟨A1, c1, rfl⟩ := own_form hown1; simp only [Nat.zero_add, List.nil_append] at hown1; change World.grownBy _ w1 (some (w.heap.size + 1 + 1 + 1)) at hgrow1; have hz := hgrow1.size; simp only [World.size_alloc] at hz; have k1 := (hgrow1.block (w.heap.size + 1) (by simp only [World.size_alloc]; omega) (by intro h; injection h with h; omega)).trans M1.out; have k2 := (hgrow1.block (w.heap.size + 1 + 1) (by simp only [World.size_alloc]; omega) (by intro h; injection h with h; omega)).trans M2.out; obtain ⟨k10, k11, k12, f10, f11, f12⟩ := blk3 k1; obtain ⟨k20, k21, k22, f20, f21, f22⟩ := blk3 k2; clear k1 k2)
    refine bodyPost_ret (v := .agg #[.string f, .string m, .slice A1 n c1]) (by simp [results, Try.results29, go_sem, k10, k11, k12]) rfl ?_
    have hb1 : Below w.heap.size w w1 := (balloc (balloc (balloc (balloc (Below.refl _ _) _) _) _) _).grown hgrow1 (by simp only [World.size_alloc]; omega) (fun i hi => by injection hi with hi; omega)
    have hown2 : ((((w1.setCell ⟨w.heap.size + 1 + 1, 2, none⟩ (.slice A1 n c1)).setCell ⟨w.heap.size + 1, 0, none⟩ (.string f)).setCell ⟨w.heap.size + 1, 1, none⟩ (.string m)).setCell ⟨w.heap.size + 1, 2, none⟩ (.slice A1 n c1)).ownsRow w.heap.size 29 3 (.slice A1 n c1) n (pieceCells ps) := by
      refine owns_base (base := w.heap.size + 1 + 1 + 1) ?_ (by omega)
      repeat (first | exact hown1 | (refine ownsRow_setCell_below ?_ (by first | (simp; done) | (simp; omega)) _))
    have hb2 : Below w.heap.size w ((((w1.setCell ⟨w.heap.size + 1 + 1, 2, none⟩ (.slice A1 n c1)).setCell ⟨w.heap.size + 1, 0, none⟩ (.string f)).setCell ⟨w.heap.size + 1, 1, none⟩ (.string m)).setCell ⟨w.heap.size + 1, 2, none⟩ (.slice A1 n c1)) := bset (bset (bset (bset hb1 (by simp only []; omega) _) (by simp only []; omega) _) (by simp only []; omega) _) (by simp only []; omega) _
    exact ⟨A1, n, c1, rfl, ⟨HL.out, hown2⟩, hb2⟩
theorem heap_lt3 {w : World} {r : Nat} {o : Obj} (h : w.heap[r]? = some o) : r < w.heap.size := (Array.getElem?_eq_some_iff.1 h).1
theorem set3 {w : World} {b : Nat} {T : TypeId} {x y z x' y' z' : Value} (h : w.heap[b]? = some (.cells #[x, y, z] T (0, 0))) :
    (((w.setCell ⟨b, 0, none⟩ x').setCell ⟨b, 1, none⟩ y').setCell ⟨b, 2, none⟩ z').heap[b]? = some (.cells #[x', y', z'] T (0, 0)) :=
  heap_setCell_same _ b 2 _ T z' (heap_setCell_same _ b 1 _ T y' (heap_setCell_same _ b 0 _ T x' h))
theorem set3_far {w : World} {b k : Nat} {x' y' z' : Value} (h : k ≠ b) : (((w.setCell ⟨b, 0, none⟩ x').setCell ⟨b, 1, none⟩ y').setCell ⟨b, 2, none⟩ z').heap[k]? = w.heap[k]? := by
  rw [Below.heap_setCell _ _ _ _ h, Below.heap_setCell _ _ _ _ h, Below.heap_setCell _ _ _ _ h]
theorem pieceCells_set_last {q : List (Bool × Int × Int)} {b : Bool} {x y z : Int} {j : Nat} (hq : q.length = j) : (pieceCells (q ++ [(b, x, y)])).set (j * 3 + 2) (.int .i64 z) = pieceCells (q ++ [(b, x, z)]) := by
  have hl : (pieceCells q).length = j * 3 := by rw [pieceCells_length, hq]
  rw [pieceCells_append, pieceCells_append, List.set_append_right _ _ (by omega), hl, show j * 3 + 2 - j * 3 = 2 by omega]
  rfl
theorem pieceCells_last {q : List (Bool × Int × Int)} {b : Bool} {x y : Int} {j : Nat} (hq : q.length = j) : (pieceCells (q ++ [(b, x, y)]))[j * 3]? = some (.bool b) ∧ (pieceCells (q ++ [(b, x, y)]))[j * 3 + 1]? = some (.int .i64 x) ∧ (pieceCells (q ++ [(b, x, y)]))[j * 3 + 2]? = some (.int .i64 y) :=
  pieceCells_at (by rw [List.getElem?_append_right (by omega), hq, Nat.sub_self]; rfl)
set_option maxRecDepth 100000 in
set_option maxHeartbeats 3200000 in
theorem specTablePack_any (f m : ByteArray) (A : Option Addr) (n c base : Nat) (ps : List (Bool × Int × Int)) (w : World) (hf : f.size ≤ 1048576) (hm : m.size ≤ 1048576) (hn2 : n ≤ 1048576) (ho : OwnP 29 w base A n c ps) :
    Calls Try.prog 17 #[.agg #[.string f, .string m, .slice A n c]] w (MadeT 29 w (packF f.data.toList m.data.toList ps) (packM f.data.toList m.data.toList ps) (packP f.data.toList m.data.toList ps)) := by
  have hl := ho.1
  have ho2 : OwnP 29 ((w.alloc (.cells #[.string f, .string m, .slice A n c] 25)).alloc (.cells #[.string ⟨#[]⟩, .string ⟨#[]⟩, .slice none 0 0] 25)) base A n c ps := ⟨hl, (ho.2.alloc _).alloc _⟩
  have k0 := (Below.heap_alloc (w.alloc (.cells #[.string f, .string m, .slice A n c] 25)) (.cells #[.string ⟨#[]⟩, .string ⟨#[]⟩, .slice none 0 0] 25) w.heap.size (by simp)).trans (heap_alloc_new w _)
  have k1 : ((w.alloc (.cells #[.string f, .string m, .slice A n c] 25)).alloc (.cells #[.string ⟨#[]⟩, .string ⟨#[]⟩, .slice none 0 0] 25)).heap[w.heap.size + 1]? = some (.cells #[.string ⟨#[]⟩, .string ⟨#[]⟩, .slice none 0 0] 25) := by
    have := heap_alloc_new (w.alloc (.cells #[.string f, .string m, .slice A n c] 25)) (.cells #[.string ⟨#[]⟩, .string ⟨#[]⟩, .slice none 0 0] 25)
    simpa only [World.size_alloc] using this
  have K0 := Lib.hid k0
  have K1 := Lib.hid k1
  have HL := Lib.hid hl
  clear hl ho k0 k1
  cases ht : tableB f.data.toList m.data.toList ps
  · obtain ⟨e1, e2, e3⟩ := pack_0 ht
    rw [e1, e2, e3]
    have H := Lib.hid ht
    clear ht e1 e2 e3
    go_enter Try.func17, Try.ntmps17
    go_wp2_with fail
    refine (ownTable_any _ _ _ _ _ _ _ _ hn2 ho2).mono ?_
    rintro e w1 ⟨A1, n1, c1, rfl, ho1, hb1⟩
    obtain rfl : n = n1 := by rw [← HL.out, ho1.1]
    rw [mk_of, mk_of]
    have hz := hb1.size
    simp only [World.size_alloc] at hz ho1
    have q0 := (hb1.block w.heap.size (by simp only [World.size_alloc]; omega)).trans K0.out
    have q1 := (hb1.block (w.heap.size + 1) (by simp only [World.size_alloc]; omega)).trans K1.out
    have r0 := set3 (x' := .string f) (y' := .string m) (z' := .slice A1 n c1) q0
    have r1 := (set3_far (x' := .string f) (y' := .string m) (z' := .slice A1 n c1) (w := w1) (b := w.heap.size) (k := w.heap.size + 1) (by omega)).trans q1
    have ho3 : OwnP 29 (((w1.setCell ⟨w.heap.size, 0, none⟩ (.string f)).setCell ⟨w.heap.size, 1, none⟩ (.string m)).setCell ⟨w.heap.size, 2, none⟩ (.slice A1 n c1)) (w.heap.size + 1 + 1) A1 n c1 ps :=
      ⟨ho1.1, ownsRow_setCell_below (ownsRow_setCell_below (ownsRow_setCell_below ho1.2 (by simp only []; omega) _) (by simp only []; omega) _) (by simp only []; omega) _⟩
    have hb3 : Below w.heap.size w (((w1.setCell ⟨w.heap.size, 0, none⟩ (.string f)).setCell ⟨w.heap.size, 1, none⟩ (.string m)).setCell ⟨w.heap.size, 2, none⟩ (.slice A1 n c1)) :=
      bset (bset (bset ((balloc (balloc (Below.refl _ _) _) _).trans (hb1.mono (by simp only [World.size_alloc]; omega))) (Nat.le_refl _) _) (Nat.le_refl _) _) (Nat.le_refl _) _
    obtain ⟨a0, a1, a2, af0, af1, af2⟩ := blk3 q0
    have Q1 := Lib.hid q1
    have R0 := Lib.hid r0
    have R1 := Lib.hid r1
    clear q0 q1 r0 r1
    go_wp2_with fail
    generalize ((w1.setCell ⟨w.heap.size, 0, none⟩ (.string f)).setCell ⟨w.heap.size, 1, none⟩ (.string m)).setCell ⟨w.heap.size, 2, none⟩ (.slice A1 n c1) = w2 at ho3 hb3 R0 R1 ⊢
    clear a0 a1 a2 af0 af1 af2 ho1 hb1 ho2 K0 K1 Q1 hz
    refine (specTableValid_any _ _ _ _ _ _ _ hf hm hn2 ho3.pieces).mono ?_
    rw [H.out]
    rintro e w3 ⟨rfl, hb4⟩
    have hz2' := heap_lt3 R1.out
    have hz3 := hb4.size
    have s0 := (hb4.block w.heap.size (by omega)).trans R0.out
    have s1 := (hb4.block (w.heap.size + 1) (by omega)).trans R1.out
    have hb5 := bstep hb3 hb4
    have ho4 := ho3.below hb4
    have hp4 := ho4.pieces
    clear hb3 hb4 ho3 R0 R1
    obtain ⟨a0, a1, a2, af0, af1, af2⟩ := blk3 s0
    obtain ⟨c0, c1', c2, cf0, cf1, cf2⟩ := blk3 s1
    have S0 := Lib.hid s0
    have S1 := Lib.hid s1
    clear s0 s1
    obtain ⟨e0, e1, e2, _, _, _⟩ := blk3 (set3 (x' := .string ⟨#[]⟩) (y' := .string ⟨#[]⟩) (z' := .slice none 0 0) S1.out)
    have hw1 : w.heap.size + 1 < w3.heap.size := by omega
    go_wp2
    refine bodyPost_ret (v := .agg #[.string ⟨#[]⟩, .string ⟨#[]⟩, .slice none 0 0]) (by simp only [results, Try.results17]; simp [go_sem, e0, e1, e2]) rfl ?_
    refine ⟨none, 0, 0, rfl, ownP_nil _ _ _, ?_⟩
    exact bset (bset (bset hb5 (by simp only []; omega) _) (by simp only []; omega) _) (by simp only []; omega) _
  · obtain ⟨e1, e2, e3⟩ := pack_1 ht
    rw [e1, e2, e3]
    have H := Lib.hid ht
    clear ht e1 e2 e3
    obtain ⟨i0, hi, hz0, hz1, hz2⟩ := info_parts pieceInfo3
    go_enter Try.func17, Try.ntmps17
    go_wp2_with fail
    refine (ownTable_any _ _ _ _ _ _ _ _ hn2 ho2).mono ?_
    rintro e w1 ⟨A1, n1, c1, rfl, ho1, hb1⟩
    obtain rfl : n = n1 := by rw [← HL.out, ho1.1]
    rw [mk_of, mk_of]
    have hz := hb1.size
    simp only [World.size_alloc] at hz ho1
    have q0 := (hb1.block w.heap.size (by simp only [World.size_alloc]; omega)).trans K0.out
    have q1 := (hb1.block (w.heap.size + 1) (by simp only [World.size_alloc]; omega)).trans K1.out
    have r0 := set3 (x' := .string f) (y' := .string m) (z' := .slice A1 n c1) q0
    have r1 := (set3_far (x' := .string f) (y' := .string m) (z' := .slice A1 n c1) (w := w1) (b := w.heap.size) (k := w.heap.size + 1) (by omega)).trans q1
    have ho3 : OwnP 29 (((w1.setCell ⟨w.heap.size, 0, none⟩ (.string f)).setCell ⟨w.heap.size, 1, none⟩ (.string m)).setCell ⟨w.heap.size, 2, none⟩ (.slice A1 n c1)) (w.heap.size + 1 + 1) A1 n c1 ps :=
      ⟨ho1.1, ownsRow_setCell_below (ownsRow_setCell_below (ownsRow_setCell_below ho1.2 (by simp only []; omega) _) (by simp only []; omega) _) (by simp only []; omega) _⟩
    have hb3 : Below w.heap.size w (((w1.setCell ⟨w.heap.size, 0, none⟩ (.string f)).setCell ⟨w.heap.size, 1, none⟩ (.string m)).setCell ⟨w.heap.size, 2, none⟩ (.slice A1 n c1)) :=
      bset (bset (bset ((balloc (balloc (Below.refl _ _) _) _).trans (hb1.mono (by simp only [World.size_alloc]; omega))) (Nat.le_refl _) _) (Nat.le_refl _) _) (Nat.le_refl _) _
    obtain ⟨a0, a1, a2, af0, af1, af2⟩ := blk3 q0
    have Q1 := Lib.hid q1
    have R0 := Lib.hid r0
    have R1 := Lib.hid r1
    clear q0 q1 r0 r1
    go_wp2_with fail
    generalize ((w1.setCell ⟨w.heap.size, 0, none⟩ (.string f)).setCell ⟨w.heap.size, 1, none⟩ (.string m)).setCell ⟨w.heap.size, 2, none⟩ (.slice A1 n c1) = w2 at ho3 hb3 R0 R1 ⊢
    clear a0 a1 a2 af0 af1 af2 ho1 hb1 ho2 K0 K1 Q1 hz
    refine (specTableValid_any _ _ _ _ _ _ _ hf hm hn2 ho3.pieces).mono ?_
    rw [H.out]
    rintro e w3 ⟨rfl, hb4⟩
    have hz2' := heap_lt3 R1.out
    have hz3 := hb4.size
    have s0 := (hb4.block w.heap.size (by omega)).trans R0.out
    have s1 := (hb4.block (w.heap.size + 1) (by omega)).trans R1.out
    have hb5 := bstep hb3 hb4
    have ho4 := ho3.below hb4
    have hp4 := ho4.pieces
    clear hb3 hb4 ho3 R0 R1
    obtain ⟨a0, a1, a2, af0, af1, af2⟩ := blk3 s0
    obtain ⟨c0, c1', c2, cf0, cf1, cf2⟩ := blk3 s1
    have S0 := Lib.hid s0
    have S1 := Lib.hid s1
    clear s0 s1
    have how := owns_empty w3 w3.heap.size 29 3 (Nat.le_refl _)
    have hall := fun k => packL_all (tableB_sum H.out).1 k
    have hsum := fun k => packL_length ps k
    have HALL := Lib.hid hall
    have HLEN := Lib.hid hsum
    obtain ⟨base3, hbase3⟩ : ∃ b, w3.heap.size = b := ⟨_, rfl⟩
    have HB3 := Lib.hid hbase3
    have hlt0 : w.heap.size < base3 := by omega
    have hlt1 : w.heap.size + 1 < base3 := by omega
    rw [hbase3] at how hp4
    clear hall hsum hbase3 hz3 hz2' ho4
    go_wp2
    go_loopw [3, 4] (fun o i wr => ∃ (k j c' : Nat) (A' : Option Addr), k ≤ n ∧ i = .int .i64 k ∧ o = .slice A' j c' ∧ OwnP 29 wr base3 A' j c' (packL (ps.take k)) ∧ Below base3 w3 wr) (fun _ i _ => n - (intOf i).toNat)
    case atStart =>
      have hb' : Below base3 w3 (w3.alloc (.cells #[] 29)) := (Below.refl _ _).alloc (by rw [HB3.out]; exact Nat.le_refl _) _
      exact ⟨0, 0, 0, _, Nat.zero_le _, rfl, rfl, ⟨rfl, by rw [← HB3.out] at how ⊢; exact how⟩, hb'⟩
    case round =>
      clear how a0 a1 a2 af0 af1 af2 c0 c1' c2 cf0 cf1 cf2
      obtain ⟨k, j, c', A', hk, rfl, rfl, ho, hbw⟩ := hrel
      have hz := hbw.size
      have hzb : base3 ≤ wr.heap.size := by have := HB3.out; omega
      have s0 := (hbw.block w.heap.size hlt0).trans S0.out
      obtain ⟨a0, a1, a2, _, _, _⟩ := blk3 s0
      have hw0 : w.heap.size < wr.heap.size := by omega
      have hl := HLEN.out k
      have HPL := Lib.hid ho.1
      by_cases hlt : k < n
      · obtain ⟨ad, b, x, y, hA1, hb, hps, hc0, _, _, hc1, hc2⟩ := (hp4.below hbw (Nat.le_refl _)).at_ hlt
        subst hA1
        have hstep := packL_step hps
        have hr := pieceB_range (tableB_pieceB H.out hps)
        have hrm : roomN f.data.toList.length m.data.toList.length b ≤ 1048576 := by
          cases b
          · exact hf
          · exact hm
        obtain ⟨hx0, hy1, hxy⟩ := hr
        have hx9 : x ≤ 1048576 := by omega
        have hy9 : y ≤ 1048576 := by omega
        have hadb : ad.block < wr.heap.size := by omega
        have hkn : (k : Int) < (n : Int) := by omega
        have hpall := HALL.out k
        rcases last_cases (packL (ps.take k)) with h0 | ⟨q, ⟨b', x', y'⟩, h0⟩
        · obtain rfl : j = 0 := by rw [← ho.1, h0]; rfl
          rw [h0, packStep_nil] at hstep
          have HS : Hid (packL (ps.take (k + 1)) = packL (ps.take k) ++ [(b, x, y)]) := Lib.hid (by rw [hstep, h0]; rfl)
          clear hstep hpall h0 hps hl
          have hB : ∀ q, (((wr.alloc (.cells #[.bool b, .int .i64 x, .int .i64 y] 29)).drewN q).alloc (.cells #[.bool b, .int .i64 x, .int .i64 y] 29)).heap[wr.heap.size + 1]? = some (.cells #[.bool b, .int .i64 x, .int .i64 y] 29) := fun q => by
            have := heap_alloc_new ((wr.alloc (.cells #[.bool b, .int .i64 x, .int .i64 y] 29)).drewN q) (.cells #[.bool b, .int .i64 x, .int .i64 y] 29)
            rwa [show ((wr.alloc (.cells #[.bool b, .int .i64 x, .int .i64 y] 29)).drewN q).heap.size = wr.heap.size + 1 from World.size_alloc _ _] at this
          have hO : ∀ q, OwnP 29 (((wr.alloc (.cells #[.bool b, .int .i64 x, .int .i64 y] 29)).drewN q).alloc (.cells #[.bool b, .int .i64 x, .int .i64 y] 29)) base3 A' 0 c' (packL (ps.take k)) := fun q => ⟨ho.1, World.ownsRow.alloc (w := (wr.alloc (.cells #[.bool b, .int .i64 x, .int .i64 y] 29)).drewN q) (ho.2.alloc (.cells #[.bool b, .int .i64 x, .int .i64 y] 29)) _⟩
          have hZ : ∀ q, base3 ≤ (((wr.alloc (.cells #[.bool b, .int .i64 x, .int .i64 y] 29)).drewN q).alloc (.cells #[.bool b, .int .i64 x, .int .i64 y] 29)).heap.size := fun q => by
            rw [World.size_alloc, show ((wr.alloc (.cells #[.bool b, .int .i64 x, .int .i64 y] 29)).drewN q).heap.size = wr.heap.size + 1 from World.size_alloc _ _]
            omega
          have HBB := Lib.hid hB
          have HOO := Lib.hid hO
          have HZZ := Lib.hid hZ
          clear hB hO hZ
          go_wp2
          go_quiet (fail)
          go_wp2_with (at_builtin; refine wpList_append_piece rfl _ _ 23 rfl 29 i0 _ Try.underlying23 hi hz0 hz1 hz2 rfl base3 _ _ _ _ rfl (HOO.out _) (wr.heap.size + 1) b x y rfl (HBB.out _) ?_ (HZZ.out _) ?_; omega; intro gg cap w4 hown4 hgrow4 hlt4)
          go_roundw
          case rel => exact ⟨k + 1, 0 + 1, cap, some ⟨gg, 0, none⟩, by omega, by go_num, rfl, by rw [HS.out]; exact hown4, (below_drewN (hbw.alloc hzb _) _ |>.alloc (Nat.le_trans hzb (by simp)) _).grown hgrow4 (by exact HZZ.out _) (fun i hi => (ho.2.lt i hi).1)⟩
          case measure => simp [intOf]; omega
        · obtain ⟨l, hql⟩ : ∃ l, q.length = l := ⟨_, rfl⟩
          obtain rfl : j = l + 1 := by rw [← ho.1, h0, List.length_append, hql]; rfl
          obtain ⟨g, c2, hv, hbg, hgl⟩ := ho.2.form (by omega)
          injection hv with hA _ hc
          subst hA hc
          rw [h0, allB_append, allB_one] at hpall
          have hr2 := pieceB_range (Bool.and_eq_true_iff.1 hpall).2
          have hrm2 : roomN f.data.toList.length m.data.toList.length b' ≤ 1048576 := by
            cases b'
            · exact hf
            · exact hm
          obtain ⟨hx0', hy1', hxy'⟩ := hr2
          have hx9' : x' ≤ 1048576 := by omega
          have hy9' : y' ≤ 1048576 := by omega
          obtain ⟨d0, d1, d2⟩ := pieceCells_last (b := b') (x := x') (y := y') hql
          have o0 : wr.cell? ⟨g, l * 3, none⟩ = some (.bool b') := by rw [ho.2.cellAt (l * 3) (by omega), h0]; exact d0
          have o1 : wr.cell? ⟨g, l * 3 + 1, none⟩ = some (.int .i64 x') := by rw [ho.2.cellAt (l * 3 + 1) (by omega), h0]; exact d1
          have o2 : wr.cell? ⟨g, l * 3 + 2, none⟩ = some (.int .i64 y') := by rw [ho.2.cellAt (l * 3 + 2) (by omega), h0]; exact d2
          have of2 := ho.2.frozenAt (l * 3 + 2)
          have hl0 : (0 : Int) ≤ (l : Int) := by omega
          have hl2 : l ≤ 1048576 := by
            have := HLEN.out k
            rw [ho.1] at this
            omega
          have hl1 : (l : Int) < ((l + 1 : Nat) : Int) := by omega
          have H0 := Lib.hid h0
          have HQL := Lib.hid hql
          by_cases e1 : b' = b
          · subst e1
            by_cases e2 : x' + y' = x
            · have hst2 : packL (ps.take (k + 1)) = q ++ [(b', x', y' + y)] := by rw [hstep, h0]; exact packStep_yes (q := q) (b := b') (x := x') (y := y') (p := (b', x, y)) rfl e2
              have HS : Hid (packL (ps.take (k + 1)) = q ++ [(b', x', y' + y)]) := Lib.hid hst2
              subst e2
              have hset : ∀ W : World, OwnP 29 W base3 (some ⟨g, 0, none⟩) (l + 1) c' (packL (ps.take k)) → OwnP 29 (W.setCell ⟨g, l * 3 + 2, none⟩ (.int .i64 (y' + y))) base3 (some ⟨g, 0, none⟩) (l + 1) c' (packL (ps.take (k + 1))) := fun W hW => by
                refine ⟨by rw [HS.out, List.length_append, HQL.out]; rfl, ?_⟩
                rw [HS.out, ← pieceCells_set_last (b := b') (x := x') (y := y') (z := y' + y) HQL.out, ← H0.out]
                exact (hW.2.stored (l * 3 + 2) _).1
              have HSET := Lib.hid hset
              clear d0 d1 d2 hl hpall h0 hql hps hstep hst2 hset
              go_wp2
              go_quiet (fail)
              go_wp2
              have hl3 : (l : Int) < (l : Int) + 1 := by omega
              have hwy : IntKind.i64.wrap (y' + y) = y' + y := IntWalk.i64_in _ (by omega)
              go_region_law (fail)
              all_goals
                go_wp2
                go_roundw
                case rel => exact ⟨k + 1, l + 1, c', some ⟨g, 0, none⟩, by omega, by go_num, rfl, HSET.out _ ⟨ho.1, World.ownsRow.alloc (w := wr) ho.2 (.cells #[.bool b', .int .i64 (x' + y'), .int .i64 y] 29)⟩, (below_drewN (hbw.alloc hzb _) _).setCell hbg _⟩
                case measure => simp [intOf]; omega
            · have hst2 : packL (ps.take (k + 1)) = q ++ [(b', x', y')] ++ [(b', x, y)] := by rw [hstep, h0]; exact packStep_no2 (q := q) (b := b') (x := x') (y := y') (p := (b', x, y)) e2
              have HS : Hid (packL (ps.take (k + 1)) = packL (ps.take k) ++ [(b', x, y)]) := Lib.hid (by rw [hst2, h0])
              have hd2 : ((x' + y') == x) = false := by simpa using e2
              clear d0 d1 d2 hl hpall h0 hql hps hstep hst2 e2
              have hB : ∀ q, (((wr.alloc (.cells #[.bool b', .int .i64 x, .int .i64 y] 29)).drewN q).alloc (.cells #[.bool b', .int .i64 x, .int .i64 y] 29)).heap[wr.heap.size + 1]? = some (.cells #[.bool b', .int .i64 x, .int .i64 y] 29) := fun q => by
                have := heap_alloc_new ((wr.alloc (.cells #[.bool b', .int .i64 x, .int .i64 y] 29)).drewN q) (.cells #[.bool b', .int .i64 x, .int .i64 y] 29)
                rwa [show ((wr.alloc (.cells #[.bool b', .int .i64 x, .int .i64 y] 29)).drewN q).heap.size = wr.heap.size + 1 from World.size_alloc _ _] at this
              have hO : ∀ q, OwnP 29 (((wr.alloc (.cells #[.bool b', .int .i64 x, .int .i64 y] 29)).drewN q).alloc (.cells #[.bool b', .int .i64 x, .int .i64 y] 29)) base3 (some ⟨g, 0, none⟩) (l + 1) c' (packL (ps.take k)) := fun q => ⟨ho.1, World.ownsRow.alloc (w := (wr.alloc (.cells #[.bool b', .int .i64 x, .int .i64 y] 29)).drewN q) (ho.2.alloc (.cells #[.bool b', .int .i64 x, .int .i64 y] 29)) _⟩
              have hZ : ∀ q, base3 ≤ (((wr.alloc (.cells #[.bool b', .int .i64 x, .int .i64 y] 29)).drewN q).alloc (.cells #[.bool b', .int .i64 x, .int .i64 y] 29)).heap.size := fun q => by
                rw [World.size_alloc, show ((wr.alloc (.cells #[.bool b', .int .i64 x, .int .i64 y] 29)).drewN q).heap.size = wr.heap.size + 1 from World.size_alloc _ _]
                omega
              have HBB := Lib.hid hB
              have HOO := Lib.hid hO
              have HZZ := Lib.hid hZ
              clear hB hO hZ
              go_wp2
              go_quiet (fail)
              go_wp2_with (at_builtin; refine wpList_append_piece rfl _ _ 23 rfl 29 i0 _ Try.underlying23 hi hz0 hz1 hz2 rfl base3 _ _ _ _ rfl (HOO.out _) (wr.heap.size + 1) b' x y rfl (HBB.out _) ?_ (HZZ.out _) ?_; omega; intro gg cap w4 hown4 hgrow4 hlt4)
              go_roundw
              case rel => exact ⟨k + 1, (l + 1) + 1, cap, some ⟨gg, 0, none⟩, by omega, by go_num, rfl, by rw [HS.out]; exact hown4, (below_drewN (hbw.alloc hzb _) _ |>.alloc (Nat.le_trans hzb (by simp)) _).grown hgrow4 (by exact HZZ.out _) (fun i hi => (ho.2.lt i hi).1)⟩
              case measure => simp [intOf]; omega
          · have hst2 : packL (ps.take (k + 1)) = q ++ [(b', x', y')] ++ [(b, x, y)] := by rw [hstep, h0]; exact packStep_no1 (q := q) (b := b') (x := x') (y := y') (p := (b, x, y)) e1
            have HS : Hid (packL (ps.take (k + 1)) = packL (ps.take k) ++ [(b, x, y)]) := Lib.hid (by rw [hst2, h0])
            have hd2 : (b' == b) = false := by simpa using e1
            clear d0 d1 d2 hl hpall h0 hql hps hstep hst2 e1
            have hB : ∀ q, (((wr.alloc (.cells #[.bool b, .int .i64 x, .int .i64 y] 29)).drewN q).alloc (.cells #[.bool b, .int .i64 x, .int .i64 y] 29)).heap[wr.heap.size + 1]? = some (.cells #[.bool b, .int .i64 x, .int .i64 y] 29) := fun q => by
              have := heap_alloc_new ((wr.alloc (.cells #[.bool b, .int .i64 x, .int .i64 y] 29)).drewN q) (.cells #[.bool b, .int .i64 x, .int .i64 y] 29)
              rwa [show ((wr.alloc (.cells #[.bool b, .int .i64 x, .int .i64 y] 29)).drewN q).heap.size = wr.heap.size + 1 from World.size_alloc _ _] at this
            have hO : ∀ q, OwnP 29 (((wr.alloc (.cells #[.bool b, .int .i64 x, .int .i64 y] 29)).drewN q).alloc (.cells #[.bool b, .int .i64 x, .int .i64 y] 29)) base3 (some ⟨g, 0, none⟩) (l + 1) c' (packL (ps.take k)) := fun q => ⟨ho.1, World.ownsRow.alloc (w := (wr.alloc (.cells #[.bool b, .int .i64 x, .int .i64 y] 29)).drewN q) (ho.2.alloc (.cells #[.bool b, .int .i64 x, .int .i64 y] 29)) _⟩
            have hZ : ∀ q, base3 ≤ (((wr.alloc (.cells #[.bool b, .int .i64 x, .int .i64 y] 29)).drewN q).alloc (.cells #[.bool b, .int .i64 x, .int .i64 y] 29)).heap.size := fun q => by
              rw [World.size_alloc, show ((wr.alloc (.cells #[.bool b, .int .i64 x, .int .i64 y] 29)).drewN q).heap.size = wr.heap.size + 1 from World.size_alloc _ _]
              omega
            have HBB := Lib.hid hB
            have HOO := Lib.hid hO
            have HZZ := Lib.hid hZ
            clear hB hO hZ
            go_wp2
            go_quiet (fail)
            go_wp2_with (at_builtin; refine wpList_append_piece rfl _ _ 23 rfl 29 i0 _ Try.underlying23 hi hz0 hz1 hz2 rfl base3 _ _ _ _ rfl (HOO.out _) (wr.heap.size + 1) b x y rfl (HBB.out _) ?_ (HZZ.out _) ?_; omega; intro gg cap w4 hown4 hgrow4 hlt4)
            go_roundw
            case rel => exact ⟨k + 1, (l + 1) + 1, cap, some ⟨gg, 0, none⟩, by omega, by go_num, rfl, by rw [HS.out]; exact hown4, (below_drewN (hbw.alloc hzb _) _ |>.alloc (Nat.le_trans hzb (by simp)) _).grown hgrow4 (by exact HZZ.out _) (fun i hi => (ho.2.lt i hi).1)⟩
            case measure => simp [intOf]; omega
      · have hkn : k = n := by omega
        subst hkn
        have s1 := (hbw.block (w.heap.size + 1) hlt1).trans S1.out
        obtain ⟨d0, d1, d2, df0, df1, df2⟩ := blk3 s1
        have hpl : packL (ps.take k) = packL ps := by rw [List.take_of_length_le (by rw [HL.out]; exact Nat.le_refl _)]
        rw [hpl] at ho
        have hw1 : w.heap.size + 1 < wr.heap.size := by omega
        obtain ⟨e0, e1, e2, _, _, _⟩ := blk3 (set3 (x' := .string f) (y' := .string m) (z' := .slice A' j c') s1)
        clear hl hpl
        go_wp2
        refine bodyPost_ret (v := .agg #[.string f, .string m, .slice A' j c']) (by simp only [results, Try.results17]; simp [go_sem, e0, e1, e2]) rfl ?_
        refine ⟨A', j, c', rfl, ⟨ho.1, owns_base (base := base3) (ownsRow_setCell_below (ownsRow_setCell_below (ownsRow_setCell_below ho.2 (by simp only []; omega) _) (by simp only []; omega) _) (by simp only []; omega) _) (by omega)⟩, ?_⟩
        exact bset (bset (bset (hb5.trans (hbw.mono (by omega))) (by simp only []; omega) _) (by simp only []; omega) _) (by simp only []; omega) _
set_option maxRecDepth 100000 in
set_option maxHeartbeats 3200000 in
theorem implTablePack_any (f m : ByteArray) (A : Option Addr) (n c base : Nat) (ps : List (Bool × Int × Int)) (w : World) (hf : f.size ≤ 1048576) (hm : m.size ≤ 1048576) (hn2 : n ≤ 1048576) (ho : OwnP 29 w base A n c ps) :
    Calls Try.prog 15 #[.agg #[.string f, .string m, .slice A n c]] w (MadeT 29 w (packF f.data.toList m.data.toList ps) (packM f.data.toList m.data.toList ps) (packP f.data.toList m.data.toList ps)) := by
  have hl := ho.1
  have ho2 : OwnP 29 ((w.alloc (.cells #[.string f, .string m, .slice A n c] 25)).alloc (.cells #[.string ⟨#[]⟩, .string ⟨#[]⟩, .slice none 0 0] 25)) base A n c ps := ⟨hl, (ho.2.alloc _).alloc _⟩
  have k0 := (Below.heap_alloc (w.alloc (.cells #[.string f, .string m, .slice A n c] 25)) (.cells #[.string ⟨#[]⟩, .string ⟨#[]⟩, .slice none 0 0] 25) w.heap.size (by simp)).trans (heap_alloc_new w _)
  have k1 : ((w.alloc (.cells #[.string f, .string m, .slice A n c] 25)).alloc (.cells #[.string ⟨#[]⟩, .string ⟨#[]⟩, .slice none 0 0] 25)).heap[w.heap.size + 1]? = some (.cells #[.string ⟨#[]⟩, .string ⟨#[]⟩, .slice none 0 0] 25) := by
    have := heap_alloc_new (w.alloc (.cells #[.string f, .string m, .slice A n c] 25)) (.cells #[.string ⟨#[]⟩, .string ⟨#[]⟩, .slice none 0 0] 25)
    simpa only [World.size_alloc] using this
  have hb0 : Below w.heap.size w ((w.alloc (.cells #[.string f, .string m, .slice A n c] 25)).alloc (.cells #[.string ⟨#[]⟩, .string ⟨#[]⟩, .slice none 0 0] 25)) := balloc (balloc (Below.refl _ _) _) _
  have K0 := Lib.hid k0
  have K1 := Lib.hid k1
  have HL := Lib.hid hl
  clear hl ho k0 k1
  cases ht : tableB f.data.toList m.data.toList ps
  · obtain ⟨e1, e2, e3⟩ := pack_0 ht
    rw [e1, e2, e3]
    have H := Lib.hid ht
    clear ht e1 e2 e3
    go_enter Try.func15, Try.ntmps15
    go_wp2_with fail
    refine (implTableValid_any _ _ _ _ _ _ _ hf hm hn2 ho2.pieces).mono ?_
    rw [H.out]
    rintro e w3 ⟨rfl, hb4⟩
    have hz3 := hb4.size
    simp only [World.size_alloc] at hz3
    have s1 := (hb4.block (w.heap.size + 1) (by simp only [World.size_alloc]; omega)).trans K1.out
    have hb5 : Below w.heap.size w w3 := bstep hb0 hb4
    obtain ⟨c0, c1', c2, cf0, cf1, cf2⟩ := blk3 s1
    obtain ⟨e0, e1, e2, _, _, _⟩ := blk3 (set3 (x' := .string ⟨#[]⟩) (y' := .string ⟨#[]⟩) (z' := .slice none 0 0) s1)
    have hw1 : w.heap.size + 1 < w3.heap.size := by omega
    clear s1
    go_wp2
    refine bodyPost_ret (v := .agg #[.string ⟨#[]⟩, .string ⟨#[]⟩, .slice none 0 0]) (by simp only [results, Try.results15]; simp [go_sem, e0, e1, e2]) rfl ?_
    refine ⟨none, 0, 0, rfl, ownP_nil _ _ _, ?_⟩
    exact bset (bset (bset hb5 (by simp only []; omega) _) (by simp only []; omega) _) (by simp only []; omega) _
  · obtain ⟨e1, e2, e3⟩ := pack_1 ht
    rw [e1, e2, e3]
    have H := Lib.hid ht
    clear ht e1 e2 e3
    obtain ⟨i0, hi, hz0, hz1, hz2⟩ := info_parts pieceInfo3
    go_enter Try.func15, Try.ntmps15
    go_wp2_with fail
    refine (implTableValid_any _ _ _ _ _ _ _ hf hm hn2 ho2.pieces).mono ?_
    rw [H.out]
    rintro e w3 ⟨rfl, hb4⟩
    have hz3 := hb4.size
    simp only [World.size_alloc] at hz3
    have s0 := (hb4.block w.heap.size (by simp only [World.size_alloc]; omega)).trans K0.out
    have s1 := (hb4.block (w.heap.size + 1) (by simp only [World.size_alloc]; omega)).trans K1.out
    have hb5 : Below w.heap.size w w3 := bstep hb0 hb4
    have hp4 := (ho2.below hb4).pieces
    obtain ⟨a0, a1, a2, af0, af1, af2⟩ := blk3 s0
    have hw0 : w.heap.size < w3.heap.size := by omega
    have hw1 : w.heap.size + 1 < w3.heap.size := by omega
    have S0 := Lib.hid s0
    have S1 := Lib.hid s1
    have hall := fun k => packL_all (tableB_sum H.out).1 k
    have hsum := fun k => packL_length ps k
    have HALL := Lib.hid hall
    have HLEN := Lib.hid hsum
    clear s0 s1 hall hsum hb4 hz3 ho2 hb0 K0 K1
    go_wp2
    go_loopw [19] (fun i wr => ∃ (k j c' : Nat) (A' : Option Addr), k ≤ n ∧ i = .int .i64 k ∧ B3 wr w3.heap.size 25 (.string f) (.string m) (.slice A' j c') ∧ OwnP 29 wr (w3.heap.size + 1) A' j c' (packL (ps.take k)) ∧ Below w3.heap.size w3 wr) (fun i _ => n - (intOf i).toNat)
    case atStart =>
      exact ⟨0, 0, 0, none, Nat.zero_le _, rfl, B3.new _ _ _ _ _, ownP_nil _ _ _, (Below.refl _ _).alloc (Nat.le_refl _) _⟩
    case round =>
      clear a0 a1 a2 af0 af1 af2
      obtain ⟨k, j, c', A', hk, rfl, hO3, ho, hbw⟩ := hrel
      have hz := hO3.lt
      have s0 := (hbw.block w.heap.size hw0).trans S0.out
      obtain ⟨a0, a1, a2, _, _, _⟩ := blk3 s0
      obtain ⟨p0, p1, p2⟩ := hO3.cells
      obtain ⟨pf0, pf1, pf2⟩ := hO3.free
      have hl := HLEN.out k
      have HPL := Lib.hid ho.1
      have HO3 := Lib.hid hO3
      clear hO3
      have hwz : w.heap.size < wr.heap.size := by omega
      by_cases hlt : k < n
      · obtain ⟨ad, b, x, y, hA1, hb, hps, hc0, _, _, hc1, hc2⟩ := (hp4.below hbw (Nat.le_refl _)).at_ hlt
        subst hA1
        have hstep := packL_step hps
        have hzb : w3.heap.size ≤ wr.heap.size := by omega
        have hne3 : some w3.heap.size ≠ (Value.slice A' j c').ownBlock := fun e => by
          have := (ho.2.lt _ e.symm).1
          omega
        have hbf : ∀ (O : Obj) q w4, ((((wr.alloc O).drewN q).alloc O)).grownBy w4 (Value.slice A' j c').ownBlock → B3 w4 w3.heap.size 25 (.string f) (.string m) (.slice A' j c') := fun O q w4 hg =>
          B3.grown (B3.alloc (B3.drewN (B3.alloc HO3.out O) q) O) hg hne3
        have HBF := Lib.hid hbf
        clear hbf hne3
        have hr := pieceB_range (tableB_pieceB H.out hps)
        have hrm : roomN f.data.toList.length m.data.toList.length b ≤ 1048576 := by
          cases b
          · exact hf
          · exact hm
        obtain ⟨hx0, hy1, hxy⟩ := hr
        have hx9 : x ≤ 1048576 := by omega
        have hy9 : y ≤ 1048576 := by omega
        have hadb : ad.block < wr.heap.size := by omega
        have hkn : (k : Int) < (n : Int) := by omega
        have hpall := HALL.out k
        rcases last_cases (packL (ps.take k)) with h0 | ⟨q, ⟨b', x', y'⟩, h0⟩
        · obtain rfl : j = 0 := by rw [← ho.1, h0]; rfl
          rw [h0, packStep_nil] at hstep
          have HS : Hid (packL (ps.take (k + 1)) = packL (ps.take k) ++ [(b, x, y)]) := Lib.hid (by rw [hstep, h0]; rfl)
          clear hstep hpall h0 hps hl
          have hB : ∀ q, (((wr.alloc (.cells #[.bool b, .int .i64 x, .int .i64 y] 29)).drewN q).alloc (.cells #[.bool b, .int .i64 x, .int .i64 y] 29)).heap[wr.heap.size + 1]? = some (.cells #[.bool b, .int .i64 x, .int .i64 y] 29) := fun q => by
            have := heap_alloc_new ((wr.alloc (.cells #[.bool b, .int .i64 x, .int .i64 y] 29)).drewN q) (.cells #[.bool b, .int .i64 x, .int .i64 y] 29)
            rwa [show ((wr.alloc (.cells #[.bool b, .int .i64 x, .int .i64 y] 29)).drewN q).heap.size = wr.heap.size + 1 from World.size_alloc _ _] at this
          have hO : ∀ q, OwnP 29 (((wr.alloc (.cells #[.bool b, .int .i64 x, .int .i64 y] 29)).drewN q).alloc (.cells #[.bool b, .int .i64 x, .int .i64 y] 29)) (w3.heap.size + 1) A' 0 c' (packL (ps.take k)) := fun q => ⟨ho.1, World.ownsRow.alloc (w := (wr.alloc (.cells #[.bool b, .int .i64 x, .int .i64 y] 29)).drewN q) (ho.2.alloc (.cells #[.bool b, .int .i64 x, .int .i64 y] 29)) _⟩
          have hZ : ∀ q, w3.heap.size + 1 ≤ (((wr.alloc (.cells #[.bool b, .int .i64 x, .int .i64 y] 29)).drewN q).alloc (.cells #[.bool b, .int .i64 x, .int .i64 y] 29)).heap.size := fun q => by
            rw [World.size_alloc, show ((wr.alloc (.cells #[.bool b, .int .i64 x, .int .i64 y] 29)).drewN q).heap.size = wr.heap.size + 1 from World.size_alloc _ _]
            omega
          have HBB := Lib.hid hB
          have HOO := Lib.hid hO
          have HZZ := Lib.hid hZ
          clear hB hO hZ
          go_wp2
          go_quiet (fail)
          go_wp2_with (at_builtin; refine wpList_append_piece rfl _ _ 23 rfl 29 i0 _ Try.underlying23 hi hz0 hz1 hz2 rfl (w3.heap.size + 1) _ _ _ _ rfl (HOO.out _) (wr.heap.size + 1) b x y rfl (HBB.out _) ?_ (HZZ.out _) ?_; omega; intro gg cap w4 hown4 hgrow4 hlt4; have hB4 := HBF.out _ _ _ hgrow4; obtain ⟨v0, v1, v2⟩ := hB4.cells; obtain ⟨x0, x1, x2⟩ := hB4.free)
          go_roundw
          case rel => exact ⟨k + 1, 0 + 1, cap, some ⟨gg, 0, none⟩, by omega, by go_num, hB4.set2 _, ⟨by rw [HS.out]; exact hown4.1, by rw [HS.out]; exact ownsRow_setCell_below hown4.2 (by simp only []; omega) _⟩, ((below_drewN (hbw.alloc hzb _) _ |>.alloc (Nat.le_trans hzb (by simp)) _).grown hgrow4 (Nat.le_trans (Nat.le_succ _) (HZZ.out _)) (fun i hi => by have := (ho.2.lt i hi).1; omega)).setCell (Nat.le_refl _) _⟩
          case measure => simp [intOf]; omega
        · obtain ⟨l, hql⟩ : ∃ l, q.length = l := ⟨_, rfl⟩
          obtain rfl : j = l + 1 := by rw [← ho.1, h0, List.length_append, hql]; rfl
          obtain ⟨g, c2, hv, hbg, hgl⟩ := ho.2.form (by omega)
          injection hv with hA _ hc
          subst hA hc
          rw [h0, allB_append, allB_one] at hpall
          have hr2 := pieceB_range (Bool.and_eq_true_iff.1 hpall).2
          have hrm2 : roomN f.data.toList.length m.data.toList.length b' ≤ 1048576 := by
            cases b'
            · exact hf
            · exact hm
          obtain ⟨hx0', hy1', hxy'⟩ := hr2
          have hx9' : x' ≤ 1048576 := by omega
          have hy9' : y' ≤ 1048576 := by omega
          obtain ⟨d0, d1, d2⟩ := pieceCells_last (b := b') (x := x') (y := y') hql
          have o0 : wr.cell? ⟨g, l * 3, none⟩ = some (.bool b') := by rw [ho.2.cellAt (l * 3) (by omega), h0]; exact d0
          have o1 : wr.cell? ⟨g, l * 3 + 1, none⟩ = some (.int .i64 x') := by rw [ho.2.cellAt (l * 3 + 1) (by omega), h0]; exact d1
          have o2 : wr.cell? ⟨g, l * 3 + 2, none⟩ = some (.int .i64 y') := by rw [ho.2.cellAt (l * 3 + 2) (by omega), h0]; exact d2
          have of2 := ho.2.frozenAt (l * 3 + 2)
          have hl0 : (0 : Int) ≤ (l : Int) := by omega
          have hl2 : l ≤ 1048576 := by
            have := HLEN.out k
            rw [ho.1] at this
            omega
          have hl1 : (l : Int) < ((l + 1 : Nat) : Int) := by omega
          have H0 := Lib.hid h0
          have HQL := Lib.hid hql
          by_cases e1 : b' = b
          · subst e1
            by_cases e2 : x' + y' = x
            · have hst2 : packL (ps.take (k + 1)) = q ++ [(b', x', y' + y)] := by rw [hstep, h0]; exact packStep_yes (q := q) (b := b') (x := x') (y := y') (p := (b', x, y)) rfl e2
              have HS : Hid (packL (ps.take (k + 1)) = q ++ [(b', x', y' + y)]) := Lib.hid hst2
              subst e2
              have hset : ∀ W : World, OwnP 29 W (w3.heap.size + 1) (some ⟨g, 0, none⟩) (l + 1) c' (packL (ps.take k)) → OwnP 29 (W.setCell ⟨g, l * 3 + 2, none⟩ (.int .i64 (y' + y))) (w3.heap.size + 1) (some ⟨g, 0, none⟩) (l + 1) c' (packL (ps.take (k + 1))) := fun W hW => by
                refine ⟨by rw [HS.out, List.length_append, HQL.out]; rfl, ?_⟩
                rw [HS.out, ← pieceCells_set_last (b := b') (x := x') (y := y') (z := y' + y) HQL.out, ← H0.out]
                exact (hW.2.stored (l * 3 + 2) _).1
              have HSET := Lib.hid hset
              clear d0 d1 d2 hl hpall h0 hql hps hstep hst2 hset
              go_wp2
              go_quiet (fail)
              go_wp2
              have hl3 : (l : Int) < (l : Int) + 1 := by omega
              have hwy : IntKind.i64.wrap (y' + y) = y' + y := IntWalk.i64_in _ (by omega)
              go_region_law (fail)
              all_goals
                go_wp2
                go_roundw
                case rel => exact ⟨k + 1, l + 1, c', some ⟨g, 0, none⟩, by omega, by go_num, B3.far (B3.drewN (B3.alloc HO3.out _) _) (by simp only []; omega) _, HSET.out _ ⟨ho.1, World.ownsRow.alloc (w := wr) ho.2 (.cells #[.bool b', .int .i64 (x' + y'), .int .i64 y] 29)⟩, (below_drewN (hbw.alloc hzb _) _).setCell (Nat.le_trans (Nat.le_succ _) hbg) _⟩
                case measure => simp [intOf]; omega
            · have hst2 : packL (ps.take (k + 1)) = q ++ [(b', x', y')] ++ [(b', x, y)] := by rw [hstep, h0]; exact packStep_no2 (q := q) (b := b') (x := x') (y := y') (p := (b', x, y)) e2
              have HS : Hid (packL (ps.take (k + 1)) = packL (ps.take k) ++ [(b', x, y)]) := Lib.hid (by rw [hst2, h0])
              have hd2 : ((x' + y') == x) = false := by simpa using e2
              clear d0 d1 d2 hl hpall h0 hql hps hstep hst2 e2
              have hB : ∀ q, (((wr.alloc (.cells #[.bool b', .int .i64 x, .int .i64 y] 29)).drewN q).alloc (.cells #[.bool b', .int .i64 x, .int .i64 y] 29)).heap[wr.heap.size + 1]? = some (.cells #[.bool b', .int .i64 x, .int .i64 y] 29) := fun q => by
                have := heap_alloc_new ((wr.alloc (.cells #[.bool b', .int .i64 x, .int .i64 y] 29)).drewN q) (.cells #[.bool b', .int .i64 x, .int .i64 y] 29)
                rwa [show ((wr.alloc (.cells #[.bool b', .int .i64 x, .int .i64 y] 29)).drewN q).heap.size = wr.heap.size + 1 from World.size_alloc _ _] at this
              have hO : ∀ q, OwnP 29 (((wr.alloc (.cells #[.bool b', .int .i64 x, .int .i64 y] 29)).drewN q).alloc (.cells #[.bool b', .int .i64 x, .int .i64 y] 29)) (w3.heap.size + 1) (some ⟨g, 0, none⟩) (l + 1) c' (packL (ps.take k)) := fun q => ⟨ho.1, World.ownsRow.alloc (w := (wr.alloc (.cells #[.bool b', .int .i64 x, .int .i64 y] 29)).drewN q) (ho.2.alloc (.cells #[.bool b', .int .i64 x, .int .i64 y] 29)) _⟩
              have hZ : ∀ q, w3.heap.size + 1 ≤ (((wr.alloc (.cells #[.bool b', .int .i64 x, .int .i64 y] 29)).drewN q).alloc (.cells #[.bool b', .int .i64 x, .int .i64 y] 29)).heap.size := fun q => by
                rw [World.size_alloc, show ((wr.alloc (.cells #[.bool b', .int .i64 x, .int .i64 y] 29)).drewN q).heap.size = wr.heap.size + 1 from World.size_alloc _ _]
                omega
              have HBB := Lib.hid hB
              have HOO := Lib.hid hO
              have HZZ := Lib.hid hZ
              clear hB hO hZ
              go_wp2
              go_quiet (fail)
              go_wp2_with (at_builtin; refine wpList_append_piece rfl _ _ 23 rfl 29 i0 _ Try.underlying23 hi hz0 hz1 hz2 rfl (w3.heap.size + 1) _ _ _ _ rfl (HOO.out _) (wr.heap.size + 1) b' x y rfl (HBB.out _) ?_ (HZZ.out _) ?_; omega; intro gg cap w4 hown4 hgrow4 hlt4; have hB4 := HBF.out _ _ _ hgrow4; obtain ⟨v0, v1, v2⟩ := hB4.cells; obtain ⟨x0, x1, x2⟩ := hB4.free)
              go_roundw
              case rel => exact ⟨k + 1, (l + 1) + 1, cap, some ⟨gg, 0, none⟩, by omega, by go_num, hB4.set2 _, ⟨by rw [HS.out]; exact hown4.1, by rw [HS.out]; exact ownsRow_setCell_below hown4.2 (by simp only []; omega) _⟩, ((below_drewN (hbw.alloc hzb _) _ |>.alloc (Nat.le_trans hzb (by simp)) _).grown hgrow4 (Nat.le_trans (Nat.le_succ _) (HZZ.out _)) (fun i hi => by have := (ho.2.lt i hi).1; omega)).setCell (Nat.le_refl _) _⟩
              case measure => simp [intOf]; omega
          · have hst2 : packL (ps.take (k + 1)) = q ++ [(b', x', y')] ++ [(b, x, y)] := by rw [hstep, h0]; exact packStep_no1 (q := q) (b := b') (x := x') (y := y') (p := (b, x, y)) e1
            have HS : Hid (packL (ps.take (k + 1)) = packL (ps.take k) ++ [(b, x, y)]) := Lib.hid (by rw [hst2, h0])
            have hd2 : (b' == b) = false := by simpa using e1
            clear d0 d1 d2 hl hpall h0 hql hps hstep hst2 e1
            have hB : ∀ q, (((wr.alloc (.cells #[.bool b, .int .i64 x, .int .i64 y] 29)).drewN q).alloc (.cells #[.bool b, .int .i64 x, .int .i64 y] 29)).heap[wr.heap.size + 1]? = some (.cells #[.bool b, .int .i64 x, .int .i64 y] 29) := fun q => by
              have := heap_alloc_new ((wr.alloc (.cells #[.bool b, .int .i64 x, .int .i64 y] 29)).drewN q) (.cells #[.bool b, .int .i64 x, .int .i64 y] 29)
              rwa [show ((wr.alloc (.cells #[.bool b, .int .i64 x, .int .i64 y] 29)).drewN q).heap.size = wr.heap.size + 1 from World.size_alloc _ _] at this
            have hO : ∀ q, OwnP 29 (((wr.alloc (.cells #[.bool b, .int .i64 x, .int .i64 y] 29)).drewN q).alloc (.cells #[.bool b, .int .i64 x, .int .i64 y] 29)) (w3.heap.size + 1) (some ⟨g, 0, none⟩) (l + 1) c' (packL (ps.take k)) := fun q => ⟨ho.1, World.ownsRow.alloc (w := (wr.alloc (.cells #[.bool b, .int .i64 x, .int .i64 y] 29)).drewN q) (ho.2.alloc (.cells #[.bool b, .int .i64 x, .int .i64 y] 29)) _⟩
            have hZ : ∀ q, w3.heap.size + 1 ≤ (((wr.alloc (.cells #[.bool b, .int .i64 x, .int .i64 y] 29)).drewN q).alloc (.cells #[.bool b, .int .i64 x, .int .i64 y] 29)).heap.size := fun q => by
              rw [World.size_alloc, show ((wr.alloc (.cells #[.bool b, .int .i64 x, .int .i64 y] 29)).drewN q).heap.size = wr.heap.size + 1 from World.size_alloc _ _]
              omega
            have HBB := Lib.hid hB
            have HOO := Lib.hid hO
            have HZZ := Lib.hid hZ
            clear hB hO hZ
            go_wp2
            go_quiet (fail)
            go_wp2_with (at_builtin; refine wpList_append_piece rfl _ _ 23 rfl 29 i0 _ Try.underlying23 hi hz0 hz1 hz2 rfl (w3.heap.size + 1) _ _ _ _ rfl (HOO.out _) (wr.heap.size + 1) b x y rfl (HBB.out _) ?_ (HZZ.out _) ?_; omega; intro gg cap w4 hown4 hgrow4 hlt4; have hB4 := HBF.out _ _ _ hgrow4; obtain ⟨v0, v1, v2⟩ := hB4.cells; obtain ⟨x0, x1, x2⟩ := hB4.free)
            go_roundw
            case rel => exact ⟨k + 1, (l + 1) + 1, cap, some ⟨gg, 0, none⟩, by omega, by go_num, hB4.set2 _, ⟨by rw [HS.out]; exact hown4.1, by rw [HS.out]; exact ownsRow_setCell_below hown4.2 (by simp only []; omega) _⟩, ((below_drewN (hbw.alloc hzb _) _ |>.alloc (Nat.le_trans hzb (by simp)) _).grown hgrow4 (Nat.le_trans (Nat.le_succ _) (HZZ.out _)) (fun i hi => by have := (ho.2.lt i hi).1; omega)).setCell (Nat.le_refl _) _⟩
            case measure => simp [intOf]; omega
      · have hkn : k = n := by omega
        subst hkn
        have s1 := (hbw.block (w.heap.size + 1) hw1).trans S1.out
        obtain ⟨d0, d1, d2, df0, df1, df2⟩ := blk3 s1
        have hpl : packL (ps.take k) = packL ps := by rw [List.take_of_length_le (by rw [HL.out]; exact Nat.le_refl _)]
        rw [hpl] at ho
        have hw1 : w.heap.size + 1 < wr.heap.size := by omega
        obtain ⟨e0, e1, e2, _, _, _⟩ := blk3 (set3 (x' := .string f) (y' := .string m) (z' := .slice A' j c') s1)
        clear hl hpl
        go_wp2
        refine bodyPost_ret (v := .agg #[.string f, .string m, .slice A' j c']) (by simp only [results, Try.results15]; simp [go_sem, e0, e1, e2]) rfl ?_
        refine ⟨A', j, c', rfl, ⟨ho.1, owns_base (base := w3.heap.size + 1) (ownsRow_setCell_below (ownsRow_setCell_below (ownsRow_setCell_below ho.2 (by simp only []; omega) _) (by simp only []; omega) _) (by simp only []; omega) _) (by omega)⟩, ?_⟩
        exact bset (bset (bset (hb5.trans (hbw.mono (by omega))) (by simp only []; omega) _) (by simp only []; omega) _) (by simp only []; omega) _
end Go.Proofs.Ytecejfcoognkiaa
