/- The reader of codes, and texts drawn from it: what is drawn lies in its bounds, and of what was there only the reader's own count is turned. What is drawn is not said. -/
import Derived.Test.YtecejfcoognkiaaW2
import Derived.OwnWalk
import Derived.RegionTactic
import Derived.BigQuiet
import Derived.Deep.QuietTactic
import Derived.IntWalk
import Derived.Lib.Builder
import Derived.Deep.AppendLies
import Derived.Outline
namespace Go.Proofs.Ytecejfcoognkiaa
open Go.RowKit

/-- A slice of bytes below a block. -/
def Byt (w : World) (B : Nat) (A : Option Addr) (n : Nat) : Prop := ∀ k, k < n → ∃ (ad : Addr) (b : Int), A = some ad ∧ ad.block < B ∧ w.cell? (ad.add k) = some (.int .u8 b) ∧ 0 ≤ b ∧ b ≤ 255
theorem byt_add_block (a : Addr) (i : Nat) : (a.add i).block = a.block := by
  unfold Addr.add
  split <;> rfl
theorem Byt.nil (w : World) (B : Nat) (A : Option Addr) : Byt w B A 0 := fun k h => absurd h (by omega)
theorem Byt.more {w : World} {B B' n : Nat} {A : Option Addr} (h : Byt w B A n) (hB : B ≤ B') : Byt w B' A n := fun k hk => by
  obtain ⟨ad, b, e, hb, hc, h0, h1⟩ := h k hk
  exact ⟨ad, b, e, by omega, hc, h0, h1⟩
theorem Byt.take {w : World} {B n m : Nat} {A : Option Addr} (h : Byt w B A n) (hm : m ≤ n) : Byt w B A m := fun k hk => h k (by omega)
theorem Byt.below {w w' : World} {B B' n : Nat} {A : Option Addr} (h : Byt w B A n) (hb : Below B' w w') (hB : B ≤ B') : Byt w' B A n := fun k hk => by
  obtain ⟨ad, b, e, hl, hc, h0, h1⟩ := h k hk
  exact ⟨ad, b, e, hl, (hb.cell (by rw [byt_add_block]; omega)).trans hc, h0, h1⟩
theorem Byt.kept {w w' : World} {B n : Nat} {A : Option Addr} {row : Option Nat} (h : Byt w B A n) (hg : w.grownBy w' row) (hr : ∀ g, row = some g → B ≤ g) : Byt w' B A n := fun k hk => by
  obtain ⟨ad, b, e, hl, hc, h0, h1⟩ := h k hk
  exact ⟨ad, b, e, hl, hg.cell hc (by rw [byt_add_block]; intro he; have := hr _ he.symm; omega), h0, h1⟩
theorem byt_mk {w : World} {x : Addr} {l : Nat} {zs : List Int} (hz : l ≤ zs.length) (hcell : ∀ i, i < zs.length → w.cell? (x.add i) = some (.int .u8 (zs.getD i 0))) (hw : ∀ n ∈ zs, (Lit.int .u8 n).wf = true) : Byt w w.heap.size (some x) l := fun k hk => by
  have hc := hcell k (by omega)
  have hm : zs.getD k 0 ∈ zs := by
    rw [List.getD_eq_getElem?_getD, List.getElem?_eq_getElem (by omega)]
    exact List.getElem_mem _
  have hv := hw _ hm
  have hlt : (x.add k).block < w.heap.size := by
    rcases Nat.lt_or_ge (x.add k).block w.heap.size with h | h
    · exact h
    · simp [World.cell?, Array.getElem?_eq_none h] at hc
  rw [byt_add_block] at hlt
  have hv2 : 0 ≤ zs.getD k 0 ∧ zs.getD k 0 ≤ 255 := by
    simp only [Lit.wf] at hv
    have h1 : IntKind.u8.min = 0 := rfl
    have h2 : IntKind.u8.max = 255 := rfl
    simp only [Bool.and_eq_true, decide_eq_true_eq, h1, h2] at hv
    exact hv
  exact ⟨x, zs.getD k 0, rfl, hlt, hc, hv2.1, hv2.2⟩
/-- A reader of at most P bytes so far. -/
def Rd (T : TypeId) (w : World) (r P : Nat) : Prop :=
  ∃ (A : Option Addr) (n c p : Nat), w.heap[r]? = some (.cells #[.slice A n c, .int .i64 (p : Int)] T (0, 0)) ∧ n ≤ 2000 ∧ p ≤ P ∧ Byt w r A n
theorem heap_lt {w : World} {r : Nat} {o : Obj} (h : w.heap[r]? = some o) : r < w.heap.size := (Array.getElem?_eq_some_iff.1 h).1
theorem Rd.lt {T : TypeId} {w : World} {r P : Nat} (h : Rd T w r P) : r < w.heap.size := by
  obtain ⟨A, n, c, p, hh, _⟩ := h
  exact heap_lt hh
theorem Rd.more {T : TypeId} {w : World} {r P P' : Nat} (h : Rd T w r P) (hP : P ≤ P') : Rd T w r P' := by
  obtain ⟨A, n, c, p, hh, hn, hp, hb⟩ := h
  exact ⟨A, n, c, p, hh, hn, by omega, hb⟩
theorem Rd.kept {T : TypeId} {w w' : World} {r P : Nat} {row : Option Nat} (h : Rd T w r P) (hg : w.grownBy w' row) (hr : ∀ g, row = some g → r < g) : Rd T w' r P := by
  have hl := h.lt
  obtain ⟨A, n, c, p, hh, hn, hp, hb⟩ := h
  refine ⟨A, n, c, p, ?_, hn, hp, hb.kept hg fun g e => Nat.le_of_lt (hr g e)⟩
  rw [hg.block r hl (fun e => by have := hr r e.symm; omega)]
  exact hh
theorem Rd.below {T : TypeId} {w w' : World} {r P B : Nat} (h : Rd T w r P) (hb : Below B w w') (hB : r < B) : Rd T w' r P := by
  obtain ⟨A, n, c, p, hh, hn, hp, hy⟩ := h
  exact ⟨A, n, c, p, by rw [hb.block r hB]; exact hh, hn, hp, hy.below hb (by omega)⟩
theorem Rd.alloc {T : TypeId} {w : World} {r P : Nat} (h : Rd T w r P) (o : Obj) : Rd T (w.alloc o) r P := h.kept (World.grownBy_alloc w o none) (fun _ e => by cases e)
theorem Rd.drew {T : TypeId} {w : World} {r P : Nat} (h : Rd T w r P) : Rd T w.drew r P := h
theorem Rd.drewN {T : TypeId} {w : World} {r P : Nat} (h : Rd T w r P) (k : Nat) : Rd T (w.drewN k) r P := h
theorem gtrans {a b c : World} {row : Option Nat} (h : a.grownBy b row) (k : b.grownBy c row) : a.grownBy c row :=
  ⟨k.os.trans h.os, k.tape.trans h.tape, k.output.trans h.output, Nat.le_trans h.size k.size, fun i hi hne => (k.block i (Nat.lt_of_lt_of_le hi h.size) hne).trans (h.block i hi hne)⟩
theorem galloc {a b : World} {row : Option Nat} (h : a.grownBy b row) (o : Obj) : a.grownBy (b.alloc o) row := gtrans h (World.grownBy_alloc b o row)
theorem gdrew {a b : World} {row : Option Nat} (h : a.grownBy b row) : a.grownBy b.drew row := ⟨h.os, h.tape, h.output, h.size, h.block⟩
theorem gdrewN {a b : World} {row : Option Nat} (h : a.grownBy b row) (k : Nat) : a.grownBy (b.drewN k) row := ⟨h.os, h.tape, h.output, h.size, h.block⟩
theorem gbelow {a b c : World} {row : Option Nat} (h : a.grownBy b row) (hb : Below b.heap.size b c) : a.grownBy c row :=
  gtrans h ⟨hb.os, hb.tape, hb.output, hb.size, fun i hi _ => hb.block i hi⟩
theorem gset {a b : World} {row : Option Nat} (h : a.grownBy b row) {p : Addr} (hp : a.heap.size ≤ p.block) (u : Value) : a.grownBy (b.setCell p u) row :=
  ⟨h.os, h.tape, h.output, by have := h.size; simp [World.setCell]; exact this, fun i hi hne => (Below.heap_setCell b p u i (by omega)).trans (h.block i hi hne)⟩
theorem brd {a w w' : World} {r : Nat} (h : Below a.heap.size a w) (hg : w.grownBy w' (some r)) (hr : a.heap.size ≤ r) : Below a.heap.size a w' :=
  h.grown hg h.size (fun k e => by cases e; exact hr)
theorem gcell {w w' : World} {r : Nat} (hg : w.grownBy w' (some r)) {b o : Nat} {v : Value} (h : w.cell? ⟨b, o, none⟩ = some v) (hb : b ≠ r) : w'.cell? ⟨b, o, none⟩ = some v :=
  hg.cell h (fun e => by injection e with e; exact hb e)
/-- The reader's count goes up by one. -/
theorem rd_step {T : TypeId} {w : World} {r P n c p : Nat} {A : Option Addr} (hh : w.heap[r]? = some (.cells #[.slice A n c, .int .i64 (p : Int)] T (0, 0))) (hn : n ≤ 2000) (hp : p ≤ P) (hb : Byt w r A n) :
    Rd T (w.setCell ⟨r, 1, none⟩ (.int .i64 ((p : Int) + 1))) r (P + 1) ∧ w.grownBy (w.setCell ⟨r, 1, none⟩ (.int .i64 ((p : Int) + 1))) (some r) := by
  have hg : w.grownBy (w.setCell ⟨r, 1, none⟩ (.int .i64 ((p : Int) + 1))) (some r) :=
    ⟨rfl, rfl, rfl, by simp [World.setCell], fun i _ hne => Below.heap_setCell _ _ _ _ (fun e => hne (by rw [e]))⟩
  exact ⟨⟨A, n, c, p + 1, (heap_setCell_same w r 1 _ T _ hh).trans rfl, hn, by omega, hb.kept hg fun g e => by cases e; exact Nat.le_refl _⟩, hg⟩
theorem ofInt_i64 (a : Nat) (ha : a < 9223372036854775808) : (BitVec.ofInt 64 (a : Int)).toNat = a := by
  rw [BitVec.ofInt_natCast, BitVec.toNat_ofNat]
  exact Nat.mod_eq_of_lt (by omega)
theorem xor_nonneg {a b : Int} (h0 : 0 ≤ a) (h1 : a < 4611686018427387904) (h2 : 0 ≤ b) (h3 : b < 4611686018427387904) : 0 ≤ bits .xor .i64 a b := by
  obtain ⟨A, rfl⟩ := Int.eq_ofNat_of_zero_le h0
  obtain ⟨B, rfl⟩ := Int.eq_ofNat_of_zero_le h2
  have hx : A ^^^ B < 2 ^ 62 := Nat.xor_lt_two_pow (by omega) (by omega)
  show 0 ≤ IntKind.i64.wrap ((BitVec.ofInt 64 (A : Int) ^^^ BitVec.ofInt 64 (B : Int)).toNat : Int)
  rw [BitVec.toNat_xor, ofInt_i64 A (by omega), ofInt_i64 B (by omega)]
  simp only [IntKind.wrap, IntKind.bits, IntKind.signed]
  simp
  omega
/-- What pick leaves, outright. -/
def PickX (w : World) (r p : Nat) (n : Int) (e : Ending) (w' : World) : Prop :=
  ∃ (K : Int) (m : Nat), e = .returned (.int .i64 K) ∧ 0 ≤ K ∧ (1 ≤ n → K < n) ∧ w' = (w.setCell ⟨r, 1, none⟩ (.int .i64 ((p : Int) + 1))).drewN m
/-- What pick leaves. -/
def PickV (T : TypeId) (w : World) (r P : Nat) (n : Int) (e : Ending) (w' : World) : Prop :=
  ∃ K : Int, e = .returned (.int .i64 K) ∧ 0 ≤ K ∧ (1 ≤ n → K < n) ∧ Rd T w' r (P + 1) ∧ w.grownBy w' (some r)
set_option maxRecDepth 100000 in
set_option maxHeartbeats 1600000 in
theorem pick_exact (r L c p : Nat) (A : Option Addr) (n : Int) (w : World) (hh : w.heap[r]? = some (.cells #[.slice A L c, .int .i64 (p : Int)] 55 (0, 0))) (hL : L ≤ 2000) (hp : p ≤ 1000000000) (hby : Byt w r A L) :
    Calls Try.prog 28 #[.pointer (some ⟨r, 0, none⟩), .int .i64 n] w (PickX w r p n) := by
  have c0 : w.cell? ⟨r, 0, none⟩ = some (.slice A L c) := Lib.cell_of_heap hh 0
  have c1 : w.cell? ⟨r, 1, none⟩ = some (.int .i64 p) := Lib.cell_of_heap hh 1
  have f1 : w.frozen? ⟨r, 1, none⟩ = false := Lib.frozen_of_heap hh 1
  have HB := Lib.hid hby
  clear hby
  by_cases h0 : n < 1
  · go_enter Try.func28, Try.ntmps28
    go_wp2
    go_ret
    exact ⟨0, 0, rfl, Int.le_refl _, fun h => by omega, rfl⟩
  · by_cases h1 : L = 0
    · subst h1
      go_enter Try.func28, Try.ntmps28
      go_wp2
      go_ret
      exact ⟨0, 0, rfl, Int.le_refl _, fun h => by omega, rfl⟩
    · by_cases h2 : p < L
      · obtain ⟨ad, b, rfl, hb, hc, b0, b1⟩ := HB.out p h2
        have hne : (ad.add p).block ≠ r := by rw [byt_add_block]; omega
        have hcw : (w.setCell ⟨r, 1, none⟩ (.int .i64 ((p : Int) + 1))).cell? (ad.add p) = some (.int .u8 b) := (World.cell?_setCell_other _ _ _ _ (fun e => hne (by rw [← e]))).trans hc
        go_enter Try.func28, Try.ntmps28
        go_wp2
        go_ret
        exact ⟨_, 0, rfl, Int.emod_nonneg _ (by omega), fun h => Int.emod_lt_of_pos _ (by omega), rfl⟩
      · have hm1 : p % L < L := Nat.mod_lt _ (by omega)
        have hm2 : (p * 7 + 3) % L < L := Nat.mod_lt _ (by omega)
        obtain ⟨ad, b, rfl, hb, hc, b0, b1⟩ := HB.out _ hm1
        obtain ⟨ad', b', e', hb', hc', b0', b1'⟩ := HB.out _ hm2
        injection e' with e'
        subst e'
        have hcw : (w.setCell ⟨r, 1, none⟩ (.int .i64 ((p : Int) + 1))).cell? (ad.add (p % L)) = some (.int .u8 b) := (World.cell?_setCell_other _ _ _ _ (fun e => (show (ad.add (p % L)).block ≠ r by rw [byt_add_block]; omega) (by rw [← e]))).trans hc
        have hcw' : (w.setCell ⟨r, 1, none⟩ (.int .i64 ((p : Int) + 1))).cell? (ad.add ((p * 7 + 3) % L)) = some (.int .u8 b') := (World.cell?_setCell_other _ _ _ _ (fun e => (show (ad.add ((p * 7 + 3) % L)).block ≠ r by rw [byt_add_block]; omega) (by rw [← e]))).trans hc'
        clear hc hc'
        have g1 : 0 ≤ ((p : Int) * 7 + 3) % (L : Int) := Int.emod_nonneg _ (by omega)
        have g2 : ((p : Int) * 7 + 3) % (L : Int) < (L : Int) := Int.emod_lt_of_pos _ (by omega)
        have g3 : 0 ≤ (p : Int) / (L : Int) := Int.ediv_nonneg (by omega) (by omega)
        have g4 : (p : Int) / (L : Int) ≤ 1000000000 := Int.le_trans (Int.ediv_le_self _ (by omega)) (by omega)
        go_enter Try.func28, Try.ntmps28
        go_wp2
        go_quiet (fail)
        go_wp2
        go_ret
        exact ⟨_, _, rfl, Int.tmod_nonneg _ (xor_nonneg (by omega) (by omega) (by omega) (by omega)), fun h => Int.tmod_lt_of_pos _ (by omega), rfl⟩
theorem pick_any (r P : Nat) (n : Int) (w : World) (h : Rd 55 w r P) (hP : P ≤ 1000000000) :
    Calls Try.prog 28 #[.pointer (some ⟨r, 0, none⟩), .int .i64 n] w (PickV 55 w r P n) := by
  obtain ⟨A, L, c, p, hh, hL, hp, hby⟩ := h
  obtain ⟨hrd, hgr⟩ := rd_step hh hL hp hby
  refine (pick_exact r L c p A n w hh hL (by omega) hby).mono ?_
  rintro e w' ⟨K, m, rfl, h0, h1, rfl⟩
  exact ⟨K, rfl, h0, h1, hrd, gdrewN hgr m⟩
/-- What l20Open leaves. -/
def OpenV (T : TypeId) (w : World) (e : Ending) (w' : World) : Prop := ∃ r, e = .returned (.pointer (some ⟨r, 0, none⟩)) ∧ w.heap.size ≤ r ∧ Rd T w' r 0 ∧ Below w.heap.size w w'
theorem open_any (A : Option Addr) (n c : Nat) (w : World) (h : Byt w w.heap.size A n) (hnc : n ≤ c) (hc : c ≤ maxLen) :
    Calls Try.prog 19 #[.slice A n c] w (OpenV 55 w) := by
  have hc' := hc
  unfold maxLen at hc'
  by_cases h0 : 2000 < n
  · have hb : Byt (w.alloc (.cells #[.slice A 2000 c, .int .i64 0] 55)) w.heap.size A 2000 := (h.take (by omega)).below (B' := w.heap.size) (balloc (Below.refl _ _) _) (Nat.le_refl _)
    obtain ⟨ad, b, rfl, _⟩ := h 0 (by omega)
    go_enter Try.func19, Try.ntmps19
    go_wp2
    go_ret
    exact ⟨_, rfl, Nat.le_refl _, ⟨_, _, _, 0, heap_alloc_new w _, Nat.le_refl _, Nat.le_refl _, hb⟩, balloc (Below.refl _ _) _⟩
  · have hb : Byt (w.alloc (.cells #[.slice A n c, .int .i64 0] 55)) w.heap.size A n := h.below (B' := w.heap.size) (balloc (Below.refl _ _) _) (Nat.le_refl _)
    go_enter Try.func19, Try.ntmps19
    go_wp2
    go_ret
    exact ⟨_, rfl, Nat.le_refl _, ⟨_, _, _, 0, heap_alloc_new w _, by omega, Nat.le_refl _, hb⟩, balloc (Below.refl _ _) _⟩
/-- What odd leaves. -/
def OddV (T : TypeId) (w : World) (r P : Nat) (e : Ending) (w' : World) : Prop := ∃ b : Bool, e = .returned (.bool b) ∧ Rd T w' r (P + 1) ∧ w.grownBy w' (some r)
theorem odd_any (r P : Nat) (n : Int) (w : World) (h : Rd 55 w r P) (hP : P ≤ 1000000000) :
    Calls Try.prog 34 #[.pointer (some ⟨r, 0, none⟩), .int .i64 n] w (OddV 55 w r P) := by
  by_cases h0 : 0 < n
  · go_enter Try.func34, Try.ntmps34
    go_wp2_with fail
    refine (pick_any r P _ _ h hP).mono ?_
    rintro e w1 ⟨K, rfl, hK0, hK1, hr1, hg1⟩
    go_wp2
    go_ret
    exact ⟨_, rfl, hr1, hg1⟩
  · go_enter Try.func34, Try.ntmps34
    go_wp2
    go_ret
    exact ⟨_, rfl, h.more (by omega), World.grownBy.refl _ _⟩
/-- What a drawn text leaves. -/
def TextV (T : TypeId) (w : World) (r P : Nat) (e : Ending) (w' : World) : Prop := ∃ s : ByteArray, e = .returned (.string s) ∧ s.size ≤ 125 ∧ Rd T w' r P ∧ w.grownBy w' (some r)
/-- The parts of which texts are drawn: at most seven bytes each. -/
def Parts (w : World) (q : Nat) : Prop := ∀ k, k < 24 → ∃ s : ByteArray, w.cell? ⟨q, k, none⟩ = some (.string s) ∧ s.size ≤ 7
def partsA : Array Value := #[.string ⟨#[97]⟩, .string ⟨#[98]⟩, .string ⟨#[97, 98]⟩, .string ⟨#[119, 111, 114, 100]⟩, .string ⟨#[120, 49]⟩, .string ⟨#[32]⟩, .string ⟨#[32]⟩, .string ⟨#[32, 32]⟩, .string ⟨#[10]⟩, .string ⟨#[10]⟩, .string ⟨#[10, 32, 32]⟩, .string ⟨#[40]⟩, .string ⟨#[41]⟩, .string ⟨#[91, 97, 93]⟩, .string ⟨#[123, 99, 125]⟩, .string ⟨#[123]⟩, .string ⟨#[125]⟩, .string ⟨#[46]⟩, .string ⟨#[34]⟩, .string ⟨#[34, 115, 34]⟩, .string ⟨#[55]⟩, .string ⟨#[102, 111, 111, 32, 98, 97, 114]⟩, .string ⟨#[92]⟩, .string ⟨#[97, 97]⟩]
def shortV : Value → Bool
  | .string s => decide (s.size ≤ 7)
  | _ => false
theorem shortV_form {v : Value} (h : shortV v = true) : ∃ s : ByteArray, v = .string s ∧ s.size ≤ 7 := by
  unfold shortV at h
  split at h
  · exact ⟨_, rfl, of_decide_eq_true h⟩
  · cases h
theorem parts_new (w : World) (T : TypeId) : Parts (w.alloc (.cells partsA T)) w.heap.size := fun k hk => by
  have hs : partsA.size = 24 := rfl
  have ha : partsA.all shortV = true := by decide +kernel
  rw [Array.all_eq_true] at ha
  obtain ⟨s, hs1, hs2⟩ := shortV_form (ha k (by omega))
  refine ⟨s, ?_, hs2⟩
  rw [Lib.cell_of_heap (heap_alloc_new w _), Array.getElem?_eq_getElem (by omega), hs1]
theorem Parts.kept {w w' : World} {q r : Nat} (h : Parts w q) (hg : w.grownBy w' (some r)) (hq : q ≠ r) : Parts w' q := fun k hk => by
  obtain ⟨s, hc, hs⟩ := h k hk
  exact ⟨s, gcell hg hc hq, hs⟩
end Go.Proofs.Ytecejfcoognkiaa
