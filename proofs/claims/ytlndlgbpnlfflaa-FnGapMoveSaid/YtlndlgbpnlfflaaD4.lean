/- Places, gaps and changes drawn from codes. -/
import Derived.Test.YtlndlgbpnlfflaaD2
namespace Go.Proofs.Ytlndlgbpnlfflaa
open Go.RowKit

/-- Integers in a block, each of them as Q says. -/
def IntsAt (w : World) (q n : Nat) (Q : Int → Prop) : Prop := ∀ k, k < n → ∃ x : Int, w.cell? ⟨q, k, none⟩ = some (.int .i64 x) ∧ Q x
theorem IntsAt.new (w : World) (T : TypeId) (xs : List Int) {Q : Int → Prop} (h : ∀ x ∈ xs, Q x) : IntsAt (w.alloc (.cells (xs.map (Value.int .i64)).toArray T)) w.heap.size xs.length Q := fun k hk => by
  refine ⟨xs[k], ?_, h _ (List.getElem_mem _)⟩
  rw [Lib.cell_of_heap (heap_alloc_new w _)]
  simp [List.getElem?_eq_getElem hk]
theorem IntsAt.kept {w w' : World} {q n r : Nat} {Q : Int → Prop} (h : IntsAt w q n Q) (hg : w.grownBy w' (some r)) (hq : q ≠ r) : IntsAt w' q n Q := fun k hk => by
  obtain ⟨x, hc, hx⟩ := h k hk
  exact ⟨x, gcell hg hc hq, hx⟩
theorem IntsAt.alloc {w : World} {q n : Nat} {Q : Int → Prop} (h : IntsAt w q n Q) (o : Obj) : IntsAt (w.alloc o) q n Q := fun k hk => by
  obtain ⟨x, hc, hx⟩ := h k hk
  exact ⟨x, (World.grownBy_alloc w o none).cell hc (by simp), hx⟩
theorem gcells {w w' : World} {r : Nat} (hg : w.grownBy w' (some r)) : ∀ b o, b ≠ r → b < w.heap.size → w'.cell? ⟨b, o, none⟩ = w.cell? ⟨b, o, none⟩ := fun b o hb hlt =>
  hg.cell_far ⟨b, o, none⟩ hlt (fun e => by injection e with e; exact hb e)
theorem gfrozen {w w' : World} {r : Nat} (hg : w.grownBy w' (some r)) : ∀ b o, b ≠ r → b < w.heap.size → w'.frozen? ⟨b, o, none⟩ = w.frozen? ⟨b, o, none⟩ := fun b o hb hlt =>
  hg.frozen_far ⟨b, o, none⟩ hlt (fun e => by injection e with e; exact hb e)
theorem lit_at (xs : List Int) {Q : Int → Prop} (h : ∀ x ∈ xs, Q x) {i : Nat} (hi : i < xs.length) : ∃ x : Int, (xs.map (Value.int .i64))[i]? = some (.int .i64 x) ∧ Q x :=
  ⟨xs[i], by simp [List.getElem?_eq_getElem hi], h _ (List.getElem_mem _)⟩
/-- A reader known outright. -/
def Rdx (T : TypeId) (w : World) (r : Nat) (A : Option Addr) (L c p : Nat) : Prop := w.heap[r]? = some (.cells #[.slice A L c, .int .i64 (p : Int)] T (0, 0)) ∧ Byt w r A L
theorem Rdx.kept {T : TypeId} {w w' : World} {r L c p : Nat} {A : Option Addr} {row : Option Nat} (h : Rdx T w r A L c p) (hg : w.grownBy w' row) (hr : ∀ g, row = some g → r < g) : Rdx T w' r A L c p := by
  refine ⟨?_, h.2.kept hg fun g e => Nat.le_of_lt (hr g e)⟩
  rw [hg.block r (heap_lt h.1) (fun e => by have := hr r e.symm; omega)]
  exact h.1
theorem Rdx.alloc {T : TypeId} {w : World} {r L c p : Nat} {A : Option Addr} (h : Rdx T w r A L c p) (o : Obj) : Rdx T (w.alloc o) r A L c p := h.kept (World.grownBy_alloc w o none) (fun _ e => by cases e)
theorem Rdx.drew {T : TypeId} {w : World} {r L c p : Nat} {A : Option Addr} (h : Rdx T w r A L c p) : Rdx T w.drew r A L c p := h
theorem Rdx.drewN {T : TypeId} {w : World} {r L c p : Nat} {A : Option Addr} (h : Rdx T w r A L c p) (m : Nat) : Rdx T (w.drewN m) r A L c p := h
theorem Rdx.step {T : TypeId} {w : World} {r L c p : Nat} {A : Option Addr} (h : Rdx T w r A L c p) : Rdx T (w.setCell ⟨r, 1, none⟩ (.int .i64 ((p : Int) + 1))) r A L c (p + 1) := by
  have hg : w.grownBy (w.setCell ⟨r, 1, none⟩ (.int .i64 ((p : Int) + 1))) (some r) :=
    ⟨rfl, rfl, rfl, by simp [World.setCell], fun i _ hne => Below.heap_setCell _ _ _ _ (fun e => hne (by rw [e]))⟩
  exact ⟨(heap_setCell_same w r 1 _ T _ h.1).trans rfl, h.2.kept hg fun g e => by cases e; exact Nat.le_refl _⟩
/-- What a drawn place leaves. -/
def PlaceV (T : TypeId) (w : World) (r P : Nat) (e : Ending) (w' : World) : Prop := ∃ p : Int, e = .returned (.int .i64 p) ∧ Rd T w' r P ∧ w.grownBy w' (some r)
theorem pick_x (r L c p : Nat) (A : Option Addr) (n : Int) (w : World) (h : Rdx 82 w r A L c p) (hL : L ≤ 2000) (hp : p ≤ 1000000000) :
    Calls Try.prog 42 #[.pointer (some ⟨r, 0, none⟩), .int .i64 n] w (PickX w r p n) := pick_exact r L c p A n w h.1 hL hp h.2
set_option maxRecDepth 100000 in
set_option maxHeartbeats 1600000 in
theorem place_draw (r P : Nat) (s : ByteArray) (n : Int) (w : World) (h : Rd 82 w r P) (hP : P ≤ 999999900) (hs : s.size ≤ 130) :
    Calls Try.prog 53 #[.pointer (some ⟨r, 0, none⟩), .string s, .int .i64 n] w (PlaceV 82 w r (P + 5)) := by
  have hrl := h.lt
  go_enter Try.func53, Try.ntmps53
  go_wp2_with fail
  refine (odd_any r _ _ _ h (by omega)).mono ?_
  rintro e w1 ⟨b, rfl, hr1, hg1⟩
  have hz1 := hg1.size
  cases b
  · go_wp2_with fail
    refine (pick_any r _ _ _ hr1 (by omega)).mono ?_
    rintro e w2 ⟨K, rfl, hK0, hK1, hr2, hg2⟩
    have hz2 := hg2.size
    have hgw2 := gtrans hg1 hg2
    have q1 : IntsAt (w2.alloc (.cells #[.int .i64 K, .int .i64 0, .int .i64 s.size] 3)) w2.heap.size 3 (fun _ => True) := IntsAt.new w2 3 [K, 0, s.size] (fun _ _ => trivial)
    have q2 : IntsAt ((w2.alloc (.cells #[.int .i64 K, .int .i64 0, .int .i64 s.size] 3)).alloc (.cells #[.int .i64 0, .int .i64 0, .int .i64 0, .int .i64 0, .int .i64 1, .int .i64 2] 3)) (w2.alloc (.cells #[.int .i64 K, .int .i64 0, .int .i64 s.size] 3)).heap.size 6 (fun x => 0 ≤ x ∧ x ≤ 2) := IntsAt.new _ 3 [0, 0, 0, 0, 1, 2] (by simp)
    have q3 := q1.alloc (.cells #[.int .i64 0, .int .i64 0, .int .i64 0, .int .i64 0, .int .i64 1, .int .i64 2] 3)
    rw [World.size_alloc] at q2
    have hgw3 := galloc (galloc hgw2 (.cells #[.int .i64 K, .int .i64 0, .int .i64 s.size] 3)) (.cells #[.int .i64 0, .int .i64 0, .int .i64 0, .int .i64 0, .int .i64 1, .int .i64 2] 3)
    clear q1 hK0 hK1
    go_wp2_with fail
    refine (pick_any r _ _ _ ((hr2.alloc _).alloc _) (by omega)).mono ?_
    rintro e w3 ⟨I, rfl, hI0, hI1, hr3, hg3⟩
    have hI2 := hI1 (by decide)
    obtain ⟨i, rfl⟩ := Int.eq_ofNat_of_zero_le hI0
    obtain ⟨J, hcJ, hJ0, hJ1⟩ := (q2.kept hg3 (by omega)) i (by omega)
    obtain ⟨j, rfl⟩ := Int.eq_ofNat_of_zero_le hJ0
    obtain ⟨p, hcp, _⟩ := (q3.kept hg3 (by omega)) j (by omega)
    clear q2 q3 hI0 hI1 hJ0
    go_wp2
    go_ret
    exact ⟨p, rfl, hr3.more (by omega), gtrans hgw3 hg3⟩
  · have q1 : IntsAt (w1.alloc (.cells #[.int .i64 (-1), .int .i64 ((s.size : Int) + 1)] 3)) w1.heap.size 2 (fun _ => True) := IntsAt.new w1 3 [-1, (s.size : Int) + 1] (fun _ _ => trivial)
    have hgw2 := galloc hg1 (.cells #[.int .i64 (-1), .int .i64 ((s.size : Int) + 1)] 3)
    go_wp2_with fail
    refine (pick_any r _ _ _ (hr1.alloc _) (by omega)).mono ?_
    rintro e w3 ⟨I, rfl, hI0, hI1, hr3, hg3⟩
    have hI2 := hI1 (by decide)
    obtain ⟨i, rfl⟩ := Int.eq_ofNat_of_zero_le hI0
    obtain ⟨p, hcp, _⟩ := (q1.kept hg3 (by omega)) i (by omega)
    clear q1 hI0 hI1
    go_wp2
    go_ret
    exact ⟨p, rfl, hr3.more (by omega), gtrans hgw2 hg3⟩
theorem Rd.set {T : TypeId} {w : World} {r P : Nat} (h : Rd T w r P) {p : Addr} (hp : r < p.block) (u : Value) : Rd T (w.setCell p u) r P :=
  h.kept (row := some p.block) ⟨rfl, rfl, rfl, by simp [World.setCell], fun i _ hne => Below.heap_setCell _ _ _ _ (fun e => hne (by rw [e]))⟩ (fun g e => by cases e; exact hp)
/-- What a drawn text and place leave. -/
def SpotV (T : TypeId) (w : World) (r P : Nat) (e : Ending) (w' : World) : Prop := ∃ (s : ByteArray) (p : Int), e = .returned (.tuple #[.string s, .int .i64 p]) ∧ s.size ≤ 125 ∧ Rd T w' r P ∧ w.grownBy w' (some r)
/-- What a drawn gap leaves. -/
def GapVal (T : TypeId) (w : World) (r P : Nat) (e : Ending) (w' : World) : Prop := ∃ a b : ByteArray, e = .returned (.agg #[.string a, .string b]) ∧ a.size + b.size ≤ 130 ∧ Rd T w' r P ∧ w.grownBy w' (some r)
set_option maxHeartbeats 400000 in
theorem gap_draw (r P : Nat) (n : Int) (w : World) (h : Rd 82 w r P) (hP : P ≤ 999999000) :
    Calls Try.prog 41 #[.pointer (some ⟨r, 0, none⟩), .int .i64 n] w (GapVal 82 w r (P + 40)) := by
  have hrl := h.lt
  go_enter Try.func41, Try.ntmps41
  go_wp2_with fail
  refine (text_draw _ _ _ _ (h.alloc _) (by omega)).mono ?_
  rintro e w1 ⟨s, rfl, hs, hr1, hg1⟩
  have k1 := (hg1.block w.heap.size (by simp) (by intro e; injection e with e; omega)).trans (heap_alloc_new w _)
  have hz1 := hg1.size
  simp only [World.size_alloc] at hz1
  have hgw1 := gtrans (World.grownBy_alloc w _ (some r)) hg1
  go_wp2_with fail
  refine (pick_any r _ _ _ hr1 (by omega)).mono ?_
  rintro e w2 ⟨K, rfl, hK0, hK1, hr2, hg2⟩
  have hK2 := hK1 (by omega)
  obtain ⟨k, rfl⟩ := Int.eq_ofNat_of_zero_le hK0
  have k2 := (hg2.block w.heap.size (by omega) (by intro e; injection e with e; omega)).trans k1
  have c0 := Lib.cell_of_heap k2 0
  have c1 := Lib.cell_of_heap k2 1
  have f0 := Lib.frozen_of_heap k2 0
  have f1 := Lib.frozen_of_heap k2 1
  have hgw2 := gtrans hgw1 hg2
  have hk0 : (0 : Int) ≤ (k : Int) := by omega
  have hk1 : (k : Int) ≤ (s.size : Int) := by omega
  clear k1 k2 hK0 hK1 hK2
  go_wp2_with fail
  go_region
  go_wp2
  refine bodyPost_ret (v := .agg #[.string (s.extract 0 k), .string (s.extract k s.size)]) (by simp [results, Try.results41, go_sem, c0, c1]) rfl ?_
  exact ⟨_, _, rfl, by rw [ByteArray.size_extract, ByteArray.size_extract]; omega, ((hr2.drew.set (by simp only []; omega) _).set (by simp only []; omega) _).more (by omega), (by repeat (first | exact World.grownBy.refl _ _ | assumption | (refine gtrans ?_ (by assumption)) | refine galloc ?_ _ | refine gdrew ?_ | refine gdrewN ?_ _ | refine gset ?_ (by first | (simp; done) | (simp; omega)) _))⟩
end Go.Proofs.Ytlndlgbpnlfflaa
