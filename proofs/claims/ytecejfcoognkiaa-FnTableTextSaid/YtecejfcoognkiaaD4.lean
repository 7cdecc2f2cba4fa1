/- Places, gaps and changes drawn from codes. -/
import Derived.Test.YtecejfcoognkiaaD2
namespace Go.Proofs.Ytecejfcoognkiaa
open Go.RowKit

/-- Integers in a block, each of them as Q says. -/
def IntsAt (w : World) (q n : Nat) (Q : Int → Prop) : Prop := ∀ k, k < n → ∃ x : Int, w.cell? ⟨q, k, none⟩ = some (.int .i64 x) ∧ Q x
theorem IntsAt.new (w : World) (T : TypeId) (xs : List Int) {Q : Int → Prop} (h : ∀ x ∈ xs, Q x) : IntsAt (w.alloc (.cells (xs.map (Value.int .i64)).toArray T)) w.heap.size xs.length Q := fun k hk => by
  refine ⟨xs[k], ?_, h _ (List.getElem_mem _)⟩
  rw [Lib.cell_of_heap (heap_alloc_new w _)]
  simp [List.getElem?_eq_getElem hk]
theorem IntsAt.kept {w w' : World} {q n r : Nat} {Q : Int → Prop} (h : IntsAt w q n Q) (hg : w.grownBy w' (some r)) (hq : q ≠ r) : IntsAt w' q n Q := fun k hk => by
  obtain ⟨x, hc, hx⟩ := h k hk
  exact ⟨x, gcell hg hc hq, hx⟩
theorem IntsAt.alloc {w : World} {q n : Nat} {Q : Int → Prop} (h : IntsAt w q n Q) (o : Obj) : IntsAt (w.alloc o) q n Q := fun k hk => by
  obtain ⟨x, hc, hx⟩ := h k hk
  exact ⟨x, (World.grownBy_alloc w o none).cell hc (by simp), hx⟩
theorem gcells {w w' : World} {r : Nat} (hg : w.grownBy w' (some r)) : ∀ b o, b ≠ r → b < w.heap.size → w'.cell? ⟨b, o, none⟩ = w.cell? ⟨b, o, none⟩ := fun b o hb hlt =>
  hg.cell_far ⟨b, o, none⟩ hlt (fun e => by injection e with e; exact hb e)
theorem gfrozen {w w' : World} {r : Nat} (hg : w.grownBy w' (some r)) : ∀ b o, b ≠ r → b < w.heap.size → w'.frozen? ⟨b, o, none⟩ = w.frozen? ⟨b, o, none⟩ := fun b o hb hlt =>
  hg.frozen_far ⟨b, o, none⟩ hlt (fun e => by injection e with e; exact hb e)
theorem lit_at (xs : List Int) {Q : Int → Prop} (h : ∀ x ∈ xs, Q x) {i : Nat} (hi : i < xs.length) : ∃ x : Int, (xs.map (Value.int .i64))[i]? = some (.int .i64 x) ∧ Q x :=
  ⟨xs[i], by simp [List.getElem?_eq_getElem hi], h _ (List.getElem_mem _)⟩
/-- A reader known outright. -/
def Rdx (T : TypeId) (w : World) (r : Nat) (A : Option Addr) (L c p : Nat) : Prop := w.heap[r]? = some (.cells #[.slice A L c, .int .i64 (p : Int)] T (0, 0)) ∧ Byt w r A L
theorem Rdx.kept {T : TypeId} {w w' : World} {r L c p : Nat} {A : Option Addr} {row : Option Nat} (h : Rdx T w r A L c p) (hg : w.grownBy w' row) (hr : ∀ g, row = some g → r < g) : Rdx T w' r A L c p := by
  refine ⟨?_, h.2.kept hg fun g e => Nat.le_of_lt (hr g e)⟩
  rw [hg.block r (heap_lt h.1) (fun e => by have := hr r e.symm; omega)]
  exact h.1
theorem Rdx.alloc {T : TypeId} {w : World} {r L c p : Nat} {A : Option Addr} (h : Rdx T w r A L c p) (o : Obj) : Rdx T (w.alloc o) r A L c p := h.kept (World.grownBy_alloc w o none) (fun _ e => by cases e)
theorem Rdx.drew {T : TypeId} {w : World} {r L c p : Nat} {A : Option Addr} (h : Rdx T w r A L c p) : Rdx T w.drew r A L c p := h
theorem Rdx.drewN {T : TypeId} {w : World} {r L c p : Nat} {A : Option Addr} (h : Rdx T w r A L c p) (m : Nat) : Rdx T (w.drewN m) r A L c p := h
theorem Rdx.step {T : TypeId} {w : World} {r L c p : Nat} {A : Option Addr} (h : Rdx T w r A L c p) : Rdx T (w.setCell ⟨r, 1, none⟩ (.int .i64 ((p : Int) + 1))) r A L c (p + 1) := by
  have hg : w.grownBy (w.setCell ⟨r, 1, none⟩ (.int .i64 ((p : Int) + 1))) (some r) :=
    ⟨rfl, rfl, rfl, by simp [World.setCell], fun i _ hne => Below.heap_setCell _ _ _ _ (fun e => hne (by rw [e]))⟩
  exact ⟨(heap_setCell_same w r 1 _ T _ h.1).trans rfl, h.2.kept hg fun g e => by cases e; exact Nat.le_refl _⟩
/-- What a drawn place leaves. -/
def PlaceV (T : TypeId) (w : World) (r P : Nat) (e : Ending) (w' : World) : Prop := ∃ p : Int, e = .returned (.int .i64 p) ∧ Rd T w' r P ∧ w.grownBy w' (some r)
theorem pick_x (r L c p : Nat) (A : Option Addr) (n : Int) (w : World) (h : Rdx 55 w r A L c p) (hL : L ≤ 2000) (hp : p ≤ 1000000000) :
    Calls Try.prog 28 #[.pointer (some ⟨r, 0, none⟩), .int .i64 n] w (PickX w r p n) := pick_exact r L c p A n w h.1 hL hp h.2
theorem Rd.set {T : TypeId} {w : World} {r P : Nat} (h : Rd T w r P) {p : Addr} (hp : r < p.block) (u : Value) : Rd T (w.setCell p u) r P :=
  h.kept (row := some p.block) ⟨rfl, rfl, rfl, by simp [World.setCell], fun i _ hne => Below.heap_setCell _ _ _ _ (fun e => hne (by rw [e]))⟩ (fun g e => by cases e; exact hp)
/-- What a drawn text and place leave. -/
def SpotV (T : TypeId) (w : World) (r P : Nat) (e : Ending) (w' : World) : Prop := ∃ (s : ByteArray) (p : Int), e = .returned (.tuple #[.string s, .int .i64 p]) ∧ s.size ≤ 125 ∧ Rd T w' r P ∧ w.grownBy w' (some r)
/-- What a drawn gap leaves. -/
def GapVal (T : TypeId) (w : World) (r P : Nat) (e : Ending) (w' : World) : Prop := ∃ a b : ByteArray, e = .returned (.agg #[.string a, .string b]) ∧ a.size + b.size ≤ 130 ∧ Rd T w' r P ∧ w.grownBy w' (some r)
end Go.Proofs.Ytecejfcoognkiaa
