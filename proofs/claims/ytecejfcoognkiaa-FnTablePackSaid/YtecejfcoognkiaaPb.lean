/- Blocks of three cells, known whole. No program is named here. -/
import Derived.Test.YtecejfcoognkiaaPq
import Derived.Laws.Rows
import Derived.Deep.AppendLies
import Derived.Deep.Draws
namespace Go.Proofs.Ytecejfcoognkiaa
open Go.RowKit

/-- Block b holds just three cells, none frozen. -/
def B3 (w : World) (b : Nat) (T : TypeId) (x y z : Value) : Prop := w.heap[b]? = some (.cells #[x, y, z] T (0, 0))
section
variable {w w' : World} {b : Nat} {T : TypeId} {x y z : Value}
theorem B3.lt (h : B3 w b T x y z) : b < w.heap.size := (Array.getElem?_eq_some_iff.1 h).1
theorem B3.new (w : World) (T : TypeId) (x y z : Value) : B3 (w.alloc (.cells #[x, y, z] T)) w.heap.size T x y z := heap_alloc_new w _
theorem B3.alloc (h : B3 w b T x y z) (o : Obj) : B3 (w.alloc o) b T x y z := (Below.heap_alloc w o b h.lt).trans h
theorem B3.drew (h : B3 w b T x y z) : B3 w.drew b T x y z := h
theorem B3.drewN (h : B3 w b T x y z) (n : Nat) : B3 (w.drewN n) b T x y z := h
theorem B3.below {B : Nat} (h : B3 w b T x y z) (hb : Below B w w') (hB : b < B) : B3 w' b T x y z := (hb.block b hB).trans h
theorem B3.next (h : B3 w b T x y z) (hb : Below w.heap.size w w') : B3 w' b T x y z := h.below hb h.lt
theorem B3.grown {row : Option Nat} (h : B3 w b T x y z) (hg : w.grownBy w' row) (hne : some b ≠ row) : B3 w' b T x y z := (hg.block b h.lt hne).trans h
theorem B3.far (h : B3 w b T x y z) {p : Addr} (hp : b ≠ p.block) (u : Value) : B3 (w.setCell p u) b T x y z := (Below.heap_setCell w p u b hp).trans h
theorem B3.cells (h : B3 w b T x y z) : w.cell? ⟨b, 0, none⟩ = some x ∧ w.cell? ⟨b, 1, none⟩ = some y ∧ w.cell? ⟨b, 2, none⟩ = some z :=
  ⟨cell_of_row w b 0 _ T _ h, cell_of_row w b 1 _ T _ h, cell_of_row w b 2 _ T _ h⟩
theorem B3.free (h : B3 w b T x y z) : w.frozen? ⟨b, 0, none⟩ = false ∧ w.frozen? ⟨b, 1, none⟩ = false ∧ w.frozen? ⟨b, 2, none⟩ = false :=
  ⟨frozen_of_row w b 0 _ T h, frozen_of_row w b 1 _ T h, frozen_of_row w b 2 _ T h⟩
theorem B3.set_ (h : B3 w b T x y z) (x' y' z' : Value) : B3 (((w.setCell ⟨b, 0, none⟩ x').setCell ⟨b, 1, none⟩ y').setCell ⟨b, 2, none⟩ z') b T x' y' z' :=
  heap_setCell_same _ b 2 _ T z' (heap_setCell_same _ b 1 _ T y' (heap_setCell_same _ b 0 _ T x' h))
theorem B3.set0 (h : B3 w b T x y z) (x' : Value) : B3 (w.setCell ⟨b, 0, none⟩ x') b T x' y z := heap_setCell_same _ b 0 _ T x' h
theorem B3.set1 (h : B3 w b T x y z) (y' : Value) : B3 (w.setCell ⟨b, 1, none⟩ y') b T x y' z := heap_setCell_same _ b 1 _ T y' h
theorem B3.set2 (h : B3 w b T x y z) (z' : Value) : B3 (w.setCell ⟨b, 2, none⟩ z') b T x y z' := heap_setCell_same _ b 2 _ T z' h
end
/-- Block b holds just two cells, none frozen. -/
def B2 (w : World) (b : Nat) (T : TypeId) (x y : Value) : Prop := w.heap[b]? = some (.cells #[x, y] T (0, 0))
section
variable {w w' : World} {b : Nat} {T : TypeId} {x y : Value}
theorem B2.lt (h : B2 w b T x y) : b < w.heap.size := (Array.getElem?_eq_some_iff.1 h).1
theorem B2.new (w : World) (T : TypeId) (x y : Value) : B2 (w.alloc (.cells #[x, y] T)) w.heap.size T x y := heap_alloc_new w _
theorem B2.alloc (h : B2 w b T x y) (o : Obj) : B2 (w.alloc o) b T x y := (Below.heap_alloc w o b h.lt).trans h
theorem B2.drew (h : B2 w b T x y) : B2 w.drew b T x y := h
theorem B2.drewN (h : B2 w b T x y) (n : Nat) : B2 (w.drewN n) b T x y := h
theorem B2.below {B : Nat} (h : B2 w b T x y) (hb : Below B w w') (hB : b < B) : B2 w' b T x y := (hb.block b hB).trans h
theorem B2.next (h : B2 w b T x y) (hb : Below w.heap.size w w') : B2 w' b T x y := h.below hb h.lt
theorem B2.grown {row : Option Nat} (h : B2 w b T x y) (hg : w.grownBy w' row) (hne : some b ≠ row) : B2 w' b T x y := (hg.block b h.lt hne).trans h
theorem B2.far (h : B2 w b T x y) {p : Addr} (hp : b ≠ p.block) (u : Value) : B2 (w.setCell p u) b T x y := (Below.heap_setCell w p u b hp).trans h
theorem B2.cells (h : B2 w b T x y) : w.cell? ⟨b, 0, none⟩ = some x ∧ w.cell? ⟨b, 1, none⟩ = some y := ⟨cell_of_row w b 0 _ T _ h, cell_of_row w b 1 _ T _ h⟩
theorem B2.free (h : B2 w b T x y) : w.frozen? ⟨b, 0, none⟩ = false ∧ w.frozen? ⟨b, 1, none⟩ = false := ⟨frozen_of_row w b 0 _ T h, frozen_of_row w b 1 _ T h⟩
theorem B2.set_ (h : B2 w b T x y) (x' y' : Value) : B2 ((w.setCell ⟨b, 0, none⟩ x').setCell ⟨b, 1, none⟩ y') b T x' y' := heap_setCell_same _ b 1 _ T y' (heap_setCell_same _ b 0 _ T x' h)
end
/-- The row that a call owns lies in a range of blocks. -/
def InR (A : Option Addr) (lo hi : Nat) : Prop := ∀ k, (Value.slice A 0 0).ownBlock = some k → lo ≤ k ∧ k < hi
theorem ownBlock_slice (A : Option Addr) (n c n' c' : Nat) : (Value.slice A n c).ownBlock = (Value.slice A n' c').ownBlock := by cases A <;> rfl
theorem OwnP.inR {T : TypeId} {w : World} {base n c : Nat} {A : Option Addr} {ps : List (Bool × Int × Int)} (h : OwnP T w base A n c ps) : InR A base w.heap.size := fun k hk => h.2.lt k (by rw [ownBlock_slice A n c 0 0]; exact hk)
theorem InR.ne {A : Option Addr} {lo hi b n c : Nat} (h : InR A lo hi) (hb : b < lo ∨ hi ≤ b) : some b ≠ (Value.slice A n c).ownBlock := fun e => by
  have := h b (by rw [ownBlock_slice A 0 0 n c]; exact e.symm)
  omega
theorem OwnP.apart {T : TypeId} {w w' : World} {base n c n' c' lo hi lo' hi' : Nat} {A A' : Option Addr} {ps : List (Bool × Int × Int)} (h : OwnP T w base A n c ps) (hg : w.grownBy w' (Value.slice A' n' c').ownBlock) (h1 : InR A lo hi) (h2 : InR A' lo' hi') (hd : hi ≤ lo' ∨ hi' ≤ lo) : OwnP T w' base A n c ps :=
  h.kept hg fun k hk hg' => by
    have g1 := h1 k (by rw [ownBlock_slice A 0 0 n c]; exact hk)
    have g2 := h2 k (by rw [ownBlock_slice A' 0 0 n' c']; exact hg')
    omega
theorem below_inR {a w w' : World} {A : Option Addr} {n c lo hi : Nat} (h : Below a.heap.size a w) (hg : w.grownBy w' (Value.slice A n c).ownBlock) (h1 : InR A lo hi) (hl : a.heap.size ≤ lo) : Below a.heap.size a w' :=
  h.grown hg h.size fun k hk => by
    have := h1 k (by rw [ownBlock_slice A 0 0 n c]; exact hk)
    omega
end Go.Proofs.Ytecejfcoognkiaa
