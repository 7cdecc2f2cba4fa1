/- Plain facts on rows of cells, and on pieces. No program is named here. -/
import Derived.Test.YtecejfcoognkiaaPm
namespace Go.Proofs.Ytecejfcoognkiaa
open Go.RowKit

/-- A slice reads as cells, s for each element, in a block below B. -/
def Row (w : World) (B : Nat) (A : Option Addr) (n s : Nat) (xs : List Value) : Prop :=
  xs.length = n * s ∧ (n ≠ 0 → ∃ ad, A = some ad ∧ ad.block < B ∧ ∀ j u, xs[j]? = some u → w.cell? (ad.add j) = some u)
theorem Row.below {w w' : World} {B B' : Nat} {A : Option Addr} {n s : Nat} {xs : List Value} (h : Row w B A n s xs) (hb : Below B' w w') (hB : B ≤ B') : Row w' B A n s xs := by
  refine ⟨h.1, fun hn => ?_⟩
  obtain ⟨ad, rfl, hlt, hc⟩ := h.2 hn
  refine ⟨ad, rfl, hlt, fun j u hj => ?_⟩
  rw [hb.cell (p := ad.add j) (by rw [add_block]; omega)]
  exact hc j u hj
theorem Row.more {w : World} {B B' : Nat} {A : Option Addr} {n s : Nat} {xs : List Value} (h : Row w B A n s xs) (hB : B ≤ B') : Row w B' A n s xs := by
  refine ⟨h.1, fun hn => ?_⟩
  obtain ⟨ad, rfl, hlt, hc⟩ := h.2 hn
  exact ⟨ad, rfl, by omega, hc⟩
theorem row_nil (w : World) (B : Nat) (A : Option Addr) (s : Nat) : Row w B A 0 s [] := ⟨by simp, fun h => absurd rfl h⟩
theorem base_add (g j : Nat) : (⟨g, 0, none⟩ : Addr).add j = ⟨g, j, none⟩ := by
  unfold Addr.add
  by_cases hj : j = 0
  · subst hj
    rfl
  · rw [if_neg hj]
    simp
theorem row_own {T : TypeId} {w : World} {base n c s : Nat} {A : Option Addr} {xs : List Value} (h : w.ownsRow base T s (.slice A n c) n xs) : Row w w.heap.size A n s xs := by
  refine ⟨h.1, fun hn => ?_⟩
  rcases h.2 with ⟨_, h0⟩ | ⟨g, cap, cur, hv, hb, hg, _⟩
  · omega
  · injection hv with h1 h2 h3
    subst h1 h3
    have hlt : g < w.heap.size := by
      rcases Nat.lt_or_ge g w.heap.size with h4 | h4
      · exact h4
      · rw [Array.getElem?_eq_none h4] at hg
        cases hg
    refine ⟨_, rfl, hlt, fun j u hj => ?_⟩
    obtain ⟨hl, _⟩ := List.getElem?_eq_some_iff.1 hj
    rw [base_add, h.cellAt j (by have := h.1; omega)]
    exact hj
theorem Row.at_ {w : World} {B : Nat} {A : Option Addr} {n s : Nat} {xs : List Value} (h : Row w B A n s xs) (hn : 0 < n) : ∃ ad, A = some ad ∧ ad.block < B ∧ ∀ j u, xs[j]? = some u → w.cell? (ad.add j) = some u := h.2 (by omega)
/-! Pieces. -/
/-- The cells of pieces, one behind the other. -/
def pieceCells (ps : List (Bool × Int × Int)) : List Value := ps.flatMap fun p => [.bool p.1, .int .i64 p.2.1, .int .i64 p.2.2]
theorem pieceCells_nil : pieceCells [] = [] := rfl
theorem pieceCells_cons (p : Bool × Int × Int) (ps : List (Bool × Int × Int)) : pieceCells (p :: ps) = .bool p.1 :: .int .i64 p.2.1 :: .int .i64 p.2.2 :: pieceCells ps := rfl
theorem pieceCells_append (a b : List (Bool × Int × Int)) : pieceCells (a ++ b) = pieceCells a ++ pieceCells b := by simp [pieceCells]
theorem pieceCells_length (ps : List (Bool × Int × Int)) : (pieceCells ps).length = ps.length * 3 := by
  induction ps with
  | nil => rfl
  | cons p ps ih =>
    rw [pieceCells_cons]
    simp only [List.length_cons, ih]
    omega
theorem pieceCells_at {ps : List (Bool × Int × Int)} {k : Nat} {b : Bool} {x y : Int} (h : ps[k]? = some (b, x, y)) : (pieceCells ps)[k * 3]? = some (.bool b) ∧ (pieceCells ps)[k * 3 + 1]? = some (.int .i64 x) ∧ (pieceCells ps)[k * 3 + 2]? = some (.int .i64 y) := by
  obtain ⟨hl, he⟩ := List.getElem?_eq_some_iff.1 h
  have e : ps = ps.take k ++ (b, x, y) :: ps.drop (k + 1) := by
    rw [← he, ← List.drop_eq_getElem_cons hl, List.take_append_drop]
  have hl2 : (pieceCells (ps.take k)).length = k * 3 := by
    rw [pieceCells_length, List.length_take]
    omega
  rw [e, pieceCells_append, pieceCells_cons]
  refine ⟨?_, ?_, ?_⟩
  · rw [List.getElem?_append_right (by omega), hl2]
    simp
  · rw [List.getElem?_append_right (by omega), hl2]
    simp
  · rw [List.getElem?_append_right (by omega), hl2]
    simp
/-- A slice of pieces reads as a list. -/
def Pieces (w : World) (B : Nat) (A : Option Addr) (n : Nat) (ps : List (Bool × Int × Int)) : Prop := ps.length = n ∧ Row w B A n 3 (pieceCells ps)
theorem Pieces.below {w w' : World} {B B' : Nat} {A : Option Addr} {n : Nat} {ps : List (Bool × Int × Int)} (h : Pieces w B A n ps) (hb : Below B' w w') (hB : B ≤ B') : Pieces w' B A n ps := ⟨h.1, h.2.below hb hB⟩
theorem Pieces.more {w : World} {B B' : Nat} {A : Option Addr} {n : Nat} {ps : List (Bool × Int × Int)} (h : Pieces w B A n ps) (hB : B ≤ B') : Pieces w B' A n ps := ⟨h.1, h.2.more hB⟩
theorem pieces_nil (w : World) (B : Nat) (A : Option Addr) : Pieces w B A 0 [] := ⟨rfl, row_nil _ _ _ _⟩
theorem Pieces.at_ {w : World} {B : Nat} {A : Option Addr} {n : Nat} {ps : List (Bool × Int × Int)} (h : Pieces w B A n ps) {k : Nat} (hk : k < n) :
    ∃ ad b x y, A = some ad ∧ ad.block < B ∧ ps[k]? = some (b, x, y) ∧ w.cell? (ad.add (k * 3)) = some (.bool b) ∧ w.cell? ((ad.add (k * 3)).add 1) = some (.int .i64 x) ∧ w.cell? ((ad.add (k * 3)).add 2) = some (.int .i64 y)
      ∧ w.cell? ⟨(ad.add (k * 3)).block, (ad.add (k * 3)).off + 1, none⟩ = some (.int .i64 x) ∧ w.cell? ⟨(ad.add (k * 3)).block, (ad.add (k * 3)).off + 2, none⟩ = some (.int .i64 y) := by
  obtain ⟨ad, rfl, hb, hc⟩ := h.2.at_ (by omega)
  have hkl : k < ps.length := by rw [h.1]; exact hk
  have hp : ps[k]? = some (ps[k].1, ps[k].2.1, ps[k].2.2) := List.getElem?_eq_getElem hkl
  obtain ⟨h0, h1, h2⟩ := pieceCells_at hp
  have c1 : w.cell? ((ad.add (k * 3)).add 1) = some (.int .i64 ps[k].2.1) := by
    rw [add_add]
    exact hc _ _ h1
  have c2 : w.cell? ((ad.add (k * 3)).add 2) = some (.int .i64 ps[k].2.2) := by
    rw [add_add]
    exact hc _ _ h2
  exact ⟨ad, _, _, _, rfl, hb, hp, hc _ _ h0, c1, c2, c1, c2⟩
theorem pieces_mk {w : World} {a : Addr} (l : Nat) (h : ∀ i, i < l → ∃ b x y, w.cell? (a.add (i * 3)) = some (.bool b) ∧ w.cell? (a.add (i * 3 + 1)) = some (.int .i64 x) ∧ w.cell? (a.add (i * 3 + 2)) = some (.int .i64 y)) : ∃ ps, Pieces w w.heap.size (some a) l ps := by
  induction l with
  | zero => exact ⟨[], pieces_nil _ _ _⟩
  | succ l ih =>
    obtain ⟨ps, hl, hm⟩ := ih fun i hi => h i (by omega)
    obtain ⟨b, x, y, h0, h1, h2⟩ := h l (by omega)
    have hcl : (pieceCells ps).length = l * 3 := by rw [pieceCells_length, hl]
    refine ⟨ps ++ [(b, x, y)], by simp [hl], by rw [pieceCells_length]; simp [hl], fun _ => ⟨a, rfl, ?_, fun j u hj => ?_⟩⟩
    · have := cell_lt h0
      rwa [add_block] at this
    · rw [pieceCells_append] at hj
      by_cases hjl : j < l * 3
      · rw [List.getElem?_append_left (by omega)] at hj
        obtain ⟨ad, he, _, hc⟩ := hm.2 (by omega)
        injection he with he
        subst he
        exact hc j u hj
      · rw [List.getElem?_append_right (by omega), hcl] at hj
        have hj3 : j - l * 3 = 0 ∨ j - l * 3 = 1 ∨ j - l * 3 = 2 := by
          rcases Nat.lt_or_ge (j - l * 3) 3 with h3 | h3
          · omega
          · rw [List.getElem?_eq_none (by simpa [pieceCells] using h3)] at hj
            cases hj
        rcases hj3 with e | e | e
        · rw [e] at hj
          obtain rfl : Value.bool b = u := by simpa [pieceCells] using hj
          rw [show j = l * 3 by omega]
          exact h0
        · rw [e] at hj
          obtain rfl : Value.int .i64 x = u := by simpa [pieceCells] using hj
          rw [show j = l * 3 + 1 by omega]
          exact h1
        · rw [e] at hj
          obtain rfl : Value.int .i64 y = u := by simpa [pieceCells] using hj
          rw [show j = l * 3 + 2 by omega]
          exact h2
/-- A row of pieces that is filled up to k. -/
def prowAt (ps : List (Bool × Int × Int)) (k : Nat) (zs : List Value) : List Value := pieceCells (ps.take k) ++ zs.drop (k * 3)
theorem prowAt_zero (ps : List (Bool × Int × Int)) (zs : List Value) : prowAt ps 0 zs = zs := by simp [prowAt, pieceCells]
theorem prowAt_end {ps : List (Bool × Int × Int)} {k : Nat} {zs : List Value} (h : ps.length = k) (hz : zs.length = k * 3) : prowAt ps k zs = pieceCells ps := by
  unfold prowAt
  rw [List.take_of_length_le (by omega), List.drop_of_length_le (by omega), List.append_nil]
theorem prowAt_length {ps : List (Bool × Int × Int)} {k : Nat} {zs : List Value} (h : k ≤ ps.length) (hz : k * 3 ≤ zs.length) : (prowAt ps k zs).length = zs.length := by
  unfold prowAt
  rw [List.length_append, pieceCells_length, List.length_take, List.length_drop]
  omega
theorem prowAt_step {ps : List (Bool × Int × Int)} {k : Nat} {zs : List Value} {b : Bool} {x y : Int} (h : ps[k]? = some (b, x, y)) (hz : k * 3 + 2 < zs.length) :
    (((prowAt ps k zs).set (k * 3) (.bool b)).set (k * 3 + 1) (.int .i64 x)).set (k * 3 + 2) (.int .i64 y) = prowAt ps (k + 1) zs := by
  obtain ⟨hl, he⟩ := List.getElem?_eq_some_iff.1 h
  have hl2 : (pieceCells (ps.take k)).length = k * 3 := by
    rw [pieceCells_length, List.length_take]
    omega
  unfold prowAt
  rw [List.take_succ_eq_append_getElem hl, pieceCells_append, he, List.drop_eq_getElem_cons (by omega : k * 3 < zs.length), List.drop_eq_getElem_cons (by omega : k * 3 + 1 < zs.length), List.drop_eq_getElem_cons (by omega : k * 3 + 1 + 1 < zs.length)]
  rw [List.set_append_right _ _ (by omega), List.set_append_right _ _ (by omega), List.set_append_right _ _ (by omega), hl2]
  have e1 : k * 3 - k * 3 = 0 := by omega
  have e2 : k * 3 + 1 - k * 3 = 1 := by omega
  have e3 : k * 3 + 2 - k * 3 = 2 := by omega
  have e4 : (k + 1) * 3 = k * 3 + 1 + 1 + 1 := by omega
  rw [e1, e2, e3, e4, List.set_cons_zero, List.set_cons_succ, List.set_cons_zero, List.set_cons_succ, List.set_cons_succ, List.set_cons_zero]
  simp [pieceCells]
/-- A slice of pieces that a call has made. -/
def OwnP (T : TypeId) (w : World) (base : Nat) (A : Option Addr) (n c : Nat) (ps : List (Bool × Int × Int)) : Prop := ps.length = n ∧ w.ownsRow base T 3 (.slice A n c) n (pieceCells ps)
theorem OwnP.below {T : TypeId} {w w' : World} {base n c : Nat} {A : Option Addr} {ps : List (Bool × Int × Int)} (h : OwnP T w base A n c ps) (hb : Below w.heap.size w w') : OwnP T w' base A n c ps := ⟨h.1, owns_below h.2 hb⟩
theorem OwnP.base {T : TypeId} {w : World} {base base' n c : Nat} {A : Option Addr} {ps : List (Bool × Int × Int)} (h : OwnP T w base A n c ps) (hb : base' ≤ base) : OwnP T w base' A n c ps := ⟨h.1, owns_base h.2 hb⟩
theorem OwnP.pieces {T : TypeId} {w : World} {base n c : Nat} {A : Option Addr} {ps : List (Bool × Int × Int)} (h : OwnP T w base A n c ps) : Pieces w w.heap.size A n ps := ⟨h.1, row_own h.2⟩
theorem OwnP.kept {T : TypeId} {w w' : World} {base n c : Nat} {A : Option Addr} {ps : List (Bool × Int × Int)} {row : Option Nat} (h : OwnP T w base A n c ps) (hg : w.grownBy w' row) (hne : ∀ k, (Value.slice A n c).ownBlock = some k → row ≠ some k) : OwnP T w' base A n c ps := by
  refine ⟨h.1, h.2.kept hg ?_⟩
  cases ho : (Value.slice A n c).ownBlock with
  | none => exact .inl rfl
  | some k => exact .inr fun e => hne k ho e.symm
theorem ownP_nil (T : TypeId) (w : World) (base : Nat) : OwnP T w base none 0 0 [] := ⟨rfl, World.ownsRow_nil _ _ _ _⟩
/-- A table by value. -/
def tableV (f m : ByteArray) (A : Option Addr) (n c : Nat) : Value := .agg #[.string f, .string m, .slice A n c]
/-- What a call that makes pieces leaves. -/
def MadeP (T : TypeId) (w : World) (ps : List (Bool × Int × Int)) (e : Ending) (w' : World) : Prop := ∃ A n c, e = .returned (.slice A n c) ∧ OwnP T w' w.heap.size A n c ps ∧ Below w.heap.size w w'
/-- What a call that makes a table leaves. -/
def MadeT (T : TypeId) (w : World) (f m : List UInt8) (ps : List (Bool × Int × Int)) (e : Ending) (w' : World) : Prop :=
  ∃ A n c, e = .returned (.agg #[.string (mk f), .string (mk m), .slice A n c]) ∧ OwnP T w' w.heap.size A n c ps ∧ Below w.heap.size w w'
/-- The pieces that the laws write into a slice, to see whose memory it is. -/
def markedP (k0 : Int) (n : Nat) : List (Bool × Int × Int) := (List.range n).map fun i : Nat => (k0 % 3 == 0, k0 + 3 * (i : Int) + 1, k0 + 3 * (i : Int) + 1 + 1)
theorem markedP_length (k0 : Int) (n : Nat) : (markedP k0 n).length = n := by simp [markedP]
theorem markedP_at {k0 : Int} {n i : Nat} (h : i < n) : (markedP k0 n)[i]? = some (k0 % 3 == 0, k0 + 3 * i + 1, k0 + 3 * i + 1 + 1) := by
  unfold markedP
  rw [List.getElem?_map, List.getElem?_range h]
  rfl
end Go.Proofs.Ytecejfcoognkiaa
