/- Rows of strings in memory. -/
import Derived.Test.YtecejfcoognkiaaDoorPm
namespace Go.Proofs.YtecejfcoognkiaaDoor
open Go.RowKit

/-- A slice of strings below a block. -/
def Strs (w : World) (B : Nat) (A : Option Addr) (n : Nat) (xs : List ByteArray) : Prop :=
  xs.length = n ∧ (n ≠ 0 → ∃ ad, A = some ad ∧ ad.block < B ∧ ∀ k x, xs[k]? = some x → w.cell? (ad.add k) = some (.string x))
theorem Strs.at_ {w : World} {B : Nat} {A : Option Addr} {n : Nat} {xs : List ByteArray} (h : Strs w B A n xs) {k : Nat} (hk : k < n) :
    ∃ ad x, A = some ad ∧ ad.block < B ∧ xs[k]? = some x ∧ w.cell? (ad.add k) = some (.string x) := by
  obtain ⟨hl, h⟩ := h
  obtain ⟨ad, rfl, hb, hc⟩ := h (by omega)
  have hx := List.getElem?_eq_getElem (l := xs) (i := k) (by omega)
  exact ⟨ad, _, rfl, hb, hx, hc k _ hx⟩
theorem Strs.below {w w' : World} {B B' : Nat} {A : Option Addr} {n : Nat} {xs : List ByteArray} (h : Strs w B A n xs) (hb : Below B' w w') (hB : B ≤ B') : Strs w' B A n xs := by
  refine ⟨h.1, fun hn => ?_⟩
  obtain ⟨ad, rfl, hlt, hc⟩ := h.2 hn
  exact ⟨ad, rfl, hlt, fun k x hk => (hb.cell (p := ad.add k) (by rw [add_block]; omega)).trans (hc k x hk)⟩
theorem Strs.more {w : World} {B B' : Nat} {A : Option Addr} {n : Nat} {xs : List ByteArray} (h : Strs w B A n xs) (hB : B ≤ B') : Strs w B' A n xs := by
  refine ⟨h.1, fun hn => ?_⟩
  obtain ⟨ad, rfl, hlt, hc⟩ := h.2 hn
  exact ⟨ad, rfl, by omega, hc⟩
theorem strs_nil (w : World) (B : Nat) (A : Option Addr) : Strs w B A 0 [] := ⟨rfl, fun h => absurd rfl h⟩
/-- The cells of strings. -/
def strCells (xs : List ByteArray) : List Value := xs.map Value.string
theorem strCells_length (xs : List ByteArray) : (strCells xs).length = xs.length := List.length_map _
theorem strCells_append (a b : List ByteArray) : strCells (a ++ b) = strCells a ++ strCells b := List.map_append
theorem strCells_at {xs : List ByteArray} {k : Nat} {x : ByteArray} (h : xs[k]? = some x) : (strCells xs)[k]? = some (.string x) := by
  unfold strCells
  rw [List.getElem?_map, h]
  rfl
theorem strCells_one {xs : List ByteArray} : ∀ u ∈ strCells xs, u.oneCell' = true := by
  intro u hu
  obtain ⟨x, _, rfl⟩ := List.mem_map.1 hu
  rfl
/-- Strings that a call has made. -/
def OwnS (T : TypeId) (w : World) (base : Nat) (A : Option Addr) (n c : Nat) (xs : List ByteArray) : Prop := xs.length = n ∧ w.ownsRow base T 1 (.slice A n c) n (strCells xs)
theorem OwnS.below {T : TypeId} {w w' : World} {base n c : Nat} {A : Option Addr} {xs : List ByteArray} (h : OwnS T w base A n c xs) (hb : Below w.heap.size w w') : OwnS T w' base A n c xs := ⟨h.1, owns_below h.2 hb⟩
theorem OwnS.base {T : TypeId} {w : World} {base base' n c : Nat} {A : Option Addr} {xs : List ByteArray} (h : OwnS T w base A n c xs) (hb : base' ≤ base) : OwnS T w base' A n c xs := ⟨h.1, owns_base h.2 hb⟩
theorem add_zero_off (g j : Nat) : (⟨g, 0, none⟩ : Addr).add j = ⟨g, j, none⟩ := by
  unfold Addr.add
  by_cases hj : j = 0
  · subst hj
    rfl
  · rw [if_neg hj]
    simp
theorem OwnS.strs {T : TypeId} {w : World} {base n c : Nat} {A : Option Addr} {xs : List ByteArray} (h : OwnS T w base A n c xs) : Strs w w.heap.size A n xs := by
  refine ⟨h.1, fun hn => ?_⟩
  rcases h.2.2 with ⟨_, h0⟩ | ⟨g, cap, cur, hv, hb, hg, _⟩
  · omega
  · injection hv with h1 h2 h3
    subst h1 h3
    have hlt : g < w.heap.size := by
      rcases Nat.lt_or_ge g w.heap.size with h4 | h4
      · exact h4
      · rw [Array.getElem?_eq_none h4] at hg
        cases hg
    refine ⟨_, rfl, hlt, fun k x hk => ?_⟩
    obtain ⟨hl, _⟩ := List.getElem?_eq_some_iff.1 hk
    have hx := strCells_at hk
    rw [add_zero_off, h.2.cellAt _ (by rw [← h.1] at *; omega), hx]
/-- A row of strings that is filled up to k. -/
def rowStr (xs : List ByteArray) (k : Nat) (zs : List Value) : List Value := strCells (xs.take k) ++ zs.drop k
theorem rowStr_zero (xs : List ByteArray) (zs : List Value) : rowStr xs 0 zs = zs := by simp [rowStr, strCells]
theorem rowStr_end {xs : List ByteArray} {k : Nat} {zs : List Value} (h : xs.length = k) (hz : zs.length = k) : rowStr xs k zs = strCells xs := by
  unfold rowStr
  rw [List.take_of_length_le (by omega), List.drop_of_length_le (by omega), List.append_nil]
theorem rowStr_step {xs : List ByteArray} {k : Nat} {zs : List Value} {x : ByteArray} (h : xs[k]? = some x) (hz : k < zs.length) : (rowStr xs k zs).set k (.string x) = rowStr xs (k + 1) zs := by
  obtain ⟨hl, he⟩ := List.getElem?_eq_some_iff.1 h
  have hl2 : (strCells (xs.take k)).length = k := by
    rw [strCells_length, List.length_take]
    omega
  unfold rowStr
  rw [List.take_succ_eq_append_getElem hl, strCells_append, he, List.drop_eq_getElem_cons hz, List.set_append_right _ _ (by omega), hl2, Nat.sub_self, List.set_cons_zero]
  simp [strCells]
theorem rowStr_length {xs : List ByteArray} {k : Nat} {zs : List Value} (h : k ≤ xs.length) (hz : k ≤ zs.length) : (rowStr xs k zs).length = zs.length := by
  unfold rowStr
  rw [List.length_append, strCells_length, List.length_take, List.length_drop]
  omega
theorem strs_mk {w : World} {a : Addr} (l : Nat) (Sx : Nat → ByteArray) (h : ∀ i, i < l → w.cell? (a.add i) = some (.string (Sx i))) : Strs w w.heap.size (some a) l ((List.range l).map Sx) := by
  refine ⟨by simp, fun hl => ⟨a, rfl, ?_, fun k x hk => ?_⟩⟩
  · have := cell_lt (h 0 (by omega))
    rwa [add_block] at this
  · rw [List.getElem?_map] at hk
    by_cases hkl : k < l
    · rw [List.getElem?_range hkl] at hk
      injection hk with hk
      rw [h k hkl, hk]
    · rw [List.getElem?_eq_none (by simp; omega)] at hk
      cases hk
end Go.Proofs.YtecejfcoognkiaaDoor
