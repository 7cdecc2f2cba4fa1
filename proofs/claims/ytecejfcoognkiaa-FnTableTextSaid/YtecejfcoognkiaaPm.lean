/- Plain facts on marks, and when a slice of marks reads as a list. No program is named here. -/
import Derived.Test.YtecejfcoognkiaaPl
namespace Go.Proofs.Ytecejfcoognkiaa
open Go.RowKit

theorem add_add (a : Addr) (i j : Nat) : (a.add i).add j = a.add (i + j) := by
  unfold Addr.add
  by_cases hi : i = 0
  · subst hi
    simp
  · by_cases hj : j = 0
    · subst hj
      simp [hi]
    · rw [if_neg hi, if_neg hj, if_neg (by omega)]
      simp [Nat.add_assoc]
theorem add_block (a : Addr) (i : Nat) : (a.add i).block = a.block := by
  unfold Addr.add
  split <;> rfl
/-- A slice of marks reads as a list: each mark's two cells, in a block below B. -/
def Marks (w : World) (B : Nat) (A : Option Addr) (n : Nat) (ms : List (Int × Bool)) : Prop :=
  ms.length = n ∧ (n ≠ 0 → ∃ ad, A = some ad ∧ ad.block < B ∧ ∀ k p b, ms[k]? = some (p, b) → w.cell? (ad.add (k * 2)) = some (.int .i64 p) ∧ w.cell? (ad.add (k * 2 + 1)) = some (.bool b))
theorem Marks.at_ {w : World} {B : Nat} {A : Option Addr} {n : Nat} {ms : List (Int × Bool)} (h : Marks w B A n ms) {k : Nat} (hk : k < n) :
    ∃ ad p b, A = some ad ∧ ad.block < B ∧ ms[k]? = some (p, b) ∧ w.cell? (ad.add (k * 2)) = some (.int .i64 p) ∧ w.cell? ((ad.add (k * 2)).add 1) = some (.bool b) ∧ w.cell? ⟨(ad.add (k * 2)).block, (ad.add (k * 2)).off + 1, none⟩ = some (.bool b) := by
  obtain ⟨hl, h⟩ := h
  obtain ⟨ad, rfl, hb, hc⟩ := h (by omega)
  have hkl : k < ms.length := by omega
  have hx := hc k _ _ (List.getElem?_eq_getElem hkl)
  have hy : w.cell? ((ad.add (k * 2)).add 1) = some (.bool ms[k].2) := by
    rw [add_add]
    exact hx.2
  exact ⟨ad, ms[k].1, ms[k].2, rfl, hb, List.getElem?_eq_getElem hkl, hx.1, hy, hy⟩
theorem Marks.below {w w' : World} {B B' : Nat} {A : Option Addr} {n : Nat} {ms : List (Int × Bool)} (h : Marks w B A n ms) (hb : Below B' w w') (hB : B ≤ B') : Marks w' B A n ms := by
  refine ⟨h.1, fun hn => ?_⟩
  obtain ⟨ad, rfl, hlt, hc⟩ := h.2 hn
  refine ⟨ad, rfl, hlt, fun k p b hk => ?_⟩
  have hx := hc k p b hk
  rw [hb.cell (p := ad.add (k * 2)) (by rw [add_block]; omega), hb.cell (p := ad.add (k * 2 + 1)) (by rw [add_block]; omega)]
  exact hx
theorem Marks.more {w : World} {B B' : Nat} {A : Option Addr} {n : Nat} {ms : List (Int × Bool)} (h : Marks w B A n ms) (hB : B ≤ B') : Marks w B' A n ms := by
  refine ⟨h.1, fun hn => ?_⟩
  obtain ⟨ad, rfl, hlt, hc⟩ := h.2 hn
  exact ⟨ad, rfl, by omega, hc⟩
/-- The first marks are at places of a text of so many bytes. -/
def placesB (n : Nat) (ms : List (Int × Bool)) : Bool := ms.all fun m => inI m.1 0 (n : Int)
theorem placesB_step {n : Nat} {ms : List (Int × Bool)} {k : Nat} {p : Int} {b : Bool} (hk : ms[k]? = some (p, b)) (h : placesB n (ms.take k) = true) (hp : inI p 0 (n : Int) = true) : placesB n (ms.take (k + 1)) = true := by
  obtain ⟨hl, he⟩ := List.getElem?_eq_some_iff.1 hk
  unfold placesB at h ⊢
  rw [List.take_succ_eq_append_getElem hl, List.all_append, h, he]
  simp [hp]
theorem placesB_stop {n : Nat} {ms : List (Int × Bool)} {k : Nat} {p : Int} {b : Bool} (hk : ms[k]? = some (p, b)) (hp : inI p 0 (n : Int) = false) : placesB n ms = false := by
  obtain ⟨hl, he⟩ := List.getElem?_eq_some_iff.1 hk
  unfold placesB
  rw [List.all_eq_false]
  exact ⟨ms[k], List.getElem_mem hl, by rw [he]; simp [hp]⟩
theorem placesB_end {n : Nat} {ms : List (Int × Bool)} {k : Nat} (hk : ms.length ≤ k) (h : placesB n (ms.take k) = true) : placesB n ms = true := by
  rwa [List.take_of_length_le hk] at h
/-- MarksValid. -/
def marksB (l : List UInt8) (ms : List (Int × Bool)) : Bool := placesB l.length ms && (tvB l && decide ((ms.length : Int) ≤ 10))
theorem marksB_0 {l : List UInt8} {ms : List (Int × Bool)} (h : placesB l.length ms = false) : marksB l ms = false := by simp [marksB, h]
theorem marksB_1 {l : List UInt8} {ms : List (Int × Bool)} (h : placesB l.length ms = true) : marksB l ms = (tvB l && decide ((ms.length : Int) ≤ 10)) := by simp [marksB, h]
theorem marksB_2 {l : List UInt8} {ms : List (Int × Bool)} (h : tvB l = false) : marksB l ms = false := by simp [marksB, h]
theorem marksB_place {l : List UInt8} {ms : List (Int × Bool)} {k : Nat} {p : Int} {b : Bool} (hk : ms[k]? = some (p, b)) (hp : placeB l p = false) : marksB l ms = false := by
  cases ht : tvB l
  · exact marksB_2 ht
  · refine marksB_0 (placesB_stop hk ?_)
    unfold placeB at hp
    rw [ht, Bool.true_and] at hp
    exact hp
theorem cell_lt {w : World} {a : Addr} {v : Value} (h : w.cell? a = some v) : a.block < w.heap.size := by
  rcases Nat.lt_or_ge a.block w.heap.size with h1 | h1
  · exact h1
  · unfold World.cell? at h
    rw [Array.getElem?_eq_none h1] at h
    cases h
theorem marks_nil (w : World) (B : Nat) (A : Option Addr) : Marks w B A 0 [] := ⟨rfl, fun h => absurd rfl h⟩
theorem marks_mk {w : World} {a : Addr} (l : Nat) (h : ∀ i, i < l → ∃ p b, w.cell? (a.add (i * 2)) = some (.int .i64 p) ∧ w.cell? (a.add (i * 2 + 1)) = some (.bool b)) : ∃ ms, Marks w w.heap.size (some a) l ms := by
  induction l with
  | zero => exact ⟨[], marks_nil _ _ _⟩
  | succ l ih =>
    obtain ⟨ms, hl, hm⟩ := ih fun i hi => h i (by omega)
    obtain ⟨p, b, h1, h2⟩ := h l (by omega)
    refine ⟨ms ++ [(p, b)], by simp [hl], fun _ => ⟨a, rfl, ?_, fun k q c hk => ?_⟩⟩
    · have := cell_lt h1
      rwa [add_block] at this
    · by_cases hkl : k < l
      · rw [List.getElem?_append_left (by omega)] at hk
        obtain ⟨ad, he, _, hc⟩ := hm (by omega)
        injection he with he
        subst he
        exact hc k q c hk
      · rw [List.getElem?_append_right (by omega)] at hk
        have hk0 : k - ms.length = 0 := by
          rcases Nat.eq_zero_or_pos (k - ms.length) with h0 | h0
          · exact h0
          · rw [List.getElem?_eq_none (by simp; omega)] at hk
            cases hk
        have hkl' : k = l := by omega
        subst hkl'
        rw [hk0] at hk
        simp only [List.getElem?_cons_zero, Option.some.injEq, Prod.mk.injEq] at hk
        obtain ⟨rfl, rfl⟩ := hk
        exact ⟨h1, h2⟩
/-- The cells of marks, one behind the other. -/
def markCells (ms : List (Int × Bool)) : List Value := ms.flatMap fun m => [.int .i64 m.1, .bool m.2]
theorem markCells_nil : markCells [] = [] := rfl
theorem markCells_cons (m : Int × Bool) (ms : List (Int × Bool)) : markCells (m :: ms) = .int .i64 m.1 :: .bool m.2 :: markCells ms := rfl
theorem markCells_append (a b : List (Int × Bool)) : markCells (a ++ b) = markCells a ++ markCells b := by simp [markCells]
theorem markCells_length (ms : List (Int × Bool)) : (markCells ms).length = ms.length * 2 := by
  induction ms with
  | nil => rfl
  | cons m ms ih =>
    rw [markCells_cons]
    simp only [List.length_cons, ih]
    omega
theorem markCells_at {ms : List (Int × Bool)} {k : Nat} {p : Int} {b : Bool} (h : ms[k]? = some (p, b)) : (markCells ms)[k * 2]? = some (.int .i64 p) ∧ (markCells ms)[k * 2 + 1]? = some (.bool b) := by
  obtain ⟨hl, he⟩ := List.getElem?_eq_some_iff.1 h
  have e : ms = ms.take k ++ (p, b) :: ms.drop (k + 1) := by
    rw [← he, ← List.drop_eq_getElem_cons hl, List.take_append_drop]
  have hl2 : (markCells (ms.take k)).length = k * 2 := by
    rw [markCells_length, List.length_take]
    omega
  rw [e, markCells_append, markCells_cons]
  constructor
  · rw [List.getElem?_append_right (by omega), hl2]
    simp
  · rw [List.getElem?_append_right (by omega), hl2]
    simp
/-- A row of marks that is filled up to k. -/
def rowAt (ms : List (Int × Bool)) (k : Nat) (zs : List Value) : List Value := markCells (ms.take k) ++ zs.drop (k * 2)
theorem rowAt_zero (ms : List (Int × Bool)) (zs : List Value) : rowAt ms 0 zs = zs := by simp [rowAt, markCells]
theorem rowAt_end {ms : List (Int × Bool)} {k : Nat} {zs : List Value} (h : ms.length = k) (hz : zs.length = k * 2) : rowAt ms k zs = markCells ms := by
  unfold rowAt
  rw [List.take_of_length_le (by omega), List.drop_of_length_le (by omega), List.append_nil]
theorem rowAt_step {ms : List (Int × Bool)} {k : Nat} {zs : List Value} {p : Int} {b : Bool} (h : ms[k]? = some (p, b)) (hz : k * 2 + 1 < zs.length) :
    ((rowAt ms k zs).set (k * 2) (.int .i64 p)).set (k * 2 + 1) (.bool b) = rowAt ms (k + 1) zs := by
  obtain ⟨hl, he⟩ := List.getElem?_eq_some_iff.1 h
  have hl2 : (markCells (ms.take k)).length = k * 2 := by
    rw [markCells_length, List.length_take]
    omega
  unfold rowAt
  rw [List.take_succ_eq_append_getElem hl, markCells_append, he, List.drop_eq_getElem_cons (by omega : k * 2 < zs.length), List.drop_eq_getElem_cons (by omega : k * 2 + 1 < zs.length)]
  rw [List.set_append_right _ _ (by omega), List.set_append_right _ _ (by omega), hl2]
  have e1 : k * 2 - k * 2 = 0 := by omega
  have e2 : k * 2 + 1 - k * 2 = 1 := by omega
  have e3 : (k + 1) * 2 = k * 2 + 1 + 1 := by omega
  rw [e1, e2, e3, List.set_cons_zero, List.set_cons_succ, List.set_cons_zero]
  simp [markCells]
theorem rowAt_length {ms : List (Int × Bool)} {k : Nat} {zs : List Value} (h : k ≤ ms.length) (hz : k * 2 ≤ zs.length) : (rowAt ms k zs).length = zs.length := by
  unfold rowAt
  rw [List.length_append, markCells_length, List.length_take, List.length_drop]
  omega
theorem owns_below {w w' : World} {base : Nat} {e : TypeId} {size n : Nat} {v : Value} {xs : List Value} (h : w.ownsRow base e size v n xs) (hb : Below w.heap.size w w') : w'.ownsRow base e size v n xs := by
  obtain ⟨h1, h2⟩ := h
  refine ⟨h1, ?_⟩
  rcases h2 with h2 | ⟨g, cap, cur, hv, hg, hh, hr⟩
  · exact .inl h2
  · refine .inr ⟨g, cap, cur, hv, hg, ?_, hr⟩
    have hlt : g < w.heap.size := by
      rcases Nat.lt_or_ge g w.heap.size with h3 | h3
      · exact h3
      · rw [Array.getElem?_eq_none h3] at hh
        cases hh
    rw [hb.block g hlt]
    exact hh
theorem owns_lt {w : World} {base : Nat} {e : TypeId} {size n c g : Nat} {xs : List Value} (h : w.ownsRow base e size (.slice (some ⟨g, 0, none⟩) n c) n xs) : base ≤ g ∧ g < w.heap.size := h.lt g rfl
theorem own_ne {w : World} {base : Nat} {e : TypeId} {size n : Nat} {v : Value} {xs : List Value} (h : w.ownsRow base e size v n xs) {b : Nat} (hb : b < base) : some b ≠ v.ownBlock := by
  intro he
  have := h.lt b he.symm
  omega
theorem owns_base {w : World} {base base' : Nat} {e : TypeId} {size n : Nat} {v : Value} {xs : List Value} (h : w.ownsRow base e size v n xs) (hb : base' ≤ base) : w.ownsRow base' e size v n xs := by
  obtain ⟨h1, h2⟩ := h
  refine ⟨h1, ?_⟩
  rcases h2 with h2 | ⟨g, cap, cur, hv, hg, hr⟩
  · exact .inl h2
  · exact .inr ⟨g, cap, cur, hv, Nat.le_trans hb hg, hr⟩
theorem owns_empty (w : World) (base : Nat) (e : TypeId) (size : Nat) (h : base ≤ w.heap.size) : (w.alloc (.cells #[] e)).ownsRow base e size (.slice (some ⟨w.heap.size, 0, none⟩) 0 0) 0 [] :=
  World.ownsRow_made w #[] 0 h (Nat.zero_le _) (by simp)
theorem own_ne_hi {w : World} {base : Nat} {e : TypeId} {size n : Nat} {v : Value} {xs : List Value} (h : w.ownsRow base e size v n xs) {b : Nat} (hb : w.heap.size ≤ b) : some b ≠ v.ownBlock := by
  intro he
  have := h.lt b he.symm
  omega
/-- Marks that a call has made: block g is a row of n marks. -/
def OwnM (T : TypeId) (w : World) (base g n : Nat) (ms : List (Int × Bool)) : Prop := ms.length = n ∧ w.ownsRow base T 2 (.slice (some ⟨g, 0, none⟩) n n) n (markCells ms)
theorem OwnM.marks {T : TypeId} {w : World} {base g n : Nat} {ms : List (Int × Bool)} (h : OwnM T w base g n ms) {B : Nat} (hB : g < B) : Marks w B (some ⟨g, 0, none⟩) n ms := by
  refine ⟨h.1, fun hn => ⟨_, rfl, hB, fun k p b hk => ?_⟩⟩
  obtain ⟨hl, _⟩ := List.getElem?_eq_some_iff.1 hk
  have hkn : k < n := by rw [← h.1]; exact hl
  have hx := markCells_at hk
  have e : ∀ j, (⟨g, 0, none⟩ : Addr).add j = ⟨g, j, none⟩ := fun j => by
    unfold Addr.add
    by_cases hj : j = 0
    · subst hj
      rfl
    · rw [if_neg hj]
      simp
  rw [e, e, h.2.cellAt _ (by omega), h.2.cellAt _ (by omega)]
  exact hx
theorem OwnM.below {T : TypeId} {w w' : World} {base g n : Nat} {ms : List (Int × Bool)} (h : OwnM T w base g n ms) (hb : Below w.heap.size w w') : OwnM T w' base g n ms := ⟨h.1, owns_below h.2 hb⟩
theorem OwnM.lt {T : TypeId} {w : World} {base g n : Nat} {ms : List (Int × Bool)} (h : OwnM T w base g n ms) : base ≤ g ∧ g < w.heap.size := owns_lt h.2
/-- What a call that makes marks leaves. -/
def MadeM (T : TypeId) (w : World) (n : Nat) (ms : List (Int × Bool)) (e : Ending) (w' : World) : Prop := ∃ g, e = .returned (.slice (some ⟨g, 0, none⟩) n n) ∧ OwnM T w' w.heap.size g n ms ∧ Below w.heap.size w w'
/-- The number of the first mark with the least place behind pl, among the first k marks; -1 if there is none. -/
def bestN (ms : List (Int × Bool)) (pl : Int) : Nat → Int
  | 0 => -1
  | k + 1 => match ms[k]? with
    | none => bestN ms pl k
    | some m => if pl < m.1 ∧ (bestN ms pl k < 0 ∨ m.1 < ((ms[(bestN ms pl k).toNat]?).map (·.1)).getD 0) then (k : Int) else bestN ms pl k
theorem bestN_keep {ms : List (Int × Bool)} {pl : Int} {k : Nat} {p : Int} {b : Bool} {j : Int} (hk : ms[k]? = some (p, b)) (h : ¬ pl < p) (hj : bestN ms pl k = j) : bestN ms pl (k + 1) = j := by
  show (match ms[k]? with | none => _ | some m => _) = j
  rw [hk]
  dsimp only
  rw [if_neg (fun x => h x.1), hj]
theorem bestN_first {ms : List (Int × Bool)} {pl : Int} {k : Nat} {p : Int} {b : Bool} {j : Int} (hk : ms[k]? = some (p, b)) (h : pl < p) (hj : bestN ms pl k = j) (hj0 : j < 0) : bestN ms pl (k + 1) = k := by
  show (match ms[k]? with | none => _ | some m => _) = (k : Int)
  rw [hk]
  dsimp only
  rw [if_pos ⟨h, .inl (by omega)⟩]
theorem bestN_less {ms : List (Int × Bool)} {pl : Int} {k J : Nat} {p p' : Int} {b b' : Bool} (hk : ms[k]? = some (p, b)) (h : pl < p) (hj : bestN ms pl k = (J : Int)) (hJ : ms[J]? = some (p', b')) (hp : p < p') : bestN ms pl (k + 1) = k := by
  show (match ms[k]? with | none => _ | some m => _) = (k : Int)
  rw [hk]
  dsimp only
  rw [if_pos ⟨h, .inr (by rw [hj, Int.toNat_natCast, hJ]; exact hp)⟩]
theorem bestN_more {ms : List (Int × Bool)} {pl : Int} {k J : Nat} {p p' : Int} {b b' : Bool} (hk : ms[k]? = some (p, b)) (hj : bestN ms pl k = (J : Int)) (hJ : ms[J]? = some (p', b')) (hp : p' ≤ p) : bestN ms pl (k + 1) = J := by
  show (match ms[k]? with | none => _ | some m => _) = (J : Int)
  rw [hk]
  dsimp only
  rw [if_neg, hj]
  rintro ⟨_, h | h⟩
  · omega
  · rw [hj, Int.toNat_natCast, hJ] at h
    simp at h
    omega
/-- NextMark. -/
def nextR (l : List UInt8) (ms : List (Int × Bool)) (pl : Int) : Int := if marksB l ms then bestN ms pl ms.length else -1
theorem nextR_0 {l : List UInt8} {ms : List (Int × Bool)} {pl : Int} (h : marksB l ms = false) : nextR l ms pl = -1 := by simp [nextR, h]
theorem nextR_1 {l : List UInt8} {ms : List (Int × Bool)} {pl : Int} (h : marksB l ms = true) : nextR l ms pl = bestN ms pl ms.length := by simp [nextR, h]
/-- A slice of marks that a call has made, nil or not. -/
def OwnV (T : TypeId) (w : World) (base : Nat) (A : Option Addr) (n c : Nat) (ms : List (Int × Bool)) : Prop := ms.length = n ∧ w.ownsRow base T 2 (.slice A n c) n (markCells ms)
theorem OwnV.below {T : TypeId} {w w' : World} {base n c : Nat} {A : Option Addr} {ms : List (Int × Bool)} (h : OwnV T w base A n c ms) (hb : Below w.heap.size w w') : OwnV T w' base A n c ms := ⟨h.1, owns_below h.2 hb⟩
theorem OwnV.marks {T : TypeId} {w : World} {base n c : Nat} {A : Option Addr} {ms : List (Int × Bool)} (h : OwnV T w base A n c ms) : Marks w w.heap.size A n ms := by
  refine ⟨h.1, fun hn => ?_⟩
  rcases h.2.2 with ⟨_, h0⟩ | ⟨g, cap, cur, hv, hb, hg, _⟩
  · omega
  · injection hv with h1 h2 h3
    subst h1 h3
    have hlt : g < w.heap.size := by
      rcases Nat.lt_or_ge g w.heap.size with h4 | h4
      · exact h4
      · rw [Array.getElem?_eq_none h4] at hg
        cases hg
    refine ⟨_, rfl, hlt, fun k p b hk => ?_⟩
    obtain ⟨hl, _⟩ := List.getElem?_eq_some_iff.1 hk
    have hkn : k < n := by rw [← h.1]; exact hl
    have hx := markCells_at hk
    have e : ∀ j, (⟨g, 0, none⟩ : Addr).add j = ⟨g, j, none⟩ := fun j => by
      unfold Addr.add
      by_cases hj : j = 0
      · subst hj
        rfl
      · rw [if_neg hj]
        simp
    rw [e, e, h.2.cellAt _ (by omega), h.2.cellAt _ (by omega)]
    exact hx
theorem OwnV.kept {T : TypeId} {w w' : World} {base n c : Nat} {A : Option Addr} {ms : List (Int × Bool)} {row : Option Nat} (h : OwnV T w base A n c ms) (hg : w.grownBy w' row) (hne : ∀ k, (Value.slice A n c).ownBlock = some k → row ≠ some k) : OwnV T w' base A n c ms := by
  refine ⟨h.1, h.2.kept hg ?_⟩
  cases ho : (Value.slice A n c).ownBlock with
  | none => exact .inl rfl
  | some k => exact .inr fun e => hne k ho e.symm
theorem OwnM.toV {T : TypeId} {w : World} {base g n : Nat} {ms : List (Int × Bool)} (h : OwnM T w base g n ms) : OwnV T w base (some ⟨g, 0, none⟩) n n ms := h
/-- What a call that makes a slice of marks, nil or not, leaves. -/
def MadeV (T : TypeId) (w : World) (ms : List (Int × Bool)) (e : Ending) (w' : World) : Prop := ∃ A n c, e = .returned (.slice A n c) ∧ OwnV T w' w.heap.size A n c ms ∧ Below w.heap.size w w'
/-- Marks after a change. -/
def movedL (a c : Int) (l : Nat) (ms : List (Int × Bool)) : List (Int × Bool) := ms.map fun m => (mpI a c l m.1 m.2, m.2)
theorem movedL_length (a c : Int) (l : Nat) (ms : List (Int × Bool)) : (movedL a c l ms).length = ms.length := by simp [movedL]
theorem movedL_step {a c : Int} {l : Nat} {ms : List (Int × Bool)} {k : Nat} {p : Int} {b : Bool} (h : ms[k]? = some (p, b)) : movedL a c l (ms.take (k + 1)) = movedL a c l (ms.take k) ++ [(mpI a c l p b, b)] := by
  obtain ⟨hl, he⟩ := List.getElem?_eq_some_iff.1 h
  unfold movedL
  rw [List.take_succ_eq_append_getElem hl, List.map_append, he]
  rfl
/-- MoveMarks. -/
def moveMarksL (s : List UInt8) (ms : List (Int × Bool)) (a c : Int) (p : List UInt8) : List (Int × Bool) := if marksB s ms && fitsB s a c p then movedL a c p.length ms else []
theorem moveMarksL_0 {s : List UInt8} {ms : List (Int × Bool)} {a c : Int} {p : List UInt8} (h : marksB s ms = false ∨ fitsB s a c p = false) : moveMarksL s ms a c p = [] := by
  unfold moveMarksL
  rcases h with h | h <;> simp [h]
theorem moveMarksL_1 {s : List UInt8} {ms : List (Int × Bool)} {a c : Int} {p : List UInt8} (h : marksB s ms = true) (h' : fitsB s a c p = true) : moveMarksL s ms a c p = movedL a c p.length ms := by simp [moveMarksL, h, h']
/-- The marks that the laws write into a slice, to see whose memory it is. -/
def markedL (k0 : Int) (n : Nat) : List (Int × Bool) := (List.range n).map fun i : Nat => (k0 + 2 * (i : Int), (k0 + 2 * (i : Int) + 1) % 3 == 0)
theorem markedL_length (k0 : Int) (n : Nat) : (markedL k0 n).length = n := by simp [markedL]
theorem markedL_at {k0 : Int} {n i : Nat} (h : i < n) : (markedL k0 n)[i]? = some (k0 + 2 * i, (k0 + 2 * i + 1) % 3 == 0) := by
  unfold markedL
  rw [List.getElem?_map, List.getElem?_range h]
  rfl
end Go.Proofs.Ytecejfcoognkiaa
