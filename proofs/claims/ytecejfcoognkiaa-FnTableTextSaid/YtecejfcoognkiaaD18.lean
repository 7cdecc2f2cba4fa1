/- What the reference's l20Table leaves: a table (bounds only). -/
import Derived.Test.YtecejfcoognkiaaW36
import Derived.Test.YtecejfcoognkiaaW19
import Derived.Test.YtecejfcoognkiaaD6
namespace Go.Proofs.Ytecejfcoognkiaa
open Go.RowKit

/-- A table within bounds. -/
def TabV (TR T : TypeId) (w : World) (r P : Nat) (e : Ending) (w' : World) : Prop := ∃ (F M : ByteArray) (A : Option Addr) (n c : Nat) (ps : List (Bool × Int × Int)), e = .returned (.agg #[.string F, .string M, .slice A n c]) ∧ F.size ≤ 126 ∧ M.size ≤ 1000 ∧ n ≤ 100 ∧ OwnP T w' w.heap.size A n c ps ∧ Rd TR w' r P ∧ w.grownBy w' (some r)
/-- How many pieces there may be with so many rounds to go. -/
def capN (j : Nat) : Nat := if j = 0 then 63 else if j = 1 then 31 else if j = 2 then 15 else if j = 3 then 7 else if j = 4 then 3 else 1
theorem capN_step {j n k : Nat} (hj : j + 1 ≤ 5) (hn : n ≤ capN (j + 1)) (hk : k ≤ 2 * n + 1) : k ≤ capN j := by
  rcases (by omega : j = 0 ∨ j = 1 ∨ j = 2 ∨ j = 3 ∨ j = 4) with rfl | rfl | rfl | rfl | rfl <;> simp [capN] at hn ⊢ <;> omega
theorem capN_le {j : Nat} : capN j ≤ 63 ∧ 1 ≤ capN j := by
  unfold capN
  (repeat' split) <;> omega
theorem OwnP.reader {T : TypeId} {w w' : World} {base r n c : Nat} {A : Option Addr} {ps : List (Bool × Int × Int)} (h : OwnP T w base A n c ps) (hg : w.grownBy w' (some r)) (hr : r < base) : OwnP T w' base A n c ps :=
  h.kept hg fun k hk e => by
    injection e with e
    have := (h.2.lt k hk).1
    omega
/-- The changed table of a round, as far as it has come. -/
def NewT (T TT : TypeId) (base t5 : Nat) (F M : ByteArray) (n : Nat) (L : Nat → Bool) (vs : Nat → Value) (w : World) : Prop :=
  ∃ (F' M' : ByteArray) (A' : Option Addr) (n' c' : Nat) (ps' : List (Bool × Int × Int)) (ok : Bool), vs 5 = .tuple #[.agg #[.string F', .string M', .slice A' n' c'], .bool ok] ∧ F'.size ≤ F.size ∧ M'.size ≤ M.size + 130 ∧ n' ≤ 2 * n + 1 ∧ OwnP T w base A' n' c' ps' ∧
    (L 6 = true → vs 6 = .tuple #[.agg #[.string F', .string M', .slice A' n' c'], .bool ok]) ∧
    (L 7 = true → vs 7 = .agg #[.string F', .string M', .slice A' n' c']) ∧
    (L 9 = true → B3 w t5 TT (.string F') (.string M') (.slice A' n' c'))
/-- What holds between the operations of a round. -/
def RoC (TR T TT : TypeId) (w0 : World) (r P t5 : Nat) (F M : ByteArray) (A : Option Addr) (n c : Nat) (ps : List (Bool × Int × Int)) (L : Nat → Bool) (vs : Nat → Value) (w : World) : Prop :=
  (L 4 = true → ∃ (x y : Int) (p : ByteArray), vs 4 = .agg #[.int .i64 x, .int .i64 y, .string p] ∧ p.size ≤ 130) ∧
  (L 9 = false → B3 w t5 TT (.string F) (.string M) (.slice A n c)) ∧
  (L 5 = true → NewT T TT w0.heap.size t5 F M n L vs w) ∧
  (L 4 = false → Rd TR w r P) ∧ Rd TR w r (P + 50) ∧ OwnP T w w0.heap.size A n c ps ∧ w0.grownBy w (some r) ∧ B3 w w0.heap.size TT (.string ⟨#[]⟩) (.string ⟨#[]⟩) (.slice none 0 0) ∧ t5 < w.heap.size
section
variable {TR T TT : TypeId} {w0 : World} {r P t5 n c i base : Nat} {F M : ByteArray} {A : Option Addr} {ps : List (Bool × Int × Int)} {L : Nat → Bool} {vs : Nat → Value} {w w' : World} {v : Value}
theorem NewT.skip (h : NewT T TT base t5 F M n L vs w) (h5 : i ≠ 5) (h6 : i ≠ 6) (h7 : i ≠ 7) (h9 : i ≠ 9) : NewT T TT base t5 F M n (updL L i) (upd vs i v) w := by
  have e : ∀ k, k ≠ i → updL L i k = L k ∧ upd vs i v k = vs k := fun k hk => ⟨by unfold updL; rw [if_neg hk], by unfold upd; rw [if_neg hk]⟩
  unfold NewT at h ⊢
  rw [(e 6 h6.symm).1, (e 7 h7.symm).1, (e 9 h9.symm).1, (e 5 h5.symm).2, (e 6 h6.symm).2, (e 7 h7.symm).2]
  exact h
theorem RoC.skip (h : RoC TR T TT w0 r P t5 F M A n c ps L vs w) (h4 : i ≠ 4) (h5 : i ≠ 5) (h6 : i ≠ 6) (h7 : i ≠ 7) (h9 : i ≠ 9) : RoC TR T TT w0 r P t5 F M A n c ps (updL L i) (upd vs i v) w := by
  have e : ∀ k, k ≠ i → updL L i k = L k ∧ upd vs i v k = vs k := fun k hk => ⟨by unfold updL; rw [if_neg hk], by unfold upd; rw [if_neg hk]⟩
  unfold RoC at h ⊢
  rw [(e 4 h4.symm).1, (e 5 h5.symm).1, (e 9 h9.symm).1, (e 4 h4.symm).2]
  exact ⟨h.1, h.2.1, fun hh => (h.2.2.1 hh).skip h5 h6 h7 h9, h.2.2.2⟩
theorem NewT.below (h : NewT T TT base t5 F M n L vs w) (hb : Below w.heap.size w w') : NewT T TT base t5 F M n L vs w' := by
  obtain ⟨F', M', A', n', c', ps', ok, e, a, b, d, o, x, y, z⟩ := h
  exact ⟨F', M', A', n', c', ps', ok, e, a, b, d, o.below hb, x, y, fun hh => (z hh).next hb⟩
theorem RoC.below (h : RoC TR T TT w0 r P t5 F M A n c ps L vs w) (hb : Below w.heap.size w w') : RoC TR T TT w0 r P t5 F M A n c ps L vs w' := by
  obtain ⟨a, b, d, e, f, o, g, z, k⟩ := h
  exact ⟨a, fun hh => (b hh).next hb, fun hh => (d hh).below hb, fun hh => (e hh).below hb (e hh).lt, f.below hb f.lt, o.below hb, gbelow g hb, z.next hb, Nat.lt_of_lt_of_le k hb.size⟩
theorem RoC.op4 (h : RoC TR T TT w0 r P t5 F M A n c ps L vs w) (h5 : L 5 = false) (hg : w.grownBy w' (some r)) (hr : r < w0.heap.size) (ht : w0.heap.size < t5) (hrd : Rd TR w' r (P + 50)) {x y : Int} {p : ByteArray} (hp : p.size ≤ 130) : RoC TR T TT w0 r P t5 F M A n c ps (updL L 4) (upd vs 4 (.agg #[.int .i64 x, .int .i64 y, .string p])) w' := by
  obtain ⟨a, b, d, e, f, o, g, z, k⟩ := h
  refine ⟨fun _ => ⟨x, y, p, rfl, hp⟩, fun hh => (b hh).grown hg (some_ne (by omega)), fun hh => ?_, (fun hh => no_tf (show true = false from hh)), hrd, o.reader hg hr, gtrans g hg, z.grown hg (some_ne (by omega)), Nat.lt_of_lt_of_le k hg.size⟩
  have : L 5 = true := hh
  rw [h5] at this
  cases this
theorem RoC.op5 (h : RoC TR T TT w0 r P t5 F M A n c ps L vs w) (h6 : L 6 = false) (h7 : L 7 = false) (h9 : L 9 = false) (hb : Below w.heap.size w w') {F' M' : ByteArray} {A' : Option Addr} {n' c' : Nat} {ps' : List (Bool × Int × Int)} {ok : Bool} (k1 : F'.size ≤ F.size) (k2 : M'.size ≤ M.size + 130) (k3 : n' ≤ 2 * n + 1) (o' : OwnP T w' w0.heap.size A' n' c' ps') : RoC TR T TT w0 r P t5 F M A n c ps (updL L 5) (upd vs 5 (.tuple #[.agg #[.string F', .string M', .slice A' n' c'], .bool ok])) w' := by
  obtain ⟨a, b, _, e, f, o, g, z, k⟩ := h.below hb
  refine ⟨a, b, fun _ => ⟨F', M', A', n', c', ps', ok, rfl, k1, k2, k3, o', fun hh => ?_, fun hh => ?_, fun hh => ?_⟩, e, f, o, g, z, k⟩
  · have : L 6 = true := hh
    rw [h6] at this
    cases this
  · have : L 7 = true := hh
    rw [h7] at this
    cases this
  · have : L 9 = true := hh
    rw [h9] at this
    cases this
end
/-- What the operations of a round leave, the world apart. -/
def roΦ (r : Nat) (F M : ByteArray) (A : Option Addr) (n c : Nat) : Nat → World → Value → Prop
  | 0, _, v => v = .agg #[.string F, .string M, .slice A n c]
  | 1, _, v => v = .pointer (some ⟨r, 0, none⟩)
  | 2, _, v => v = .agg #[.string F, .string M, .slice A n c]
  | 3, _, v => ∃ s : ByteArray, v = .string s ∧ s.size ≤ 120
  | _, _, _ => True
theorem roΦ_stab (r : Nat) (F M : ByteArray) (A : Option Addr) (n c : Nat) : ∀ k w w' v, (fun _ _ : World => True) w w' → roΦ r F M A n c k w v → roΦ r F M A n c k w' v := fun k _ _ v _ h => by
  by_cases hk : k < 4
  · rcases (by omega : k = 0 ∨ k = 1 ∨ k = 2 ∨ k = 3) with rfl | rfl | rfl | rfl
    all_goals exact h
  · obtain ⟨j, rfl⟩ : ∃ j, k = j + 4 := ⟨k - 4, by omega⟩
    trivial
theorem OwnP.alloc {T : TypeId} {w : World} {base n c : Nat} {A : Option Addr} {ps : List (Bool × Int × Int)} (h : OwnP T w base A n c ps) (o : Obj) : OwnP T (w.alloc o) base A n c ps := ⟨h.1, h.2.alloc o⟩
theorem OwnP.some_block {T : TypeId} {w : World} {base n c : Nat} {A : Option Addr} {ps : List (Bool × Int × Int)} (h : OwnP T w base A n c ps) (hn : 0 < n) : ∃ g, A = some ⟨g, 0, none⟩ := by
  rcases h.2.2 with ⟨_, h0⟩ | ⟨g, cap, _, hv, _⟩
  · omega
  · injection hv with h1
    exact ⟨g, h1⟩
theorem size_galloc {a b : World} {row : Option Nat} (h : a.grownBy b row) (o : Obj) : a.heap.size ≤ (b.alloc o).heap.size := (galloc h o).size
theorem gown {a b c : World} {row row' : Option Nat} (h : a.grownBy b row) (k : b.grownBy c row') (hr : ∀ g, row' = some g → a.heap.size ≤ g) : a.grownBy c row :=
  ⟨k.os.trans h.os, k.tape.trans h.tape, k.output.trans h.output, Nat.le_trans h.size k.size, fun i hi hne => (k.block i (Nat.lt_of_lt_of_le hi h.size) fun e => by
    have := hr i e.symm
    omega).trans (h.block i hi hne)⟩
theorem pieces_block {w : World} {B : Nat} {T : TypeId} {b : Bool} {x y : Int} (h : B3 w B T (.bool b) (.int .i64 x) (.int .i64 y)) : Pieces w w.heap.size (some ⟨B, 0, none⟩) 1 [(b, x, y)] :=
  ⟨rfl, rfl, fun _ => ⟨_, rfl, h.lt, fun j u hj => by
    rw [base_add]
    have hl : j < 3 := (List.getElem?_eq_some_iff.1 hj).1
    obtain ⟨c0, c1, c2⟩ := h.cells
    rcases (by omega : j = 0 ∨ j = 1 ∨ j = 2) with rfl | rfl | rfl
    · rw [c0]
      exact hj
    · rw [c1]
      exact hj
    · rw [c2]
      exact hj⟩⟩
/-- Blocks from N on stay. -/
def Stay (N : Nat) (w w' : World) : Prop := ∀ b, N ≤ b → b < w.heap.size → w'.heap[b]? = w.heap[b]?
theorem Stay.refl (N : Nat) (w : World) : Stay N w w := fun _ _ _ => rfl
theorem Stay.alloc (N : Nat) (w : World) (o : Obj) : Stay N w (w.alloc o) := fun b _ h => Below.heap_alloc w o b h
theorem Stay.grown {N : Nat} {w w' : World} {row : Option Nat} (h : w.grownBy w' row) (hr : ∀ k, row = some k → k < N) : Stay N w w' := fun b hb hl => h.block b hl fun e => by
  have := hr b e.symm
  omega
theorem Stay.set {N : Nat} (w : World) {p : Addr} (hp : p.block < N) (u : Value) : Stay N w (w.setCell p u) := fun b hb _ => Below.heap_setCell w p u b (by omega)
theorem Stay.has {N : Nat} {w w' : World} {b : Nat} {o : Obj} (h : Stay N w w') (hb : N ≤ b) (ho : w.heap[b]? = some o) : w'.heap[b]? = some o := (h b hb (Array.getElem?_eq_some_iff.1 ho).1).trans ho
/-- What the operations of the odd end leave. -/
def odΦ (T I : TypeId) (N r t5 : Nat) (A : Option Addr) (n c : Nat) : Nat → World → Value → Prop
  | 0, _, v => v = .pointer (some ⟨t5, 2, none⟩)
  | 1, _, v => v = .slice A n c
  | 2, w, v => ∃ g, N ≤ g ∧ v = .slice (some ⟨g, 0, none⟩) 2 2 ∧ w.heap[g]? = some (.cells #[.int .i64 (-1), .int .i64 9223372036854775807] I (0, 0))
  | 3, _, v => v = .pointer (some ⟨r, 0, none⟩)
  | 4, _, v => v = .int .i64 0 ∨ v = .int .i64 1
  | 5, w, v => ∃ g k, N ≤ g ∧ v = .pointer (some ⟨g, k, none⟩) ∧ (k = 0 ∨ k = 1) ∧ w.heap[g]? = some (.cells #[.int .i64 (-1), .int .i64 9223372036854775807] I (0, 0))
  | 6, _, v => ∃ x, v = .int .i64 x
  | 7, _, v => ∃ x y, v = .agg #[.bool false, .int .i64 x, .int .i64 y]
  | 8, w, v => ∃ g x y, N ≤ g ∧ v = .slice (some ⟨g, 0, none⟩) 1 1 ∧ B3 w g T (.bool false) (.int .i64 x) (.int .i64 y)
  | 10, _, v => v = .pointer (some ⟨t5, 2, none⟩)
  | _, _, _ => True
theorem odΦ_stab (T I : TypeId) (N r t5 : Nat) (A : Option Addr) (n c : Nat) : ∀ k w w' v, Stay N w w' → odΦ T I N r t5 A n c k w v → odΦ T I N r t5 A n c k w' v := fun k w w' v hs h => by
  by_cases hk : k < 11
  · rcases (by omega : k = 0 ∨ k = 1 ∨ k = 2 ∨ k = 3 ∨ k = 4 ∨ k = 5 ∨ k = 6 ∨ k = 7 ∨ k = 8 ∨ k = 9 ∨ k = 10) with rfl | rfl | rfl | rfl | rfl | rfl | rfl | rfl | rfl | rfl | rfl
    · exact h
    · exact h
    · obtain ⟨g, a, b, d⟩ := h
      exact ⟨g, a, b, hs.has a d⟩
    · exact h
    · exact h
    · obtain ⟨g, k, a, b, e, d⟩ := h
      exact ⟨g, k, a, b, e, hs.has a d⟩
    · exact h
    · exact h
    · obtain ⟨g, x, y, a, b, d⟩ := h
      exact ⟨g, x, y, a, b, hs.has a d⟩
    · exact h
    · exact h
  · obtain ⟨j, rfl⟩ : ∃ j, k = j + 11 := ⟨k - 11, by omega⟩
    trivial
/-- What holds between the operations of the odd end. -/
def OdC (TR T TT : TypeId) (w0 : World) (N r P t5 : Nat) (F M : ByteArray) (A : Option Addr) (n c : Nat) (ps : List (Bool × Int × Int)) (L : Nat → Bool) (vs : Nat → Value) (w : World) : Prop :=
  (L 4 = false → Rd TR w r P) ∧ Rd TR w r (P + 1) ∧ w0.grownBy w (some r) ∧ N ≤ w.heap.size ∧ B3 w w0.heap.size TT (.string ⟨#[]⟩) (.string ⟨#[]⟩) (.slice none 0 0) ∧
  (L 11 = false → B3 w t5 TT (.string F) (.string M) (.slice A n c)) ∧
  (L 9 = false → OwnP T w w0.heap.size A n c ps) ∧
  (L 9 = true → ∃ g' c' qs, vs 9 = .slice (some ⟨g', 0, none⟩) (n + 1) c' ∧ OwnP T w w0.heap.size (some ⟨g', 0, none⟩) (n + 1) c' qs ∧ (L 11 = true → B3 w t5 TT (.string F) (.string M) (.slice (some ⟨g', 0, none⟩) (n + 1) c')))
section
variable {TR T TT : TypeId} {w0 : World} {N r P t5 n c i : Nat} {F M : ByteArray} {A : Option Addr} {ps : List (Bool × Int × Int)} {L : Nat → Bool} {vs : Nat → Value} {w w' : World} {v : Value}
theorem OdC.skip (h : OdC TR T TT w0 N r P t5 F M A n c ps L vs w) (h4 : i ≠ 4) (h9 : i ≠ 9) (h11 : i ≠ 11) : OdC TR T TT w0 N r P t5 F M A n c ps (updL L i) (upd vs i v) w := by
  have e : ∀ k, k ≠ i → updL L i k = L k ∧ upd vs i v k = vs k := fun k hk => ⟨by unfold updL; rw [if_neg hk], by unfold upd; rw [if_neg hk]⟩
  unfold OdC at h ⊢
  rw [(e 4 h4.symm).1, (e 9 h9.symm).1, (e 11 h11.symm).1, (e 9 h9.symm).2]
  exact h
theorem OdC.alloc (h : OdC TR T TT w0 N r P t5 F M A n c ps L vs w) (o : Obj) : OdC TR T TT w0 N r P t5 F M A n c ps L vs (w.alloc o) := by
  obtain ⟨a, b, d, e, f, g, k, l⟩ := h
  refine ⟨fun hh => (a hh).alloc o, b.alloc o, galloc d o, by rw [World.size_alloc]; omega, f.alloc o, fun hh => (g hh).alloc o, fun hh => (k hh).alloc o, fun hh => ?_⟩
  obtain ⟨g', c', qs, x, y, z⟩ := l hh
  exact ⟨g', c', qs, x, y.alloc o, fun hk => (z hk).alloc o⟩
theorem OdC.op4 (h : OdC TR T TT w0 N r P t5 F M A n c ps L vs w) (hg : w.grownBy w' (some r)) (hr : r < w0.heap.size) (ht : w0.heap.size < t5) (hrd : Rd TR w' r (P + 1)) : OdC TR T TT w0 N r P t5 F M A n c ps (updL L 4) (upd vs 4 v) w' := by
  obtain ⟨a, b, d, e, f, g, k, l⟩ := h
  refine ⟨(fun hh => no_tf (show true = false from hh)), hrd, gtrans d hg, Nat.le_trans e hg.size, f.grown hg (some_ne (by omega)), fun hh => (g hh).grown hg (some_ne (by omega)), fun hh => (k hh).reader hg hr, fun hh => ?_⟩
  obtain ⟨g', c', qs, x, y, z⟩ := l hh
  exact ⟨g', c', qs, x, y.reader hg hr, fun hk => (z hk).grown hg (some_ne (by omega))⟩
end
theorem text_short (f m : List UInt8) (ps : List (Bool × Int × Int)) : (mk (tableTextL f m ps)).size ≤ 120 := by
  rw [mk_size]
  cases ht : tableB f m ps
  · rw [tableTextL_0 ht]
    exact Nat.zero_le _
  · rw [tableTextL_1 ht]
    have h1 := wholeL_length (tableB_sum ht).1
    have h2 := (tableB_sum ht).2
    omega
set_option maxHeartbeats 1600000 in
theorem table_draw (r P : Nat) (n0 : Int) (w : World) (h : Rd 55 w r P) (hP : P ≤ 999990000) :
    Calls Try.prog 18 #[.pointer (some ⟨r, 0, none⟩), .int .i64 n0] w (TabV 55 29 w r (P + 400)) := by
  have hrl := h.lt
  have z1 := B3.new w 25 (.string ⟨#[]⟩) (.string ⟨#[]⟩) (.slice none 0 0)
  have h1 := h.alloc (.cells #[.string ⟨#[]⟩, .string ⟨#[]⟩, .slice none 0 0] 25)
  have g1 : w.grownBy (w.alloc (.cells #[.string ⟨#[]⟩, .string ⟨#[]⟩, .slice none 0 0] 25)) (some r) := galloc (World.grownBy.refl _ _) _
  go_enter Try.func18, Try.ntmps18
  go_wp2_with fail
  generalize w.alloc (.cells #[.string ⟨#[]⟩, .string ⟨#[]⟩, .slice none 0 0] 25) = w1 at z1 h1 g1 ⊢
  refine (text_draw _ _ _ _ h1 (by omega)).mono ?_
  rintro e w2 ⟨s, rfl, hs, hr2, hg2⟩
  have z2 := z1.grown hg2 (some_ne (by omega))
  have g2 := gtrans g1 hg2
  clear z1 h1 g1 hg2
  go_wp2_with fail
  refine (specTableOf_any s _ (by unfold maxLen; omega)).mono ?_
  rintro e w3 ⟨A1, n1, c1, rfl, ho3, hb3⟩
  have hpl : n1 ≤ 1 := by
    rw [← ho3.1]
    unfold tableOfP
    (repeat' split) <;> simp
  obtain ⟨F1, hF⟩ : ∃ F, mk (tableOfF s.data.toList) = F := ⟨_, rfl⟩
  obtain ⟨M1, hM⟩ : ∃ M, mk [] = M := ⟨_, rfl⟩
  obtain ⟨ps1, hps⟩ : ∃ ps, tableOfP s.data.toList = ps := ⟨_, rfl⟩
  have hFs1 : F1.size ≤ 125 := by
    rw [← hF, mk_size]
    unfold tableOfF
    have : s.data.toList.length = s.size := rfl
    split <;> simp <;> omega
  have hMs1 : M1.size ≤ 0 := by
    rw [← hM]
    exact Nat.le_refl _
  rw [hF, hM]
  rw [hps] at ho3
  clear hF hM hps
  have z3 := z2.next hb3
  have g3 := gbelow g2 hb3
  have r3 := hr2.below hb3 hr2.lt
  have o3 := ho3.base (base' := w.heap.size) g2.size
  clear z2 g2 hb3 ho3 hr2
  have z4 := z3.alloc (.cells #[.string F1, .string M1, .slice A1 n1 c1] 25)
  have t4 := B3.new w3 25 (.string F1) (.string M1) (.slice A1 n1 c1)
  have g4 := galloc g3 (.cells #[.string F1, .string M1, .slice A1 n1 c1] 25)
  have r4 := r3.alloc (.cells #[.string F1, .string M1, .slice A1 n1 c1] 25)
  have o4 : OwnP 29 (w3.alloc (.cells #[.string F1, .string M1, .slice A1 n1 c1] 25)) w.heap.size A1 n1 c1 ps1 := ⟨o3.1, o3.2.alloc _⟩
  have ht5 : w.heap.size < w3.heap.size := z3.lt
  clear z3 g3 r3 o3
  go_wp2_with fail
  generalize w3.alloc (.cells #[.string F1, .string M1, .slice A1 n1 c1] 25) = w4 at z4 t4 g4 r4 o4 ⊢
  generalize w3.heap.size = t5 at t4 ht5 ⊢
  refine (pick_any r _ _ _ r4 (by omega)).mono ?_
  rintro e w5 ⟨K, rfl, hK0, hK1, r5, hg5⟩
  have hK2 := hK1 (by decide)
  obtain ⟨k0, rfl⟩ := Int.eq_ofNat_of_zero_le hK0
  have z5 := z4.grown hg5 (some_ne (by omega))
  have t5' := t4.grown hg5 (some_ne (by omega))
  have g5 := gtrans g4 hg5
  have o5 := o4.reader hg5 hrl
  clear z4 t4 g4 r4 o4 hg5
  go_wp2_with fail
  go_loopw [6] (fun k wr => ∃ (j n c : Nat) (F M : ByteArray) (A : Option Addr) (ps : List (Bool × Int × Int)), j ≤ 5 ∧ k = .int .i64 j ∧ B3 wr t5 25 (.string F) (.string M) (.slice A n c) ∧ B3 wr w.heap.size 25 (.string ⟨#[]⟩) (.string ⟨#[]⟩) (.slice none 0 0) ∧ F.size ≤ 125 ∧ M.size ≤ (5 - j) * 130 ∧ n ≤ capN j ∧ OwnP 29 wr w.heap.size A n c ps ∧ Rd 55 wr r (P + 31 + (5 - j) * 50) ∧ w.grownBy wr (some r)) (fun k _ => (intOf k).toNat)
  case atStart => exact ⟨k0, n1, c1, F1, M1, A1, ps1, by omega, rfl, t5', z5, hFs1, by omega, by have := (capN_le (j := k0)).2; omega, o5, r5.more (by omega), g5⟩
  case round =>
    obtain ⟨j, n, c, F, M, A, ps, hj, rfl, t6, z6, hFs, hMs, hn, o6, r6, g6⟩ := hrel
    by_cases hj0 : 0 < j
    · have hj1 : (0 : Int) < (j : Int) := by omega
      go_wp2_with fail
      obtain ⟨Pj, hPj⟩ : ∃ Pj, P + 31 + (5 - j) * 50 = Pj := ⟨_, rfl⟩
      have hPj2 : Pj ≤ 999999000 := by omega
      have hn' : n ≤ 63 := by
        have := (capN_le (j := j)).1
        omega
      rw [hPj] at r6
      have HPj := Lib.hid hPj
      clear hPj
      refine wp_region_slots3 (by kernel_rfl) (fun vs => ⟨#[.pointer (some ⟨r, 0, none⟩), .int .i64 n0, undef, undef, .pointer (some ⟨w.heap.size, 0, none⟩), .pointer (some ⟨t5, 0, none⟩), .int .i64 (j : Int), .pointer (some ⟨r, 0, none⟩), .string s, .agg #[.string F1, .string M1, .slice A1 n1 c1], .pointer (some ⟨r, 0, none⟩), .int .i64 (k0 : Int), .int .i64 (j : Int), .bool true, u14, u15, vs 6, vs 0, vs 1, vs 2, vs 3, vs 4, vs 5, vs 7, vs 8, undef, undef, undef, undef, undef, undef, undef, undef, undef, undef, undef, undef, undef, undef, undef, undef, undef, undef, undef, undef, undef, undef, undef, undef, undef, undef, undef, undef, undef, undef, undef, undef, undef, undef, undef, undef, undef, undef, undef, undef, undef, undef], []⟩) (fun k => match k with | 0 => u17 | 1 => u18 | 2 => u19 | 3 => u20 | 4 => u21 | 5 => u22 | 6 => u16 | 7 => u23 | 8 => u24 | _ => undef) rfl (roΦ r F M A n c) (fun L _ vs w' => RoC 55 29 25 w r Pj t5 F M A n c ps L vs w') (fun _ _ => True) (roΦ_stab r F M A n c) (by kernel_rfl) ⟨(fun h => no_ft h), fun _ => t6.drew, (fun h => no_ft h), fun _ => r6.drew, (r6.more (by omega)).drew, o6, gdrew g6, z6.drew, t6.lt⟩ ?_ ?_
      · intro L m' vs w' i hi hm hL hcl hd hC hΦ
        have hi' : i < 10 := hi
        rcases (by omega : i = 0 ∨ i = 1 ∨ i = 2 ∨ i = 3 ∨ i = 4 ∨ i = 5 ∨ i = 6 ∨ i = 7 ∨ i = 8 ∨ i = 9) with rfl | rfl | rfl | rfl | rfl | rfl | rfl | rfl | rfl | rfl
        · have hL9 : L 9 = false := by
            cases h : L 9
            · rfl
            · have := hcl 5 0 (hcl 9 5 h (by kernel_rfl)) (by kernel_rfl)
              rw [hL] at this
              cases this
          obtain ⟨c0, c1', c2⟩ := (hC.2.1 hL9).cells
          refine wpOp_step rfl (fun K hK => ?_)
          go_simp
          exact hK _ _ ⟨_, by simp [upd], trivial, hC.skip (by decide) (by decide) (by decide) (by decide) (by decide), rfl⟩
        · refine wpOp_step rfl (fun K hK => ?_)
          go_simp
          exact hK _ _ ⟨_, by simp [upd], trivial, hC.skip (by decide) (by decide) (by decide) (by decide) (by decide), rfl⟩
        · have hL9 : L 9 = false := by
            cases h : L 9
            · rfl
            · have := hcl 3 2 (hcl 4 3 (hcl 5 4 (hcl 9 5 h (by kernel_rfl)) (by kernel_rfl)) (by kernel_rfl)) (by kernel_rfl)
              rw [hL] at this
              cases this
          obtain ⟨c0, c1', c2⟩ := (hC.2.1 hL9).cells
          refine wpOp_step rfl (fun K hK => ?_)
          go_simp
          exact hK _ _ ⟨_, by simp [upd], trivial, hC.skip (by decide) (by decide) (by decide) (by decide) (by decide), rfl⟩
        · have h2 : vs 2 = .agg #[.string F, .string M, .slice A n c] := hΦ 2 (hd 2 (by kernel_rfl))
          refine wpOp_step rfl (fun K hK => ?_)
          go_simp
          refine (specTableText_any F M A n c ps _ (by omega) (by omega) (by omega) hC.2.2.2.2.2.1.pieces).mono ?_
          rintro e w3' ⟨rfl, hb3⟩
          go_simp
          exact hK _ _ ⟨.string (mk (tableTextL F.data.toList M.data.toList ps)), by simp [upd, h2], trivial, (hC.below hb3).skip (by decide) (by decide) (by decide) (by decide) (by decide), ⟨_, rfl, text_short _ _ _⟩⟩
        · have h1 : vs 1 = .pointer (some ⟨r, 0, none⟩) := hΦ 1 (hd 1 (by kernel_rfl))
          obtain ⟨sx, h3, hsx⟩ : ∃ sx : ByteArray, vs 3 = .string sx ∧ sx.size ≤ 120 := hΦ 3 (hd 3 (by kernel_rfl))
          have hL5 : L 5 = false := by
            cases h : L 5
            · rfl
            · have := hcl 5 4 h (by kernel_rfl)
              rw [hL] at this
              cases this
          refine wpOp_step rfl (fun K hK => ?_)
          go_simp
          refine (change_draw r Pj sx 0 _ (hC.2.2.2.1 hL) (by omega) (by omega)).mono ?_
          rintro e w3' ⟨x, y, p, rfl, hp, hr3, hg3⟩
          go_simp
          exact hK _ _ ⟨.agg #[.int .i64 x, .int .i64 y, .string p], by simp [upd, h1, h3], trivial, hC.op4 hL5 hg3 hrl ht5 hr3 hp, trivial⟩
        · have h0 : vs 0 = .agg #[.string F, .string M, .slice A n c] := hΦ 0 (hd 0 (by kernel_rfl))
          obtain ⟨x, y, p, h4, hp⟩ := hC.1 (hd 4 (by kernel_rfl))
          have hL6 : L 6 = false := by
            cases h : L 6
            · rfl
            · have := hcl 6 5 h (by kernel_rfl)
              rw [hL] at this
              cases this
          have hL7 : L 7 = false := by
            cases h : L 7
            · rfl
            · have := hcl 7 6 h (by kernel_rfl)
              rw [hL6] at this
              cases this
          have hL9 : L 9 = false := by
            cases h : L 9
            · rfl
            · have := hcl 9 5 h (by kernel_rfl)
              rw [hL] at this
              cases this
          refine wpOp_step rfl (fun K hK => ?_)
          go_simp
          refine (specTableChange_any F M p A n c w.heap.size x y ps _ (by omega) (by omega) (by omega) (by omega) hC.2.2.2.2.2.1).mono ?_
          rintro e w3' ⟨F', M', A', n', c', ps', ok, rfl, k1, k2, k3, o', hb3⟩
          go_simp
          exact hK _ _ ⟨.tuple #[.agg #[.string F', .string M', .slice A' n' c'], .bool ok], by simp [upd, h0, h4], trivial, hC.op5 hL6 hL7 hL9 hb3 k1 (Nat.le_trans k2 (by omega)) k3 (o'.base hC.2.2.2.2.2.2.1.size), trivial⟩
        · obtain ⟨a, b, d, rest⟩ := hC
          obtain ⟨F', M', A', n', c', ps', ok, e5, k1, k2, k3, o', x6, x7, x9⟩ := d (hd 5 (by kernel_rfl))
          refine wpOp_step rfl (fun K hK => ?_)
          go_simp
          exact hK _ _ ⟨.tuple #[.agg #[.string F', .string M', .slice A' n' c'], .bool ok], by simp [upd, e5], trivial, ⟨a, b, fun _ => ⟨F', M', A', n', c', ps', ok, e5, k1, k2, k3, o', fun _ => rfl, x7, x9⟩, rest⟩, trivial⟩
        · have hL5 : L 5 = true := hcl 6 5 (hd 6 (by kernel_rfl)) (by kernel_rfl)
          obtain ⟨a, b, d, rest⟩ := hC
          obtain ⟨F', M', A', n', c', ps', ok, e5, k1, k2, k3, o', x6, x7, x9⟩ := d hL5
          have e6 := x6 (hd 6 (by kernel_rfl))
          refine wpOp_step rfl (fun K hK => ?_)
          go_simp
          exact hK _ _ ⟨.agg #[.string F', .string M', .slice A' n' c'], by simp [upd, e5, e6], trivial, ⟨a, b, fun _ => ⟨F', M', A', n', c', ps', ok, e5, k1, k2, k3, o', x6, fun _ => rfl, x9⟩, rest⟩, trivial⟩
        · have hL5 : L 5 = true := hcl 6 5 (hd 6 (by kernel_rfl)) (by kernel_rfl)
          obtain ⟨F', M', A', n', c', ps', ok, e5, k1, k2, k3, o', x6, x7, x9⟩ := hC.2.2.1 hL5
          have e6 := x6 (hd 6 (by kernel_rfl))
          refine wpOp_step rfl (fun K hK => ?_)
          go_simp
          exact hK _ _ ⟨.bool ok, by simp [upd, e5, e6], trivial, hC.skip (by decide) (by decide) (by decide) (by decide) (by decide), trivial⟩
        · obtain ⟨a, b, d, e, f, o, g, z, k⟩ := hC
          obtain ⟨F', M', A', n', c', ps', ok, e5, k1, k2, k3, o', x6, x7, x9⟩ := d (hd 5 (by kernel_rfl))
          have e7 := x7 (hd 7 (by kernel_rfl))
          have hL6 : L 6 = true := hcl 7 6 (hd 7 (by kernel_rfl)) (by kernel_rfl)
          have hB := b hL
          obtain ⟨q0, q1, q2⟩ := hB.cells
          obtain ⟨p0, p1, p2⟩ := hB.free
          refine wpOp_step rfl (fun K hK => ?_)
          go_simp
          exact hK _ _ ⟨undef, by simp [upd, e5, e7, x6 hL6], trivial, ⟨a, (fun hh => no_tf (show true = false from hh)), fun _ => ⟨F', M', A', n', c', ps', ok, e5, k1, k2, k3, o'.set3_far hB (by decide) _ _ _, x6, x7, fun _ => hB.set_ _ _ _⟩, fun hh => (((e hh).set (by simp only []; omega) _).set (by simp only []; omega) _).set (by simp only []; omega) _, ((f.set (by simp only []; omega) _).set (by simp only []; omega) _).set (by simp only []; omega) _, o.set3_far hB (by decide) _ _ _, gset (gset (gset g (by simp only []; omega) _) (by simp only []; omega) _) (by simp only []; omega) _, ((z.far (by simp only []; omega) _).far (by simp only []; omega) _).far (by simp only []; omega) _, by simpa using k⟩, trivial⟩
      · intro L m' vs w7 hk hall hC hΦ
        obtain ⟨_, _, d, _, f, _, g, z, k⟩ := hC
        obtain ⟨F', M', A', n', c', ps', ok, e5, k1, k2, k3, o', x6, x7, x9⟩ := d (hall 5 (by decide))
        have t7 := x9 (hall 9 (by decide))
        have hPj := HPj.out
        clear hΦ hall x6 x7 x9 d e5
        go_wp2_with fail
        obtain ⟨j0, rfl⟩ : ∃ j0, j = j0 + 1 := ⟨j - 1, by omega⟩
        exact ⟨⟨j0, n', c', F', M', A', ps', by omega, by rw [show (((j0 + 1 : Nat) : Int) - 1) = (j0 : Int) by omega], t7, z, by omega, by omega, capN_step hj hn k3, o', f.more (by omega), g⟩, by simp [intOf]⟩
    · obtain rfl : j = 0 := by omega
      go_wp2_with fail
      refine (odd_any r _ n0 _ r6 (by omega)).mono ?_
      rintro e w7 ⟨od, rfl, r7, hg7⟩
      have t7 := t6.grown hg7 (some_ne (by omega))
      have z7 := z6.grown hg7 (some_ne (by omega))
      have g7 := gtrans g6 hg7
      have o7 := o6.reader hg7 hrl
      clear t6 z6 g6 o6 r6 hg7
      replace hn : n ≤ 63 := hn
      clear t5' z5 g5 o5 r5 hj0 hj
      obtain ⟨i0, hi0, hz0, hz1, hz2⟩ := info_parts pieceInfo5
      cases od
      · obtain ⟨c0, c1', c2⟩ := t7.cells
        obtain ⟨d0, d1, d2⟩ := z7.cells
        obtain ⟨p0, p1, p2⟩ := z7.free
        obtain ⟨e0, e1, e2⟩ := (z7.set_ (.string F) (.string M) (.slice A n c)).cells
        go_wp2_with fail
        refine bodyPost_ret (v := .agg #[.string F, .string M, .slice A n c]) (by simp only [results, Try.results18]; simp [go_sem, e0, e1, e2]) rfl ?_
        exact ⟨F, M, A, n, c, ps, rfl, by omega, by omega, by omega, o7.set3_far z7 (by decide) _ _ _, (((r7.more (by omega)).set (by simp only []; omega) _).set (by simp only []; omega) _).set (by simp only []; omega) _, gset (gset (gset g7 (by simp only []; omega) _) (by simp only []; omega) _) (by simp only []; omega) _⟩
      · go_wp2_with fail
        refine (pick_any r _ _ _ r7 (by omega)).mono ?_
        rintro e w8 ⟨K, rfl, hK0, hK1, r8, hg8⟩
        have hK2 := hK1 (by decide)
        have t8 := t7.grown hg8 (some_ne (by omega))
        have z8 := z7.grown hg8 (some_ne (by omega))
        have g8 := gtrans g7 hg8
        have o8 := o7.reader hg8 hrl
        clear t7 z7 g7 o7 r7 hg8
        rcases (by omega : K = 0 ∨ K = 1 ∨ K = 2 ∨ K = 3) with rfl | rfl | rfl | rfl
        · obtain ⟨x0, x1, x2⟩ := t8.cells
          obtain ⟨y0, y1, y2⟩ := t8.free
          have t9 := t8.set0 (.string (F ++ ⟨#[9]⟩))
          have z9 := z8.far (p := ⟨t5, 0, none⟩) (by simp only []; omega) (.string (F ++ ⟨#[9]⟩))
          have o9 := o8.set_far (q := ⟨t5, 0, none⟩) (o8.ne_block' t8 (by decide)) (.string (F ++ ⟨#[9]⟩))
          have g9 := gset g8 (p := ⟨t5, 0, none⟩) (by simp only []; omega) (.string (F ++ ⟨#[9]⟩))
          have r9 := r8.set (p := ⟨t5, 0, none⟩) (by simp only []; omega) (.string (F ++ ⟨#[9]⟩))
          clear z8 o8 g8 r8
          obtain ⟨c0, c1', c2⟩ := t9.cells
          obtain ⟨d0, d1, d2⟩ := z9.cells
          obtain ⟨p0, p1, p2⟩ := z9.free
          obtain ⟨e0, e1, e2⟩ := (z9.set_ (.string (F ++ ⟨#[9]⟩)) (.string M) (.slice A n c)).cells
          go_wp2_with fail
          refine bodyPost_ret (v := .agg #[.string (F ++ ⟨#[9]⟩), .string M, .slice A n c]) (by simp only [results, Try.results18]; simp [go_sem, e0, e1, e2]) rfl ?_
          exact ⟨(F ++ ⟨#[9]⟩), M, A, n, c, ps, rfl, by rw [ByteArray.size_append]; exact Nat.add_le_add_right hFs 1, by omega, by omega, o9.set3_far z9 (by decide) _ _ _, (((r9.more (by omega)).set (by simp only []; omega) _).set (by simp only []; omega) _).set (by simp only []; omega) _, gset (gset (gset g9 (by simp only []; omega) _) (by simp only []; omega) _) (by simp only []; omega) _⟩
        · obtain ⟨x0, x1, x2⟩ := t8.cells
          go_wp2_with (at_builtin; refine wpList_append_piece2 rfl _ _ 23 rfl 29 i0 _ Try.underlying23 hi0 hz0 hz1 hz2 rfl w.heap.size _ _ _ _ rfl (OwnP.alloc o8 _) (w8.heap.size) false _ _ rfl (heap_alloc_new _ _) ?_ (size_galloc g8 _) ?_; omega; intro gx cx w9 o9 hg9 hs9; have t9 := (t8.alloc _).grown hg9 (fun e => o8.ne_block' t8 (by decide) t5 e.symm rfl); have z9 := (z8.alloc _).grown hg9 (fun e => o8.ne_block' z8 (by decide) w.heap.size e.symm rfl); have g9 := gown (galloc g8 _) hg9 (fun k hk => (o8.2.lt k hk).1); have r9 := (r8.alloc _).kept hg9 (fun k hk => Nat.lt_of_lt_of_le hrl (o8.2.lt k hk).1); have q9 := o9.set_far (q := ⟨t5, 2, none⟩) (o9.ne_block' t9 (by decide)) (.slice (some ⟨gx, 0, none⟩) (n + 1) cx); obtain ⟨a0, a1, a2⟩ := t9.cells; obtain ⟨b0, b1, b2⟩ := t9.free; have t10 := t9.set2 (.slice (some ⟨gx, 0, none⟩) (n + 1) cx); have z10 := z9.far (p := ⟨t5, 2, none⟩) (by simp only []; omega) (.slice (some ⟨gx, 0, none⟩) (n + 1) cx); obtain ⟨c0, c1', c2⟩ := t10.cells; obtain ⟨d0, d1, d2⟩ := z10.cells; obtain ⟨p0, p1, p2⟩ := z10.free; obtain ⟨e0, e1, e2⟩ := (z10.set_ (.string F) (.string M) (.slice (some ⟨gx, 0, none⟩) (n + 1) cx)).cells)
          refine bodyPost_ret (v := .agg #[.string F, .string M, .slice (some ⟨gx, 0, none⟩) (n + 1) cx]) (by simp only [results, Try.results18]; simp [go_sem, e0, e1, e2]) rfl ?_
          exact ⟨F, M, (some ⟨gx, 0, none⟩), (n + 1), cx, _, rfl, by omega, by omega, by omega, q9.set3_far z10 (by decide) _ _ _, (((((r9.set (by simp only []; omega) _)).more (by omega)).set (by simp only []; omega) _).set (by simp only []; omega) _).set (by simp only []; omega) _, gset (gset (gset (gset g9 (by simp only []; omega) _) (by simp only []; omega) _) (by simp only []; omega) _) (by simp only []; omega) _⟩
        · obtain ⟨x0, x1, x2⟩ := t8.cells
          go_wp2_with (at_builtin; refine wpList_append_piece2 rfl _ _ 23 rfl 29 i0 _ Try.underlying23 hi0 hz0 hz1 hz2 rfl w.heap.size _ _ _ _ rfl (OwnP.alloc o8 _) (w8.heap.size) true _ _ rfl (heap_alloc_new _ _) ?_ (size_galloc g8 _) ?_; omega; intro gx cx w9 o9 hg9 hs9; have t9 := (t8.alloc _).grown hg9 (fun e => o8.ne_block' t8 (by decide) t5 e.symm rfl); have z9 := (z8.alloc _).grown hg9 (fun e => o8.ne_block' z8 (by decide) w.heap.size e.symm rfl); have g9 := gown (galloc g8 _) hg9 (fun k hk => (o8.2.lt k hk).1); have r9 := (r8.alloc _).kept hg9 (fun k hk => Nat.lt_of_lt_of_le hrl (o8.2.lt k hk).1); have q9 := o9.set_far (q := ⟨t5, 2, none⟩) (o9.ne_block' t9 (by decide)) (.slice (some ⟨gx, 0, none⟩) (n + 1) cx); obtain ⟨a0, a1, a2⟩ := t9.cells; obtain ⟨b0, b1, b2⟩ := t9.free; have t10 := t9.set2 (.slice (some ⟨gx, 0, none⟩) (n + 1) cx); have z10 := z9.far (p := ⟨t5, 2, none⟩) (by simp only []; omega) (.slice (some ⟨gx, 0, none⟩) (n + 1) cx); obtain ⟨c0, c1', c2⟩ := t10.cells; obtain ⟨d0, d1, d2⟩ := z10.cells; obtain ⟨p0, p1, p2⟩ := z10.free; obtain ⟨e0, e1, e2⟩ := (z10.set_ (.string F) (.string M) (.slice (some ⟨gx, 0, none⟩) (n + 1) cx)).cells)
          refine bodyPost_ret (v := .agg #[.string F, .string M, .slice (some ⟨gx, 0, none⟩) (n + 1) cx]) (by simp only [results, Try.results18]; simp [go_sem, e0, e1, e2]) rfl ?_
          exact ⟨F, M, (some ⟨gx, 0, none⟩), (n + 1), cx, _, rfl, by omega, by omega, by omega, q9.set3_far z10 (by decide) _ _ _, (((((r9.set (by simp only []; omega) _)).more (by omega)).set (by simp only []; omega) _).set (by simp only []; omega) _).set (by simp only []; omega) _, gset (gset (gset (gset g9 (by simp only []; omega) _) (by simp only []; omega) _) (by simp only []; omega) _) (by simp only []; omega) _⟩
        · go_wp2_with fail
          refine wp_region_slots3 (by kernel_rfl) (fun vs => ⟨#[.pointer (some ⟨r, 0, none⟩), .int .i64 n0, undef, undef, .pointer (some ⟨w.heap.size, 0, none⟩), .pointer (some ⟨t5, 0, none⟩), .int .i64 0, .pointer (some ⟨r, 0, none⟩), .string s, .agg #[.string F1, .string M1, .slice A1 n1 c1], .pointer (some ⟨r, 0, none⟩), .int .i64 (k0 : Int), .int .i64 0, .bool false, u14, u15, u16, u17, u18, u19, u20, u21, u22, u23, u24, .pointer (some ⟨r, 0, none⟩), .int .i64 n0, .bool true, .pointer (some ⟨r, 0, none⟩), .int .i64 3, vs 0, vs 1, vs 2, vs 3, vs 4, vs 5, vs 6, vs 7, vs 8, vs 9, vs 10, .bool false, .bool false, undef, undef, undef, undef, .bool false, .bool false, undef, undef, undef, undef, undef, undef, .bool false, .bool false, undef, undef, undef, undef, undef, undef, undef, undef, undef, undef], []⟩) (fun _ => undef) rfl (odΦ 29 3 w8.heap.size r t5 A n c) (fun L _ vs w' => OdC 55 29 25 w w8.heap.size r (P + 31 + (5 - 0) * 50 + 1 + 1) t5 F M A n c ps L vs w') (Stay w8.heap.size) (odΦ_stab 29 3 w8.heap.size r t5 A n c) (by kernel_rfl) ⟨fun _ => r8.drew, (r8.more (by omega)).drew, gdrew g8, Nat.le_refl _, z8.drew, fun _ => t8.drew, fun _ => o8, (fun h => no_ft h)⟩ ?_ ?_
          · intro L m' vs w' i hi hm hL hcl hd hC hΦ
            have hi' : i < 12 := hi
            have hr8 : r < w8.heap.size := r8.lt
            rcases (by omega : i = 0 ∨ i = 1 ∨ i = 2 ∨ i = 3 ∨ i = 4 ∨ i = 5 ∨ i = 6 ∨ i = 7 ∨ i = 8 ∨ i = 9 ∨ i = 10 ∨ i = 11) with rfl | rfl | rfl | rfl | rfl | rfl | rfl | rfl | rfl | rfl | rfl | rfl
            · refine wpOp_step rfl (fun K hK => ?_)
              go_simp
              exact hK _ _ ⟨_, by simp [upd], Stay.refl _ _, hC.skip (by decide) (by decide) (by decide), rfl⟩
            · have h0 : vs 0 = .pointer (some ⟨t5, 2, none⟩) := hΦ 0 (hd 0 (by kernel_rfl))
              have hL11 : L 11 = false := by
                cases h : L 11
                · rfl
                · have := hcl 9 1 (hcl 11 9 h (by kernel_rfl)) (by kernel_rfl)
                  rw [hL] at this
                  cases this
              obtain ⟨c0, c1', c2⟩ := (hC.2.2.2.2.2.1 hL11).cells
              refine wpOp_step rfl (fun K hK => ?_)
              go_simp
              exact hK _ _ ⟨.slice A n c, by simp [upd, h0], Stay.refl _ _, hC.skip (by decide) (by decide) (by decide), rfl⟩
            · refine wpOp_step rfl (fun K hK => ?_)
              go_simp
              exact hK _ _ ⟨_, by simp [upd], Stay.alloc _ _ _, (hC.alloc _).skip (by decide) (by decide) (by decide), ⟨w'.heap.size, hC.2.2.2.1, rfl, heap_alloc_new w' _⟩⟩
            · refine wpOp_step rfl (fun K hK => ?_)
              go_simp
              exact hK _ _ ⟨_, by simp [upd], Stay.refl _ _, hC.skip (by decide) (by decide) (by decide), rfl⟩
            · have h3 : vs 3 = .pointer (some ⟨r, 0, none⟩) := hΦ 3 (hd 3 (by kernel_rfl))
              refine wpOp_step rfl (fun K hK => ?_)
              go_simp
              refine (pick_any r _ _ _ (hC.1 hL) (by omega)).mono ?_
              rintro e w3' ⟨K', rfl, hp0, hp1, hr3, hg3⟩
              have hp2 := hp1 (by decide)
              go_simp
              exact hK _ _ ⟨.int .i64 K', by simp [upd, h3], Stay.grown hg3 (fun k hk => by injection hk with hk; omega), hC.op4 hg3 hrl ht5 hr3, by
                rcases (by omega : K' = 0 ∨ K' = 1) with rfl | rfl
                · exact .inl rfl
                · exact .inr rfl⟩
            · obtain ⟨g, hg, h2, hh⟩ : ∃ g, w8.heap.size ≤ g ∧ vs 2 = .slice (some ⟨g, 0, none⟩) 2 2 ∧ w'.heap[g]? = some (.cells #[.int .i64 (-1), .int .i64 9223372036854775807] 3 (0, 0)) := hΦ 2 (hd 2 (by kernel_rfl))
              have h4 : vs 4 = .int .i64 0 ∨ vs 4 = .int .i64 1 := hΦ 4 (hd 4 (by kernel_rfl))
              rcases h4 with h4 | h4
              · refine wpOp_step rfl (fun K hK => ?_)
                go_simp
                exact hK _ _ ⟨.pointer (some ⟨g, 0, none⟩), by simp [upd, h2, h4], Stay.refl _ _, hC.skip (by decide) (by decide) (by decide), ⟨g, 0, hg, rfl, .inl rfl, hh⟩⟩
              · refine wpOp_step rfl (fun K hK => ?_)
                go_simp
                exact hK _ _ ⟨.pointer (some ⟨g, 1, none⟩), by simp [upd, h2, h4], Stay.refl _ _, hC.skip (by decide) (by decide) (by decide), ⟨g, 1, hg, rfl, .inr rfl, hh⟩⟩
            · obtain ⟨g, k, hg, h5, hk, hh⟩ : ∃ g k, w8.heap.size ≤ g ∧ vs 5 = .pointer (some ⟨g, k, none⟩) ∧ (k = 0 ∨ k = 1) ∧ w'.heap[g]? = some (.cells #[.int .i64 (-1), .int .i64 9223372036854775807] 3 (0, 0)) := hΦ 5 (hd 5 (by kernel_rfl))
              rcases hk with rfl | rfl
              · have q0 : w'.cell? ⟨g, 0, none⟩ = some (.int .i64 (-1)) := by simp [World.cell?, hh]
                refine wpOp_step rfl (fun K hK => ?_)
                go_simp
                exact hK _ _ ⟨.int .i64 (-1), by simp [upd, h5], Stay.refl _ _, hC.skip (by decide) (by decide) (by decide), ⟨_, rfl⟩⟩
              · have q0 : w'.cell? ⟨g, 1, none⟩ = some (.int .i64 9223372036854775807) := by simp [World.cell?, hh]
                refine wpOp_step rfl (fun K hK => ?_)
                go_simp
                exact hK _ _ ⟨.int .i64 9223372036854775807, by simp [upd, h5], Stay.refl _ _, hC.skip (by decide) (by decide) (by decide), ⟨_, rfl⟩⟩
            · obtain ⟨x, h6⟩ : ∃ x, vs 6 = .int .i64 x := hΦ 6 (hd 6 (by kernel_rfl))
              refine wpOp_step rfl (fun K hK => ?_)
              go_simp
              exact hK _ _ ⟨.agg #[.bool false, .int .i64 x, .int .i64 9223372036854775807], by simp [upd, h6], Stay.refl _ _, hC.skip (by decide) (by decide) (by decide), ⟨_, _, rfl⟩⟩
            · obtain ⟨x, y, h7⟩ : ∃ x y, vs 7 = .agg #[.bool false, .int .i64 x, .int .i64 y] := hΦ 7 (hd 7 (by kernel_rfl))
              refine wpOp_step rfl (fun K hK => ?_)
              go_simp
              exact hK _ _ ⟨.slice (some ⟨w'.heap.size, 0, none⟩) 1 1, by simp [upd, h7], Stay.alloc _ _ _, (hC.alloc _).skip (by decide) (by decide) (by decide), ⟨w'.heap.size, x, y, hC.2.2.2.1, rfl, heap_alloc_new w' _⟩⟩
            · have h1 : vs 1 = .slice A n c := hΦ 1 (hd 1 (by kernel_rfl))
              obtain ⟨g, x, y, hg, h8, hh⟩ : ∃ g x y, w8.heap.size ≤ g ∧ vs 8 = .slice (some ⟨g, 0, none⟩) 1 1 ∧ B3 w' g 29 (.bool false) (.int .i64 x) (.int .i64 y) := hΦ 8 (hd 8 (by kernel_rfl))
              have hL4 : L 4 = true := hd 4 (by kernel_rfl)
              have hL11 : L 11 = false := by
                cases h : L 11
                · rfl
                · have := hcl 11 9 h (by kernel_rfl)
                  rw [hL] at this
                  cases this
              obtain ⟨a, b, d, e, f, k, l, _⟩ := hC
              have oo := l hL
              have tt := k hL11
              refine wpOp_step rfl (fun K hK => ?_)
              refine step_append_pieces rfl _ _ 23 rfl 29 i0 _ Try.underlying23 hi0 hz0 hz1 hz2 rfl w.heap.size n c A ps h1 oo (some ⟨g, 0, none⟩) 1 1 _ [(false, x, y)] h8 (pieces_block hh) (by omega) d.size (n + 1) rfl _ rfl ?_
              intro A' c' w2 o2 hg2
              obtain ⟨gx, rfl⟩ := o2.some_block (by omega)
              refine hK _ _ ⟨.slice (some ⟨gx, 0, none⟩) (n + 1) c', rfl, Stay.grown hg2 (fun k hk => (o8.2.lt k hk).2), ⟨?_, b.kept hg2 (fun k hk => Nat.lt_of_lt_of_le hrl (oo.2.lt k hk).1), gown d hg2 (fun k hk => (oo.2.lt k hk).1), Nat.le_trans e hg2.size, f.grown hg2 (fun e => oo.ne_block' f (by decide) _ e.symm rfl), fun _ => tt.grown hg2 (fun e => oo.ne_block' tt (by decide) _ e.symm rfl), (fun hh => no_tf (show true = false from hh)), fun _ => ⟨gx, c', _, rfl, o2, fun hh => ?_⟩⟩, trivial⟩
              · intro hh
                have : L 4 = false := hh
                rw [hL4] at this
                cases this
              · have : L 11 = true := hh
                rw [hL11] at this
                cases this
            · refine wpOp_step rfl (fun K hK => ?_)
              go_simp
              exact hK _ _ ⟨_, by simp [upd], Stay.refl _ _, hC.skip (by decide) (by decide) (by decide), rfl⟩
            · have h10 : vs 10 = .pointer (some ⟨t5, 2, none⟩) := hΦ 10 (hd 10 (by kernel_rfl))
              have hL9 : L 9 = true := hd 9 (by kernel_rfl)
              obtain ⟨a, b, d, e, f, k, _, l⟩ := hC
              obtain ⟨gx, cx, qs, e9, oo, _⟩ := l hL9
              have tt := k hL
              obtain ⟨q0, q1, q2⟩ := tt.cells
              obtain ⟨p0, p1, p2⟩ := tt.free
              refine wpOp_step rfl (fun K hK => ?_)
              go_simp
              refine hK _ _ ⟨undef, by simp [upd, e9, h10], Stay.set _ (by simp only []; exact t8.lt) _, ⟨fun hh => (a hh).set (by simp only []; omega) _, b.set (by simp only []; omega) _, gset d (by simp only []; omega) _, by simpa using e, f.far (by simp only []; omega) _, (fun hh => no_tf (show true = false from hh)), fun hh => ?_, fun _ => ⟨gx, cx, qs, e9, oo.set_far (oo.ne_block' tt (by decide)) _, fun _ => tt.set2 _⟩⟩, trivial⟩
              have : L 9 = false := hh
              rw [hL9] at this
              cases this
          · intro L m' vs w9 hk hall hC hΦ
            obtain ⟨_, r9, g9, _, z9, _, _, l⟩ := hC
            obtain ⟨gx, cx, qs, e9, o9, x9⟩ := l (hall 9 (by decide))
            have t9 := x9 (hall 11 (by decide))
            clear hΦ hall x9 l e9 t8 z8 g8 o8 r8
            obtain ⟨c0, c1', c2⟩ := t9.cells
            obtain ⟨d0, d1, d2⟩ := z9.cells
            obtain ⟨p0, p1, p2⟩ := z9.free
            obtain ⟨e0, e1, e2⟩ := (z9.set_ (.string F) (.string M) (.slice (some ⟨gx, 0, none⟩) (n + 1) cx)).cells
            go_wp2_with fail
            refine bodyPost_ret (v := .agg #[.string F, .string M, .slice (some ⟨gx, 0, none⟩) (n + 1) cx]) (by simp only [results, Try.results18]; simp [go_sem, e0, e1, e2]) rfl ?_
            exact ⟨F, M, (some ⟨gx, 0, none⟩), (n + 1), cx, qs, rfl, by omega, by omega, by omega, o9.set3_far z9 (by decide) _ _ _, (((r9.more (by omega)).set (by simp only []; omega) _).set (by simp only []; omega) _).set (by simp only []; omega) _, gset (gset (gset g9 (by simp only []; omega) _) (by simp only []; omega) _) (by simp only []; omega) _⟩
end Go.Proofs.Ytecejfcoognkiaa
