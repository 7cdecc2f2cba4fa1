/- What the reference's TableChange leaves (bounds only). -/
import Derived.Test.YtecejfcoognkiaaW35
import Derived.Test.YtecejfcoognkiaaW22
import Derived.Test.YtecejfcoognkiaaW5
import Derived.Test.YtecejfcoognkiaaR3
namespace Go.Proofs.Ytecejfcoognkiaa
open Go.RowKit

theorem run_append_none {P : Program} {w : World} (t ty e : TypeId) (i : TypeInfo) (ht : P.underlying t = some (.slice e)) (hi : P.info? e = some i) (v : Value) (base size n c : Nat) (xs : List Value) (hown : w.ownsRow base e size v n xs) :
    (Builtin.append_ #[t, t] ty #[v, .slice none 0 c]).run P w = .ok v w := by
  rcases hown.2 with ⟨rfl, rfl⟩ | ⟨g, cap, cur, rfl, _, _, hc, _⟩
  · simp [Builtin.append_, run_underlying ht, Builtin.lenOf, Builtin.firstCells, typeInfo, hi, sizeOf]
  · simp [Builtin.append_, run_underlying ht, Builtin.lenOf, Builtin.firstCells, typeInfo, hi, sizeOf, hc, storeCells]
/-- append of pieces to an owned row of pieces. -/
theorem run_append_pieces {P : Program} {w : World} (t ty T : TypeId) (i : TypeInfo) (z : Value) (ht : P.underlying t = some (.slice T)) (hi : P.info? T = some i) (hz : i.zero = some z) (hs1 : i.size = 3) (hb16 : i.bytes = 24) (hzs : z.cells.size = 3)
    (base n0 c0 : Nat) (A0 : Option Addr) (xs : List (Bool × Int × Int)) (hown : OwnP T w base A0 n0 c0 xs) (A : Option Addr) (m c B : Nat) (ys : List (Bool × Int × Int)) (hm : Pieces w B A m ys) (hsum : n0 + m ≤ 4194304) (hbase : base ≤ w.heap.size) :
    ∃ A' c' w', (Builtin.append_ #[t, t] ty #[.slice A0 n0 c0, .slice A m c]).run P w = .ok (.slice A' (n0 + m) c') w' ∧ OwnP T w' base A' (n0 + m) c' (xs ++ ys) ∧ w.grownBy w' (Value.slice A0 n0 c0).ownBlock := by
  have hxl := hown.1
  cases A with
  | none =>
    have h0 : m = 0 := by
      rcases Nat.eq_zero_or_pos m with h0 | h0
      · exact h0
      · obtain ⟨ad, _, _, _, he, _⟩ := hm.at_ h0
        cases he
    subst h0
    have hys : ys = [] := List.eq_nil_of_length_eq_zero hm.1
    subst hys
    exact ⟨A0, c0, w, run_append_none t ty T i ht hi _ base 3 n0 c _ hown.2, by rw [List.append_nil]; exact hown, World.grownBy.refl _ _⟩
  | some ad =>
    have hl := hm.1
    have f1 : ∀ j u, (pieceCells ys)[j]? = some u → w.cell? (ad.add j) = some u := fun j u hj => by
      have hlt : j < (pieceCells ys).length := (List.getElem?_eq_some_iff.1 hj).1
      rw [pieceCells_length] at hlt
      obtain ⟨ad', he, _, hc⟩ := hm.2.at_ (show 0 < m by omega)
      injection he with he
      subst he
      exact hc j u hj
    obtain ⟨v', w', h1, h2, h3, _, _⟩ := run_append_own_at (P := P) w base t ty T i z 3 24 ht hi hz hs1 hb16 hzs (by decide) _ n0 _ hown.2 ad m c (pieceCells ys) (by rw [pieceCells_length, hl]) f1 (pieces_oneCell ys) (by unfold maxLen; omega) (by omega) hbase
    have h2' : w'.ownsRow base T 3 v' (n0 + m) (pieceCells (xs ++ ys)) := by rw [pieceCells_append]; exact h2
    rcases h2'.2 with ⟨hv, h0⟩ | ⟨g, cap, _, hv, _⟩
    · subst hv
      have e0 : n0 + m = 0 := h0
      refine ⟨none, 0, w', by rw [h1, e0], ⟨by rw [List.length_append]; omega, ?_⟩, h3⟩
      rw [e0] at h2' ⊢
      exact h2'
    · subst hv
      exact ⟨_, cap, w', h1, ⟨by rw [List.length_append]; omega, h2'⟩, h3⟩
/-- The same at a step of a region that draws its order. -/
theorem step_append_pieces {P : Program} {w : World} {ops : Array Oper} {o : Oper} {a : Act} {K : Act → World → Prop} {Q : Exit → Act → World → Prop} {E : Prop} (hgd : o.guard = none) (s x : Operand) (t : TypeId)
    (ho : o.op = .call { callee := .builtin .append, args := #[s, x], argTypes := #[t, t] })
    (T : TypeId) (i : TypeInfo) (z : Value) (ht : P.underlying t = some (.slice T)) (hi : P.info? T = some i) (hz : i.zero = some z) (hs1 : i.size = 3) (hb16 : i.bytes = 24) (hzs : z.cells.size = 3)
    (base n0 c0 : Nat) (A0 : Option Addr) (xs : List (Bool × Int × Int)) (hs : a.eval s = .slice A0 n0 c0) (hown : OwnP T w base A0 n0 c0 xs) (A : Option Addr) (m c B : Nat) (ys : List (Bool × Int × Int)) (hx : a.eval x = .slice A m c) (hm : Pieces w B A m ys) (hsum : n0 + m ≤ 4194304) (hbase : base ≤ w.heap.size)
    (q : Nat) (hq : n0 + m = q) (zs : List (Bool × Int × Int)) (hzz : xs ++ ys = zs) (h : ∀ A' c' w', OwnP T w' base A' q c' zs → w.grownBy w' (Value.slice A0 n0 c0).ownBlock → K (a.put o.dst (.slice A' q c')) w') :
    if Region.wanted o (yielded ops a.tmps) = true then Oper.wp P o a w K Q else E := by
  subst hq hzz
  have hw : Region.wanted o (yielded ops a.tmps) = true := by simp [Region.wanted, hgd]
  rw [if_pos hw]
  obtain ⟨A', c', w', hr, h2, h3⟩ := run_append_pieces (P := P) (w := w) t o.type T i z ht hi hz hs1 hb16 hzs base n0 c0 A0 xs hown A m c B ys hm hsum hbase
  unfold Oper.wp execOp
  simp only [ho, resolve, invoke, builtin, Sem.run_bind, Sem.run_pure, Result.andThen_ok, List.map_toArray, List.map_cons, List.map_nil, hs, hx, hr]
  exact h A' c' w' h2 h3
theorem OwnP.ne_block {T T' : TypeId} {w : World} {base g g' n c : Nat} {ps : List (Bool × Int × Int)} {x y z : Value} (h : OwnP T w base (some ⟨g, 0, none⟩) n c ps) (hb : B3 w g' T' x y z) (hT : T ≠ T') : g ≠ g' := by
  intro e
  subst e
  rcases h.2.2 with ⟨hv, _⟩ | ⟨g1, cap, cur, hv, _, hg, _⟩
  · injection hv with hA
    cases hA
  · injection hv with hA
    injection hA with hA
    injection hA with hA
    subst hA
    have e := hg.symm.trans hb
    injection e with e
    injection e with _ e
    exact hT e
theorem OwnP.ne_block' {T T' : TypeId} {w : World} {base g' n c : Nat} {A : Option Addr} {ps : List (Bool × Int × Int)} {x y z : Value} (h : OwnP T w base A n c ps) (hb : B3 w g' T' x y z) (hT : T ≠ T') : ∀ k, (Value.slice A n c).ownBlock = some k → k ≠ g' := by
  intro k hk e
  subst e
  rcases h.2.2 with ⟨hv, _⟩ | ⟨g1, cap, cur, hv, _, hg, _⟩
  · injection hv with hA
    subst hA
    cases hk
  · injection hv with hA
    subst hA
    have hk' : g1 = k := by injection hk
    subst hk'
    have e := hg.symm.trans hb
    injection e with e
    injection e with _ e
    exact hT e
theorem OwnP.set_far {T : TypeId} {w : World} {base n c : Nat} {A : Option Addr} {ps : List (Bool × Int × Int)} (h : OwnP T w base A n c ps) {q : Addr} (hq : ∀ k, (Value.slice A n c).ownBlock = some k → k ≠ q.block) (u : Value) : OwnP T (w.setCell q u) base A n c ps := by
  refine ⟨h.1, h.2.1, ?_⟩
  rcases h.2.2 with hn | ⟨g1, cap, cur, hv, hb, hg, hr⟩
  · exact .inl hn
  · exact .inr ⟨g1, cap, cur, hv, hb, (Below.heap_setCell w q u g1 (hq g1 (by rw [hv]; rfl))).trans hg, hr⟩
/-- What holds between the operations that copy a table. -/
def SmC (T TT : TypeId) (N : Nat) (f m : ByteArray) (n : Nat) (ps : List (Bool × Int × Int)) (L : Nat → Bool) (vs : Nat → Value) (w : World) : Prop :=
  (L 4 = true → L 7 = false → ∃ g, vs 4 = .slice (some ⟨g, 0, none⟩) 0 0 ∧ OwnP T w N (some ⟨g, 0, none⟩) 0 0 []) ∧
  (L 7 = true → ∃ A' c', vs 7 = .slice A' n c' ∧ OwnP T w N A' n c' ps) ∧
  (L 8 = true → ∃ A' c', vs 8 = .agg #[.string f, .string m, .slice A' n c'] ∧ OwnP T w N A' n c' ps) ∧
  (L 9 = true → L 10 = false → ∃ g x y z, vs 9 = .pointer (some ⟨g, 0, none⟩) ∧ N ≤ g ∧ B3 w g TT x y z) ∧
  (L 10 = true → ∃ g A' c', vs 9 = .pointer (some ⟨g, 0, none⟩) ∧ N ≤ g ∧ B3 w g TT (.string f) (.string m) (.slice A' n c') ∧ OwnP T w N A' n c' ps)
theorem SmC.mono {T TT : TypeId} {N n : Nat} {f m : ByteArray} {ps : List (Bool × Int × Int)} {L : Nat → Bool} {vs : Nat → Value} {w w' : World} (h : SmC T TT N f m n ps L vs w) (h1 : ∀ A n c ps, OwnP T w N A n c ps → OwnP T w' N A n c ps) (h2 : ∀ g x y z, B3 w g TT x y z → B3 w' g TT x y z) : SmC T TT N f m n ps L vs w' := by
  obtain ⟨a, b, c, d, e⟩ := h
  refine ⟨fun x y => ?_, fun x => ?_, fun x => ?_, fun x y => ?_, fun x => ?_⟩
  · obtain ⟨g, e1, e2⟩ := a x y
    exact ⟨g, e1, h1 _ _ _ _ e2⟩
  · obtain ⟨A, c', e1, e2⟩ := b x
    exact ⟨A, c', e1, h1 _ _ _ _ e2⟩
  · obtain ⟨A, c', e1, e2⟩ := c x
    exact ⟨A, c', e1, h1 _ _ _ _ e2⟩
  · obtain ⟨g, u, v, t, e1, e0, e2⟩ := d x y
    exact ⟨g, u, v, t, e1, e0, h2 _ _ _ _ e2⟩
  · obtain ⟨g, A, c', e1, e0, e2, e3⟩ := e x
    exact ⟨g, A, c', e1, e0, h2 _ _ _ _ e2, h1 _ _ _ _ e3⟩
theorem SmC.skip {T TT : TypeId} {N n i : Nat} {f m : ByteArray} {ps : List (Bool × Int × Int)} {L : Nat → Bool} {vs : Nat → Value} {w : World} {v : Value} (h : SmC T TT N f m n ps L vs w) (h4 : i ≠ 4) (h7 : i ≠ 7) (h8 : i ≠ 8) (h9 : i ≠ 9) (h10 : i ≠ 10) : SmC T TT N f m n ps (updL L i) (upd vs i v) w := by
  have e : ∀ k, k ≠ i → updL L i k = L k ∧ upd vs i v k = vs k := fun k hk => ⟨by unfold updL; rw [if_neg hk], by unfold upd; rw [if_neg hk]⟩
  unfold SmC at h ⊢
  rw [(e 4 h4.symm).1, (e 7 h7.symm).1, (e 8 h8.symm).1, (e 9 h9.symm).1, (e 10 h10.symm).1, (e 4 h4.symm).2, (e 7 h7.symm).2, (e 8 h8.symm).2, (e 9 h9.symm).2]
  exact h
theorem OwnP.set3_far {T T' : TypeId} {w : World} {base g n c : Nat} {A : Option Addr} {ps : List (Bool × Int × Int)} {x y z : Value} (h : OwnP T w base A n c ps) (hb : B3 w g T' x y z) (hT : T ≠ T') (u v t : Value) : OwnP T (((w.setCell ⟨g, 0, none⟩ u).setCell ⟨g, 1, none⟩ v).setCell ⟨g, 2, none⟩ t) base A n c ps := by
  have hk := h.ne_block' hb hT
  exact ((h.set_far (q := ⟨g, 0, none⟩) hk u).set_far (q := ⟨g, 1, none⟩) hk v).set_far (q := ⟨g, 2, none⟩) hk t
section
variable {T TT : TypeId} {N n : Nat} {f m : ByteArray} {ps : List (Bool × Int × Int)} {L : Nat → Bool} {vs : Nat → Value} {w w' : World}
theorem SmC.op4 (h : SmC T TT N f m n ps L vs w) (hN : N ≤ w.heap.size) : SmC T TT N f m n ps (updL L 4) (upd vs 4 (.slice (some ⟨w.heap.size, 0, none⟩) 0 0)) (w.alloc (.cells #[] T)) := by
  obtain ⟨a, b, c, d, e⟩ := h.mono (w' := w.alloc (.cells #[] T)) (fun _ _ _ _ ho => ⟨ho.1, ho.2.alloc _⟩) (fun _ _ _ _ hb => hb.alloc _)
  exact ⟨fun _ _ => ⟨w.heap.size, rfl, rfl, owns_empty w N T 3 hN⟩, b, c, d, e⟩
theorem SmC.op9 (h : SmC T TT N f m n ps L vs w) (hN : N ≤ w.heap.size) (h10 : L 10 = false) (x y z : Value) : SmC T TT N f m n ps (updL L 9) (upd vs 9 (.pointer (some ⟨w.heap.size, 0, none⟩))) (w.alloc (.cells #[x, y, z] TT)) := by
  obtain ⟨a, b, c, d, e⟩ := h.mono (w' := w.alloc (.cells #[x, y, z] TT)) (fun _ _ _ _ ho => ⟨ho.1, ho.2.alloc _⟩) (fun _ _ _ _ hb => hb.alloc _)
  exact ⟨a, b, c, fun _ _ => ⟨w.heap.size, x, y, z, rfl, hN, B3.new w TT x y z⟩, fun hh => by
    have : L 10 = true := hh
    rw [h10] at this
    cases this⟩
theorem SmC.op8 (h : SmC T TT N f m n ps L vs w) {A' : Option Addr} {c' : Nat} (o : OwnP T w N A' n c' ps) : SmC T TT N f m n ps (updL L 8) (upd vs 8 (.agg #[.string f, .string m, .slice A' n c'])) w := by
  obtain ⟨a, b, c, d, e⟩ := h
  exact ⟨a, b, fun _ => ⟨A', c', rfl, o⟩, d, e⟩
theorem SmC.op7 (h : SmC T TT N f m n ps L vs w) {A' : Option Addr} {c' g : Nat} (o : OwnP T w' N A' n c' ps) (o4 : OwnP T w N (some ⟨g, 0, none⟩) 0 0 []) (hg : w.grownBy w' (some g)) (hT : T ≠ TT) (h8 : L 8 = false) (h10 : L 10 = false) : SmC T TT N f m n ps (updL L 7) (upd vs 7 (.slice A' n c')) w' := by
  obtain ⟨a, b, c, d, e⟩ := h
  refine ⟨(fun _ hh => no_tf (show true = false from hh)), fun _ => ⟨A', c', rfl, o⟩, fun hh => ?_, fun x y => ?_, fun hh => ?_⟩
  · have : L 8 = true := hh
    rw [h8] at this
    cases this
  · obtain ⟨g', x0, y0, z0, e1, e2, e3⟩ := d x y
    exact ⟨g', x0, y0, z0, e1, e2, e3.grown hg (some_ne (o4.ne_block e3 hT).symm)⟩
  · have : L 10 = true := hh
    rw [h10] at this
    cases this
theorem SmC.op10 (h : SmC T TT N f m n ps L vs w) {A' : Option Addr} {c' g : Nat} {x y z v : Value} (o : OwnP T w N A' n c' ps) (hg : N ≤ g) (hB : B3 w g TT x y z) (e9 : vs 9 = .pointer (some ⟨g, 0, none⟩)) (hT : T ≠ TT) (h7 : L 7 = true) : SmC T TT N f m n ps (updL L 10) (upd vs 10 v) (((w.setCell ⟨g, 0, none⟩ (.string f)).setCell ⟨g, 1, none⟩ (.string m)).setCell ⟨g, 2, none⟩ (.slice A' n c')) := by
  obtain ⟨a, b, c, d, e⟩ := h
  refine ⟨fun _ hh => ?_, fun hh => ?_, fun hh => ?_, (fun _ hh => no_tf (show true = false from hh)), fun _ => ⟨g, A', c', e9, hg, hB.set_ _ _ _, o.set3_far hB hT _ _ _⟩⟩
  · have : L 7 = false := hh
    rw [h7] at this
    cases this
  · obtain ⟨A2, c2, e1, e2⟩ := b hh
    exact ⟨A2, c2, e1, e2.set3_far hB hT _ _ _⟩
  · obtain ⟨A2, c2, e1, e2⟩ := c hh
    exact ⟨A2, c2, e1, e2.set3_far hB hT _ _ _⟩
end
/-- What each operation of the copy leaves, the world apart. -/
def smΦ (s : Nat) (f m : ByteArray) (A1 : Option Addr) (n c1 : Nat) : Nat → World → Value → Prop
  | 0, _, v => v = .pointer (some ⟨s, 0, none⟩)
  | 1, _, v => v = .string f
  | 2, _, v => v = .pointer (some ⟨s, 1, none⟩)
  | 3, _, v => v = .string m
  | 5, _, v => v = .pointer (some ⟨s, 2, none⟩)
  | 6, _, v => v = .slice A1 n c1
  | _, _, _ => True
theorem smΦ_stab (s : Nat) (f m : ByteArray) (A1 : Option Addr) (n c1 : Nat) : ∀ k w w' v, (fun _ _ : World => True) w w' → smΦ s f m A1 n c1 k w v → smΦ s f m A1 n c1 k w' v := fun k _ _ v _ h => by
  by_cases hk : k < 7
  · rcases (by omega : k = 0 ∨ k = 1 ∨ k = 2 ∨ k = 3 ∨ k = 4 ∨ k = 5 ∨ k = 6) with rfl | rfl | rfl | rfl | rfl | rfl | rfl
    all_goals exact h
  · obtain ⟨j, rfl⟩ : ∃ j, k = j + 7 := ⟨k - 7, by omega⟩
    trivial
/-- What each operation of the test leaves. -/
def tcΦ (s : Nat) (f m p S : ByteArray) (A1 : Option Addr) (n c1 : Nat) (x y : Int) (ft : Bool) : Nat → World → Value → Prop
  | 0, _, v => v = .agg #[.string f, .string m, .slice A1 n c1]
  | 1, _, v => v = .string S
  | 2, _, v => v = .agg #[.int .i64 x, .int .i64 y, .string p]
  | 3, _, v => v = .bool ft
  | 4, _, v => v = .bool (!ft)
  | 5, _, v => v = .bool (!ft)
  | 6, _, v => (!ft) = false → v = .pointer (some ⟨s, 1, none⟩)
  | 7, _, v => (!ft) = false → v = .string m
  | 8, _, v => (!ft) = false → v = .int .i64 (m.size : Int)
  | 9, _, v => (!ft) = false → v = .pointer (some ⟨s + 1, 2, none⟩)
  | 10, _, v => (!ft) = false → v = .string p
  | 11, _, v => (!ft) = false → v = .int .i64 (p.size : Int)
  | 12, _, v => (!ft) = false → v = .int .i64 ((m.size : Int) + (p.size : Int))
  | 13, _, v => (!ft) = false → v = .bool (decide ((400 : Int) < (m.size : Int) + (p.size : Int)))
  | 14, _, v => v = .bool (!ft || decide ((400 : Int) < (m.size : Int) + (p.size : Int)))
  | _, _, _ => True
theorem tcΦ_stab (s : Nat) (f m p S : ByteArray) (A1 : Option Addr) (n c1 : Nat) (x y : Int) (ft : Bool) : ∀ k w w' v, (fun _ _ : World => True) w w' → tcΦ s f m p S A1 n c1 x y ft k w v → tcΦ s f m p S A1 n c1 x y ft k w' v := fun k _ _ v _ h => by
  by_cases hk : k < 15
  · rcases (by omega : k = 0 ∨ k = 1 ∨ k = 2 ∨ k = 3 ∨ k = 4 ∨ k = 5 ∨ k = 6 ∨ k = 7 ∨ k = 8 ∨ k = 9 ∨ k = 10 ∨ k = 11 ∨ k = 12 ∨ k = 13 ∨ k = 14) with rfl | rfl | rfl | rfl | rfl | rfl | rfl | rfl | rfl | rfl | rfl | rfl | rfl | rfl | rfl
    all_goals exact h
  · obtain ⟨j, rfl⟩ : ∃ j, k = j + 15 := ⟨k - 15, by omega⟩
    trivial
/-- What holds between the operations that make the changed table. -/
def EndC (T TT : TypeId) (N r : Nat) (f mp : ByteArray) (A0 : Option Addr) (n0 c0 : Nat) (xs : List (Bool × Int × Int)) (q : Nat) (zs : List (Bool × Int × Int)) (L : Nat → Bool) (vs : Nat → Value) (w : World) : Prop :=
  (L 9 = false → OwnP T w N A0 n0 c0 xs) ∧
  (L 9 = true → ∃ A' c', vs 9 = .slice A' q c' ∧ OwnP T w N A' q c' zs) ∧
  (L 10 = true → ∃ A' c', vs 10 = .agg #[.string f, .string mp, .slice A' q c'] ∧ OwnP T w N A' q c' zs) ∧
  (L 11 = true → ∃ A' c', B3 w r TT (.string f) (.string mp) (.slice A' q c') ∧ OwnP T w N A' q c' zs)
section
variable {T TT : TypeId} {N r n0 c0 q i : Nat} {f mp : ByteArray} {A0 : Option Addr} {xs zs : List (Bool × Int × Int)} {L : Nat → Bool} {vs : Nat → Value} {w w' : World} {v : Value}
theorem EndC.skip (h : EndC T TT N r f mp A0 n0 c0 xs q zs L vs w) (h9 : i ≠ 9) (h10 : i ≠ 10) (h11 : i ≠ 11) : EndC T TT N r f mp A0 n0 c0 xs q zs (updL L i) (upd vs i v) w := by
  have e : ∀ k, k ≠ i → updL L i k = L k ∧ upd vs i v k = vs k := fun k hk => ⟨by unfold updL; rw [if_neg hk], by unfold upd; rw [if_neg hk]⟩
  unfold EndC at h ⊢
  rw [(e 9 h9.symm).1, (e 10 h10.symm).1, (e 11 h11.symm).1, (e 9 h9.symm).2, (e 10 h10.symm).2]
  exact h
theorem EndC.op9 (h10 : L 10 = false) (h11 : L 11 = false) {A' : Option Addr} {c' : Nat} (o : OwnP T w' N A' q c' zs) : EndC T TT N r f mp A0 n0 c0 xs q zs (updL L 9) (upd vs 9 (.slice A' q c')) w' := by
  refine ⟨(fun hh => no_tf (show true = false from hh)), fun _ => ⟨A', c', rfl, o⟩, fun hh => ?_, fun hh => ?_⟩
  · have : L 10 = true := hh
    rw [h10] at this
    cases this
  · have : L 11 = true := hh
    rw [h11] at this
    cases this
theorem EndC.op10 (h : EndC T TT N r f mp A0 n0 c0 xs q zs L vs w) {A' : Option Addr} {c' : Nat} (o : OwnP T w N A' q c' zs) : EndC T TT N r f mp A0 n0 c0 xs q zs (updL L 10) (upd vs 10 (.agg #[.string f, .string mp, .slice A' q c'])) w :=
  ⟨h.1, h.2.1, fun _ => ⟨A', c', rfl, o⟩, h.2.2.2⟩
theorem EndC.op11 (h : EndC T TT N r f mp A0 n0 c0 xs q zs L vs w) (h9 : L 9 = true) {A' : Option Addr} {c' : Nat} {x y z : Value} (o : OwnP T w N A' q c' zs) (hB : B3 w r TT x y z) (hT : T ≠ TT) : EndC T TT N r f mp A0 n0 c0 xs q zs (updL L 11) (upd vs 11 v) (((w.setCell ⟨r, 0, none⟩ (.string f)).setCell ⟨r, 1, none⟩ (.string mp)).setCell ⟨r, 2, none⟩ (.slice A' q c')) := by
  obtain ⟨a, b, c, d⟩ := h
  refine ⟨fun hh => ?_, fun hh => ?_, fun hh => ?_, fun _ => ⟨A', c', hB.set_ _ _ _, o.set3_far hB hT _ _ _⟩⟩
  · have : L 9 = false := hh
    rw [h9] at this
    cases this
  · obtain ⟨A2, c2, e1, e2⟩ := b hh
    exact ⟨A2, c2, e1, e2.set3_far hB hT _ _ _⟩
  · obtain ⟨A2, c2, e1, e2⟩ := c hh
    exact ⟨A2, c2, e1, e2.set3_far hB hT _ _ _⟩
end
/-- What each operation that makes the changed table leaves, the world apart. -/
def enΦ (s : Nat) (f m p : ByteArray) (sa sd : Value) : Nat → World → Value → Prop
  | 0, _, v => v = .pointer (some ⟨s, 0, none⟩)
  | 1, _, v => v = .string f
  | 2, _, v => v = .pointer (some ⟨s, 1, none⟩)
  | 3, _, v => v = .string m
  | 4, _, v => v = .pointer (some ⟨s + 1, 2, none⟩)
  | 5, _, v => v = .string p
  | 6, _, v => v = .string (m ++ p)
  | 7, _, v => v = sa
  | 8, _, v => v = sd
  | 12, _, v => v = .bool true
  | _, _, _ => True
theorem enΦ_stab (s : Nat) (f m p : ByteArray) (sa sd : Value) : ∀ k w w' v, (fun _ _ : World => True) w w' → enΦ s f m p sa sd k w v → enΦ s f m p sa sd k w' v := fun k _ _ v _ h => by
  by_cases hk : k < 13
  · rcases (by omega : k = 0 ∨ k = 1 ∨ k = 2 ∨ k = 3 ∨ k = 4 ∨ k = 5 ∨ k = 6 ∨ k = 7 ∨ k = 8 ∨ k = 9 ∨ k = 10 ∨ k = 11 ∨ k = 12) with rfl | rfl | rfl | rfl | rfl | rfl | rfl | rfl | rfl | rfl | rfl | rfl | rfl
    all_goals exact h
  · obtain ⟨j, rfl⟩ : ∃ j, k = j + 13 := ⟨k - 13, by omega⟩
    trivial
/-- What TableChange leaves. -/
def TChangeV (T : TypeId) (w : World) (fs ms n : Nat) (e : Ending) (w' : World) : Prop := ∃ (F M : ByteArray) (A : Option Addr) (n' c : Nat) (ps : List (Bool × Int × Int)) (ok : Bool), e = .returned (.tuple #[.agg #[.string F, .string M, .slice A n' c], .bool ok]) ∧ F.size ≤ fs ∧ M.size ≤ ms ∧ n' ≤ n ∧ OwnP T w' w.heap.size A n' c ps ∧ Below w.heap.size w w'
set_option maxHeartbeats 1600000 in
theorem specTableChange_any (f m p : ByteArray) (A : Option Addr) (n c base : Nat) (x y : Int) (ps : List (Bool × Int × Int)) (w : World) (hf : f.size ≤ 100000) (hm : m.size ≤ 100000) (hp : p.size ≤ 100000) (hn2 : n ≤ 100000) (ho : OwnP 29 w base A n c ps) :
    Calls Try.prog 32 #[.agg #[.string f, .string m, .slice A n c], .agg #[.int .i64 x, .int .i64 y, .string p]] w (TChangeV 29 w f.size (m.size + p.size) (2 * n + 1)) := by
  have hl := ho.1
  have t3 : B3 (((w.alloc (.cells #[.string f, .string m, .slice A n c] 25)).alloc (.cells #[.int .i64 x, .int .i64 y, .string p] 50)).alloc (.cells #[.string ⟨#[]⟩, .string ⟨#[]⟩, .slice none 0 0] 25)) w.heap.size 25 (.string f) (.string m) (.slice A n c) := ((B3.new w _ _ _ _).alloc _).alloc _
  have u3 : B3 (((w.alloc (.cells #[.string f, .string m, .slice A n c] 25)).alloc (.cells #[.int .i64 x, .int .i64 y, .string p] 50)).alloc (.cells #[.string ⟨#[]⟩, .string ⟨#[]⟩, .slice none 0 0] 25)) (w.heap.size + 1) 50 (.int .i64 x) (.int .i64 y) (.string p) := by
    have := (B3.new (w.alloc (.cells #[.string f, .string m, .slice A n c] 25)) 50 (.int .i64 x) (.int .i64 y) (.string p)).alloc (.cells #[.string ⟨#[]⟩, .string ⟨#[]⟩, .slice none 0 0] 25)
    rwa [World.size_alloc] at this
  have z3 : B3 (((w.alloc (.cells #[.string f, .string m, .slice A n c] 25)).alloc (.cells #[.int .i64 x, .int .i64 y, .string p] 50)).alloc (.cells #[.string ⟨#[]⟩, .string ⟨#[]⟩, .slice none 0 0] 25)) (w.heap.size + 1 + 1) 25 (.string ⟨#[]⟩) (.string ⟨#[]⟩) (.slice none 0 0) := by
    have := B3.new ((w.alloc (.cells #[.string f, .string m, .slice A n c] 25)).alloc (.cells #[.int .i64 x, .int .i64 y, .string p] 50)) 25 (.string ⟨#[]⟩) (.string ⟨#[]⟩) (.slice none 0 0)
    rwa [World.size_alloc, World.size_alloc] at this
  have ho3 : OwnP 29 (((w.alloc (.cells #[.string f, .string m, .slice A n c] 25)).alloc (.cells #[.int .i64 x, .int .i64 y, .string p] 50)).alloc (.cells #[.string ⟨#[]⟩, .string ⟨#[]⟩, .slice none 0 0] 25)) base A n c ps := ⟨hl, ((ho.2.alloc _).alloc _).alloc _⟩
  have hb3 : Below w.heap.size w (((w.alloc (.cells #[.string f, .string m, .slice A n c] 25)).alloc (.cells #[.int .i64 x, .int .i64 y, .string p] 50)).alloc (.cells #[.string ⟨#[]⟩, .string ⟨#[]⟩, .slice none 0 0] 25)) := balloc (balloc (balloc (Below.refl _ _) _) _) _
  have hz3 : (((w.alloc (.cells #[.string f, .string m, .slice A n c] 25)).alloc (.cells #[.int .i64 x, .int .i64 y, .string p] 50)).alloc (.cells #[.string ⟨#[]⟩, .string ⟨#[]⟩, .slice none 0 0] 25)).heap.size = w.heap.size + 3 := by simp
  have HL := Lib.hid hl
  obtain ⟨tc0, tc1, tc2⟩ := t3.cells
  clear hl ho
  go_enter Try.func32, Try.ntmps32
  go_wp2_with fail
  generalize ((w.alloc (.cells #[.string f, .string m, .slice A n c] 25)).alloc (.cells #[.int .i64 x, .int .i64 y, .string p] 50)).alloc (.cells #[.string ⟨#[]⟩, .string ⟨#[]⟩, .slice none 0 0] 25) = w3 at t3 u3 z3 ho3 hb3 hz3 tc0 tc1 tc2 ⊢
  have HZ3 := Lib.hid hz3
  clear hz3
  refine (ownTable_any _ _ _ _ _ _ _ _ (by omega) ho3).mono ?_
  rintro e w4 ⟨A1, n1, c1, rfl, ho4, hb4⟩
  obtain rfl : n = n1 := by rw [← HL.out, ho4.1]
  rw [mk_of, mk_of]
  have hz3 := HZ3.out
  have t4 := t3.next hb4
  have u4 := u3.next hb4
  have z4 := z3.next hb4
  have hbw4 := bstep hb3 hb4
  obtain ⟨fr0, fr1, fr2⟩ := t4.free
  have t5 := t4.set_ (.string f) (.string m) (.slice A1 n c1)
  have u5 := ((u4.far (p := ⟨w.heap.size, 0, none⟩) (by simp only []; omega) (.string f)).far (p := ⟨w.heap.size, 1, none⟩) (by simp only []; omega) (.string m)).far (p := ⟨w.heap.size, 2, none⟩) (by simp only []; omega) (.slice A1 n c1)
  have z5 := ((z4.far (p := ⟨w.heap.size, 0, none⟩) (by simp only []; omega) (.string f)).far (p := ⟨w.heap.size, 1, none⟩) (by simp only []; omega) (.string m)).far (p := ⟨w.heap.size, 2, none⟩) (by simp only []; omega) (.slice A1 n c1)
  have ho5 : OwnP 29 (((w4.setCell ⟨w.heap.size, 0, none⟩ (.string f)).setCell ⟨w.heap.size, 1, none⟩ (.string m)).setCell ⟨w.heap.size, 2, none⟩ (.slice A1 n c1)) (w.heap.size + 3) A1 n c1 ps :=
    ⟨ho4.1, by rw [← hz3]; exact ownsRow_setCell_below (ownsRow_setCell_below (ownsRow_setCell_below ho4.2 (by simp only []; omega) _) (by simp only []; omega) _) (by simp only []; omega) _⟩
  have hbw5 : Below w.heap.size w (((w4.setCell ⟨w.heap.size, 0, none⟩ (.string f)).setCell ⟨w.heap.size, 1, none⟩ (.string m)).setCell ⟨w.heap.size, 2, none⟩ (.slice A1 n c1)) := bset (bset (bset hbw4 (Nat.le_refl _) _) (Nat.le_refl _) _) (Nat.le_refl _) _
  clear t3 u3 z3 ho3 hb3 hz3 HZ3 hb4 ho4 hbw4 u4 z4 tc0 tc1 tc2
  obtain ⟨tc0, tc1, tc2⟩ := t4.cells
  clear t4
  go_wp2_with fail
  generalize ((w4.setCell ⟨w.heap.size, 0, none⟩ (.string f)).setCell ⟨w.heap.size, 1, none⟩ (.string m)).setCell ⟨w.heap.size, 2, none⟩ (.slice A1 n c1) = w5 at t5 u5 z5 ho5 hbw5 ⊢
  clear tc0 tc1 tc2 fr0 fr1 fr2
  obtain ⟨tv, htv⟩ : ∃ tv, tableB f.data.toList m.data.toList ps = tv := ⟨_, rfl⟩
  have HTV := Lib.hid htv
  refine (specTableValid_any _ _ _ _ _ _ _ (by omega) (by omega) (by omega) ho5.pieces).mono ?_
  rw [HTV.out]
  rintro e w6 ⟨rfl, hb6⟩
  have t6 := t5.next hb6
  have u6 := u5.next hb6
  have z6 := z5.next hb6
  have ho6 := ho5.below hb6
  have hbw6 := bstep hbw5 hb6
  clear t5 u5 z5 ho5 hbw5 hb6 htv
  obtain ⟨fr0, fr1, fr2⟩ := z6.free
  obtain ⟨zc0, zc1, zc2⟩ := z6.cells
  obtain ⟨tc0, tc1, tc2⟩ := t6.cells
  cases tv
  · obtain ⟨e0, e1, e2⟩ := (z6.set_ (.string ⟨#[]⟩) (.string ⟨#[]⟩) (.slice none 0 0)).cells
    go_wp2
    refine bodyPost_ret (v := .tuple #[.agg #[.string ⟨#[]⟩, .string ⟨#[]⟩, .slice none 0 0], .bool false]) (by simp only [results, Try.results32]; simp [go_sem, e0, e1, e2]) rfl ?_
    exact ⟨⟨#[]⟩, ⟨#[]⟩, none, 0, 0, [], false, rfl, Nat.zero_le _, Nat.zero_le _, Nat.zero_le _, ownP_nil _ _ _, bset (bset (bset hbw6 (by simp only []; omega) _) (by simp only []; omega) _) (by simp only []; omega) _⟩
  · go_wp2_with fail
    have hz6 : w.heap.size + 1 + 1 < w6.heap.size := z6.lt
    have hA6 : ∀ k, (Value.slice A1 n c1).ownBlock = some k → k < w6.heap.size := fun k hk => (ho6.2.lt k hk).2
    obtain ⟨i0, hi0, hz0, hz1, hz2⟩ := info_parts pieceInfo5
    clear tc0 tc1 tc2 fr0 fr1 fr2 zc0 zc1 zc2
    refine wp_region_slots3 (by kernel_rfl) (fun vs => ⟨#[.agg #[.string f, .string m, .slice A n c], .agg #[.int .i64 x, .int .i64 y, .string p], .pointer (some ⟨w.heap.size, 0, none⟩), .pointer (some ⟨w.heap.size + 1, 0, none⟩), .pointer (some ⟨w.heap.size + 1 + 1, 0, none⟩), .bool false, vs 9, undef, undef, undef, undef, .agg #[.string f, .string m, .slice A n c], .agg #[.string f, .string m, .slice A1 n c1], .agg #[.string f, .string m, .slice A1 n c1], .bool true, .bool false, undef, vs 0, vs 1, vs 2, vs 3, vs 4, vs 5, vs 6, vs 7, vs 8, undef, undef, undef, undef, undef, undef, undef, undef, undef, undef, undef, undef, undef, undef, undef, undef, undef, undef, undef, undef, undef, undef, undef, undef, undef, undef, undef, undef, undef, undef, undef, undef, undef, undef, undef, undef, undef, undef, undef, undef, undef, undef, undef, undef, undef, undef, undef, undef, undef, undef, undef, undef, undef, undef, undef], []⟩) (fun _ => undef) rfl (smΦ w.heap.size f m A1 n c1) (fun L _ vs w' => Below w.heap.size w w' ∧ w6.heap.size ≤ w'.heap.size ∧ B3 w' w.heap.size 25 (.string f) (.string m) (.slice A1 n c1) ∧ B3 w' (w.heap.size + 1) 50 (.int .i64 x) (.int .i64 y) (.string p) ∧ (∃ z0 z1 z2, B3 w' (w.heap.size + 1 + 1) 25 z0 z1 z2) ∧ OwnP 29 w' (w.heap.size + 3) A1 n c1 ps ∧ SmC 29 25 w6.heap.size f m n ps L vs w') (fun _ _ => True) (smΦ_stab w.heap.size f m A1 n c1) (by kernel_rfl) ⟨bdrew hbw6, Nat.le_refl _, t6.drew, u6.drew, ⟨_, _, _, z6.drew⟩, ho6, ⟨(fun h => no_ft h), (fun h => no_ft h), (fun h => no_ft h), (fun h => no_ft h), (fun h => no_ft h)⟩⟩ ?_ ?_
    · intro L k vs w' i hi hk hL hcl hd hI hΦ
      obtain ⟨hb, hs, hT, hU, ⟨z0, z1, z2, hZ⟩, hO, hC⟩ := hI
      obtain ⟨c0, c1', c2⟩ := hT.cells
      have hi' : i < 11 := hi
      rcases (by omega : i = 0 ∨ i = 1 ∨ i = 2 ∨ i = 3 ∨ i = 4 ∨ i = 5 ∨ i = 6 ∨ i = 7 ∨ i = 8 ∨ i = 9 ∨ i = 10) with rfl | rfl | rfl | rfl | rfl | rfl | rfl | rfl | rfl | rfl | rfl
      · refine wpOp_step rfl (fun K hK => ?_)
        go_simp
        exact hK _ _ ⟨_, by simp [upd], trivial, ⟨hb, hs, hT, hU, ⟨_, _, _, hZ⟩, hO, hC.skip (by decide) (by decide) (by decide) (by decide) (by decide)⟩, rfl⟩
      · have h0 : vs 0 = .pointer (some ⟨w.heap.size, 0, none⟩) := hΦ 0 (hd 0 (by kernel_rfl))
        refine wpOp_step rfl (fun K hK => ?_)
        go_simp
        exact hK _ _ ⟨_, by simp [upd, h0], trivial, ⟨hb, hs, hT, hU, ⟨_, _, _, hZ⟩, hO, hC.skip (by decide) (by decide) (by decide) (by decide) (by decide)⟩, rfl⟩
      · refine wpOp_step rfl (fun K hK => ?_)
        go_simp
        exact hK _ _ ⟨_, by simp [upd], trivial, ⟨hb, hs, hT, hU, ⟨_, _, _, hZ⟩, hO, hC.skip (by decide) (by decide) (by decide) (by decide) (by decide)⟩, rfl⟩
      · have h2 : vs 2 = .pointer (some ⟨w.heap.size, 1, none⟩) := hΦ 2 (hd 2 (by kernel_rfl))
        refine wpOp_step rfl (fun K hK => ?_)
        go_simp
        exact hK _ _ ⟨_, by simp [upd, h2], trivial, ⟨hb, hs, hT, hU, ⟨_, _, _, hZ⟩, hO, hC.skip (by decide) (by decide) (by decide) (by decide) (by decide)⟩, rfl⟩
      · refine wpOp_step rfl (fun K hK => ?_)
        go_simp
        exact hK _ _ ⟨_, by simp [upd], trivial, ⟨balloc hb _, by rw [World.size_alloc]; omega, hT.alloc _, hU.alloc _, ⟨_, _, _, hZ.alloc _⟩, ⟨hO.1, hO.2.alloc _⟩, hC.op4 hs⟩, trivial⟩
      · refine wpOp_step rfl (fun K hK => ?_)
        go_simp
        exact hK _ _ ⟨_, by simp [upd], trivial, ⟨hb, hs, hT, hU, ⟨_, _, _, hZ⟩, hO, hC.skip (by decide) (by decide) (by decide) (by decide) (by decide)⟩, rfl⟩
      · have h5 : vs 5 = .pointer (some ⟨w.heap.size, 2, none⟩) := hΦ 5 (hd 5 (by kernel_rfl))
        refine wpOp_step rfl (fun K hK => ?_)
        go_simp
        exact hK _ _ ⟨_, by simp [upd, h5], trivial, ⟨hb, hs, hT, hU, ⟨_, _, _, hZ⟩, hO, hC.skip (by decide) (by decide) (by decide) (by decide) (by decide)⟩, rfl⟩
      · obtain ⟨g, e4, o4⟩ := hC.1 (hd 4 (by kernel_rfl)) hL
        have h6 : vs 6 = .slice A1 n c1 := hΦ 6 (hd 6 (by kernel_rfl))
        have hg6 := (o4.2.lt g rfl).1
        have hL8 : L 8 = false := by
          cases h : L 8
          · rfl
          · have := hcl 8 7 h (by kernel_rfl)
            rw [hL] at this
            cases this
        have hL10 : L 10 = false := by
          cases h : L 10
          · rfl
          · have := hcl 10 7 h (by kernel_rfl)
            rw [hL] at this
            cases this
        refine wpOp_step rfl (fun K hK => ?_)
        refine step_append_pieces rfl _ _ 23 rfl 29 i0 _ Try.underlying23 hi0 hz0 hz1 hz2 rfl w6.heap.size 0 0 (some ⟨g, 0, none⟩) [] e4 o4 A1 n c1 _ ps h6 hO.pieces (by omega) hs n (by omega) ps (by simp) ?_
        intro A' c' w2 o2 hg
        have hg' : w'.grownBy w2 (some g) := hg
        refine hK _ _ ⟨.slice A' n c', ?_, trivial, ⟨hb.grown hg' (by omega) (fun k hk => by injection hk with hk; omega), Nat.le_trans hs hg'.size, hT.grown hg' (some_ne (by omega)), hU.grown hg' (some_ne (by omega)), ⟨_, _, _, hZ.grown hg' (some_ne (by omega))⟩, hO.kept hg' (fun k hk e => by injection e with e; have := hA6 k hk; omega), hC.op7 o2 o4 hg' (by decide) hL8 hL10⟩, trivial⟩
        rfl
      · obtain ⟨A', c', e7, o7⟩ := hC.2.1 (hd 7 (by kernel_rfl))
        have h1 : vs 1 = .string f := hΦ 1 (hd 1 (by kernel_rfl))
        have h3 : vs 3 = .string m := hΦ 3 (hd 3 (by kernel_rfl))
        refine wpOp_step rfl (fun K hK => ?_)
        go_simp
        exact hK _ _ ⟨.agg #[.string f, .string m, .slice A' n c'], by simp [upd, h1, h3, e7], trivial, ⟨hb, hs, hT, hU, ⟨_, _, _, hZ⟩, hO, hC.op8 o7⟩, trivial⟩
      · have hL10 : L 10 = false := by
          cases h : L 10
          · rfl
          · have := hcl 10 9 h (by kernel_rfl)
            rw [hL] at this
            cases this
        refine wpOp_step rfl (fun K hK => ?_)
        go_simp
        exact hK _ _ ⟨_, by simp [upd], trivial, ⟨balloc hb _, by rw [World.size_alloc]; omega, hT.alloc _, hU.alloc _, ⟨_, _, _, hZ.alloc _⟩, ⟨hO.1, hO.2.alloc _⟩, hC.op9 hs hL10 _ _ _⟩, trivial⟩
      · obtain ⟨g, x0, y0, z0', e9, hgN, hB⟩ := hC.2.2.2.1 (hd 9 (by kernel_rfl)) hL
        obtain ⟨A', c', e8, o8⟩ := hC.2.2.1 (hd 8 (by kernel_rfl))
        have hL7 : L 7 = true := hcl 8 7 (hd 8 (by kernel_rfl)) (by kernel_rfl)
        obtain ⟨q0, q1, q2⟩ := hB.cells
        obtain ⟨p0, p1, p2⟩ := hB.free
        refine wpOp_step rfl (fun K hK => ?_)
        go_simp
        exact hK _ _ ⟨undef, by simp [upd, e8, e9], trivial, ⟨bset (bset (bset hb (by simp only []; omega) _) (by simp only []; omega) _) (by simp only []; omega) _, by simpa using hs, ((hT.far (by simp only []; omega) _).far (by simp only []; omega) _).far (by simp only []; omega) _, ((hU.far (by simp only []; omega) _).far (by simp only []; omega) _).far (by simp only []; omega) _, ⟨_, _, _, ((hZ.far (by simp only []; omega) _).far (by simp only []; omega) _).far (by simp only []; omega) _⟩, hO.set3_far hB (by decide) _ _ _, hC.op10 o8 hgN hB e9 (by decide) hL7⟩, trivial⟩
    · intro L k vs w7 hk hall hI hΦ
      obtain ⟨hb, hs, hT, hU, ⟨z0, z1, z2, hZ⟩, hO, hC⟩ := hI
      obtain ⟨g, A', c', e9, hgN, hB, o8⟩ := hC.2.2.2.2 (hall 10 (by decide))
      rw [e9]
      obtain ⟨S, hS⟩ : ∃ S, mk (tableTextL f.data.toList m.data.toList ps) = S := ⟨_, rfl⟩
      have hSs : S.size ≤ 120 := by
        rw [← hS, mk_size, tableTextL_1 HTV.out]
        have := wholeL_length (tableB_sum HTV.out).1
        have := (tableB_sum HTV.out).2
        omega
      obtain ⟨ft, hft⟩ : ∃ ft, fitsB S.data.toList x y p.data.toList = ft := ⟨_, rfl⟩
      have HS := Lib.hid hS
      have HF := Lib.hid hft
      clear hS hft hΦ hall hC hk
      have hw12 : IntKind.i64.wrap ((m.size : Int) + (p.size : Int)) = (m.size : Int) + (p.size : Int) := IntWalk.i64_in _ (by omega)
      go_wp2_with fail
      generalize vs = us
      refine wp_region_slots (by kernel_rfl) (fun vs => ⟨#[.agg #[.string f, .string m, .slice A n c], .agg #[.int .i64 x, .int .i64 y, .string p], .pointer (some ⟨w.heap.size, 0, none⟩), .pointer (some ⟨w.heap.size + 1, 0, none⟩), .pointer (some ⟨w.heap.size + 1 + 1, 0, none⟩), .bool false, .pointer (some ⟨g, 0, none⟩), undef, undef, undef, undef, .agg #[.string f, .string m, .slice A n c], .agg #[.string f, .string m, .slice A1 n c1], .agg #[.string f, .string m, .slice A1 n c1], .bool true, .bool false, undef, us 0, us 1, us 2, us 3, us 4, us 5, us 6, us 7, us 8, vs 0, vs 1, vs 2, vs 3, vs 4, vs 5, vs 6, vs 7, vs 8, vs 9, vs 10, vs 11, vs 12, vs 13, vs 14, undef, undef, undef, undef, undef, undef, undef, undef, undef, undef, undef, undef, undef, undef, undef, undef, undef, undef, undef, undef, undef, undef, undef, undef, undef, undef, undef, undef, undef, undef, undef, undef, undef, undef, undef, undef, undef, undef, undef, undef], []⟩) (fun _ => undef) rfl (tcΦ w.heap.size f m p S A1 n c1 x y ft) (fun _ w' => Below w.heap.size w w' ∧ B3 w' w.heap.size 25 (.string f) (.string m) (.slice A1 n c1) ∧ B3 w' (w.heap.size + 1) 50 (.int .i64 x) (.int .i64 y) (.string p) ∧ (∃ z0 z1 z2, B3 w' (w.heap.size + 1 + 1) 25 z0 z1 z2) ∧ B3 w' g 25 (.string f) (.string m) (.slice A' n c') ∧ OwnP 29 w' (w.heap.size + 3) A1 n c1 ps ∧ OwnP 29 w' w6.heap.size A' n c' ps) (fun _ _ => True) (tcΦ_stab w.heap.size f m p S A1 n c1 x y ft) (by kernel_rfl) ⟨bdrew hb, hT.drew, hU.drew, ⟨_, _, _, hZ.drew⟩, hB.drew, hO, o8⟩ ?_ ?_
      · intro L m' vs w' i hi hm' hdp hI hΦ
        obtain ⟨hb, hT, hU, ⟨z0, z1, z2, hZ⟩, hB, hO, o8⟩ := hI
        obtain ⟨c0, c1', c2⟩ := hT.cells
        obtain ⟨d0, d1, d2⟩ := hU.cells
        have hi' : i < 15 := hi
        rcases (by omega : i = 0 ∨ i = 1 ∨ i = 2 ∨ i = 3 ∨ i = 4 ∨ i = 5 ∨ i = 6 ∨ i = 7 ∨ i = 8 ∨ i = 9 ∨ i = 10 ∨ i = 11 ∨ i = 12 ∨ i = 13 ∨ i = 14) with rfl | rfl | rfl | rfl | rfl | rfl | rfl | rfl | rfl | rfl | rfl | rfl | rfl | rfl | rfl
        · refine wpOp_step rfl (fun K hK => ?_)
          go_simp
          exact hK _ _ ⟨_, by simp [upd], trivial, ⟨hb, hT, hU, ⟨_, _, _, hZ⟩, hB, hO, o8⟩, rfl⟩
        · have h0 : vs 0 = .agg #[.string f, .string m, .slice A1 n c1] := hΦ 0 (hdp 0 (by kernel_rfl))
          refine wpOp_step rfl (fun K hK => ?_)
          go_simp
          refine (specTableText_any f m A1 n c1 ps _ (by omega) (by omega) (by omega) hO.pieces).mono ?_
          rw [HS.out]
          rintro e w3 ⟨rfl, hb3⟩
          go_simp
          exact hK _ _ ⟨_, by simp [upd, h0], trivial, ⟨bstep hb hb3, hT.next hb3, hU.next hb3, ⟨_, _, _, hZ.next hb3⟩, hB.next hb3, hO.below hb3, o8.below hb3⟩, rfl⟩
        · refine wpOp_step rfl (fun K hK => ?_)
          go_simp
          exact hK _ _ ⟨_, by simp [upd], trivial, ⟨hb, hT, hU, ⟨_, _, _, hZ⟩, hB, hO, o8⟩, rfl⟩
        · have h1 : vs 1 = .string S := hΦ 1 (hdp 1 (by kernel_rfl))
          have h2 : vs 2 = .agg #[.int .i64 x, .int .i64 y, .string p] := hΦ 2 (hdp 2 (by kernel_rfl))
          refine wpOp_step rfl (fun K hK => ?_)
          go_simp
          refine (specChangeFits_any S x y p _ (by omega)).mono ?_
          rw [HF.out]
          rintro e w3 ⟨rfl, hb3⟩
          go_simp
          exact hK _ _ ⟨_, by simp [upd, h1, h2], trivial, ⟨bstep hb hb3, hT.next hb3, hU.next hb3, ⟨_, _, _, hZ.next hb3⟩, hB.next hb3, hO.below hb3, o8.below hb3⟩, rfl⟩
        · have h3 : vs 3 = .bool ft := hΦ 3 (hdp 3 (by kernel_rfl))
          refine wpOp_step rfl (fun K hK => ?_)
          go_simp
          exact hK _ _ ⟨.bool (!ft), by simp [upd, h3], trivial, ⟨hb, hT, hU, ⟨_, _, _, hZ⟩, hB, hO, o8⟩, rfl⟩
        · have h4 : vs 4 = .bool (!ft) := hΦ 4 (hdp 4 (by kernel_rfl))
          refine wpOp_step rfl (fun K hK => ?_)
          go_simp
          exact hK _ _ ⟨.bool (!ft), by simp [upd, h4], trivial, ⟨hb, hT, hU, ⟨_, _, _, hZ⟩, hB, hO, o8⟩, rfl⟩
        · have h5 : vs 5 = .bool (!ft) := hΦ 5 (hdp 5 (by kernel_rfl))
          cases ft
          · refine wpOp_step rfl (fun K hK => ?_)
            go_simp
            exact hK _ _ ⟨undef, by simp [upd, h5], trivial, ⟨hb, hT, hU, ⟨_, _, _, hZ⟩, hB, hO, o8⟩, fun hh => no_tf hh⟩
          · refine wpOp_step rfl (fun K hK => ?_)
            go_simp
            exact hK _ _ ⟨_, by simp [upd, h5], trivial, ⟨hb, hT, hU, ⟨_, _, _, hZ⟩, hB, hO, o8⟩, fun _ => rfl⟩
        · have h5 : vs 5 = .bool (!ft) := hΦ 5 (hdp 5 (by kernel_rfl))
          have h6 : (!ft) = false → vs 6 = .pointer (some ⟨w.heap.size, 1, none⟩) := hΦ 6 (hdp 6 (by kernel_rfl))
          cases ft
          · refine wpOp_step rfl (fun K hK => ?_)
            go_simp
            exact hK _ _ ⟨undef, by simp [upd, h5], trivial, ⟨hb, hT, hU, ⟨_, _, _, hZ⟩, hB, hO, o8⟩, fun hh => no_tf hh⟩
          · replace h6 := h6 rfl
            refine wpOp_step rfl (fun K hK => ?_)
            go_simp
            exact hK _ _ ⟨_, by simp [upd, h5, h6], trivial, ⟨hb, hT, hU, ⟨_, _, _, hZ⟩, hB, hO, o8⟩, fun _ => rfl⟩
        · have h5 : vs 5 = .bool (!ft) := hΦ 5 (hdp 5 (by kernel_rfl))
          have h7 : (!ft) = false → vs 7 = .string m := hΦ 7 (hdp 7 (by kernel_rfl))
          cases ft
          · refine wpOp_step rfl (fun K hK => ?_)
            go_simp
            exact hK _ _ ⟨undef, by simp [upd, h5], trivial, ⟨hb, hT, hU, ⟨_, _, _, hZ⟩, hB, hO, o8⟩, fun hh => no_tf hh⟩
          · replace h7 := h7 rfl
            refine wpOp_step rfl (fun K hK => ?_)
            go_simp
            exact hK _ _ ⟨_, by simp [upd, h5, h7], trivial, ⟨hb, hT, hU, ⟨_, _, _, hZ⟩, hB, hO, o8⟩, fun _ => rfl⟩
        · have h5 : vs 5 = .bool (!ft) := hΦ 5 (hdp 5 (by kernel_rfl))
          cases ft
          · refine wpOp_step rfl (fun K hK => ?_)
            go_simp
            exact hK _ _ ⟨undef, by simp [upd, h5], trivial, ⟨hb, hT, hU, ⟨_, _, _, hZ⟩, hB, hO, o8⟩, fun hh => no_tf hh⟩
          · refine wpOp_step rfl (fun K hK => ?_)
            go_simp
            exact hK _ _ ⟨_, by simp [upd, h5], trivial, ⟨hb, hT, hU, ⟨_, _, _, hZ⟩, hB, hO, o8⟩, fun _ => rfl⟩
        · have h5 : vs 5 = .bool (!ft) := hΦ 5 (hdp 5 (by kernel_rfl))
          have h9 : (!ft) = false → vs 9 = .pointer (some ⟨w.heap.size + 1, 2, none⟩) := hΦ 9 (hdp 9 (by kernel_rfl))
          cases ft
          · refine wpOp_step rfl (fun K hK => ?_)
            go_simp
            exact hK _ _ ⟨undef, by simp [upd, h5], trivial, ⟨hb, hT, hU, ⟨_, _, _, hZ⟩, hB, hO, o8⟩, fun hh => no_tf hh⟩
          · replace h9 := h9 rfl
            refine wpOp_step rfl (fun K hK => ?_)
            go_simp
            exact hK _ _ ⟨_, by simp [upd, h5, h9], trivial, ⟨hb, hT, hU, ⟨_, _, _, hZ⟩, hB, hO, o8⟩, fun _ => rfl⟩
        · have h5 : vs 5 = .bool (!ft) := hΦ 5 (hdp 5 (by kernel_rfl))
          have h10 : (!ft) = false → vs 10 = .string p := hΦ 10 (hdp 10 (by kernel_rfl))
          cases ft
          · refine wpOp_step rfl (fun K hK => ?_)
            go_simp
            exact hK _ _ ⟨undef, by simp [upd, h5], trivial, ⟨hb, hT, hU, ⟨_, _, _, hZ⟩, hB, hO, o8⟩, fun hh => no_tf hh⟩
          · replace h10 := h10 rfl
            refine wpOp_step rfl (fun K hK => ?_)
            go_simp
            exact hK _ _ ⟨_, by simp [upd, h5, h10], trivial, ⟨hb, hT, hU, ⟨_, _, _, hZ⟩, hB, hO, o8⟩, fun _ => rfl⟩
        · have h5 : vs 5 = .bool (!ft) := hΦ 5 (hdp 5 (by kernel_rfl))
          have h8 : (!ft) = false → vs 8 = .int .i64 (m.size : Int) := hΦ 8 (hdp 8 (by kernel_rfl))
          have h11 : (!ft) = false → vs 11 = .int .i64 (p.size : Int) := hΦ 11 (hdp 11 (by kernel_rfl))
          cases ft
          · refine wpOp_step rfl (fun K hK => ?_)
            go_simp
            exact hK _ _ ⟨undef, by simp [upd, h5], trivial, ⟨hb, hT, hU, ⟨_, _, _, hZ⟩, hB, hO, o8⟩, fun hh => no_tf hh⟩
          · replace h8 := h8 rfl
            replace h11 := h11 rfl
            refine wpOp_step rfl (fun K hK => ?_)
            go_simp
            exact hK _ _ ⟨.int .i64 ((m.size : Int) + (p.size : Int)), by simp [upd, h5, h8, h11], trivial, ⟨hb, hT, hU, ⟨_, _, _, hZ⟩, hB, hO, o8⟩, fun _ => rfl⟩
        · have h5 : vs 5 = .bool (!ft) := hΦ 5 (hdp 5 (by kernel_rfl))
          have h12 : (!ft) = false → vs 12 = .int .i64 ((m.size : Int) + (p.size : Int)) := hΦ 12 (hdp 12 (by kernel_rfl))
          cases ft
          · refine wpOp_step rfl (fun K hK => ?_)
            go_simp
            exact hK _ _ ⟨undef, by simp [upd, h5], trivial, ⟨hb, hT, hU, ⟨_, _, _, hZ⟩, hB, hO, o8⟩, fun hh => no_tf hh⟩
          · replace h12 := h12 rfl
            refine wpOp_step rfl (fun K hK => ?_)
            go_simp
            exact hK _ _ ⟨.bool (decide ((400 : Int) < (m.size : Int) + (p.size : Int))), by simp [upd, h5, h12], trivial, ⟨hb, hT, hU, ⟨_, _, _, hZ⟩, hB, hO, o8⟩, fun _ => rfl⟩
        · have h5 : vs 5 = .bool (!ft) := hΦ 5 (hdp 5 (by kernel_rfl))
          have h13 : (!ft) = false → vs 13 = .bool (decide ((400 : Int) < (m.size : Int) + (p.size : Int))) := hΦ 13 (hdp 13 (by kernel_rfl))
          cases ft
          · refine wpOp_step rfl (fun K hK => ?_)
            go_simp
            exact hK _ _ ⟨.bool true, by simp [upd, h5], trivial, ⟨hb, hT, hU, ⟨_, _, _, hZ⟩, hB, hO, o8⟩, rfl⟩
          · replace h13 := h13 rfl
            refine wpOp_step rfl (fun K hK => ?_)
            go_simp
            exact hK _ _ ⟨.bool (decide ((400 : Int) < (m.size : Int) + (p.size : Int))), by simp [upd, h5, h13], trivial, ⟨hb, hT, hU, ⟨_, _, _, hZ⟩, hB, hO, o8⟩, rfl⟩
      · intro m' vs w8 hm' hI hΦ
        obtain ⟨hb, hT, hU, ⟨z0, z1, z2, hZ⟩, hB, hO, o8⟩ := hI
        have h14 : vs 14 = .bool (!ft || decide ((400 : Int) < (m.size : Int) + (p.size : Int))) := hΦ 14 (by decide)
        obtain ⟨E, hE⟩ : ∃ E, (!ft || decide ((400 : Int) < (m.size : Int) + (p.size : Int))) = E := ⟨_, rfl⟩
        rw [h14, hE]
        clear h14 hΦ hE hm'
        obtain ⟨q0, q1, q2⟩ := hB.cells
        obtain ⟨r0, r1, r2⟩ := hZ.cells
        obtain ⟨s0, s1, s2⟩ := hZ.free
        cases E
        · clear q0 q1 q2 r0 r1 r2 s0 s1 s2
          obtain ⟨q0, q1, q2⟩ := hT.cells
          obtain ⟨r0, r1, r2⟩ := hU.cells
          go_wp2_with fail
          refine (l3Cut_any A1 n c1 x ps _ (by omega) hO.pieces).mono ?_
          rintro e w9 ⟨ga, na, ca, pa, gb, nb, cb, pb, rfl, C9, hna, hnb⟩
          have hb9 := C9.2.2.2
          have T9 := hT.next hb9
          have U9 := hU.next hb9
          have Z9 := hZ.next hb9
          have hbw9 := bstep hb hb9
          have hs89 := hb9.size
          have hlz8 := hZ.lt
          clear q0 q1 q2 r0 r1 r2 hT hU hZ hB hO o8 hb9
          obtain ⟨q0, q1, q2⟩ := T9.cells
          obtain ⟨r0, r1, r2⟩ := U9.cells
          go_wp2_with fail
          refine (l3Cut_any _ nb cb y pb _ (by omega) C9.2.1.pieces).mono ?_
          rintro e w10 ⟨gc, nc, cc, pc, gd, nd, cd, pd, rfl, C10, hnc, hnd⟩
          have hb10 := C10.2.2.2
          have T10 := T9.next hb10
          have U10 := U9.next hb10
          have Z10 := Z9.next hb10
          have hbw10 := bstep hbw9 hb10
          have a10 : OwnP 29 w10 w8.heap.size (some ⟨ga, 0, none⟩) na ca pa := C9.1.below hb10
          have d10 : OwnP 29 w10 w9.heap.size (some ⟨gd, 0, none⟩) nd cd pd := C10.2.1
          have hga : ga < w9.heap.size := (C9.1.2.lt ga rfl).2
          have hga0 := (C9.1.2.lt ga rfl).1
          clear q0 q1 q2 r0 r1 r2 T9 U9 Z9 hbw9 C9 C10
          obtain ⟨q0, q1, q2⟩ := T10.cells
          obtain ⟨r0, r1, r2⟩ := U10.cells
          have HZ10 : ∀ o, w8.heap.size ≤ (w10.alloc o).heap.size := fun o => by
            rw [World.size_alloc]
            have := hb10.size
            omega
          have hs910 := hb10.size
          have hs89 : w8.heap.size ≤ w9.heap.size := hs89
          clear hb10
          cases hpe : p.toList.isEmpty
          · go_wp2_with (at_builtin; refine wpList_append_piece2 rfl _ _ 23 rfl 29 i0 _ Try.underlying23 hi0 hz0 hz1 hz2 rfl w8.heap.size _ _ _ _ rfl ⟨a10.1, a10.2.alloc _⟩ (w10.heap.size) true _ _ rfl (heap_alloc_new _ _) ?_ (HZ10 _) ?_; omega; intro ga2 ca2 w11 o11 g11 s11)
            have g11 : (w10.alloc (.cells #[.bool true, .int .i64 (m.size : Int), .int .i64 (p.size : Int)] 29)).grownBy w11 (some ga) := g11
            have hT := (T10.alloc _).grown g11 (some_ne (by omega))
            have hU := (U10.alloc _).grown g11 (some_ne (by omega))
            have hZ := (Z10.alloc _).grown g11 (some_ne (by omega))
            have hd := OwnP.kept (⟨d10.1, d10.2.alloc _⟩ : OwnP 29 (w10.alloc (.cells #[.bool true, .int .i64 (m.size : Int), .int .i64 (p.size : Int)] 29)) w9.heap.size (some ⟨gd, 0, none⟩) nd cd pd) g11 (fun k hk e => by injection e with e; have := (d10.2.lt k hk).1; omega)
            have hb := (balloc hbw10 _).grown g11 (by rw [World.size_alloc]; have := hbw10.size; omega) (fun k hk => by injection hk with hk; omega)
            have ho := o11
            have hs0 : w8.heap.size ≤ w11.heap.size := Nat.le_trans (HZ10 _) g11.size
            refine wp_region_slots3 (by kernel_rfl) (fun rs => ⟨#[.agg #[.string f, .string m, .slice A n c], .agg #[.int .i64 x, .int .i64 y, .string p], .pointer (some ⟨w.heap.size, 0, none⟩), .pointer (some ⟨w.heap.size + 1, 0, none⟩), .pointer (some ⟨w.heap.size + 1 + 1, 0, none⟩), rs 12, .pointer (some ⟨g, 0, none⟩), .slice (some ⟨ga2, 0, none⟩) (na + 1) ca2, .slice (some ⟨gb, 0, none⟩) nb cb, .slice (some ⟨gc, 0, none⟩) nc cc, .slice (some ⟨gd, 0, none⟩) nd cd, .agg #[.string f, .string m, .slice A n c], .agg #[.string f, .string m, .slice A1 n c1], .agg #[.string f, .string m, .slice A1 n c1], .bool true, .bool false, undef, us 0, us 1, us 2, us 3, us 4, us 5, us 6, us 7, us 8, vs 0, vs 1, vs 2, vs 3, vs 4, vs 5, vs 6, vs 7, vs 8, vs 9, vs 10, vs 11, vs 12, vs 13, .bool false, undef, .tuple #[.slice (some ⟨ga, 0, none⟩) na ca, .slice (some ⟨gb, 0, none⟩) nb cb], .pointer (some ⟨w.heap.size, 2, none⟩), .slice A1 n c1, .pointer (some ⟨w.heap.size + 1, 0, none⟩), .int .i64 x, .tuple #[.slice (some ⟨ga, 0, none⟩) na ca, .slice (some ⟨gb, 0, none⟩) nb cb], .slice (some ⟨ga, 0, none⟩) na ca, .slice (some ⟨gb, 0, none⟩) nb cb, .tuple #[.slice (some ⟨gc, 0, none⟩) nc cc, .slice (some ⟨gd, 0, none⟩) nd cd], .slice (some ⟨gb, 0, none⟩) nb cb, .pointer (some ⟨w.heap.size + 1, 1, none⟩), .int .i64 y, .tuple #[.slice (some ⟨gc, 0, none⟩) nc cc, .slice (some ⟨gd, 0, none⟩) nd cd], .slice (some ⟨gc, 0, none⟩) nc cc, .slice (some ⟨gd, 0, none⟩) nd cd, .pointer (some ⟨w.heap.size + 1, 2, none⟩), .string p, .bool true, .slice (some ⟨ga, 0, none⟩) na ca, .pointer (some ⟨w.heap.size, 1, none⟩), .string m, .int .i64 (m.size : Int), .pointer (some ⟨w.heap.size + 1, 2, none⟩), .string p, .int .i64 (p.size : Int), .agg #[.bool true, .int .i64 (m.size : Int), .int .i64 (p.size : Int)], .slice (some ⟨w10.heap.size, 0, none⟩) 1 1, .slice (some ⟨ga2, 0, none⟩) (na + 1) ca2, rs 0, rs 1, rs 2, rs 3, rs 4, rs 5, rs 6, rs 7, rs 8, rs 9, rs 10], []⟩) (fun k => if k = 12 then .bool false else undef) rfl (enΦ w.heap.size f m p (.slice (some ⟨ga2, 0, none⟩) (na + 1) ca2) (.slice (some ⟨gd, 0, none⟩) nd cd)) (fun L _ rs w' => Below w.heap.size w w' ∧ w8.heap.size ≤ w'.heap.size ∧ B3 w' w.heap.size 25 (.string f) (.string m) (.slice A1 n c1) ∧ B3 w' (w.heap.size + 1) 50 (.int .i64 x) (.int .i64 y) (.string p) ∧ (∃ z0 z1 z2, B3 w' (w.heap.size + 1 + 1) 25 z0 z1 z2) ∧ (L 9 = false → OwnP 29 w' w9.heap.size (some ⟨gd, 0, none⟩) nd cd pd) ∧ EndC 29 25 w8.heap.size (w.heap.size + 1 + 1) f (m ++ p) (some ⟨ga2, 0, none⟩) (na + 1) ca2 (pa ++ [(true, (m.size : Int), (p.size : Int))]) ((na + 1) + nd) ((pa ++ [(true, (m.size : Int), (p.size : Int))]) ++ pd) L rs w') (fun _ _ => True) (enΦ_stab w.heap.size f m p (.slice (some ⟨ga2, 0, none⟩) (na + 1) ca2) (.slice (some ⟨gd, 0, none⟩) nd cd)) (by kernel_rfl) ⟨bdrew hb, hs0, hT.drew, hU.drew, ⟨_, _, _, hZ.drew⟩, fun _ => hd, ⟨fun _ => ho, (fun h => no_ft h), (fun h => no_ft h), (fun h => no_ft h)⟩⟩ ?_ ?_
            · clear hb hs0 hT hU hZ hd ho
              intro L m' rs w' i hi hm' hL hcl hdp hI hΦ
              obtain ⟨hb, hs, hT, hU, ⟨z0, z1, z2, hZ⟩, hd, hC⟩ := hI
              obtain ⟨c0, c1', c2⟩ := hT.cells
              obtain ⟨b0, b1, b2⟩ := hU.cells
              have hi' : i < 13 := hi
              rcases (by omega : i = 0 ∨ i = 1 ∨ i = 2 ∨ i = 3 ∨ i = 4 ∨ i = 5 ∨ i = 6 ∨ i = 7 ∨ i = 8 ∨ i = 9 ∨ i = 10 ∨ i = 11 ∨ i = 12) with rfl | rfl | rfl | rfl | rfl | rfl | rfl | rfl | rfl | rfl | rfl | rfl | rfl
              · refine wpOp_step rfl (fun K hK => ?_)
                go_simp
                exact hK _ _ ⟨_, by simp [upd], trivial, ⟨hb, hs, hT, hU, ⟨_, _, _, hZ⟩, hd, hC.skip (by decide) (by decide) (by decide)⟩, rfl⟩
              · have h0 : rs 0 = .pointer (some ⟨w.heap.size, 0, none⟩) := hΦ 0 (hdp 0 (by kernel_rfl))
                refine wpOp_step rfl (fun K hK => ?_)
                go_simp
                exact hK _ _ ⟨_, by simp [upd, h0], trivial, ⟨hb, hs, hT, hU, ⟨_, _, _, hZ⟩, hd, hC.skip (by decide) (by decide) (by decide)⟩, rfl⟩
              · refine wpOp_step rfl (fun K hK => ?_)
                go_simp
                exact hK _ _ ⟨_, by simp [upd], trivial, ⟨hb, hs, hT, hU, ⟨_, _, _, hZ⟩, hd, hC.skip (by decide) (by decide) (by decide)⟩, rfl⟩
              · have h2 : rs 2 = .pointer (some ⟨w.heap.size, 1, none⟩) := hΦ 2 (hdp 2 (by kernel_rfl))
                refine wpOp_step rfl (fun K hK => ?_)
                go_simp
                exact hK _ _ ⟨_, by simp [upd, h2], trivial, ⟨hb, hs, hT, hU, ⟨_, _, _, hZ⟩, hd, hC.skip (by decide) (by decide) (by decide)⟩, rfl⟩
              · refine wpOp_step rfl (fun K hK => ?_)
                go_simp
                exact hK _ _ ⟨_, by simp [upd], trivial, ⟨hb, hs, hT, hU, ⟨_, _, _, hZ⟩, hd, hC.skip (by decide) (by decide) (by decide)⟩, rfl⟩
              · have h4 : rs 4 = .pointer (some ⟨w.heap.size + 1, 2, none⟩) := hΦ 4 (hdp 4 (by kernel_rfl))
                refine wpOp_step rfl (fun K hK => ?_)
                go_simp
                exact hK _ _ ⟨_, by simp [upd, h4], trivial, ⟨hb, hs, hT, hU, ⟨_, _, _, hZ⟩, hd, hC.skip (by decide) (by decide) (by decide)⟩, rfl⟩
              · have h3 : rs 3 = .string m := hΦ 3 (hdp 3 (by kernel_rfl))
                have h5 : rs 5 = .string p := hΦ 5 (hdp 5 (by kernel_rfl))
                refine wpOp_step rfl (fun K hK => ?_)
                go_simp
                rw [if_neg (show ¬ 9223372036854775807 < m.size + p.size by omega)]
                go_simp
                exact hK _ _ ⟨.string (m ++ p), by simp [upd, h3, h5], trivial, ⟨hb, hs, hT, hU, ⟨_, _, _, hZ⟩, hd, hC.skip (by decide) (by decide) (by decide)⟩, rfl⟩
              · refine wpOp_step rfl (fun K hK => ?_)
                go_simp
                exact hK _ _ ⟨(.slice (some ⟨ga2, 0, none⟩) (na + 1) ca2), by simp [upd], trivial, ⟨hb, hs, hT, hU, ⟨_, _, _, hZ⟩, hd, hC.skip (by decide) (by decide) (by decide)⟩, rfl⟩
              · refine wpOp_step rfl (fun K hK => ?_)
                go_simp
                exact hK _ _ ⟨(.slice (some ⟨gd, 0, none⟩) nd cd), by simp [upd], trivial, ⟨hb, hs, hT, hU, ⟨_, _, _, hZ⟩, hd, hC.skip (by decide) (by decide) (by decide)⟩, rfl⟩
              · have h7 : rs 7 = (.slice (some ⟨ga2, 0, none⟩) (na + 1) ca2) := hΦ 7 (hdp 7 (by kernel_rfl))
                have h8 : rs 8 = (.slice (some ⟨gd, 0, none⟩) nd cd) := hΦ 8 (hdp 8 (by kernel_rfl))
                have o := hC.1 hL
                have d := hd hL
                have hga1 := (o.2.lt ga2 rfl).1
                have hL10 : L 10 = false := by
                  cases h : L 10
                  · rfl
                  · have := hcl 10 9 h (by kernel_rfl)
                    rw [hL] at this
                    cases this
                have hL11 : L 11 = false := by
                  cases h : L 11
                  · rfl
                  · have := hcl 11 10 h (by kernel_rfl)
                    rw [hL10] at this
                    cases this
                refine wpOp_step rfl (fun K hK => ?_)
                refine step_append_pieces rfl _ _ 23 rfl 29 i0 _ Try.underlying23 hi0 hz0 hz1 hz2 rfl w8.heap.size (na + 1) ca2 (some ⟨ga2, 0, none⟩) (pa ++ [(true, (m.size : Int), (p.size : Int))]) h7 o (some ⟨gd, 0, none⟩) nd cd _ pd h8 d.pieces (by omega) hs _ rfl _ rfl ?_
                intro A2 c2 w2 o2 hg
                have hg' : w'.grownBy w2 (some ga2) := hg
                refine hK _ _ ⟨.slice A2 ((na + 1) + nd) c2, ?_, trivial, ⟨hb.grown hg' (by have := hb.size; omega) (fun k hk => by injection hk with hk; omega), Nat.le_trans hs hg'.size, hT.grown hg' (some_ne (by omega)), hU.grown hg' (some_ne (by omega)), ⟨_, _, _, hZ.grown hg' (some_ne (by omega))⟩, (fun hh => no_tf (show true = false from hh)), EndC.op9 hL10 hL11 o2⟩, trivial⟩
                rfl
              · obtain ⟨A2, c2, e9, o9⟩ := hC.2.1 (hdp 9 (by kernel_rfl))
                have h1 : rs 1 = .string f := hΦ 1 (hdp 1 (by kernel_rfl))
                have h6 : rs 6 = .string (m ++ p) := hΦ 6 (hdp 6 (by kernel_rfl))
                refine wpOp_step rfl (fun K hK => ?_)
                go_simp
                exact hK _ _ ⟨.agg #[.string f, .string (m ++ p), .slice A2 ((na + 1) + nd) c2], by simp [upd, h1, h6, e9], trivial, ⟨hb, hs, hT, hU, ⟨_, _, _, hZ⟩, hd, hC.op10 o9⟩, trivial⟩
              · obtain ⟨A2, c2, e10, o10⟩ := hC.2.2.1 (hdp 10 (by kernel_rfl))
                have hL9 : L 9 = true := hcl 10 9 (hdp 10 (by kernel_rfl)) (by kernel_rfl)
                obtain ⟨q0, q1, q2⟩ := hZ.cells
                obtain ⟨p0, p1, p2⟩ := hZ.free
                refine wpOp_step rfl (fun K hK => ?_)
                go_simp
                exact hK _ _ ⟨undef, by simp [upd, e10], trivial, ⟨bset (bset (bset hb (by simp only []; omega) _) (by simp only []; omega) _) (by simp only []; omega) _, by simpa using hs, ((hT.far (by simp only []; omega) _).far (by simp only []; omega) _).far (by simp only []; omega) _, ((hU.far (by simp only []; omega) _).far (by simp only []; omega) _).far (by simp only []; omega) _, ⟨_, _, _, hZ.set_ _ _ _⟩, (fun hh => no_tf (show true = false from hL9.symm.trans hh)), hC.op11 hL9 o10 hZ (by decide)⟩, trivial⟩
              · refine wpOp_step rfl (fun K hK => ?_)
                go_simp
                exact hK _ _ ⟨.bool true, by simp [upd], trivial, ⟨hb, hs, hT, hU, ⟨_, _, _, hZ⟩, hd, hC.skip (by decide) (by decide) (by decide)⟩, rfl⟩
            · intro L m' rs w' hm' hall hI hΦ
              obtain ⟨hb, hs, hT, hU, ⟨z0, z1, z2, hZ⟩, hd, hC⟩ := hI
              have h12 : rs 12 = .bool true := hΦ 12 (by decide)
              obtain ⟨A2, c2, hB, o2⟩ := hC.2.2.2 (hall 11 (by decide))
              obtain ⟨e0, e1, e2⟩ := hB.cells
              rw [h12]
              go_wp2
              refine bodyPost_ret (v := .tuple #[.agg #[.string f, .string (m ++ p), .slice A2 ((na + 1) + nd) c2], .bool true]) (by simp only [results, Try.results32]; simp [go_sem, e0, e1, e2]) rfl ?_
              exact ⟨f, m ++ p, A2, (na + 1) + nd, c2, _, true, rfl, Nat.le_refl _, by simp, by omega, o2.base (by omega), hb⟩
          · go_wp2_with fail
            have hT := T10
            have hU := U10
            have hZ := Z10
            have hd := d10
            have hb := hbw10
            have ho := a10
            have hs0 : w8.heap.size ≤ w10.heap.size := Nat.le_trans (Nat.le_of_lt hga |> fun _ => hs89) hs910
            refine wp_region_slots3 (by kernel_rfl) (fun rs => ⟨#[.agg #[.string f, .string m, .slice A n c], .agg #[.int .i64 x, .int .i64 y, .string p], .pointer (some ⟨w.heap.size, 0, none⟩), .pointer (some ⟨w.heap.size + 1, 0, none⟩), .pointer (some ⟨w.heap.size + 1 + 1, 0, none⟩), rs 12, .pointer (some ⟨g, 0, none⟩), .slice (some ⟨ga, 0, none⟩) na ca, .slice (some ⟨gb, 0, none⟩) nb cb, .slice (some ⟨gc, 0, none⟩) nc cc, .slice (some ⟨gd, 0, none⟩) nd cd, .agg #[.string f, .string m, .slice A n c], .agg #[.string f, .string m, .slice A1 n c1], .agg #[.string f, .string m, .slice A1 n c1], .bool true, .bool false, undef, us 0, us 1, us 2, us 3, us 4, us 5, us 6, us 7, us 8, vs 0, vs 1, vs 2, vs 3, vs 4, vs 5, vs 6, vs 7, vs 8, vs 9, vs 10, vs 11, vs 12, vs 13, .bool false, undef, .tuple #[.slice (some ⟨ga, 0, none⟩) na ca, .slice (some ⟨gb, 0, none⟩) nb cb], .pointer (some ⟨w.heap.size, 2, none⟩), .slice A1 n c1, .pointer (some ⟨w.heap.size + 1, 0, none⟩), .int .i64 x, .tuple #[.slice (some ⟨ga, 0, none⟩) na ca, .slice (some ⟨gb, 0, none⟩) nb cb], .slice (some ⟨ga, 0, none⟩) na ca, .slice (some ⟨gb, 0, none⟩) nb cb, .tuple #[.slice (some ⟨gc, 0, none⟩) nc cc, .slice (some ⟨gd, 0, none⟩) nd cd], .slice (some ⟨gb, 0, none⟩) nb cb, .pointer (some ⟨w.heap.size + 1, 1, none⟩), .int .i64 y, .tuple #[.slice (some ⟨gc, 0, none⟩) nc cc, .slice (some ⟨gd, 0, none⟩) nd cd], .slice (some ⟨gc, 0, none⟩) nc cc, .slice (some ⟨gd, 0, none⟩) nd cd, .pointer (some ⟨w.heap.size + 1, 2, none⟩), .string p, .bool false, undef, undef, undef, undef, undef, undef, undef, undef, undef, undef, rs 0, rs 1, rs 2, rs 3, rs 4, rs 5, rs 6, rs 7, rs 8, rs 9, rs 10], []⟩) (fun k => if k = 12 then .bool false else undef) rfl (enΦ w.heap.size f m p (.slice (some ⟨ga, 0, none⟩) na ca) (.slice (some ⟨gd, 0, none⟩) nd cd)) (fun L _ rs w' => Below w.heap.size w w' ∧ w8.heap.size ≤ w'.heap.size ∧ B3 w' w.heap.size 25 (.string f) (.string m) (.slice A1 n c1) ∧ B3 w' (w.heap.size + 1) 50 (.int .i64 x) (.int .i64 y) (.string p) ∧ (∃ z0 z1 z2, B3 w' (w.heap.size + 1 + 1) 25 z0 z1 z2) ∧ (L 9 = false → OwnP 29 w' w9.heap.size (some ⟨gd, 0, none⟩) nd cd pd) ∧ EndC 29 25 w8.heap.size (w.heap.size + 1 + 1) f (m ++ p) (some ⟨ga, 0, none⟩) na ca pa (na + nd) (pa ++ pd) L rs w') (fun _ _ => True) (enΦ_stab w.heap.size f m p (.slice (some ⟨ga, 0, none⟩) na ca) (.slice (some ⟨gd, 0, none⟩) nd cd)) (by kernel_rfl) ⟨bdrew hb, hs0, hT.drew, hU.drew, ⟨_, _, _, hZ.drew⟩, fun _ => hd, ⟨fun _ => ho, (fun h => no_ft h), (fun h => no_ft h), (fun h => no_ft h)⟩⟩ ?_ ?_
            · clear hb hs0 hT hU hZ hd ho
              intro L m' rs w' i hi hm' hL hcl hdp hI hΦ
              obtain ⟨hb, hs, hT, hU, ⟨z0, z1, z2, hZ⟩, hd, hC⟩ := hI
              obtain ⟨c0, c1', c2⟩ := hT.cells
              obtain ⟨b0, b1, b2⟩ := hU.cells
              have hi' : i < 13 := hi
              rcases (by omega : i = 0 ∨ i = 1 ∨ i = 2 ∨ i = 3 ∨ i = 4 ∨ i = 5 ∨ i = 6 ∨ i = 7 ∨ i = 8 ∨ i = 9 ∨ i = 10 ∨ i = 11 ∨ i = 12) with rfl | rfl | rfl | rfl | rfl | rfl | rfl | rfl | rfl | rfl | rfl | rfl | rfl
              · refine wpOp_step rfl (fun K hK => ?_)
                go_simp
                exact hK _ _ ⟨_, by simp [upd], trivial, ⟨hb, hs, hT, hU, ⟨_, _, _, hZ⟩, hd, hC.skip (by decide) (by decide) (by decide)⟩, rfl⟩
              · have h0 : rs 0 = .pointer (some ⟨w.heap.size, 0, none⟩) := hΦ 0 (hdp 0 (by kernel_rfl))
                refine wpOp_step rfl (fun K hK => ?_)
                go_simp
                exact hK _ _ ⟨_, by simp [upd, h0], trivial, ⟨hb, hs, hT, hU, ⟨_, _, _, hZ⟩, hd, hC.skip (by decide) (by decide) (by decide)⟩, rfl⟩
              · refine wpOp_step rfl (fun K hK => ?_)
                go_simp
                exact hK _ _ ⟨_, by simp [upd], trivial, ⟨hb, hs, hT, hU, ⟨_, _, _, hZ⟩, hd, hC.skip (by decide) (by decide) (by decide)⟩, rfl⟩
              · have h2 : rs 2 = .pointer (some ⟨w.heap.size, 1, none⟩) := hΦ 2 (hdp 2 (by kernel_rfl))
                refine wpOp_step rfl (fun K hK => ?_)
                go_simp
                exact hK _ _ ⟨_, by simp [upd, h2], trivial, ⟨hb, hs, hT, hU, ⟨_, _, _, hZ⟩, hd, hC.skip (by decide) (by decide) (by decide)⟩, rfl⟩
              · refine wpOp_step rfl (fun K hK => ?_)
                go_simp
                exact hK _ _ ⟨_, by simp [upd], trivial, ⟨hb, hs, hT, hU, ⟨_, _, _, hZ⟩, hd, hC.skip (by decide) (by decide) (by decide)⟩, rfl⟩
              · have h4 : rs 4 = .pointer (some ⟨w.heap.size + 1, 2, none⟩) := hΦ 4 (hdp 4 (by kernel_rfl))
                refine wpOp_step rfl (fun K hK => ?_)
                go_simp
                exact hK _ _ ⟨_, by simp [upd, h4], trivial, ⟨hb, hs, hT, hU, ⟨_, _, _, hZ⟩, hd, hC.skip (by decide) (by decide) (by decide)⟩, rfl⟩
              · have h3 : rs 3 = .string m := hΦ 3 (hdp 3 (by kernel_rfl))
                have h5 : rs 5 = .string p := hΦ 5 (hdp 5 (by kernel_rfl))
                refine wpOp_step rfl (fun K hK => ?_)
                go_simp
                rw [if_neg (show ¬ 9223372036854775807 < m.size + p.size by omega)]
                go_simp
                exact hK _ _ ⟨.string (m ++ p), by simp [upd, h3, h5], trivial, ⟨hb, hs, hT, hU, ⟨_, _, _, hZ⟩, hd, hC.skip (by decide) (by decide) (by decide)⟩, rfl⟩
              · refine wpOp_step rfl (fun K hK => ?_)
                go_simp
                exact hK _ _ ⟨(.slice (some ⟨ga, 0, none⟩) na ca), by simp [upd], trivial, ⟨hb, hs, hT, hU, ⟨_, _, _, hZ⟩, hd, hC.skip (by decide) (by decide) (by decide)⟩, rfl⟩
              · refine wpOp_step rfl (fun K hK => ?_)
                go_simp
                exact hK _ _ ⟨(.slice (some ⟨gd, 0, none⟩) nd cd), by simp [upd], trivial, ⟨hb, hs, hT, hU, ⟨_, _, _, hZ⟩, hd, hC.skip (by decide) (by decide) (by decide)⟩, rfl⟩
              · have h7 : rs 7 = (.slice (some ⟨ga, 0, none⟩) na ca) := hΦ 7 (hdp 7 (by kernel_rfl))
                have h8 : rs 8 = (.slice (some ⟨gd, 0, none⟩) nd cd) := hΦ 8 (hdp 8 (by kernel_rfl))
                have o := hC.1 hL
                have d := hd hL
                have hga1 := (o.2.lt ga rfl).1
                have hL10 : L 10 = false := by
                  cases h : L 10
                  · rfl
                  · have := hcl 10 9 h (by kernel_rfl)
                    rw [hL] at this
                    cases this
                have hL11 : L 11 = false := by
                  cases h : L 11
                  · rfl
                  · have := hcl 11 10 h (by kernel_rfl)
                    rw [hL10] at this
                    cases this
                refine wpOp_step rfl (fun K hK => ?_)
                refine step_append_pieces rfl _ _ 23 rfl 29 i0 _ Try.underlying23 hi0 hz0 hz1 hz2 rfl w8.heap.size na ca (some ⟨ga, 0, none⟩) pa h7 o (some ⟨gd, 0, none⟩) nd cd _ pd h8 d.pieces (by omega) hs _ rfl _ rfl ?_
                intro A2 c2 w2 o2 hg
                have hg' : w'.grownBy w2 (some ga) := hg
                refine hK _ _ ⟨.slice A2 (na + nd) c2, ?_, trivial, ⟨hb.grown hg' (by have := hb.size; omega) (fun k hk => by injection hk with hk; omega), Nat.le_trans hs hg'.size, hT.grown hg' (some_ne (by omega)), hU.grown hg' (some_ne (by omega)), ⟨_, _, _, hZ.grown hg' (some_ne (by omega))⟩, (fun hh => no_tf (show true = false from hh)), EndC.op9 hL10 hL11 o2⟩, trivial⟩
                rfl
              · obtain ⟨A2, c2, e9, o9⟩ := hC.2.1 (hdp 9 (by kernel_rfl))
                have h1 : rs 1 = .string f := hΦ 1 (hdp 1 (by kernel_rfl))
                have h6 : rs 6 = .string (m ++ p) := hΦ 6 (hdp 6 (by kernel_rfl))
                refine wpOp_step rfl (fun K hK => ?_)
                go_simp
                exact hK _ _ ⟨.agg #[.string f, .string (m ++ p), .slice A2 (na + nd) c2], by simp [upd, h1, h6, e9], trivial, ⟨hb, hs, hT, hU, ⟨_, _, _, hZ⟩, hd, hC.op10 o9⟩, trivial⟩
              · obtain ⟨A2, c2, e10, o10⟩ := hC.2.2.1 (hdp 10 (by kernel_rfl))
                have hL9 : L 9 = true := hcl 10 9 (hdp 10 (by kernel_rfl)) (by kernel_rfl)
                obtain ⟨q0, q1, q2⟩ := hZ.cells
                obtain ⟨p0, p1, p2⟩ := hZ.free
                refine wpOp_step rfl (fun K hK => ?_)
                go_simp
                exact hK _ _ ⟨undef, by simp [upd, e10], trivial, ⟨bset (bset (bset hb (by simp only []; omega) _) (by simp only []; omega) _) (by simp only []; omega) _, by simpa using hs, ((hT.far (by simp only []; omega) _).far (by simp only []; omega) _).far (by simp only []; omega) _, ((hU.far (by simp only []; omega) _).far (by simp only []; omega) _).far (by simp only []; omega) _, ⟨_, _, _, hZ.set_ _ _ _⟩, (fun hh => no_tf (show true = false from hL9.symm.trans hh)), hC.op11 hL9 o10 hZ (by decide)⟩, trivial⟩
              · refine wpOp_step rfl (fun K hK => ?_)
                go_simp
                exact hK _ _ ⟨.bool true, by simp [upd], trivial, ⟨hb, hs, hT, hU, ⟨_, _, _, hZ⟩, hd, hC.skip (by decide) (by decide) (by decide)⟩, rfl⟩
            · intro L m' rs w' hm' hall hI hΦ
              obtain ⟨hb, hs, hT, hU, ⟨z0, z1, z2, hZ⟩, hd, hC⟩ := hI
              have h12 : rs 12 = .bool true := hΦ 12 (by decide)
              obtain ⟨A2, c2, hB, o2⟩ := hC.2.2.2 (hall 11 (by decide))
              obtain ⟨e0, e1, e2⟩ := hB.cells
              rw [h12]
              go_wp2
              refine bodyPost_ret (v := .tuple #[.agg #[.string f, .string (m ++ p), .slice A2 (na + nd) c2], .bool true]) (by simp only [results, Try.results32]; simp [go_sem, e0, e1, e2]) rfl ?_
              exact ⟨f, m ++ p, A2, na + nd, c2, _, true, rfl, Nat.le_refl _, by simp, by omega, o2.base (by omega), hb⟩
        · obtain ⟨e0, e1, e2⟩ := (hZ.set_ (.string f) (.string m) (.slice A' n c')).cells
          go_wp2
          refine bodyPost_ret (v := .tuple #[.agg #[.string f, .string m, .slice A' n c'], .bool false]) (by simp only [results, Try.results32]; simp [go_sem, e0, e1, e2]) rfl ?_
          exact ⟨f, m, A', n, c', ps, false, rfl, Nat.le_refl _, Nat.le_add_right _ _, by omega, (o8.base (by omega)).set3_far hZ (by decide) _ _ _, bset (bset (bset hb (by simp only []; omega) _) (by simp only []; omega) _) (by simp only []; omega) _⟩
end Go.Proofs.Ytecejfcoognkiaa
