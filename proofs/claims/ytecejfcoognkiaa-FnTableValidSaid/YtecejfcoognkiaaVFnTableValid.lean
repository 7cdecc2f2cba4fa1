/- The walk of the law FnTableValid: the call returns true and turns nothing that was there. -/
import Derived.Test.YtecejfcoognkiaaD19
import Derived.Test.YtecejfcoognkiaaD3
import Derived.Test.YtecejfcoognkiaaW18
namespace Go.Proofs.Ytecejfcoognkiaa.fnTableValid
open Go.RowKit

theorem tableB_drop {f m : List UInt8} {ps : List (Bool × Int × Int)} (k : Nat) (h : tableB f m ps = true) : tableB f m (ps.drop k) = true := by
  obtain ⟨h1, h2⟩ := tableB_sum h
  have e : ps = ps.take k ++ ps.drop k := (List.take_append_drop _ _).symm
  have h3 : allB f.length m.length (ps.drop k) = true := by
    unfold allB at h1 ⊢
    rw [List.all_eq_true] at h1 ⊢
    exact fun x hx => h1 x (List.mem_of_mem_drop hx)
  have h4 : 0 ≤ sumP (ps.take k) := by
    refine allB_sum (nf := f.length) (nm := m.length) ?_
    unfold allB at h1 ⊢
    rw [List.all_eq_true] at h1 ⊢
    exact fun x hx => h1 x (List.mem_of_mem_take hx)
  have h5 : sumP ps = sumP (ps.take k) + sumP (ps.drop k) := by rw [← sumP_append, ← e]
  have h6 : piecesB f.length m.length (ps.drop k) = true := by
    unfold piecesB
    rw [h3, Bool.true_and, decide_eq_true_eq]
    omega
  unfold tableB at h ⊢
  rw [Bool.and_eq_true] at h
  rw [h6, h.2]
  rfl
theorem tableB_bad (f m : List UInt8) (ps : List (Bool × Int × Int)) : tableB f m (ps ++ [(false, 0, 0)]) = false := by
  refine tableB_0 (piecesB_stop (k := ps.length) (p := (false, 0, 0)) (by simp) (pieceB_no2 ?_))
  cases h : inI 0 1 ((roomN f.length m.length false : Int) - 0)
  · rfl
  · rw [inI_iff] at h
    omega
theorem pieceCells_drop : ∀ (ps : List (Bool × Int × Int)) (k : Nat), pieceCells (ps.drop k) = (pieceCells ps).drop (k * 3)
  | ps, 0 => by simp
  | [], k + 1 => by simp [pieceCells_nil]
  | p :: ps, k + 1 => by
    rw [List.drop_succ_cons, pieceCells_drop ps k, pieceCells_cons, show (k + 1) * 3 = k * 3 + 1 + 1 + 1 by omega]
    rfl
theorem pieces_half {w : World} {B n c k : Nat} {A : Option Addr} {ps : List (Bool × Int × Int)} (h : Pieces w B A n ps) (hk : k ≤ n) (hc : n ≤ c) : Pieces w B (if c = k then A else Option.map (fun x => x.add (k * 3)) A) (n - k) (ps.drop k) := by
  refine ⟨by rw [List.length_drop, h.1], by rw [pieceCells_length, List.length_drop, h.1], fun hn => ?_⟩
  obtain ⟨ad, rfl, hlt, hcell⟩ := h.2.2 (by omega)
  refine ⟨ad.add (k * 3), by rw [if_neg (by omega)]; rfl, by rw [add_block]; exact hlt, fun j u hj => ?_⟩
  rw [add_add]
  refine hcell _ _ ?_
  rw [pieceCells_drop, List.getElem?_drop] at hj
  exact hj
theorem own_cap {T : TypeId} {w : World} {base n c : Nat} {A : Option Addr} {ps : List (Bool × Int × Int)} (h : OwnP T w base A n c ps) : n ≤ c := by
  rcases h.2.2 with ⟨hv, h0⟩ | ⟨g, cap, cur, hv, _, _, hn, _⟩
  · omega
  · injection hv with _ _ h3
    omega
/-- What the operations leave that make the table that is not valid. -/
def bdΦ (t3 : Nat) (F M : ByteArray) (A : Option Addr) (n c : Nat) : Nat → World → Value → Prop
  | 0, _, v => v = .pointer (some ⟨t3, 0, none⟩)
  | 1, _, v => v = .string F
  | 2, _, v => v = .pointer (some ⟨t3, 1, none⟩)
  | 3, _, v => v = .string M
  | 5, _, v => v = .pointer (some ⟨t3, 2, none⟩)
  | 6, _, v => v = .slice A n c
  | 8, _, v => v = .agg #[.bool false, .int .i64 0, .int .i64 0]
  | _, _, _ => True
theorem bdΦ_stab (t3 : Nat) (F M : ByteArray) (A : Option Addr) (n c : Nat) : ∀ k w w' v, (fun _ _ : World => True) w w' → bdΦ t3 F M A n c k w v → bdΦ t3 F M A n c k w' v := fun k _ _ v _ h => by
  by_cases hk : k < 9
  · rcases (by omega : k = 0 ∨ k = 1 ∨ k = 2 ∨ k = 3 ∨ k = 4 ∨ k = 5 ∨ k = 6 ∨ k = 7 ∨ k = 8) with rfl | rfl | rfl | rfl | rfl | rfl | rfl | rfl | rfl
    all_goals exact h
  · obtain ⟨j, rfl⟩ : ∃ j, k = j + 9 := ⟨k - 9, by omega⟩
    trivial
/-- What holds between these operations. -/
def BdC (T TT : TypeId) (N : Nat) (F M : ByteArray) (n : Nat) (ps : List (Bool × Int × Int)) (L : Nat → Bool) (vs : Nat → Value) (w : World) : Prop :=
  (L 4 = true → L 7 = false → ∃ g, vs 4 = .slice (some ⟨g, 0, none⟩) 0 0 ∧ OwnP T w N (some ⟨g, 0, none⟩) 0 0 [] ∧ (L 9 = true → vs 9 ≠ .slice (some ⟨g, 0, none⟩) 1 1)) ∧
  (L 9 = true → L 10 = false → ∃ g, vs 9 = .slice (some ⟨g, 0, none⟩) 1 1 ∧ B3 w g T (.bool false) (.int .i64 0) (.int .i64 0)) ∧
  (L 7 = true → L 10 = false → ∃ A' c', vs 7 = .slice A' n c' ∧ OwnP T w N A' n c' ps) ∧
  (L 10 = true → ∃ A' c', vs 10 = .slice A' (n + 1) c' ∧ OwnP T w N A' (n + 1) c' (ps ++ [(false, 0, 0)]) ∧ (L 11 = true → vs 11 = .agg #[.string F, .string M, .slice A' (n + 1) c']) ∧ (L 13 = true → ∃ g, vs 12 = .pointer (some ⟨g, 0, none⟩) ∧ B3 w g TT (.string F) (.string M) (.slice A' (n + 1) c'))) ∧
  (L 12 = true → L 13 = false → ∃ g x y z, vs 12 = .pointer (some ⟨g, 0, none⟩) ∧ N ≤ g ∧ B3 w g TT x y z)
section
variable {T TT : TypeId} {N n i : Nat} {F M : ByteArray} {ps : List (Bool × Int × Int)} {L : Nat → Bool} {vs : Nat → Value} {w w' : World} {v : Value}
theorem BdC.skip (h : BdC T TT N F M n ps L vs w) (h4 : i ≠ 4) (h7 : i ≠ 7) (h9 : i ≠ 9) (h10 : i ≠ 10) (h11 : i ≠ 11) (h12 : i ≠ 12) (h13 : i ≠ 13) : BdC T TT N F M n ps (updL L i) (upd vs i v) w := by
  have e : ∀ k, k ≠ i → updL L i k = L k ∧ upd vs i v k = vs k := fun k hk => ⟨by unfold updL; rw [if_neg hk], by unfold upd; rw [if_neg hk]⟩
  unfold BdC at h ⊢
  rw [(e 4 h4.symm).1, (e 7 h7.symm).1, (e 9 h9.symm).1, (e 10 h10.symm).1, (e 11 h11.symm).1, (e 12 h12.symm).1, (e 13 h13.symm).1, (e 4 h4.symm).2, (e 7 h7.symm).2, (e 9 h9.symm).2, (e 10 h10.symm).2, (e 11 h11.symm).2, (e 12 h12.symm).2]
  exact h
theorem BdC.op4 (h : BdC T TT N F M n ps L vs w) (hN : N ≤ w.heap.size) (h10 : L 10 = false) : BdC T TT N F M n ps (updL L 4) (upd vs 4 (.slice (some ⟨w.heap.size, 0, none⟩) 0 0)) (w.alloc (.cells #[] T)) := by
  obtain ⟨a, b, c, d, e⟩ := h
  refine ⟨fun _ _ => ⟨w.heap.size, rfl, ⟨rfl, owns_empty w N T 3 hN⟩, fun hh he => ?_⟩, fun hh h2 => ?_, fun hh h2 => ?_, fun hh => ?_, fun hh h2 => ?_⟩
  · obtain ⟨g, x, y⟩ := b hh h10
    have hgl := y.lt
    have he' : vs 9 = .slice (some ⟨w.heap.size, 0, none⟩) 1 1 := he
    rw [x] at he'
    injection he' with he'
    injection he' with he'
    injection he' with he'
    omega
  · obtain ⟨g, x, y⟩ := b hh h2
    exact ⟨g, x, y.alloc _⟩
  · obtain ⟨A', c', x, y⟩ := c hh h2
    exact ⟨A', c', x, y.alloc _⟩
  · have hh' : L 10 = true := hh
    rw [h10] at hh'
    cases hh'
  · obtain ⟨g, x, y, z, p, q, t⟩ := e hh h2
    exact ⟨g, x, y, z, p, q, t.alloc _⟩
theorem BdC.op9 (h : BdC T TT N F M n ps L vs w) (h10 : L 10 = false) : BdC T TT N F M n ps (updL L 9) (upd vs 9 (.slice (some ⟨w.heap.size, 0, none⟩) 1 1)) (w.alloc (.cells #[.bool false, .int .i64 0, .int .i64 0] T)) := by
  obtain ⟨a, b, c, d, e⟩ := h
  refine ⟨fun hh h2 => ?_, fun _ _ => ⟨w.heap.size, rfl, B3.new w T _ _ _⟩, fun hh h2 => ?_, fun hh => ?_, fun hh h2 => ?_⟩
  · obtain ⟨g, x, y, _⟩ := a hh h2
    refine ⟨g, x, y.alloc _, fun _ he => ?_⟩
    have hgl := (y.2.lt g rfl).2
    have he' : Value.slice (some ⟨w.heap.size, 0, none⟩) 1 1 = .slice (some ⟨g, 0, none⟩) 1 1 := he
    injection he' with he'
    injection he' with he'
    injection he' with he'
    omega
  · obtain ⟨A', c', x, y⟩ := c hh h2
    exact ⟨A', c', x, y.alloc _⟩
  · have hh' : L 10 = true := hh
    rw [h10] at hh'
    cases hh'
  · obtain ⟨g, x, y, z, p, q, t⟩ := e hh h2
    exact ⟨g, x, y, z, p, q, t.alloc _⟩
theorem BdC.op12 (h : BdC T TT N F M n ps L vs w) (hN : N ≤ w.heap.size) (h13 : L 13 = false) (x y z : Value) : BdC T TT N F M n ps (updL L 12) (upd vs 12 (.pointer (some ⟨w.heap.size, 0, none⟩))) (w.alloc (.cells #[x, y, z] TT)) := by
  obtain ⟨a, b, c, d, _⟩ := h
  refine ⟨fun hh h2 => ?_, fun hh h2 => ?_, fun hh h2 => ?_, fun hh => ?_, fun _ _ => ⟨w.heap.size, x, y, z, rfl, hN, B3.new w TT x y z⟩⟩
  · obtain ⟨g, p, q, t⟩ := a hh h2
    exact ⟨g, p, q.alloc _, t⟩
  · obtain ⟨g, p, q⟩ := b hh h2
    exact ⟨g, p, q.alloc _⟩
  · obtain ⟨A', c', p, q⟩ := c hh h2
    exact ⟨A', c', p, q.alloc _⟩
  · obtain ⟨A', c', p, q, t, _⟩ := d hh
    refine ⟨A', c', p, q.alloc _, t, fun h3 => ?_⟩
    have h3' : L 13 = true := h3
    rw [h13] at h3'
    cases h3'
theorem BdC.op7 (h : BdC T TT N F M n ps L vs w) (h10 : L 10 = false) (hT : T ≠ TT) {g c' : Nat} {A' : Option Addr} (e4 : vs 4 = .slice (some ⟨g, 0, none⟩) 0 0) (o4 : OwnP T w N (some ⟨g, 0, none⟩) 0 0 []) (hne : L 9 = true → vs 9 ≠ .slice (some ⟨g, 0, none⟩) 1 1) (o7 : OwnP T w' N A' n c' ps) (hg : w.grownBy w' (some g)) : BdC T TT N F M n ps (updL L 7) (upd vs 7 (.slice A' n c')) w' := by
  obtain ⟨_, b, _, _, e⟩ := h
  refine ⟨(fun _ hh => no_tf (show true = false from hh)), fun hh h2 => ?_, fun _ _ => ⟨A', c', rfl, o7⟩, fun hh => ?_, fun hh h2 => ?_⟩
  · obtain ⟨g9, x, y⟩ := b hh h2
    refine ⟨g9, x, y.grown hg (some_ne fun he => ?_)⟩
    subst he
    exact hne hh x
  · have hh' : L 10 = true := hh
    rw [h10] at hh'
    cases hh'
  · obtain ⟨g2, x, y, z, p, q, t⟩ := e hh h2
    refine ⟨g2, x, y, z, p, q, t.grown hg (some_ne fun he => ?_)⟩
    subst he
    exact o4.ne_block t hT rfl
theorem BdC.op10 (h : BdC T TT N F M n ps L vs w) (h7 : L 7 = true) (h11 : L 11 = false) (h13 : L 13 = false) (hT : T ≠ TT) {c c' : Nat} {A A' : Option Addr} (o7 : OwnP T w N A n c ps) (o10 : OwnP T w' N A' (n + 1) c' (ps ++ [(false, 0, 0)])) (hg : w.grownBy w' (Value.slice A n c).ownBlock) : BdC T TT N F M n ps (updL L 10) (upd vs 10 (.slice A' (n + 1) c')) w' := by
  obtain ⟨_, _, _, _, e⟩ := h
  refine ⟨fun hh h2 => ?_, (fun _ hh => no_tf (show true = false from hh)), (fun _ hh => no_tf (show true = false from hh)), fun _ => ⟨A', c', rfl, o10, fun hh => ?_, fun hh => ?_⟩, fun hh h2 => ?_⟩
  · have h2' : L 7 = false := h2
    rw [h7] at h2'
    cases h2'
  · have hh' : L 11 = true := hh
    rw [h11] at hh'
    cases hh'
  · have hh' : L 13 = true := hh
    rw [h13] at hh'
    cases hh'
  · obtain ⟨g2, x, y, z, p, q, t⟩ := e hh h2
    exact ⟨g2, x, y, z, p, q, t.grown hg (fun he => o7.ne_block' t hT _ he.symm rfl)⟩
theorem BdC.op11 (h : BdC T TT N F M n ps L vs w) (h10 : L 10 = true) {A' : Option Addr} {c' : Nat} (e10 : vs 10 = .slice A' (n + 1) c') : BdC T TT N F M n ps (updL L 11) (upd vs 11 (.agg #[.string F, .string M, .slice A' (n + 1) c'])) w := by
  obtain ⟨a, b, c, d, e⟩ := h
  refine ⟨a, b, c, fun hh => ?_, e⟩
  obtain ⟨A2, c2, x, y, z, t⟩ := d h10
  rw [e10] at x
  injection x with x1 x2 x3
  subst x1 x3
  exact ⟨A', c', e10, y, fun _ => rfl, t⟩
theorem BdC.op13 (h : BdC T TT N F M n ps L vs w) (h7 : L 7 = true) (h10 : L 10 = true) (hT : T ≠ TT) {g c' : Nat} {A' : Option Addr} {x y z : Value} (e10 : vs 10 = .slice A' (n + 1) c') (e12 : vs 12 = .pointer (some ⟨g, 0, none⟩)) (hB : B3 w g TT x y z) : BdC T TT N F M n ps (updL L 13) (upd vs 13 v) (((w.setCell ⟨g, 0, none⟩ (.string F)).setCell ⟨g, 1, none⟩ (.string M)).setCell ⟨g, 2, none⟩ (.slice A' (n + 1) c')) := by
  obtain ⟨_, _, _, d, _⟩ := h
  refine ⟨fun hh h2 => ?_, fun hh h2 => ?_, fun hh h2 => ?_, fun hh => ?_, (fun _ hh => no_tf (show true = false from hh))⟩
  · have h2' : L 7 = false := h2
    rw [h7] at h2'
    cases h2'
  · have h2' : L 10 = false := h2
    rw [h10] at h2'
    cases h2'
  · have h2' : L 10 = false := h2
    rw [h10] at h2'
    cases h2'
  · obtain ⟨A2, c2, p, q, t, _⟩ := d h10
    rw [e10] at p
    injection p with x1 x2 x3
    subst x1 x3
    exact ⟨A', c', e10, q.set3_far hB hT _ _ _, t, fun _ => ⟨g, e12, hB.set_ _ _ _⟩⟩
end
set_option maxRecDepth 100000 in
set_option maxHeartbeats 1600000 in
theorem walk (A : Option Addr) (n c : Nat) (hnc : n ≤ c) (hc : c ≤ maxLen) (w : World) (hb : Byt w w.heap.size A n) :
    Calls Try.prog 3 #[.slice A n c] w fun e w' => e = .returned (.bool true) ∧ Below w.heap.size w w' := by
  have hc' := hc
  unfold maxLen at hc'
  by_cases h : 1048576 < n
  · go_enter Try.func3, Try.ntmps3
    go_wp2
    go_ret
    exact ⟨rfl, Below.refl _ _⟩
  · go_enter Try.func3, Try.ntmps3
    go_wp2_with fail
    refine (DrawTableValid_any _ _ _ _ hb hnc hc).mono ?_
    rintro e w1 ⟨F, M, A1, n1, c1, ps, rfl, hF, hM, hn1, ho1, hb1⟩
    have t2 := B3.new w1 25 (.string F) (.string M) (.slice A1 n1 c1)
    have o2 := ho1.alloc (.cells #[.string F, .string M, .slice A1 n1 c1] 25)
    have b2 := balloc hb1 (.cells #[.string F, .string M, .slice A1 n1 c1] 25)
    have hw1 := hb1.size
    clear ho1 hb1
    obtain ⟨c0, c1', c2⟩ := t2.cells
    go_wp2_with fail
    generalize w1.alloc (.cells #[.string F, .string M, .slice A1 n1 c1] 25) = w2 at t2 o2 b2 c0 c1' c2 ⊢
    generalize w1.heap.size = t3 at t2 c0 c1' c2 hw1 ⊢
    obtain ⟨tv, htv⟩ : ∃ tv, tableB F.data.toList M.data.toList ps = tv := ⟨_, rfl⟩
    have HTV := Lib.hid htv
    clear htv
    refine (implTableValid_any F M A1 n1 c1 ps _ (by omega) (by omega) (by omega) o2.pieces).mono ?_
    rw [HTV.out]
    rintro e w3 ⟨rfl, hb3⟩
    have t3' := t2.next hb3
    have o3 := o2.below hb3
    have b3 := bstep b2 hb3
    clear t2 o2 b2 hb3 c0 c1' c2
    obtain ⟨c0, c1', c2⟩ := t3'.cells
    go_wp2_with fail
    refine (specTableValid_any F M A1 n1 c1 ps _ (by omega) (by omega) (by omega) o3.pieces).mono ?_
    rw [HTV.out]
    rintro e w4 ⟨rfl, hb4⟩
    have t4 := t3'.next hb4
    have o4 := o3.below hb4
    have b4 := bstep b3 hb4
    clear t3' o3 b3 hb4 c0 c1' c2
    obtain ⟨c0, c1', c2⟩ := t4.cells
    have hl4 := t4.lt
    obtain ⟨fr0, fr1, fr2⟩ := t4.free
    go_wp2_with fail
    have hcap : n1 ≤ c1 := own_cap o4
    have hq1 : ((n1 / 2 : Nat) : Int) ≤ (n1 : Int) := by omega
    have hq2 : (n1 : Int) ≤ (c1 : Int) := by omega
    go_region
    have H5 := (B3.new w4 25 (.string F) (.string M) (.slice (if c1 = n1 / 2 then A1 else Option.map (fun x => x.add (n1 / 2 * 3)) A1) (n1 - n1 / 2) (c1 - n1 / 2))).drew
    have t5 := (t4.alloc (.cells #[.string F, .string M, .slice (if c1 = n1 / 2 then A1 else Option.map (fun x => x.add (n1 / 2 * 3)) A1) (n1 - n1 / 2) (c1 - n1 / 2)] 25)).drew
    have o5 : OwnP 29 (w4.alloc (.cells #[.string F, .string M, .slice (if c1 = n1 / 2 then A1 else Option.map (fun x => x.add (n1 / 2 * 3)) A1) (n1 - n1 / 2) (c1 - n1 / 2)] 25)).drew w.heap.size A1 n1 c1 ps := o4.alloc _
    have b5 := bdrew (balloc b4 (.cells #[.string F, .string M, .slice (if c1 = n1 / 2 then A1 else Option.map (fun x => x.add (n1 / 2 * 3)) A1) (n1 - n1 / 2) (c1 - n1 / 2)] 25))
    clear t4 o4 b4 c0 c1' c2 fr0 fr1 fr2
    generalize (w4.alloc (.cells #[.string F, .string M, .slice (if c1 = n1 / 2 then A1 else Option.map (fun x => x.add (n1 / 2 * 3)) A1) (n1 - n1 / 2) (c1 - n1 / 2)] 25)).drew = w5 at H5 t5 o5 b5 ⊢
    generalize w4.heap.size = gh at H5 ⊢
    obtain ⟨AH, hAH⟩ : ∃ AH, (if c1 = n1 / 2 then A1 else Option.map (fun x => x.add (n1 / 2 * 3)) A1) = AH := ⟨_, rfl⟩
    obtain ⟨nh, hnh⟩ : ∃ nh, n1 - n1 / 2 = nh := ⟨_, rfl⟩
    obtain ⟨ch, hch⟩ : ∃ ch, c1 - n1 / 2 = ch := ⟨_, rfl⟩
    have hhalf : ∀ W, Pieces W W.heap.size A1 n1 ps → Pieces W W.heap.size AH nh (ps.drop (n1 / 2)) := fun W hW => by
      rw [← hAH, ← hnh]
      exact pieces_half hW (by omega) hcap
    have HHALF := Lib.hid hhalf
    have hnh2 : nh ≤ 200 := by omega
    rw [hAH, hnh, hch] at H5 ⊢
    clear hhalf hAH hnh hch hcap hq1 hq2
    have hw5 := b5.size
    have hA5 : ∀ k, (Value.slice A1 n1 c1).ownBlock = some k → k < w5.heap.size := fun k hk => (o5.2.lt k hk).2
    have ht5 := t5.lt
    have hh5 := H5.lt
    obtain ⟨i0, hi0, hz0, hz1, hz2⟩ := info_parts pieceInfo5
    go_wp2_with fail
    refine wp_region_slots3 (by kernel_rfl) (fun vs => ⟨#[.slice A n c, undef, .bool false, .pointer (some ⟨t3, 0, none⟩), .bool tv, .pointer (some ⟨gh, 0, none⟩), vs 12, .slice A n c, .int .i64 (n : Int), .bool (decide ((1048576 : Int) < (n : Int))), .slice A n c, .agg #[.string F, .string M, .slice A1 n1 c1], .agg #[.string F, .string M, .slice A1 n1 c1], .bool tv, .bool tv, .agg #[.string F, .string M, .slice A1 n1 c1], .bool tv, .bool false, .pointer (some ⟨t3, 0, none⟩), .string F, .pointer (some ⟨t3, 1, none⟩), .string M, .pointer (some ⟨t3, 2, none⟩), .slice A1 n1 c1, .pointer (some ⟨t3, 2, none⟩), .slice A1 n1 c1, .int .i64 (n1 : Int), .int .i64 ((n1 : Int) / 2), .slice AH nh ch, .agg #[.string F, .string M, .slice AH nh ch], vs 0, vs 1, vs 2, vs 3, vs 4, vs 5, vs 6, vs 7, vs 8, vs 9, vs 10, vs 11, undef, undef, undef, undef, undef, undef, undef, undef, undef, undef, undef, undef, undef, undef], []⟩) (fun _ => undef) rfl (bdΦ t3 F M A1 n1 c1) (fun L _ vs w' => Below w.heap.size w w' ∧ w5.heap.size ≤ w'.heap.size ∧ B3 w' t3 25 (.string F) (.string M) (.slice A1 n1 c1) ∧ B3 w' gh 25 (.string F) (.string M) (.slice AH nh ch) ∧ OwnP 29 w' w.heap.size A1 n1 c1 ps ∧ BdC 29 25 w5.heap.size F M n1 ps L vs w') (fun _ _ => True) (bdΦ_stab t3 F M A1 n1 c1) (by kernel_rfl) ⟨bdrew b5, Nat.le_refl _, t5.drew, H5.drew, o5, ⟨(fun h => no_ft h), (fun h => no_ft h), (fun h => no_ft h), (fun h => no_ft h), (fun h => no_ft h)⟩⟩ ?_ ?_
    · intro L m' vs w' i hi hm hL hcl hd hI hΦ
      obtain ⟨hb, hs, hT, hH, hO, hC⟩ := hI
      obtain ⟨c0, c1', c2⟩ := hT.cells
      have hi' : i < 14 := hi
      rcases (by omega : i = 0 ∨ i = 1 ∨ i = 2 ∨ i = 3 ∨ i = 4 ∨ i = 5 ∨ i = 6 ∨ i = 7 ∨ i = 8 ∨ i = 9 ∨ i = 10 ∨ i = 11 ∨ i = 12 ∨ i = 13) with rfl | rfl | rfl | rfl | rfl | rfl | rfl | rfl | rfl | rfl | rfl | rfl | rfl | rfl
      · refine wpOp_step rfl (fun K hK => ?_)
        go_simp
        exact hK _ _ ⟨_, by simp [upd], trivial, ⟨hb, hs, hT, hH, hO, hC.skip (by decide) (by decide) (by decide) (by decide) (by decide) (by decide) (by decide)⟩, rfl⟩
      · have h0 : vs 0 = .pointer (some ⟨t3, 0, none⟩) := hΦ 0 (hd 0 (by kernel_rfl))
        refine wpOp_step rfl (fun K hK => ?_)
        go_simp
        exact hK _ _ ⟨_, by simp [upd, h0], trivial, ⟨hb, hs, hT, hH, hO, hC.skip (by decide) (by decide) (by decide) (by decide) (by decide) (by decide) (by decide)⟩, rfl⟩
      · refine wpOp_step rfl (fun K hK => ?_)
        go_simp
        exact hK _ _ ⟨_, by simp [upd], trivial, ⟨hb, hs, hT, hH, hO, hC.skip (by decide) (by decide) (by decide) (by decide) (by decide) (by decide) (by decide)⟩, rfl⟩
      · have h2 : vs 2 = .pointer (some ⟨t3, 1, none⟩) := hΦ 2 (hd 2 (by kernel_rfl))
        refine wpOp_step rfl (fun K hK => ?_)
        go_simp
        exact hK _ _ ⟨_, by simp [upd, h2], trivial, ⟨hb, hs, hT, hH, hO, hC.skip (by decide) (by decide) (by decide) (by decide) (by decide) (by decide) (by decide)⟩, rfl⟩
      · have hL7 : L 7 = false := by
          cases h : L 7
          · rfl
          · have := hcl 7 4 h (by kernel_rfl)
            rw [hL] at this
            cases this
        have hL10 : L 10 = false := by
          cases h : L 10
          · rfl
          · have := hcl 10 7 h (by kernel_rfl)
            rw [hL7] at this
            cases this
        refine wpOp_step rfl (fun K hK => ?_)
        go_simp
        exact hK _ _ ⟨_, by simp [upd], trivial, ⟨balloc hb _, by rw [World.size_alloc]; omega, hT.alloc _, hH.alloc _, hO.alloc _, hC.op4 hs hL10⟩, trivial⟩
      · refine wpOp_step rfl (fun K hK => ?_)
        go_simp
        exact hK _ _ ⟨_, by simp [upd], trivial, ⟨hb, hs, hT, hH, hO, hC.skip (by decide) (by decide) (by decide) (by decide) (by decide) (by decide) (by decide)⟩, rfl⟩
      · have h5 : vs 5 = .pointer (some ⟨t3, 2, none⟩) := hΦ 5 (hd 5 (by kernel_rfl))
        refine wpOp_step rfl (fun K hK => ?_)
        go_simp
        exact hK _ _ ⟨_, by simp [upd, h5], trivial, ⟨hb, hs, hT, hH, hO, hC.skip (by decide) (by decide) (by decide) (by decide) (by decide) (by decide) (by decide)⟩, rfl⟩
      · have hL10 : L 10 = false := by
          cases h : L 10
          · rfl
          · have := hcl 10 7 h (by kernel_rfl)
            rw [hL] at this
            cases this
        obtain ⟨g, e4, o4, hne⟩ := hC.1 (hd 4 (by kernel_rfl)) hL
        have h6 : vs 6 = .slice A1 n1 c1 := hΦ 6 (hd 6 (by kernel_rfl))
        have hg6 := (o4.2.lt g rfl).1
        refine wpOp_step rfl (fun K hK => ?_)
        refine step_append_pieces rfl _ _ 23 rfl 29 i0 _ Try.underlying23 hi0 hz0 hz1 hz2 rfl w5.heap.size 0 0 (some ⟨g, 0, none⟩) [] e4 o4 A1 n1 c1 _ ps h6 hO.pieces (by omega) hs n1 (by omega) ps (by simp) ?_
        intro A' c' w2 o2 hg
        have hg' : w'.grownBy w2 (some g) := hg
        exact hK _ _ ⟨.slice A' n1 c', rfl, trivial, ⟨hb.grown hg' hb.size (fun k hk => by injection hk with hk; omega), Nat.le_trans hs hg'.size, hT.grown hg' (some_ne (by omega)), hH.grown hg' (some_ne (by omega)), hO.kept hg' (fun k hk e => by injection e with e; have := hA5 k hk; omega), hC.op7 hL10 (by decide) e4 o4 hne o2 hg'⟩, trivial⟩
      · refine wpOp_step rfl (fun K hK => ?_)
        go_simp
        exact hK _ _ ⟨_, by simp [upd], trivial, ⟨hb, hs, hT, hH, hO, hC.skip (by decide) (by decide) (by decide) (by decide) (by decide) (by decide) (by decide)⟩, rfl⟩
      · have hL10 : L 10 = false := by
          cases h : L 10
          · rfl
          · have := hcl 10 9 h (by kernel_rfl)
            rw [hL] at this
            cases this
        have h8 : vs 8 = .agg #[.bool false, .int .i64 0, .int .i64 0] := hΦ 8 (hd 8 (by kernel_rfl))
        refine wpOp_step rfl (fun K hK => ?_)
        go_simp
        exact hK _ _ ⟨.slice (some ⟨w'.heap.size, 0, none⟩) 1 1, by simp [upd, h8], trivial, ⟨balloc hb _, by rw [World.size_alloc]; omega, hT.alloc _, hH.alloc _, hO.alloc _, hC.op9 hL10⟩, trivial⟩
      · have hL11 : L 11 = false := by
          cases h : L 11
          · rfl
          · have := hcl 11 10 h (by kernel_rfl)
            rw [hL] at this
            cases this
        have hL13 : L 13 = false := by
          cases h : L 13
          · rfl
          · have := hcl 13 11 h (by kernel_rfl)
            rw [hL11] at this
            cases this
        have hL7 : L 7 = true := hd 7 (by kernel_rfl)
        obtain ⟨A7, c7, e7, o7⟩ := hC.2.2.1 hL7 hL
        obtain ⟨g9, e9, B9⟩ := hC.2.1 (hd 9 (by kernel_rfl)) hL
        refine wpOp_step rfl (fun K hK => ?_)
        refine step_append_pieces rfl _ _ 23 rfl 29 i0 _ Try.underlying23 hi0 hz0 hz1 hz2 rfl w5.heap.size n1 c7 A7 ps e7 o7 (some ⟨g9, 0, none⟩) 1 1 _ [(false, 0, 0)] e9 (pieces_block B9) (by omega) hs (n1 + 1) rfl _ rfl ?_
        intro A' c' w2 o2 hg
        exact hK _ _ ⟨.slice A' (n1 + 1) c', rfl, trivial, ⟨hb.grown hg hb.size (fun k hk => Nat.le_trans hw5 (o7.2.lt k hk).1), Nat.le_trans hs hg.size, hT.grown hg (fun e => by have := (o7.2.lt _ e.symm).1; omega), hH.grown hg (fun e => by have := (o7.2.lt _ e.symm).1; omega), hO.kept hg (fun k hk e => by have := hA5 k hk; have := (o7.2.lt _ e).1; omega), hC.op10 hL7 hL11 hL13 (by decide) o7 o2 hg⟩, trivial⟩
      · obtain ⟨A', c', e10, _⟩ := hC.2.2.2.1 (hd 10 (by kernel_rfl))
        have h1 : vs 1 = .string F := hΦ 1 (hd 1 (by kernel_rfl))
        have h3 : vs 3 = .string M := hΦ 3 (hd 3 (by kernel_rfl))
        refine wpOp_step rfl (fun K hK => ?_)
        go_simp
        exact hK _ _ ⟨.agg #[.string F, .string M, .slice A' (n1 + 1) c'], by simp [upd, h1, h3, e10], trivial, ⟨hb, hs, hT, hH, hO, hC.op11 (hd 10 (by kernel_rfl)) e10⟩, trivial⟩
      · have hL13 : L 13 = false := by
          cases h : L 13
          · rfl
          · have := hcl 13 12 h (by kernel_rfl)
            rw [hL] at this
            cases this
        refine wpOp_step rfl (fun K hK => ?_)
        go_simp
        exact hK _ _ ⟨_, by simp [upd], trivial, ⟨balloc hb _, by rw [World.size_alloc]; omega, hT.alloc _, hH.alloc _, hO.alloc _, hC.op12 hs hL13 _ _ _⟩, trivial⟩
      · have hL10 : L 10 = true := hcl 11 10 (hd 11 (by kernel_rfl)) (by kernel_rfl)
        have hL7 : L 7 = true := hcl 10 7 hL10 (by kernel_rfl)
        obtain ⟨A', c', e10, _, x11, _⟩ := hC.2.2.2.1 hL10
        have e11 := x11 (hd 11 (by kernel_rfl))
        obtain ⟨g, x0, y0, z0', e12, hgN, hB⟩ := hC.2.2.2.2 (hd 12 (by kernel_rfl)) hL
        obtain ⟨q0, q1, q2⟩ := hB.cells
        obtain ⟨p0, p1, p2⟩ := hB.free
        refine wpOp_step rfl (fun K hK => ?_)
        go_simp
        exact hK _ _ ⟨undef, by simp [upd, e10, e11, e12], trivial, ⟨bset (bset (bset hb (by simp only []; omega) _) (by simp only []; omega) _) (by simp only []; omega) _, by simpa using hs, ((hT.far (by simp only []; omega) _).far (by simp only []; omega) _).far (by simp only []; omega) _, ((hH.far (by simp only []; omega) _).far (by simp only []; omega) _).far (by simp only []; omega) _, hO.set3_far hB (by decide) _ _ _, hC.op13 hL7 hL10 (by decide) e10 e12 hB⟩, trivial⟩
    · intro L m' vs w7 hk hall hI hΦ
      obtain ⟨hb, hs, hT, hH, hO, hC⟩ := hI
      obtain ⟨AB, cb, _, oB, _, x13⟩ := hC.2.2.2.1 (hall 10 (by decide))
      obtain ⟨gb, e12, hB⟩ := x13 (hall 13 (by decide))
      rw [e12]
      have PH := HHALF.out _ hO.pieces
      have HBAD := Lib.hid (tableB_bad F.data.toList M.data.toList ps)
      clear hΦ hall hC x13 hk e12
      obtain ⟨c0, c1', c2⟩ := hH.cells
      obtain ⟨d0, d1, d2⟩ := hB.cells
      cases tv
      · go_wp2_with fail
        refine (implTableValid_any F M AB (n1 + 1) cb _ _ (by omega) (by omega) (by omega) oB.pieces).mono ?_
        rw [HBAD.out]
        rintro e w8 ⟨rfl, hb8⟩
        go_wp2_with (go_at_call 9; refine (alive_any _).mono ?_; rintro e w' ⟨rfl, rfl⟩)
        go_ret
        exact ⟨rfl, bstep hb hb8⟩
      · have HH := Lib.hid (tableB_drop (n1 / 2) HTV.out)
        go_wp2_with fail
        refine (implTableValid_any F M AH nh ch _ _ (by omega) (by omega) (by omega) PH).mono ?_
        rw [HH.out]
        rintro e w8 ⟨rfl, hb8⟩
        have hB8 := hB.next hb8
        have oB8 := oB.below hb8
        have hb8' := bstep hb hb8
        clear c0 c1' c2 d0 d1 d2 hB hb8 oB
        obtain ⟨d0, d1, d2⟩ := hB8.cells
        go_wp2_with fail
        refine (implTableValid_any F M AB (n1 + 1) cb _ _ (by omega) (by omega) (by omega) oB8.pieces).mono ?_
        rw [HBAD.out]
        rintro e w9 ⟨rfl, hb9⟩
        go_wp2_with (go_at_call 9; refine (alive_any _).mono ?_; rintro e w' ⟨rfl, rfl⟩)
        go_ret
        exact ⟨rfl, bstep hb8' hb9⟩
end Go.Proofs.Ytecejfcoognkiaa.fnTableValid
