/- append in guarded regions; marks appended to marks. -/
import Derived.Test.YtecejfcoognkiaaDoorW2
import Derived.Test.YtecejfcoognkiaaDoorPm
import Derived.Deep.AppendLies
namespace Go.Proofs.YtecejfcoognkiaaDoor
open Go.RowKit

theorem run_append_nil {P : Program} {w : World} (t ty e : TypeId) (i : TypeInfo) (ht : P.underlying t = some (.slice e)) (hi : P.info? e = some i) (v : Value) (base size n c : Nat) (xs : List Value) (hown : w.ownsRow base e size v n xs) :
    (Builtin.append_ #[t, t] ty #[v, .slice none 0 c]).run P w = .ok v w := by
  rcases hown.2 with ⟨rfl, rfl⟩ | ⟨g, cap, cur, rfl, _, _, hc, _⟩
  · simp [Builtin.append_, run_underlying ht, Builtin.lenOf, Builtin.firstCells, typeInfo, hi, sizeOf]
  · simp [Builtin.append_, run_underlying ht, Builtin.lenOf, Builtin.firstCells, typeInfo, hi, sizeOf, hc, storeCells]
/-- An operation whose guard holds. -/
theorem wpList_go {P : Program} {ops : Array Oper} {rest : List Oper} {o : Oper} {a : Act} {Q : Exit → Act → World → Prop} {w : World} (hw : Region.wanted o (yielded ops a.tmps) = true) (h : o.wp P a w (wpList P ops Q rest) Q) : wpList P ops Q (o :: rest) a w := by
  unfold wpList
  rw [if_pos hw]
  exact .inl h
/-- Marks appended to an owned row of marks. -/
theorem wp_append_marks {P : Program} {w : World} {o : Oper} {a : Act} {K : Act → World → Prop} {Q : Exit → Act → World → Prop} (s x : Operand) (t : TypeId)
    (ho : o.op = .call { callee := .builtin .append, args := #[s, x], argTypes := #[t, t] })
    (base : Nat) (e : TypeId) (i : TypeInfo) (z : Value) (bytes : Nat) (ht : P.underlying t = some (.slice e)) (hi : P.info? e = some i) (hz : i.zero = some z)
    (hsize : i.size = 2) (hby : i.bytes = bytes) (hzs : z.cells.size = 2)
    (v : Value) (n : Nat) (xs : List Value) (hs : a.eval s = v) (hown : w.ownsRow base e 2 v n xs)
    (A : Option Addr) (m c B : Nat) (ms : List (Int × Bool)) (hx : a.eval x = .slice A m c) (hm : Marks w B A m ms)
    (h63 : n + m ≤ maxLen) (hbytes : (n + m) * bytes ≤ 140737488355328) (hbase : base ≤ w.heap.size)
    (h : ∀ v' w', w'.ownsRow base e 2 v' (n + m) (xs ++ markCells ms) → w.grownBy w' v.ownBlock → K (a.put o.dst v') w') : o.wp P a w K Q := by
  have key : ∃ v' w', (Builtin.append_ #[t, t] o.type #[v, .slice A m c]).run P w = .ok v' w' ∧ w'.ownsRow base e 2 v' (n + m) (xs ++ markCells ms) ∧ w.grownBy w' v.ownBlock := by
    cases A with
    | none =>
      have h0 : m = 0 := by
        rcases Nat.eq_zero_or_pos m with h0 | h0
        · exact h0
        · obtain ⟨ad, he, _⟩ := hm.2 (by omega)
          cases he
      subst h0
      have hms : ms = [] := List.eq_nil_of_length_eq_zero hm.1
      subst hms
      exact ⟨v, w, run_append_nil t o.type e i ht hi v base 2 n c xs hown, by rw [markCells_nil, List.append_nil]; exact hown, World.grownBy.refl _ _⟩
    | some ad =>
      have f1 : ∀ j u, (markCells ms)[j]? = some u → w.cell? (ad.add j) = some u := fun j u hj => by
        have hl : j < (markCells ms).length := (List.getElem?_eq_some_iff.1 hj).1
        rw [markCells_length] at hl
        obtain ⟨p, b, hpb⟩ : ∃ p b, ms[j / 2]? = some (p, b) := ⟨_, _, List.getElem?_eq_getElem (by omega)⟩
        obtain ⟨c0, c1⟩ := markCells_at hpb
        obtain ⟨ad', he, _, hc⟩ := hm.2 (by rw [← hm.1]; omega)
        injection he with he
        subst he
        obtain ⟨d0, d1⟩ := hc _ _ _ hpb
        rcases Nat.mod_two_eq_zero_or_one j with h2 | h2
        · have e2 : j / 2 * 2 = j := by omega
          rw [e2] at c0 d0
          rw [hj] at c0
          rw [d0, c0]
        · have e2 : j / 2 * 2 + 1 = j := by omega
          rw [e2] at c1 d1
          rw [hj] at c1
          rw [d1, c1]
      have f2 : ∀ u ∈ markCells ms, u.oneCell' = true := fun u hu => by
        unfold markCells at hu
        obtain ⟨q, _, hq⟩ := List.mem_flatMap.1 hu
        simp only [List.mem_cons, List.not_mem_nil, or_false] at hq
        rcases hq with rfl | rfl <;> rfl
      obtain ⟨v', w', h1, h2, h3, _, _⟩ := run_append_own_at (P := P) w base t o.type e i z 2 bytes ht hi hz hsize hby hzs (by decide) v n xs hown ad m c (markCells ms) (by rw [markCells_length, hm.1]) f1 f2 h63 hbytes hbase
      exact ⟨v', w', h1, h2, h3⟩
  obtain ⟨v', w', hr, h2, h3⟩ := key
  unfold Oper.wp execOp
  simp only [ho, resolve, invoke, builtin, Sem.run_bind, Sem.run_pure, Result.andThen_ok, List.map_toArray, List.map_cons, List.map_nil, hs, hx, hr]
  exact h v' w' h2 h3
theorem marks_new {w : World} (T : TypeId) (x : Int) (b : Bool) : Marks (w.alloc (.cells #[.int .i64 x, .bool b] T)) (w.heap.size + 1) (some ⟨w.heap.size, 0, none⟩) 1 [(x, b)] := by
  refine ⟨rfl, fun _ => ⟨_, rfl, Nat.lt_succ_self _, fun k p q hk => ?_⟩⟩
  cases k with
  | zero =>
    injection hk with hk
    injection hk with e1 e2
    subst e1 e2
    exact ⟨Lib.cell_of_heap (heap_alloc_new w _) 0, Lib.cell_of_heap (heap_alloc_new w _) 1⟩
  | succ k => cases hk
theorem owns_cap {w : World} {base : Nat} {e : TypeId} {size n c : Nat} {A : Option Addr} {xs : List Value} (h : w.ownsRow base e size (.slice A n c) n xs) : n ≤ c := by
  rcases h.2 with ⟨h1, h2⟩ | ⟨g, cap, cur, h1, _, _, hc, _⟩
  · omega
  · injection h1 with _ _ h3
    omega
end Go.Proofs.YtecejfcoognkiaaDoor
