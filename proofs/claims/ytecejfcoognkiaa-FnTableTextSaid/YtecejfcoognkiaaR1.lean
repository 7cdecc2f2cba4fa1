/- A region that draws its order, by what each operation leaves once it has come up. -/
import Derived.RegionTactic
import Derived.OrdersHeld
namespace Go.Proofs.Ytecejfcoognkiaa

/-- The operations that an operation waits for. -/
def depsOf (md : Region.Mode) (ops : Array Oper) (i : Nat) : List Nat := ((ops[i]?).map fun o => (o.after.toList.filter fun e => Region.binds md e).map (·.on)).getD []
/-- One value turned. -/
def upd (vs : Nat → Value) (i : Nat) (v : Value) : Nat → Value := fun k => if k = i then v else vs k
/-- Every operation waits for earlier ones alone. -/
def forwardB (md : Region.Mode) (ops : Array Oper) : Bool := (List.range ops.size).all fun i => (depsOf md ops i).all fun j => decide (j < i)
theorem filter_lt {α : Type} (p q : α → Bool) : ∀ (l : List α), (∀ x ∈ l, q x = true → p x = true) → (∃ x ∈ l, p x = true ∧ q x = false) → (l.filter q).length < (l.filter p).length
  | [], _, h => by
    obtain ⟨x, hx, _⟩ := h
    cases hx
  | y :: l, h1, h2 => by
    have hle : ∀ (l : List α), (∀ x ∈ l, q x = true → p x = true) → (l.filter q).length ≤ (l.filter p).length := fun l => by
      induction l with
      | nil => intro _; exact Nat.le_refl _
      | cons z l ih =>
        intro h
        have ih' := ih fun x hx => h x (List.mem_cons_of_mem _ hx)
        have hz := h z (List.mem_cons_self ..)
        rw [List.filter_cons, List.filter_cons]
        cases hq : q z
        · cases hp : p z
          · exact ih'
          · rw [if_pos rfl, if_neg (by simp), List.length_cons]
            omega
        · rw [if_pos rfl, if_pos (hz hq), List.length_cons, List.length_cons]
          omega
    have h1' : ∀ x ∈ l, q x = true → p x = true := fun x hx => h1 x (List.mem_cons_of_mem _ hx)
    have hy := h1 y (List.mem_cons_self ..)
    obtain ⟨x, hx, hp, hq⟩ := h2
    rw [List.filter_cons, List.filter_cons]
    rcases List.mem_cons.1 hx with rfl | hx
    · rw [if_pos hp, if_neg (by rw [hq]; simp), List.length_cons]
      have := hle l h1'
      omega
    · have ih := filter_lt p q l h1' ⟨x, hx, hp, hq⟩
      cases hqy : q y
      · rw [if_neg (by simp)]
        split
        · rw [List.length_cons]
          omega
        · exact ih
      · rw [if_pos rfl, if_pos (hy hqy), List.length_cons, List.length_cons]
        omega
section
variable {P : Program} {md : Region.Mode} {ops : Array Oper} {Q : Exit → Act → World → Prop}
/-- The operations that have not come up. -/
def openL (ops : Array Oper) (listed : Array Bool) : List Nat := (List.range ops.size).filter fun i => !listed.getD i true
theorem all_listed (hf : forwardB md ops = true) {listed : Array Bool} (hs : listed.size = ops.size) (hr : Region.ready md ops listed = []) : ∀ i, i < ops.size → listed.getD i false = true := by
  intro i
  induction i using Nat.strongRecOn with
  | ind i ih =>
    intro hi
    have e : ∀ (b : Bool), listed.getD i b = listed[i]'(by omega) := fun b => by simp [Array.getD, show i < listed.size by omega]
    cases hc : listed.getD i false
    · exfalso
      have hm : i ∈ Region.ready md ops listed := by
        refine mem_ready.2 ⟨by rw [e] at hc ⊢; exact hc, ops[i], Array.getElem?_eq_getElem hi, fun d hd hb => ?_⟩
        unfold forwardB at hf
        rw [List.all_eq_true] at hf
        have h1 := hf i (List.mem_range.2 hi)
        rw [List.all_eq_true] at h1
        have h2 := h1 d.on (by
          unfold depsOf
          rw [Array.getElem?_eq_getElem hi]
          exact List.mem_map.2 ⟨d, List.mem_filter.2 ⟨by simpa using hd, hb⟩, rfl⟩)
        have h3 : d.on < i := of_decide_eq_true h2
        exact ih d.on h3 (by omega)
      rw [hr] at hm
      cases hm
    · rfl
theorem wpAny_slots (frame : (Nat → Value) → Act) (Φ : Nat → World → Value → Prop) (Inv : Nat → World → Prop) (Rel : World → World → Prop)
    (stab : ∀ k w w' v, Rel w w' → Φ k w v → Φ k w' v) (hf : forwardB md ops = true)
    (hstep : ∀ (L : Nat → Bool) (m : Nat) (vs : Nat → Value) (w : World) (i : Nat), i < ops.size → m < ops.size → (∀ j, (depsOf md ops i).contains j = true → L j = true) → Inv m w → (∀ k, L k = true → Φ k w (vs k)) →
      wpOp P ops Q i (fun a' w' => ∃ v', a' = frame (upd vs i v') ∧ Rel w w' ∧ Inv (m + 1) w' ∧ Φ i w' v') (frame vs) w)
    (hend : ∀ m vs w, m ≤ ops.size → Inv m w → (∀ k, k < ops.size → Φ k w (vs k)) → Q .normal (frame vs) w) :
    ∀ (fuel m : Nat) (listed : Array Bool) (vs : Nat → Value) (w : World), listed.size = ops.size → m + fuel = ops.size → (openL ops listed).length ≤ fuel → Inv m w → (∀ k, listed.getD k false = true → Φ k w (vs k)) → wpAny P md ops Q fuel listed (frame vs) w := by
  intro fuel
  induction fuel with
  | zero =>
    intro m listed vs w hs hm ho hI hΦ
    have h0 : openL ops listed = [] := List.eq_nil_of_length_eq_zero (by omega)
    have hr : Region.ready md ops listed = [] := by
      cases hc : Region.ready md ops listed with
      | nil => rfl
      | cons i l =>
        have hi : i ∈ Region.ready md ops listed := by rw [hc]; exact List.mem_cons_self ..
        obtain ⟨h1, o, h2, _⟩ := mem_ready.1 hi
        have hlt : i < ops.size := (Array.getElem?_eq_some_iff.1 h2).1
        have : i ∈ openL ops listed := List.mem_filter.2 ⟨List.mem_range.2 hlt, by rw [h1]; rfl⟩
        rw [h0] at this
        cases this
    exact ⟨hr, hend m vs w (by omega) hI fun k hk => hΦ k (all_listed hf hs hr k hk)⟩
  | succ fuel ih =>
    intro m listed vs w hs hm ho hI hΦ
    refine ⟨fun hr => hend m vs w (by omega) hI fun k hk => hΦ k (all_listed hf hs hr k hk), fun i hi => ?_⟩
    obtain ⟨h1, o, h2, h3⟩ := mem_ready.1 hi
    have hlt : i < ops.size := (Array.getElem?_eq_some_iff.1 h2).1
    refine wpOp_mono (fun a' w' h => ?_) (hstep (fun k => listed.getD k false) m vs w i hlt (by omega) (fun j hj => ?_) hI hΦ)
    · obtain ⟨v', rfl, hrel, hinv, hφ⟩ := h
      refine ih (m + 1) _ (upd vs i v') w' (by simpa using hs) (by omega) ?_ hinv fun k hk => ?_
      · have : (openL ops (listed.setIfInBounds i true)).length < (openL ops listed).length := by
          refine filter_lt _ _ _ (fun x _ hx => ?_) ⟨i, List.mem_range.2 hlt, by rw [h1]; rfl, ?_⟩
          · by_cases hxi : i = x
            · subst hxi
              simp [Array.getD, hs, hlt] at hx
            · rwa [getD_set_ne true hxi] at hx
          · simp [Array.getD, hs, hlt]
        omega
      · by_cases hki : k = i
        · subst hki
          unfold upd
          rw [if_pos rfl]
          exact hφ
        · unfold upd
          rw [if_neg hki]
          refine stab _ _ _ _ hrel (hΦ k ?_)
          rw [Array.getD_eq_getD_getElem?, Array.getElem?_setIfInBounds_ne (fun e => hki e.symm), ← Array.getD_eq_getD_getElem?] at hk
          exact hk
    · unfold depsOf at hj
      rw [h2] at hj
      have hj' := List.contains_iff_mem.1 hj
      obtain ⟨e, he, rfl⟩ := List.mem_map.1 hj'
      obtain ⟨he1, he2⟩ := List.mem_filter.1 he
      exact h3 e (by simpa using he1) he2
/-- A region that draws its order: each operation once. -/
theorem wp_region_slots {id : Nat} {a : Act} {w : World} (hm : P.follows .mixedOrders = true) (frame : (Nat → Value) → Act) (vs : Nat → Value) (ha : a = frame vs) (Φ : Nat → World → Value → Prop) (Inv : Nat → World → Prop) (Rel : World → World → Prop)
    (stab : ∀ k w w' v, Rel w w' → Φ k w v → Φ k w' v) (hf : forwardB .any ops = true) (h0 : Inv 0 w.drew)
    (hstep : ∀ (L : Nat → Bool) (m : Nat) (vs : Nat → Value) (w : World) (i : Nat), i < ops.size → m < ops.size → (∀ j, (depsOf .any ops i).contains j = true → L j = true) → Inv m w → (∀ k, L k = true → Φ k w (vs k)) →
      wpOp P ops Q i (fun a' w' => ∃ v', a' = frame (upd vs i v') ∧ Rel w w' ∧ Inv (m + 1) w' ∧ Φ i w' v') (frame vs) w)
    (hend : ∀ m vs w, m ≤ ops.size → Inv m w → (∀ k, k < ops.size → Φ k w (vs k)) → Q .normal (frame vs) w) :
    (Code.region id ops true).wp P Q a w := by
  subst ha
  refine wp_region_any hm (wpAny_slots frame Φ Inv Rel stab hf hstep hend ops.size 0 _ vs w.drew (by simp) (by omega) ?_ h0 fun k hk => ?_)
  · unfold openL
    have := List.length_filter_le (fun i => !(Array.replicate ops.size false).getD i true) (List.range ops.size)
    simpa using this
  · simp [Array.getD] at hk
end
end Go.Proofs.Ytecejfcoognkiaa
