/- A region that draws its order, by what each operation leaves, the invariant told by what has come up and by what it left. -/
import Derived.Test.YtecejfcoognkiaaR2
namespace Go.Proofs.Ytecejfcoognkiaa

theorem no_ft {P : Prop} (h : false = true) : P := by cases h
theorem no_tf {P : Prop} (h : true = false) : P := by cases h

section
variable {P : Program} {md : Region.Mode} {ops : Array Oper} {Q : Exit → Act → World → Prop}
theorem wpAny_slots3 (frame : (Nat → Value) → Act) (Φ : Nat → World → Value → Prop) (Inv : (Nat → Bool) → Nat → (Nat → Value) → World → Prop) (Rel : World → World → Prop)
    (stab : ∀ k w w' v, Rel w w' → Φ k w v → Φ k w' v) (hf : forwardB md ops = true)
    (hstep : ∀ (L : Nat → Bool) (m : Nat) (vs : Nat → Value) (w : World) (i : Nat), i < ops.size → m < ops.size → L i = false → (∀ k j, L k = true → (depsOf md ops k).contains j = true → L j = true) → (∀ j, (depsOf md ops i).contains j = true → L j = true) → Inv L m vs w → (∀ k, L k = true → Φ k w (vs k)) →
      wpOp P ops Q i (fun a' w' => ∃ v', a' = frame (upd vs i v') ∧ Rel w w' ∧ Inv (updL L i) (m + 1) (upd vs i v') w' ∧ Φ i w' v') (frame vs) w)
    (hend : ∀ L m vs w, m ≤ ops.size → (∀ k, k < ops.size → L k = true) → Inv L m vs w → (∀ k, k < ops.size → Φ k w (vs k)) → Q .normal (frame vs) w) :
    ∀ (fuel m : Nat) (listed : Array Bool) (vs : Nat → Value) (w : World), listed.size = ops.size → m + fuel = ops.size → (openL ops listed).length ≤ fuel → (∀ k j, listed.getD k false = true → (depsOf md ops k).contains j = true → listed.getD j false = true) → Inv (fun k => listed.getD k false) m vs w → (∀ k, listed.getD k false = true → Φ k w (vs k)) → wpAny P md ops Q fuel listed (frame vs) w := by
  intro fuel
  induction fuel with
  | zero =>
    intro m listed vs w hs hm ho hcl hI hΦ
    have h0 : openL ops listed = [] := List.eq_nil_of_length_eq_zero (by omega)
    have hr : Region.ready md ops listed = [] := by
      cases hc : Region.ready md ops listed with
      | nil => rfl
      | cons i l =>
        have hi : i ∈ Region.ready md ops listed := by rw [hc]; exact List.mem_cons_self ..
        obtain ⟨h1, o, h2, _⟩ := mem_ready.1 hi
        have hlt : i < ops.size := (Array.getElem?_eq_some_iff.1 h2).1
        have : i ∈ openL ops listed := List.mem_filter.2 ⟨List.mem_range.2 hlt, by rw [h1]; rfl⟩
        rw [h0] at this
        cases this
    exact ⟨hr, hend _ m vs w (by omega) (all_listed hf hs hr) hI fun k hk => hΦ k (all_listed hf hs hr k hk)⟩
  | succ fuel ih =>
    intro m listed vs w hs hm ho hcl hI hΦ
    refine ⟨fun hr => hend _ m vs w (by omega) (all_listed hf hs hr) hI fun k hk => hΦ k (all_listed hf hs hr k hk), fun i hi => ?_⟩
    obtain ⟨h1, o, h2, h3⟩ := mem_ready.1 hi
    have hlt : i < ops.size := (Array.getElem?_eq_some_iff.1 h2).1
    have hdep : ∀ j, (depsOf md ops i).contains j = true → listed.getD j false = true := fun j hj => by
      unfold depsOf at hj
      rw [h2] at hj
      have hj' := List.contains_iff_mem.1 hj
      obtain ⟨e, he, rfl⟩ := List.mem_map.1 hj'
      obtain ⟨he1, he2⟩ := List.mem_filter.1 he
      exact h3 e (by simpa using he1) he2
    have hi0 : listed.getD i false = false := by
      have hil : i < listed.size := by omega
      simp [Array.getD, hil] at h1 ⊢
      exact h1
    refine wpOp_mono (fun a' w' h => ?_) (hstep (fun k => listed.getD k false) m vs w i hlt (by omega) hi0 hcl hdep hI hΦ)
    obtain ⟨v', rfl, hrel, hinv, hφ⟩ := h
    have hup := listed_upd (listed := listed) (i := i) (by omega)
    have hupk : ∀ k, (listed.setIfInBounds i true).getD k false = updL (fun k => listed.getD k false) i k := fun k => congrFun hup k
    refine ih (m + 1) _ (upd vs i v') w' (by simpa using hs) (by omega) ?_ (fun k j hk hj => ?_) (by rw [hup]; exact hinv) fun k hk => ?_
    · have : (openL ops (listed.setIfInBounds i true)).length < (openL ops listed).length := by
        refine filter_lt _ _ _ (fun x _ hx => ?_) ⟨i, List.mem_range.2 hlt, by rw [h1]; rfl, ?_⟩
        · by_cases hxi : i = x
          · subst hxi
            simp [Array.getD, hs, hlt] at hx
          · rwa [getD_set_ne true hxi] at hx
        · simp [Array.getD, hs, hlt]
      omega
    · rw [hupk] at hk ⊢
      unfold updL at hk ⊢
      split
      · rfl
      · split at hk
        · rename_i hki
          subst hki
          exact hdep j hj
        · exact hcl k j hk hj
    · rw [hupk] at hk
      unfold updL at hk
      by_cases hki : k = i
      · subst hki
        unfold upd
        rw [if_pos rfl]
        exact hφ
      · unfold upd
        rw [if_neg hki]
        rw [if_neg hki] at hk
        exact stab _ _ _ _ hrel (hΦ k hk)
/-- A region that draws its order: each operation once. -/
theorem wp_region_slots3 {id : Nat} {a : Act} {w : World} (hm : P.follows .mixedOrders = true) (frame : (Nat → Value) → Act) (vs : Nat → Value) (ha : a = frame vs) (Φ : Nat → World → Value → Prop) (Inv : (Nat → Bool) → Nat → (Nat → Value) → World → Prop) (Rel : World → World → Prop)
    (stab : ∀ k w w' v, Rel w w' → Φ k w v → Φ k w' v) (hf : forwardB .any ops = true) (h0 : Inv (fun _ => false) 0 vs w.drew)
    (hstep : ∀ (L : Nat → Bool) (m : Nat) (vs : Nat → Value) (w : World) (i : Nat), i < ops.size → m < ops.size → L i = false → (∀ k j, L k = true → (depsOf .any ops k).contains j = true → L j = true) → (∀ j, (depsOf .any ops i).contains j = true → L j = true) → Inv L m vs w → (∀ k, L k = true → Φ k w (vs k)) →
      wpOp P ops Q i (fun a' w' => ∃ v', a' = frame (upd vs i v') ∧ Rel w w' ∧ Inv (updL L i) (m + 1) (upd vs i v') w' ∧ Φ i w' v') (frame vs) w)
    (hend : ∀ L m vs w, m ≤ ops.size → (∀ k, k < ops.size → L k = true) → Inv L m vs w → (∀ k, k < ops.size → Φ k w (vs k)) → Q .normal (frame vs) w) :
    (Code.region id ops true).wp P Q a w := by
  subst ha
  have hrep : ∀ k, (Array.replicate ops.size false).getD k false = false := fun k => by simp [Array.getD]
  refine wp_region_any hm (wpAny_slots3 frame Φ Inv Rel stab hf hstep hend ops.size 0 _ vs w.drew (by simp) (by omega) ?_ (fun k j hk => ?_) ?_ fun k hk => ?_)
  · unfold openL
    have := List.length_filter_le (fun i => !(Array.replicate ops.size false).getD i true) (List.range ops.size)
    simpa using this
  · rw [hrep] at hk
    cases hk
  · rw [show (fun k => (Array.replicate ops.size false).getD k false) = fun _ => false from funext hrep]
    exact h0
  · rw [hrep] at hk
    cases hk
end
end Go.Proofs.Ytecejfcoognkiaa
