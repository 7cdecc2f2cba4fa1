/- What DrawGapMove, DrawGapErase and DrawGapType leave. -/
import Derived.Test.YtlndlgbpnlfflaaD5
import Derived.Test.YtlndlgbpnlfflaaPb
import Derived.Test.YtlndlgbpnlfflaaR2
import Derived.Deep.DrawnRows
import Derived.IntWalk
namespace Go.Proofs.Ytlndlgbpnlfflaa
open Go.RowKit
attribute [local go_sem ↓] Go.wp_at_zero Go.wp_at_succ

/-- What a function that draws a gap and a number leaves. -/
def DGapIntV (w : World) (e : Ending) (w' : World) : Prop := ∃ (a b : ByteArray) (n : Int), e = .returned (.tuple #[.agg #[.string a, .string b], .int .i64 n]) ∧ a.size + b.size ≤ 130 ∧ (-9223372036854775808 ≤ n ∧ n ≤ 9223372036854775807) ∧ Below w.heap.size w w'
/-- What a function that draws a gap and a text leaves. -/
def DGapStrV (w : World) (e : Ending) (w' : World) : Prop := ∃ (a b p : ByteArray), e = .returned (.tuple #[.agg #[.string a, .string b], .string p]) ∧ a.size + b.size ≤ 130 ∧ p.size ≤ 130 ∧ Below w.heap.size w w'
/-- What may turn in a region: the reader's block, the result's, new ones; the result, once it is written, stays. -/
def GRel (r g : Nat) (a b : ByteArray) (w w' : World) : Prop :=
  (∀ q o v, q ≠ r → q ≠ g → w.cell? ⟨q, o, none⟩ = some v → w'.cell? ⟨q, o, none⟩ = some v) ∧ (w.cell? ⟨g, 0, none⟩ = some (.string a) → w'.cell? ⟨g, 0, none⟩ = some (.string a)) ∧ (w.cell? ⟨g, 1, none⟩ = some (.string b) → w'.cell? ⟨g, 1, none⟩ = some (.string b))
theorem GRel.refl (r g : Nat) (a b : ByteArray) (w : World) : GRel r g a b w w := ⟨fun _ _ _ _ _ h => h, id, id⟩
theorem GRel.grown {r g : Nat} {a b : ByteArray} {w w' : World} (hg : w.grownBy w' (some r)) (hne : g ≠ r) : GRel r g a b w w' :=
  ⟨fun _ _ _ h1 _ h => gcell hg h h1, fun h => gcell hg h hne, fun h => gcell hg h hne⟩
theorem GRel.store {r g : Nat} {T : TypeId} {a b : ByteArray} {w : World} {x y : Value} (h : B2 w g T x y) : GRel r g a b w ((w.setCell ⟨g, 0, none⟩ (.string a)).setCell ⟨g, 1, none⟩ (.string b)) := by
  obtain ⟨c0, c1⟩ := (h.set_ (.string a) (.string b)).cells
  refine ⟨fun q o v _ h2 hc => ?_, fun _ => c0, fun _ => c1⟩
  rw [World.cell?_of_block (a := ⟨q, o, none⟩) (w := w) (by rw [Below.heap_setCell _ _ _ _ h2, Below.heap_setCell _ _ _ _ h2])]
  exact hc
theorem IntsAt.rel {r g q n : Nat} {a b : ByteArray} {w w' : World} {Q : Int → Prop} (h : IntsAt w q n Q) (hr : GRel r g a b w w') (hq : q ≠ r ∧ q ≠ g) : IntsAt w' q n Q := fun k hk => by
  obtain ⟨x, hc, hx⟩ := h k hk
  exact ⟨x, hr.1 q k _ hq.1 hq.2 hc, hx⟩
/-- What holds between the operations of such a region: S is the number of the store. -/
def GInv (TR TG : TypeId) (w0 : World) (r g t P S : Nat) (a b : ByteArray) (L : Nat → Bool) (m : Nat) (w : World) : Prop :=
  (L S = false → Rd TR w r (P + m)) ∧ Below w0.heap.size w0 w ∧ B2 w t TG (.string a) (.string b) ∧ ∃ x y, B2 w g TG x y
theorem not_listed {md : Region.Mode} {ops : Array Oper} {L : Nat → Bool} {S i : Nat} (hcl : ∀ k j, L k = true → (depsOf md ops k).contains j = true → L j = true) (hi : L i = false) (hd : (depsOf md ops S).contains i = true) : L S = false := by
  cases h : L S
  · rfl
  · have := hcl S i h hd
    rw [hi] at this
    cases this
section
variable {TR TG : TypeId} {w0 w w' : World} {r g t P S m i : Nat} {a b : ByteArray} {L : Nat → Bool}
theorem updL_ne (h : ¬ S = i) (hh : updL L i S = false) : L S = false := by
  unfold updL at hh
  rwa [if_neg h] at hh
theorem GInv.same (h : GInv TR TG w0 r g t P S a b L m w) (hne : ¬ S = i) : GInv TR TG w0 r g t P S a b (updL L i) (m + 1) w := ⟨fun hh => (h.1 (updL_ne hne hh)).more (by omega), h.2⟩
theorem GInv.grown (h : GInv TR TG w0 r g t P S a b L m w) (hg : w.grownBy w' (some r)) (hr : Rd TR w' r (P + m + 1)) (h1 : w0.heap.size ≤ r) (h2 : t ≠ r) (h3 : g ≠ r) : GInv TR TG w0 r g t P S a b (updL L i) (m + 1) w' := by
  obtain ⟨_, hb, ht, x, y, hgb⟩ := h
  exact ⟨fun _ => hr, brd hb hg h1, ht.grown hg (fun e => h2 (by injection e)), x, y, hgb.grown hg (fun e => h3 (by injection e))⟩
theorem GInv.alloc (h : GInv TR TG w0 r g t P S a b L m w) (hne : ¬ S = i) (o : Obj) : GInv TR TG w0 r g t P S a b (updL L i) (m + 1) (w.alloc o) := by
  obtain ⟨hr, hb, ht, x, y, hgb⟩ := h
  exact ⟨fun hh => ((hr (updL_ne hne hh)).alloc o).more (by omega), balloc hb o, ht.alloc o, x, y, hgb.alloc o⟩
theorem GInv.store (h : GInv TR TG w0 r g t P S a b L m w) (h1 : w0.heap.size ≤ g) (h2 : t ≠ g) (he : updL L i S = true) : GInv TR TG w0 r g t P S a b (updL L i) (m + 1) ((w.setCell ⟨g, 0, none⟩ (.string a)).setCell ⟨g, 1, none⟩ (.string b)) := by
  obtain ⟨_, hb, ht, x, y, hgb⟩ := h
  refine ⟨fun hh => ?_, bset (bset hb h1 _) h1 _, (ht.far h2 _).far h2 _, _, _, hgb.set_ _ _⟩
  rw [he] at hh
  cases hh
end
/-- What each operation of DrawGapMove's last region leaves. -/
def gmΦ (r g : Nat) (a b : ByteArray) : Nat → World → Value → Prop
  | 0, _, v => v = .agg #[.string a, .string b]
  | 1, _, v => v = .pointer (some ⟨r, 0, none⟩)
  | 2, _, v => ∃ x : Int, v = .int .i64 x ∧ 0 ≤ x ∧ x < 40
  | 3, _, v => ∃ x : Int, v = .int .i64 x ∧ -20 ≤ x ∧ x < 20
  | 4, w, v => ∃ q, v = .slice (some ⟨q, 0, none⟩) 3 3 ∧ (q ≠ r ∧ q ≠ g) ∧ IntsAt w q 3 (fun x => -9223372036854775808 ≤ x ∧ x ≤ 9223372036854775807)
  | 5, w, v => ∃ q, v = .slice (some ⟨q, 0, none⟩) 7 7 ∧ (q ≠ r ∧ q ≠ g) ∧ IntsAt w q 7 (fun x => 0 ≤ x ∧ x ≤ 2)
  | 6, _, v => v = .pointer (some ⟨r, 0, none⟩)
  | 7, _, v => ∃ i : Nat, v = .int .i64 i ∧ i < 7
  | 8, w, v => ∃ q i, v = .pointer (some ⟨q, i, none⟩) ∧ (q ≠ r ∧ q ≠ g) ∧ IntsAt w q 7 (fun x => 0 ≤ x ∧ x ≤ 2) ∧ i < 7
  | 9, _, v => ∃ i : Nat, v = .int .i64 i ∧ i < 3
  | 10, w, v => ∃ q i, v = .pointer (some ⟨q, i, none⟩) ∧ (q ≠ r ∧ q ≠ g) ∧ IntsAt w q 3 (fun x => -9223372036854775808 ≤ x ∧ x ≤ 9223372036854775807) ∧ i < 3
  | 11, _, v => ∃ x : Int, v = .int .i64 x ∧ (-9223372036854775808 ≤ x ∧ x ≤ 9223372036854775807)
  | 12, w, _ => w.cell? ⟨g, 0, none⟩ = some (.string a) ∧ w.cell? ⟨g, 1, none⟩ = some (.string b)
  | 13, _, v => ∃ x : Int, v = .int .i64 x ∧ (-9223372036854775808 ≤ x ∧ x ≤ 9223372036854775807)
  | _, _, _ => True
theorem gmΦ_stab (r g : Nat) (a b : ByteArray) : ∀ k w w' v, GRel r g a b w w' → gmΦ r g a b k w v → gmΦ r g a b k w' v
  | 0, _, _, _, _, h | 1, _, _, _, _, h | 2, _, _, _, _, h | 3, _, _, _, _, h | 6, _, _, _, _, h | 7, _, _, _, _, h | 9, _, _, _, _, h | 11, _, _, _, _, h | 13, _, _, _, _, h => h
  | 4, _, _, _, hg, ⟨q, e, hq, hi⟩ => ⟨q, e, hq, hi.rel hg hq⟩
  | 5, _, _, _, hg, ⟨q, e, hq, hi⟩ => ⟨q, e, hq, hi.rel hg hq⟩
  | 8, _, _, _, hg, ⟨q, i, e, hq, hi, hl⟩ => ⟨q, i, e, hq, hi.rel hg hq, hl⟩
  | 10, _, _, _, hg, ⟨q, i, e, hq, hi, hl⟩ => ⟨q, i, e, hq, hi.rel hg hq, hl⟩
  | 12, _, _, _, hg, h => ⟨hg.2.1 h.1, hg.2.2 h.2⟩
  | _ + 14, _, _, _, _, _ => trivial
set_option maxRecDepth 100000 in
set_option maxHeartbeats 3200000 in
theorem DrawGapMove_any (A : Option Addr) (n c : Nat) (w : World) (h : Byt w w.heap.size A n) (hnc : n ≤ c) (hc : c ≤ maxLen) :
    Calls Try.prog 10 #[.slice A n c] w (DGapIntV w) := by
  have k0 := B2.new w 24 (.string ⟨#[]⟩) (.string ⟨#[]⟩)
  have hb0 : Below w.heap.size w (w.alloc (.cells #[.string ⟨#[]⟩, .string ⟨#[]⟩] 24)) := balloc (Below.refl _ _) _
  have h' : Byt (w.alloc (.cells #[.string ⟨#[]⟩, .string ⟨#[]⟩] 24)) (w.alloc (.cells #[.string ⟨#[]⟩, .string ⟨#[]⟩] 24)).heap.size A n := (h.below hb0 (Nat.le_refl _)).more (by simp)
  have K0 := Lib.hid k0
  clear k0
  go_enter Try.func10, Try.ntmps10
  go_wp2_with fail
  refine (open_any _ _ _ _ h' hnc hc).mono ?_
  rintro e w1 ⟨r, rfl, hr, hrd, hb1⟩
  simp only [World.size_alloc] at hr
  have k1 := K0.out.next hb1
  go_wp2_with fail
  refine (gap_draw _ _ _ _ hrd (by omega)).mono ?_
  rintro e w2 ⟨a, b, rfl, hs, hrd2, hg2⟩
  have k2 := k1.grown hg2 (by intro e; injection e with e; omega)
  have hb2 : Below w.heap.size w w2 := brd (hb0.trans (hb1.mono (by simp))) hg2 (by omega)
  have hr2 := hrd2.lt
  have T3 := k2.alloc (.cells #[.string a, .string b] 24)
  have U3 := B2.new w2 24 (.string a) (.string b)
  have hrd3 := hrd2.alloc (.cells #[.string a, .string b] 24)
  have hb3 := balloc hb2 (.cells #[.string a, .string b] 24)
  obtain ⟨t, ht⟩ : ∃ t, w2.heap.size = t := ⟨_, rfl⟩
  obtain ⟨g, hg⟩ : ∃ g, w.heap.size = g := ⟨_, rfl⟩
  have htr : t ≠ r := by omega
  have hgr : g ≠ r := by omega
  have htg : t ≠ g := by have := k2.lt; omega
  have hwr : w.heap.size ≤ r := by omega
  have hwg : w.heap.size ≤ g := by omega
  have hrl : r < t := by omega
  clear k1 k2 hb2 hb0 h h' K0 hrd hrd2 hb1 hg2
  go_wp2_with fail
  generalize w2.alloc (.cells #[.string a, .string b] 24) = w3 at T3 U3 hrd3 hb3 ⊢
  rw [ht] at U3
  rw [hg] at T3
  refine wp_region_slots2 (by kernel_rfl) (fun vs => ⟨#[.slice A n c, undef, .pointer (some ⟨g, 0, none⟩), vs 13, .pointer (some ⟨r, 0, none⟩), .pointer (some ⟨t, 0, none⟩), .slice A n c, .pointer (some ⟨r, 0, none⟩), .pointer (some ⟨r, 0, none⟩), .agg #[.string a, .string b], vs 0, vs 1, vs 2, vs 3, vs 4, vs 5, vs 6, vs 7, vs 8, vs 9, vs 10, vs 11], []⟩) (fun k => (#[undef, undef, undef, undef, undef, undef, undef, undef, undef, undef, undef, undef, undef, .int .i64 0] : Array Value).getD k undef) rfl (gmΦ r g a b) (GInv 82 24 w r g t 40 12 a b) (GRel r g a b) (gmΦ_stab r g a b) (by kernel_rfl) ⟨fun _ => hrd3.drew.more (by omega), bdrew hb3, U3.drew, _, _, T3.drew⟩ ?_ ?_
  · intro L m vs w' i hi hm hL hcl hd hI hΦ
    have hi' : i < 14 := hi
    have hm' : m < 14 := hm
    have hgs : g < w'.heap.size := by obtain ⟨_, _, _, x, y, hgb⟩ := hI; exact hgb.lt
    have hrs : r < w'.heap.size := Nat.lt_trans hrl hI.2.2.1.lt
    rcases (by omega : i = 0 ∨ i = 1 ∨ i = 2 ∨ i = 3 ∨ i = 4 ∨ i = 5 ∨ i = 6 ∨ i = 7 ∨ i = 8 ∨ i = 9 ∨ i = 10 ∨ i = 11 ∨ i = 12 ∨ i = 13) with rfl | rfl | rfl | rfl | rfl | rfl | rfl | rfl | rfl | rfl | rfl | rfl | rfl | rfl
    · obtain ⟨t0, t1⟩ := hI.2.2.1.cells
      refine wpOp_step rfl (fun K hK => ?_)
      go_simp
      exact hK _ _ ⟨_, rfl, GRel.refl _ _ _ _ _, hI.same (by decide), rfl⟩
    · refine wpOp_step rfl (fun K hK => ?_)
      go_simp
      exact hK _ _ ⟨_, rfl, GRel.refl _ _ _ _ _, hI.same (by decide), rfl⟩
    · have h1 : vs 1 = .pointer (some ⟨r, 0, none⟩) := hΦ 1 (hd 1 (by kernel_rfl))
      refine wpOp_step rfl (fun K hK => ?_)
      go_simp
      refine (pick_any r _ _ _ (hI.1 (not_listed (S := 12) hcl (not_listed (S := 7) hcl hL (by kernel_rfl)) (by kernel_rfl))) (by omega)).mono ?_
      rintro e w3 ⟨x, rfl, hx0, hx1, hr3, hg3⟩
      have hx2 := hx1 (by decide)
      go_simp
      exact hK _ _ ⟨_, by simp [upd, h1], GRel.grown hg3 hgr, hI.grown hg3 hr3 hwr htr hgr, ⟨x, rfl, hx0, hx2⟩⟩
    · obtain ⟨x, h2, hx0, hx1⟩ : ∃ x : Int, vs 2 = .int .i64 x ∧ 0 ≤ x ∧ x < 40 := hΦ 2 (hd 2 (by kernel_rfl))
      have hw : IntKind.i64.wrap (x - 20) = x - 20 := IntWalk.i64_in _ (by omega)
      refine wpOp_step rfl (fun K hK => ?_)
      go_simp
      exact hK _ _ ⟨.int .i64 (x - 20), by simp [upd, h2], GRel.refl _ _ _ _ _, hI.same (by decide), ⟨_, rfl, by omega, by omega⟩⟩
    · obtain ⟨x, h3, hx0, hx1⟩ : ∃ x : Int, vs 3 = .int .i64 x ∧ -20 ≤ x ∧ x < 20 := hΦ 3 (hd 3 (by kernel_rfl))
      refine wpOp_step rfl (fun K hK => ?_)
      go_simp
      exact hK _ _ ⟨_, by simp [upd, h3], GRel.grown (World.grownBy_alloc w' _ _) hgr, hI.alloc (by decide) _, ⟨w'.heap.size, rfl, by omega, IntsAt.new w' 3 [x, -9223372036854775808, 9223372036854775807] (by simp; omega)⟩⟩
    · refine wpOp_step rfl (fun K hK => ?_)
      go_simp
      exact hK _ _ ⟨_, rfl, GRel.grown (World.grownBy_alloc w' _ _) hgr, hI.alloc (by decide) _, ⟨w'.heap.size, rfl, by omega, IntsAt.new w' 3 [0, 0, 0, 0, 0, 1, 2] (by simp)⟩⟩
    · refine wpOp_step rfl (fun K hK => ?_)
      go_simp
      exact hK _ _ ⟨_, rfl, GRel.refl _ _ _ _ _, hI.same (by decide), rfl⟩
    · have h6 : vs 6 = .pointer (some ⟨r, 0, none⟩) := hΦ 6 (hd 6 (by kernel_rfl))
      refine wpOp_step rfl (fun K hK => ?_)
      go_simp
      refine (pick_any r _ _ _ (hI.1 (not_listed (S := 12) hcl hL (by kernel_rfl))) (by omega)).mono ?_
      rintro e w3 ⟨x, rfl, hx0, hx1, hr3, hg3⟩
      have hx2 := hx1 (by decide)
      obtain ⟨i, rfl⟩ := Int.eq_ofNat_of_zero_le hx0
      go_simp
      exact hK _ _ ⟨_, by simp [upd, h6], GRel.grown hg3 hgr, hI.grown hg3 hr3 hwr htr hgr, ⟨i, rfl, by omega⟩⟩
    · obtain ⟨q, hs, hq, hints⟩ : ∃ q, vs 5 = .slice (some ⟨q, 0, none⟩) 7 7 ∧ (q ≠ r ∧ q ≠ g) ∧ IntsAt w' q 7 (fun x => 0 ≤ x ∧ x ≤ 2) := hΦ 5 (hd 5 (by kernel_rfl))
      obtain ⟨i, hx, hi7⟩ : ∃ i : Nat, vs 7 = .int .i64 i ∧ i < 7 := hΦ 7 (hd 7 (by kernel_rfl))
      have j1 : (i : Int) < 7 := by omega
      have j0 : (0 : Int) ≤ (i : Int) := by omega
      refine wpOp_step rfl (fun K hK => ?_)
      go_simp
      exact hK _ _ ⟨_, by simp [upd, hs, hx], GRel.refl _ _ _ _ _, hI.same (by decide), ⟨q, i, rfl, hq, hints, hi7⟩⟩
    · obtain ⟨q, i, hp, hq, hints, hi7⟩ : ∃ q i, vs 8 = .pointer (some ⟨q, i, none⟩) ∧ (q ≠ r ∧ q ≠ g) ∧ IntsAt w' q 7 (fun x => 0 ≤ x ∧ x ≤ 2) ∧ i < 7 := hΦ 8 (hd 8 (by kernel_rfl))
      obtain ⟨x, hcx, hx⟩ := hints i hi7
      obtain ⟨hx0, hx1⟩ := hx
      obtain ⟨k, rfl⟩ := Int.eq_ofNat_of_zero_le hx0
      refine wpOp_step rfl (fun K hK => ?_)
      go_simp
      exact hK _ _ ⟨_, by simp [upd, hp], GRel.refl _ _ _ _ _, hI.same (by decide), ⟨k, rfl, by omega⟩⟩
    · obtain ⟨q, hs, hq, hints⟩ : ∃ q, vs 4 = .slice (some ⟨q, 0, none⟩) 3 3 ∧ (q ≠ r ∧ q ≠ g) ∧ IntsAt w' q 3 (fun x => -9223372036854775808 ≤ x ∧ x ≤ 9223372036854775807) := hΦ 4 (hd 4 (by kernel_rfl))
      obtain ⟨i, hx, hi7⟩ : ∃ i : Nat, vs 9 = .int .i64 i ∧ i < 3 := hΦ 9 (hd 9 (by kernel_rfl))
      have j1 : (i : Int) < 3 := by omega
      have j0 : (0 : Int) ≤ (i : Int) := by omega
      refine wpOp_step rfl (fun K hK => ?_)
      go_simp
      exact hK _ _ ⟨_, by simp [upd, hs, hx], GRel.refl _ _ _ _ _, hI.same (by decide), ⟨q, i, rfl, hq, hints, hi7⟩⟩
    · obtain ⟨q, i, hp, hq, hints, hi7⟩ : ∃ q i, vs 10 = .pointer (some ⟨q, i, none⟩) ∧ (q ≠ r ∧ q ≠ g) ∧ IntsAt w' q 3 (fun x => -9223372036854775808 ≤ x ∧ x ≤ 9223372036854775807) ∧ i < 3 := hΦ 10 (hd 10 (by kernel_rfl))
      obtain ⟨x, hcx, hx⟩ := hints i hi7
      refine wpOp_step rfl (fun K hK => ?_)
      go_simp
      exact hK _ _ ⟨_, by simp [upd, hp], GRel.refl _ _ _ _ _, hI.same (by decide), ⟨x, rfl, hx⟩⟩
    · have h0 : vs 0 = .agg #[.string a, .string b] := hΦ 0 (hd 0 (by kernel_rfl))
      obtain ⟨x, y, hgb⟩ := hI.2.2.2
      obtain ⟨g0, g1⟩ := hgb.cells
      obtain ⟨gf0, gf1⟩ := hgb.free
      refine wpOp_step rfl (fun K hK => ?_)
      go_simp
      exact hK _ _ ⟨undef, by simp [upd, h0], GRel.store hgb, hI.store hwg htg (by simp [updL]), (hgb.set_ _ _).cells⟩
    · obtain ⟨x, h11, hx⟩ : ∃ x : Int, vs 11 = .int .i64 x ∧ (-9223372036854775808 ≤ x ∧ x ≤ 9223372036854775807) := hΦ 11 (hd 11 (by kernel_rfl))
      refine wpOp_step rfl (fun K hK => ?_)
      go_simp
      exact hK _ _ ⟨_, by simp [upd, h11], GRel.refl _ _ _ _ _, hI.same (by decide), ⟨x, rfl, hx⟩⟩
  · intro L m vs w' hm hI hΦ
    obtain ⟨x, hx, hxx⟩ : ∃ x : Int, vs 13 = .int .i64 x ∧ (-9223372036854775808 ≤ x ∧ x ≤ 9223372036854775807) := hΦ 13 (by decide)
    obtain ⟨f0, f1⟩ : w'.cell? ⟨g, 0, none⟩ = some (.string a) ∧ w'.cell? ⟨g, 1, none⟩ = some (.string b) := hΦ 12 (by decide)
    rw [hx]
    go_wp2
    refine bodyPost_ret (v := .tuple #[.agg #[.string a, .string b], .int .i64 x]) (by simp [results, Try.results10, go_sem, f0, f1]) rfl ⟨a, b, x, rfl, hs, hxx, hI.2.1⟩
/-- What each operation of DrawGapErase's last region leaves. -/
def geΦ (r g t : Nat) (a b : ByteArray) : Nat → World → Value → Prop
  | 0, _, v => v = .agg #[.string a, .string b]
  | 1, _, v => v = .pointer (some ⟨r, 0, none⟩)
  | 2, _, v => ∃ x : Int, v = .int .i64 x ∧ (-9223372036854775808 ≤ x ∧ x ≤ 9223372036854775807)
  | 3, _, v => v = .pointer (some ⟨r, 0, none⟩)
  | 4, _, v => v = .pointer (some ⟨t, 0, none⟩)
  | 5, _, v => v = .string a
  | 6, _, v => v = .int .i64 (a.size : Int)
  | 7, _, v => v = .int .i64 ((a.size : Int) + 2)
  | 8, _, v => v = .int .i64 ((a.size : Int) + 2)
  | 9, _, v => ∃ x : Int, v = .int .i64 x ∧ (-9223372036854775808 ≤ x ∧ x ≤ 9223372036854775807)
  | 10, w, v => ∃ q, v = .slice (some ⟨q, 0, none⟩) 3 3 ∧ (q ≠ r ∧ q ≠ g) ∧ IntsAt w q 3 (fun x => -9223372036854775808 ≤ x ∧ x ≤ 9223372036854775807)
  | 11, w, v => ∃ q, v = .slice (some ⟨q, 0, none⟩) 6 6 ∧ (q ≠ r ∧ q ≠ g) ∧ IntsAt w q 6 (fun x => 0 ≤ x ∧ x ≤ 2)
  | 12, _, v => v = .pointer (some ⟨r, 0, none⟩)
  | 13, _, v => ∃ i : Nat, v = .int .i64 i ∧ i < 6
  | 14, w, v => ∃ q i, v = .pointer (some ⟨q, i, none⟩) ∧ (q ≠ r ∧ q ≠ g) ∧ IntsAt w q 6 (fun x => 0 ≤ x ∧ x ≤ 2) ∧ i < 6
  | 15, _, v => ∃ i : Nat, v = .int .i64 i ∧ i < 3
  | 16, w, v => ∃ q i, v = .pointer (some ⟨q, i, none⟩) ∧ (q ≠ r ∧ q ≠ g) ∧ IntsAt w q 3 (fun x => -9223372036854775808 ≤ x ∧ x ≤ 9223372036854775807) ∧ i < 3
  | 17, _, v => ∃ x : Int, v = .int .i64 x ∧ (-9223372036854775808 ≤ x ∧ x ≤ 9223372036854775807)
  | 18, w, _ => w.cell? ⟨g, 0, none⟩ = some (.string a) ∧ w.cell? ⟨g, 1, none⟩ = some (.string b)
  | 19, _, v => ∃ x : Int, v = .int .i64 x ∧ (-9223372036854775808 ≤ x ∧ x ≤ 9223372036854775807)
  | _, _, _ => True
theorem geΦ_stab (r g t : Nat) (a b : ByteArray) : ∀ k w w' v, GRel r g a b w w' → geΦ r g t a b k w v → geΦ r g t a b k w' v
  | 0, _, _, _, _, h | 1, _, _, _, _, h | 2, _, _, _, _, h | 3, _, _, _, _, h | 4, _, _, _, _, h | 5, _, _, _, _, h | 6, _, _, _, _, h | 7, _, _, _, _, h | 8, _, _, _, _, h | 9, _, _, _, _, h | 12, _, _, _, _, h | 13, _, _, _, _, h | 15, _, _, _, _, h | 17, _, _, _, _, h | 19, _, _, _, _, h => h
  | 10, _, _, _, hg, ⟨q, e, hq, hi⟩ => ⟨q, e, hq, hi.rel hg hq⟩
  | 11, _, _, _, hg, ⟨q, e, hq, hi⟩ => ⟨q, e, hq, hi.rel hg hq⟩
  | 14, _, _, _, hg, ⟨q, i, e, hq, hi, hl⟩ => ⟨q, i, e, hq, hi.rel hg hq, hl⟩
  | 16, _, _, _, hg, ⟨q, i, e, hq, hi, hl⟩ => ⟨q, i, e, hq, hi.rel hg hq, hl⟩
  | 18, _, _, _, hg, h => ⟨hg.2.1 h.1, hg.2.2 h.2⟩
  | _ + 20, _, _, _, _, _ => trivial
set_option maxRecDepth 100000 in
set_option maxHeartbeats 3200000 in
theorem DrawGapErase_any (A : Option Addr) (n c : Nat) (w : World) (h : Byt w w.heap.size A n) (hnc : n ≤ c) (hc : c ≤ maxLen) :
    Calls Try.prog 17 #[.slice A n c] w (DGapIntV w) := by
  have k0 := B2.new w 24 (.string ⟨#[]⟩) (.string ⟨#[]⟩)
  have hb0 : Below w.heap.size w (w.alloc (.cells #[.string ⟨#[]⟩, .string ⟨#[]⟩] 24)) := balloc (Below.refl _ _) _
  have h' : Byt (w.alloc (.cells #[.string ⟨#[]⟩, .string ⟨#[]⟩] 24)) (w.alloc (.cells #[.string ⟨#[]⟩, .string ⟨#[]⟩] 24)).heap.size A n := (h.below hb0 (Nat.le_refl _)).more (by simp)
  have K0 := Lib.hid k0
  clear k0
  go_enter Try.func17, Try.ntmps17
  go_wp2_with fail
  refine (open_any _ _ _ _ h' hnc hc).mono ?_
  rintro e w1 ⟨r, rfl, hr, hrd, hb1⟩
  simp only [World.size_alloc] at hr
  have k1 := K0.out.next hb1
  go_wp2_with fail
  refine (gap_draw _ _ _ _ hrd (by omega)).mono ?_
  rintro e w2 ⟨a, b, rfl, hs, hrd2, hg2⟩
  have k2 := k1.grown hg2 (by intro e; injection e with e; omega)
  have hb2 : Below w.heap.size w w2 := brd (hb0.trans (hb1.mono (by simp))) hg2 (by omega)
  have hr2 := hrd2.lt
  have T3 := k2.alloc (.cells #[.string a, .string b] 24)
  have U3 := B2.new w2 24 (.string a) (.string b)
  have hrd3 := hrd2.alloc (.cells #[.string a, .string b] 24)
  have hb3 := balloc hb2 (.cells #[.string a, .string b] 24)
  obtain ⟨t, ht⟩ : ∃ t, w2.heap.size = t := ⟨_, rfl⟩
  obtain ⟨g, hg⟩ : ∃ g, w.heap.size = g := ⟨_, rfl⟩
  have htr : t ≠ r := by omega
  have hgr : g ≠ r := by omega
  have htg : t ≠ g := by have := k2.lt; omega
  have hwr : w.heap.size ≤ r := by omega
  have hwg : w.heap.size ≤ g := by omega
  have hrl : r < t := by omega
  clear k1 k2 hb2 hb0 h h' K0 hrd hrd2 hb1 hg2
  go_wp2_with fail
  generalize w2.alloc (.cells #[.string a, .string b] 24) = w3 at T3 U3 hrd3 hb3 ⊢
  rw [ht] at U3
  rw [hg] at T3
  refine wp_region_slots2 (by kernel_rfl) (fun vs => ⟨#[.slice A n c, undef, .pointer (some ⟨g, 0, none⟩), vs 19, .pointer (some ⟨r, 0, none⟩), .pointer (some ⟨t, 0, none⟩), .slice A n c, .pointer (some ⟨r, 0, none⟩), .pointer (some ⟨r, 0, none⟩), .agg #[.string a, .string b], vs 0, vs 1, vs 2, vs 3, vs 4, vs 5, vs 6, vs 7, vs 8, vs 9, vs 10, vs 11, vs 12, vs 13, vs 14, vs 15, vs 16, vs 17], []⟩) (fun k => (#[undef, undef, undef, undef, undef, undef, undef, undef, undef, undef, undef, undef, undef, undef, undef, undef, undef, undef, undef, .int .i64 0] : Array Value).getD k undef) rfl (geΦ r g t a b) (GInv 82 24 w r g t 40 18 a b) (GRel r g a b) (geΦ_stab r g t a b) (by kernel_rfl) ⟨fun _ => hrd3.drew.more (by omega), bdrew hb3, U3.drew, _, _, T3.drew⟩ ?_ ?_
  · intro L m vs w' i hi hm hL hcl hd hI hΦ
    have hi' : i < 20 := hi
    have hm' : m < 20 := hm
    have hgs : g < w'.heap.size := by obtain ⟨_, _, _, x, y, hgb⟩ := hI; exact hgb.lt
    have hrs : r < w'.heap.size := Nat.lt_trans hrl hI.2.2.1.lt
    rcases (by omega : i = 0 ∨ i = 1 ∨ i = 2 ∨ i = 3 ∨ i = 4 ∨ i = 5 ∨ i = 6 ∨ i = 7 ∨ i = 8 ∨ i = 9 ∨ i = 10 ∨ i = 11 ∨ i = 12 ∨ i = 13 ∨ i = 14 ∨ i = 15 ∨ i = 16 ∨ i = 17 ∨ i = 18 ∨ i = 19) with rfl | rfl | rfl | rfl | rfl | rfl | rfl | rfl | rfl | rfl | rfl | rfl | rfl | rfl | rfl | rfl | rfl | rfl | rfl | rfl
    · obtain ⟨t0, t1⟩ := hI.2.2.1.cells
      refine wpOp_step rfl (fun K hK => ?_)
      go_simp
      exact hK _ _ ⟨_, rfl, GRel.refl _ _ _ _ _, hI.same (by decide), rfl⟩
    · refine wpOp_step rfl (fun K hK => ?_)
      go_simp
      exact hK _ _ ⟨_, rfl, GRel.refl _ _ _ _ _, hI.same (by decide), rfl⟩
    · have h1 : vs 1 = .pointer (some ⟨r, 0, none⟩) := hΦ 1 (hd 1 (by kernel_rfl))
      refine wpOp_step rfl (fun K hK => ?_)
      go_simp
      refine (pick_any r _ _ _ (hI.1 (not_listed (S := 18) hcl (not_listed (S := 13) hcl (not_listed (S := 9) hcl hL (by kernel_rfl)) (by kernel_rfl)) (by kernel_rfl))) (by omega)).mono ?_
      rintro e w3 ⟨x, rfl, hx0, hx1, hr3, hg3⟩
      have hx2 := hx1 (by decide)
      go_simp
      exact hK _ _ ⟨_, by simp [upd, h1], GRel.grown hg3 hgr, hI.grown hg3 hr3 hwr htr hgr, ⟨x, rfl, by omega, by omega⟩⟩
    · refine wpOp_step rfl (fun K hK => ?_)
      go_simp
      exact hK _ _ ⟨_, rfl, GRel.refl _ _ _ _ _, hI.same (by decide), rfl⟩
    · refine wpOp_step rfl (fun K hK => ?_)
      go_simp
      exact hK _ _ ⟨_, rfl, GRel.refl _ _ _ _ _, hI.same (by decide), rfl⟩
    · obtain ⟨t0, t1⟩ := hI.2.2.1.cells
      have h4 : vs 4 = .pointer (some ⟨t, 0, none⟩) := hΦ 4 (hd 4 (by kernel_rfl))
      refine wpOp_step rfl (fun K hK => ?_)
      go_simp
      exact hK _ _ ⟨_, by simp [upd, h4], GRel.refl _ _ _ _ _, hI.same (by decide), rfl⟩
    · have hsrc := hΦ 5 (hd 5 (by kernel_rfl))
      change vs 5 = _ at hsrc
      refine wpOp_step rfl (fun K hK => ?_)
      go_simp
      exact hK _ _ ⟨_, by simp [upd, hsrc], GRel.refl _ _ _ _ _, hI.same (by decide), rfl⟩
    · have hsrc := hΦ 6 (hd 6 (by kernel_rfl))
      change vs 6 = _ at hsrc
      have hw : IntKind.i64.wrap ((a.size : Int) + 2) = (a.size : Int) + 2 := IntWalk.i64_in _ (by omega)
      refine wpOp_step rfl (fun K hK => ?_)
      go_simp
      exact hK _ _ ⟨_, by simp [upd, hsrc], GRel.refl _ _ _ _ _, hI.same (by decide), rfl⟩
    · have hsrc := hΦ 7 (hd 7 (by kernel_rfl))
      change vs 7 = _ at hsrc
      have hmin0 : ¬ (256 : Int) ≤ (a.size : Int) + 2 := by omega
      have hmin : ¬ (256 : Int) < (a.size : Int) + 2 := by omega
      have hmin2 : (a.size : Int) + 2 ≤ 256 := by omega
      have hmin3 : min (256 : Int) ((a.size : Int) + 2) = (a.size : Int) + 2 := by omega
      refine wpOp_step rfl (fun K hK => ?_)
      go_simp
      exact hK _ _ ⟨.int .i64 ((a.size : Int) + 2), by simp [upd, hsrc]; omega, GRel.refl _ _ _ _ _, hI.same (by decide), rfl⟩
    · have h3 : vs 3 = .pointer (some ⟨r, 0, none⟩) := hΦ 3 (hd 3 (by kernel_rfl))
      have h8 : vs 8 = .int .i64 ((a.size : Int) + 2) := hΦ 8 (hd 8 (by kernel_rfl))
      refine wpOp_step rfl (fun K hK => ?_)
      go_simp
      refine (pick_any r _ _ _ (hI.1 (not_listed (S := 18) hcl (not_listed (S := 13) hcl hL (by kernel_rfl)) (by kernel_rfl))) (by omega)).mono ?_
      rintro e w3 ⟨x, rfl, hx0, hx1, hr3, hg3⟩
      have hx2 := hx1 (by omega)
      go_simp
      exact hK _ _ ⟨_, by simp [upd, h3, h8], GRel.grown hg3 hgr, hI.grown hg3 hr3 hwr htr hgr, ⟨x, rfl, by omega, by omega⟩⟩
    · obtain ⟨x, h2, hx0, hx1⟩ : ∃ x : Int, vs 2 = .int .i64 x ∧ (-9223372036854775808 ≤ x ∧ x ≤ 9223372036854775807) := hΦ 2 (hd 2 (by kernel_rfl))
      obtain ⟨y, h9, hy0, hy1⟩ : ∃ x : Int, vs 9 = .int .i64 x ∧ (-9223372036854775808 ≤ x ∧ x ≤ 9223372036854775807) := hΦ 9 (hd 9 (by kernel_rfl))
      refine wpOp_step rfl (fun K hK => ?_)
      go_simp
      exact hK _ _ ⟨_, by simp [upd, h2, h9], GRel.grown (World.grownBy_alloc w' _ _) hgr, hI.alloc (by decide) _, ⟨w'.heap.size, rfl, by omega, IntsAt.new w' 3 [x, y, -1] (by simp; omega)⟩⟩
    · refine wpOp_step rfl (fun K hK => ?_)
      go_simp
      exact hK _ _ ⟨_, rfl, GRel.grown (World.grownBy_alloc w' _ _) hgr, hI.alloc (by decide) _, ⟨w'.heap.size, rfl, by omega, IntsAt.new w' 3 [0, 0, 1, 1, 1, 2] (by simp)⟩⟩
    · refine wpOp_step rfl (fun K hK => ?_)
      go_simp
      exact hK _ _ ⟨_, rfl, GRel.refl _ _ _ _ _, hI.same (by decide), rfl⟩
    · have h12 : vs 12 = .pointer (some ⟨r, 0, none⟩) := hΦ 12 (hd 12 (by kernel_rfl))
      refine wpOp_step rfl (fun K hK => ?_)
      go_simp
      refine (pick_any r _ _ _ (hI.1 (not_listed (S := 18) hcl hL (by kernel_rfl))) (by omega)).mono ?_
      rintro e w3 ⟨x, rfl, hx0, hx1, hr3, hg3⟩
      have hx2 := hx1 (by decide)
      obtain ⟨i, rfl⟩ := Int.eq_ofNat_of_zero_le hx0
      go_simp
      exact hK _ _ ⟨_, by simp [upd, h12], GRel.grown hg3 hgr, hI.grown hg3 hr3 hwr htr hgr, ⟨i, rfl, by omega⟩⟩
    · obtain ⟨q, hs, hq, hints⟩ : ∃ q, vs 11 = .slice (some ⟨q, 0, none⟩) 6 6 ∧ (q ≠ r ∧ q ≠ g) ∧ IntsAt w' q 6 (fun x => 0 ≤ x ∧ x ≤ 2) := hΦ 11 (hd 11 (by kernel_rfl))
      obtain ⟨i, hx, hi7⟩ : ∃ i : Nat, vs 13 = .int .i64 i ∧ i < 6 := hΦ 13 (hd 13 (by kernel_rfl))
      have j1 : (i : Int) < 6 := by omega
      have j0 : (0 : Int) ≤ (i : Int) := by omega
      refine wpOp_step rfl (fun K hK => ?_)
      go_simp
      exact hK _ _ ⟨_, by simp [upd, hs, hx], GRel.refl _ _ _ _ _, hI.same (by decide), ⟨q, i, rfl, hq, hints, hi7⟩⟩
    · obtain ⟨q, i, hp, hq, hints, hi7⟩ : ∃ q i, vs 14 = .pointer (some ⟨q, i, none⟩) ∧ (q ≠ r ∧ q ≠ g) ∧ IntsAt w' q 6 (fun x => 0 ≤ x ∧ x ≤ 2) ∧ i < 6 := hΦ 14 (hd 14 (by kernel_rfl))
      obtain ⟨x, hcx, hx⟩ := hints i hi7
      obtain ⟨hx0, hx1⟩ := hx
      obtain ⟨k, rfl⟩ := Int.eq_ofNat_of_zero_le hx0
      refine wpOp_step rfl (fun K hK => ?_)
      go_simp
      exact hK _ _ ⟨_, by simp [upd, hp], GRel.refl _ _ _ _ _, hI.same (by decide), ⟨k, rfl, by omega⟩⟩
    · obtain ⟨q, hs, hq, hints⟩ : ∃ q, vs 10 = .slice (some ⟨q, 0, none⟩) 3 3 ∧ (q ≠ r ∧ q ≠ g) ∧ IntsAt w' q 3 (fun x => -9223372036854775808 ≤ x ∧ x ≤ 9223372036854775807) := hΦ 10 (hd 10 (by kernel_rfl))
      obtain ⟨i, hx, hi7⟩ : ∃ i : Nat, vs 15 = .int .i64 i ∧ i < 3 := hΦ 15 (hd 15 (by kernel_rfl))
      have j1 : (i : Int) < 3 := by omega
      have j0 : (0 : Int) ≤ (i : Int) := by omega
      refine wpOp_step rfl (fun K hK => ?_)
      go_simp
      exact hK _ _ ⟨_, by simp [upd, hs, hx], GRel.refl _ _ _ _ _, hI.same (by decide), ⟨q, i, rfl, hq, hints, hi7⟩⟩
    · obtain ⟨q, i, hp, hq, hints, hi7⟩ : ∃ q i, vs 16 = .pointer (some ⟨q, i, none⟩) ∧ (q ≠ r ∧ q ≠ g) ∧ IntsAt w' q 3 (fun x => -9223372036854775808 ≤ x ∧ x ≤ 9223372036854775807) ∧ i < 3 := hΦ 16 (hd 16 (by kernel_rfl))
      obtain ⟨x, hcx, hx⟩ := hints i hi7
      refine wpOp_step rfl (fun K hK => ?_)
      go_simp
      exact hK _ _ ⟨_, by simp [upd, hp], GRel.refl _ _ _ _ _, hI.same (by decide), ⟨x, rfl, hx⟩⟩
    · have h0 : vs 0 = .agg #[.string a, .string b] := hΦ 0 (hd 0 (by kernel_rfl))
      obtain ⟨x, y, hgb⟩ := hI.2.2.2
      obtain ⟨g0, g1⟩ := hgb.cells
      obtain ⟨gf0, gf1⟩ := hgb.free
      refine wpOp_step rfl (fun K hK => ?_)
      go_simp
      exact hK _ _ ⟨undef, by simp [upd, h0], GRel.store hgb, hI.store hwg htg (by simp [updL]), (hgb.set_ _ _).cells⟩
    · obtain ⟨x, h17, hx⟩ : ∃ x : Int, vs 17 = .int .i64 x ∧ (-9223372036854775808 ≤ x ∧ x ≤ 9223372036854775807) := hΦ 17 (hd 17 (by kernel_rfl))
      refine wpOp_step rfl (fun K hK => ?_)
      go_simp
      exact hK _ _ ⟨_, by simp [upd, h17], GRel.refl _ _ _ _ _, hI.same (by decide), ⟨x, rfl, hx⟩⟩
  · intro L m vs w' hm hI hΦ
    obtain ⟨x, hx, hxx⟩ : ∃ x : Int, vs 19 = .int .i64 x ∧ (-9223372036854775808 ≤ x ∧ x ≤ 9223372036854775807) := hΦ 19 (by decide)
    obtain ⟨f0, f1⟩ : w'.cell? ⟨g, 0, none⟩ = some (.string a) ∧ w'.cell? ⟨g, 1, none⟩ = some (.string b) := hΦ 18 (by decide)
    rw [hx]
    go_wp2
    refine bodyPost_ret (v := .tuple #[.agg #[.string a, .string b], .int .i64 x]) (by simp [results, Try.results17, go_sem, f0, f1]) rfl ⟨a, b, x, rfl, hs, hxx, hI.2.1⟩
/-- What each operation of DrawGapType's last region leaves. -/
def gtΦ (r g : Nat) (a b p : ByteArray) : Nat → World → Value → Prop
  | 0, _, v => v = .agg #[.string a, .string b]
  | 1, _, v => v = .string p
  | 2, _, v => v = .string p
  | 3, _, v => v = .int .i64 (p.size : Int)
  | 4, w, v => ∃ q, v = .slice (some ⟨q, 0, none⟩) 3 3 ∧ (q ≠ r ∧ q ≠ g) ∧ IntsAt w q 3 (fun x => 0 ≤ x ∧ x ≤ 200)
  | 5, _, v => v = .pointer (some ⟨r, 0, none⟩)
  | 6, _, v => ∃ i : Nat, v = .int .i64 i ∧ i < 3
  | 7, w, v => ∃ q i, v = .pointer (some ⟨q, i, none⟩) ∧ (q ≠ r ∧ q ≠ g) ∧ IntsAt w q 3 (fun x => 0 ≤ x ∧ x ≤ 200) ∧ i < 3
  | 8, _, v => ∃ i : Nat, v = .int .i64 i ∧ i < 201
  | 9, _, v => ∃ i : Nat, v = .int .i64 i ∧ i ≤ p.size
  | 10, _, v => ∃ x : ByteArray, v = .string x ∧ x.size ≤ 130
  | 11, w, _ => w.cell? ⟨g, 0, none⟩ = some (.string a) ∧ w.cell? ⟨g, 1, none⟩ = some (.string b)
  | 12, _, v => ∃ x : ByteArray, v = .string x ∧ x.size ≤ 130
  | _, _, _ => True
theorem gtΦ_stab (r g : Nat) (a b p : ByteArray) : ∀ k w w' v, GRel r g a b w w' → gtΦ r g a b p k w v → gtΦ r g a b p k w' v
  | 0, _, _, _, _, h | 1, _, _, _, _, h | 2, _, _, _, _, h | 3, _, _, _, _, h | 5, _, _, _, _, h | 6, _, _, _, _, h | 8, _, _, _, _, h | 9, _, _, _, _, h | 10, _, _, _, _, h | 12, _, _, _, _, h => h
  | 4, _, _, _, hg, ⟨q, e, hq, hi⟩ => ⟨q, e, hq, hi.rel hg hq⟩
  | 7, _, _, _, hg, ⟨q, i, e, hq, hi, hl⟩ => ⟨q, i, e, hq, hi.rel hg hq, hl⟩
  | 11, _, _, _, hg, h => ⟨hg.2.1 h.1, hg.2.2 h.2⟩
  | _ + 13, _, _, _, _, _ => trivial
set_option maxRecDepth 100000 in
set_option maxHeartbeats 3200000 in
theorem DrawGapType_any (A : Option Addr) (n c : Nat) (w : World) (h : Byt w w.heap.size A n) (hnc : n ≤ c) (hc : c ≤ maxLen) :
    Calls Try.prog 21 #[.slice A n c] w (DGapStrV w) := by
  have k0 := B2.new w 24 (.string ⟨#[]⟩) (.string ⟨#[]⟩)
  have hb0 : Below w.heap.size w (w.alloc (.cells #[.string ⟨#[]⟩, .string ⟨#[]⟩] 24)) := balloc (Below.refl _ _) _
  have h' : Byt (w.alloc (.cells #[.string ⟨#[]⟩, .string ⟨#[]⟩] 24)) (w.alloc (.cells #[.string ⟨#[]⟩, .string ⟨#[]⟩] 24)).heap.size A n := (h.below hb0 (Nat.le_refl _)).more (by simp)
  have K0 := Lib.hid k0
  clear k0
  go_enter Try.func21, Try.ntmps21
  go_wp2_with fail
  refine (open_any _ _ _ _ h' hnc hc).mono ?_
  rintro e w1 ⟨r, rfl, hr, hrd, hb1⟩
  simp only [World.size_alloc] at hr
  have k1 := K0.out.next hb1
  go_wp2_with fail
  refine (gap_draw _ _ _ _ hrd (by omega)).mono ?_
  rintro e w2 ⟨a, b, rfl, hs, hrd2, hg2⟩
  have k2 := k1.grown hg2 (by intro e; injection e with e; omega)
  have hb2 : Below w.heap.size w w2 := brd (hb0.trans (hb1.mono (by simp))) hg2 (by omega)
  have hr2 := hrd2.lt
  have T3 := k2.alloc (.cells #[.string a, .string b] 24)
  have U3 := B2.new w2 24 (.string a) (.string b)
  have hrd3 := hrd2.alloc (.cells #[.string a, .string b] 24)
  have hb3 := balloc hb2 (.cells #[.string a, .string b] 24)
  obtain ⟨t, ht⟩ : ∃ t, w2.heap.size = t := ⟨_, rfl⟩
  obtain ⟨g, hg⟩ : ∃ g, w.heap.size = g := ⟨_, rfl⟩
  have htr : t ≠ r := by omega
  have hgr : g ≠ r := by omega
  have htg : t ≠ g := by have := k2.lt; omega
  have hwr : w.heap.size ≤ r := by omega
  have hwg : w.heap.size ≤ g := by omega
  have hrl : r < t := by omega
  clear k1 k2 hb2 hb0 h h' K0 hrd hrd2 hb1 hg2
  go_wp2_with fail
  refine (text_draw _ _ _ _ hrd3 (by omega)).mono ?_
  rintro e w4 ⟨p, rfl, hps, hrd4, hg4⟩
  have U4 := U3.grown hg4 (by intro e; injection e with e; omega)
  have T4 := T3.grown hg4 (by intro e; injection e with e; omega)
  have hb4 := brd hb3 hg4 hwr
  clear hg4 hrd3 U3 T3 hb3
  have hrd3 := hrd4
  have U3 := U4
  have T3 := T4
  have hb3 := hb4
  clear hrd4 U4 T4 hb4
  go_wp2_with fail
  rw [ht] at U3
  rw [hg] at T3
  refine wp_region_slots2 (by kernel_rfl) (fun vs => ⟨#[.slice A n c, undef, .pointer (some ⟨g, 0, none⟩), vs 12, .pointer (some ⟨r, 0, none⟩), .pointer (some ⟨t, 0, none⟩), .string p, .slice A n c, .pointer (some ⟨r, 0, none⟩), .pointer (some ⟨r, 0, none⟩), .agg #[.string a, .string b], .pointer (some ⟨r, 0, none⟩), .string p, vs 0, vs 1, vs 2, vs 3, vs 4, vs 5, vs 6, vs 7, vs 8, vs 9, vs 10], []⟩) (fun k => (#[undef, undef, undef, undef, undef, undef, undef, undef, undef, undef, undef, undef, .string ⟨#[]⟩] : Array Value).getD k undef) rfl (gtΦ r g a b p) (GInv 82 24 w r g t 70 11 a b) (GRel r g a b) (gtΦ_stab r g a b p) (by kernel_rfl) ⟨fun _ => hrd3.drew.more (by omega), bdrew hb3, U3.drew, _, _, T3.drew⟩ ?_ ?_
  · intro L m vs w' i hi hm hL hcl hd hI hΦ
    have hi' : i < 13 := hi
    have hm' : m < 13 := hm
    have hgs : g < w'.heap.size := by obtain ⟨_, _, _, x, y, hgb⟩ := hI; exact hgb.lt
    have hrs : r < w'.heap.size := Nat.lt_trans hrl hI.2.2.1.lt
    rcases (by omega : i = 0 ∨ i = 1 ∨ i = 2 ∨ i = 3 ∨ i = 4 ∨ i = 5 ∨ i = 6 ∨ i = 7 ∨ i = 8 ∨ i = 9 ∨ i = 10 ∨ i = 11 ∨ i = 12) with rfl | rfl | rfl | rfl | rfl | rfl | rfl | rfl | rfl | rfl | rfl | rfl | rfl
    · obtain ⟨t0, t1⟩ := hI.2.2.1.cells
      refine wpOp_step rfl (fun K hK => ?_)
      go_simp
      exact hK _ _ ⟨_, rfl, GRel.refl _ _ _ _ _, hI.same (by decide), rfl⟩
    · refine wpOp_step rfl (fun K hK => ?_)
      go_simp
      exact hK _ _ ⟨_, rfl, GRel.refl _ _ _ _ _, hI.same (by decide), rfl⟩
    · refine wpOp_step rfl (fun K hK => ?_)
      go_simp
      exact hK _ _ ⟨_, rfl, GRel.refl _ _ _ _ _, hI.same (by decide), rfl⟩
    · have hsrc := hΦ 2 (hd 2 (by kernel_rfl))
      change vs 2 = _ at hsrc
      refine wpOp_step rfl (fun K hK => ?_)
      go_simp
      exact hK _ _ ⟨_, by simp [upd, hsrc], GRel.refl _ _ _ _ _, hI.same (by decide), rfl⟩
    · refine wpOp_step rfl (fun K hK => ?_)
      go_simp
      exact hK _ _ ⟨_, rfl, GRel.grown (World.grownBy_alloc w' _ _) hgr, hI.alloc (by decide) _, ⟨w'.heap.size, rfl, by omega, IntsAt.new w' 3 [1, 3, 200] (by simp)⟩⟩
    · refine wpOp_step rfl (fun K hK => ?_)
      go_simp
      exact hK _ _ ⟨_, rfl, GRel.refl _ _ _ _ _, hI.same (by decide), rfl⟩
    · have h5 : vs 5 = .pointer (some ⟨r, 0, none⟩) := hΦ 5 (hd 5 (by kernel_rfl))
      refine wpOp_step rfl (fun K hK => ?_)
      go_simp
      refine (pick_any r _ _ _ (hI.1 (not_listed (S := 11) hcl hL (by kernel_rfl))) (by omega)).mono ?_
      rintro e w3 ⟨x, rfl, hx0, hx1, hr3, hg3⟩
      have hx2 := hx1 (by decide)
      obtain ⟨i, rfl⟩ := Int.eq_ofNat_of_zero_le hx0
      go_simp
      exact hK _ _ ⟨_, by simp [upd, h5], GRel.grown hg3 hgr, hI.grown hg3 hr3 hwr htr hgr, ⟨i, rfl, by omega⟩⟩
    · obtain ⟨q, hs, hq, hints⟩ : ∃ q, vs 4 = .slice (some ⟨q, 0, none⟩) 3 3 ∧ (q ≠ r ∧ q ≠ g) ∧ IntsAt w' q 3 (fun x => 0 ≤ x ∧ x ≤ 200) := hΦ 4 (hd 4 (by kernel_rfl))
      obtain ⟨i, hx, hi7⟩ : ∃ i : Nat, vs 6 = .int .i64 i ∧ i < 3 := hΦ 6 (hd 6 (by kernel_rfl))
      have j1 : (i : Int) < 3 := by omega
      have j0 : (0 : Int) ≤ (i : Int) := by omega
      refine wpOp_step rfl (fun K hK => ?_)
      go_simp
      exact hK _ _ ⟨_, by simp [upd, hs, hx], GRel.refl _ _ _ _ _, hI.same (by decide), ⟨q, i, rfl, hq, hints, hi7⟩⟩
    · obtain ⟨q, i, hp, hq, hints, hi7⟩ : ∃ q i, vs 7 = .pointer (some ⟨q, i, none⟩) ∧ (q ≠ r ∧ q ≠ g) ∧ IntsAt w' q 3 (fun x => 0 ≤ x ∧ x ≤ 200) ∧ i < 3 := hΦ 7 (hd 7 (by kernel_rfl))
      obtain ⟨x, hcx, hx0, hx1⟩ := hints i hi7
      obtain ⟨k, rfl⟩ := Int.eq_ofNat_of_zero_le hx0
      refine wpOp_step rfl (fun K hK => ?_)
      go_simp
      exact hK _ _ ⟨_, by simp [upd, hp], GRel.refl _ _ _ _ _, hI.same (by decide), ⟨k, rfl, by omega⟩⟩
    · have h3 : vs 3 = .int .i64 (p.size : Int) := hΦ 3 (hd 3 (by kernel_rfl))
      obtain ⟨i, h8, hi8⟩ : ∃ i : Nat, vs 8 = .int .i64 i ∧ i < 201 := hΦ 8 (hd 8 (by kernel_rfl))
      by_cases hlt : (p.size : Int) ≤ (i : Int)
      · have hmin : min (p.size : Int) (i : Int) = (p.size : Int) := by omega
        have hn : ¬ (i : Int) < (p.size : Int) := by omega
        refine wpOp_step rfl (fun K hK => ?_)
        go_simp
        exact hK _ _ ⟨.int .i64 (p.size : Int), by simp [upd, h3, h8], GRel.refl _ _ _ _ _, hI.same (by decide), ⟨p.size, rfl, Nat.le_refl _⟩⟩
      · have hmin : min (p.size : Int) (i : Int) = (i : Int) := by omega
        have hn : (i : Int) < (p.size : Int) := by omega
        have hn2 : (i : Int) ≤ (p.size : Int) := by omega
        refine wpOp_step rfl (fun K hK => ?_)
        go_simp
        exact hK _ _ ⟨.int .i64 (i : Int), by simp [upd, h3, h8], GRel.refl _ _ _ _ _, hI.same (by decide), ⟨i, rfl, by omega⟩⟩
    · have h1 : vs 1 = .string p := hΦ 1 (hd 1 (by kernel_rfl))
      obtain ⟨i, h9, hi9⟩ : ∃ i : Nat, vs 9 = .int .i64 i ∧ i ≤ p.size := hΦ 9 (hd 9 (by kernel_rfl))
      have j1 : (i : Int) ≤ (p.size : Int) := by omega
      have j0 : (0 : Int) ≤ (i : Int) := by omega
      refine wpOp_step rfl (fun K hK => ?_)
      go_simp
      exact hK _ _ ⟨.string (p.extract 0 i), by simp [upd, h1, h9], GRel.refl _ _ _ _ _, hI.same (by decide), ⟨_, rfl, by rw [ByteArray.size_extract]; omega⟩⟩
    · have h0 : vs 0 = .agg #[.string a, .string b] := hΦ 0 (hd 0 (by kernel_rfl))
      obtain ⟨x, y, hgb⟩ := hI.2.2.2
      obtain ⟨g0, g1⟩ := hgb.cells
      obtain ⟨gf0, gf1⟩ := hgb.free
      refine wpOp_step rfl (fun K hK => ?_)
      go_simp
      exact hK _ _ ⟨undef, by simp [upd, h0], GRel.store hgb, hI.store hwg htg (by simp [updL]), (hgb.set_ _ _).cells⟩
    · obtain ⟨x, h10, hx⟩ : ∃ x : ByteArray, vs 10 = .string x ∧ x.size ≤ 130 := hΦ 10 (hd 10 (by kernel_rfl))
      refine wpOp_step rfl (fun K hK => ?_)
      go_simp
      exact hK _ _ ⟨_, by simp [upd, h10], GRel.refl _ _ _ _ _, hI.same (by decide), ⟨x, rfl, hx⟩⟩
  · intro L m vs w' hm hI hΦ
    obtain ⟨x, hx, hxx⟩ : ∃ x : ByteArray, vs 12 = .string x ∧ x.size ≤ 130 := hΦ 12 (by decide)
    obtain ⟨f0, f1⟩ : w'.cell? ⟨g, 0, none⟩ = some (.string a) ∧ w'.cell? ⟨g, 1, none⟩ = some (.string b) := hΦ 11 (by decide)
    rw [hx]
    go_wp2
    refine bodyPost_ret (v := .tuple #[.agg #[.string a, .string b], .string x]) (by simp [results, Try.results21, go_sem, f0, f1]) rfl ⟨a, b, x, rfl, hs, hxx, hI.2.1⟩
end Go.Proofs.Ytlndlgbpnlfflaa
