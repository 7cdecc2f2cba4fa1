/- What DrawPlaceAt leaves. -/
import Derived.Test.YtlndlgbpnlfflaaD8
import Derived.Test.YtlndlgbpnlfflaaR1
import Derived.Deep.DrawnRows
namespace Go.Proofs.Ytlndlgbpnlfflaa
open Go.RowKit
attribute [local go_sem ↓] Go.wp_at_zero Go.wp_at_succ

/-- What a function that draws a text, a line and a column leaves. -/
def DPlaceAtV (w : World) (e : Ending) (w' : World) : Prop := ∃ (s : ByteArray) (p x : Int), e = .returned (.tuple #[.string s, .int .i64 p, .int .i64 x]) ∧ s.size ≤ 125 ∧ Below w.heap.size w w'
/-- What each operation of DrawPlaceAt's last region leaves. -/
def paΦ (r : Nat) (s : ByteArray) (p : Int) : Nat → World → Value → Prop
  | 0, _, v => v = .string s
  | 1, _, v => v = .int .i64 p
  | 2, _, v => v = .pointer (some ⟨r, 0, none⟩)
  | 3, _, v => ∃ x : Int, v = .int .i64 x
  | 4, w, v => ∃ q, v = .slice (some ⟨q, 0, none⟩) 4 4 ∧ q ≠ r ∧ IntsAt w q 4 (fun _ => True)
  | 5, w, v => ∃ q, v = .slice (some ⟨q, 0, none⟩) 7 7 ∧ q ≠ r ∧ IntsAt w q 7 (fun x => 0 ≤ x ∧ x ≤ 3)
  | 6, _, v => v = .pointer (some ⟨r, 0, none⟩)
  | 7, _, v => ∃ i : Nat, v = .int .i64 i ∧ i < 7
  | 8, w, v => ∃ q i, v = .pointer (some ⟨q, i, none⟩) ∧ q ≠ r ∧ IntsAt w q 7 (fun x => 0 ≤ x ∧ x ≤ 3) ∧ i < 7
  | 9, _, v => ∃ i : Nat, v = .int .i64 i ∧ i < 4
  | 10, w, v => ∃ q i, v = .pointer (some ⟨q, i, none⟩) ∧ q ≠ r ∧ IntsAt w q 4 (fun _ => True) ∧ i < 4
  | 11, _, v => ∃ x : Int, v = .int .i64 x
  | 12, _, v => v = .string s
  | 13, _, v => v = .int .i64 p
  | 14, _, v => ∃ x : Int, v = .int .i64 x
  | _, _, _ => True
theorem paΦ_stab (r : Nat) (s : ByteArray) (p : Int) : ∀ k w w' v, World.grownBy w w' (some r) → paΦ r s p k w v → paΦ r s p k w' v
  | 0, _, _, _, _, h | 1, _, _, _, _, h | 2, _, _, _, _, h | 3, _, _, _, _, h | 6, _, _, _, _, h | 7, _, _, _, _, h | 9, _, _, _, _, h | 11, _, _, _, _, h | 12, _, _, _, _, h | 13, _, _, _, _, h | 14, _, _, _, _, h => h
  | 4, _, _, _, hg, ⟨q, e, hq, hi⟩ => ⟨q, e, hq, hi.kept hg hq⟩
  | 5, _, _, _, hg, ⟨q, e, hq, hi⟩ => ⟨q, e, hq, hi.kept hg hq⟩
  | 8, _, _, _, hg, ⟨q, i, e, hq, hi, hl⟩ => ⟨q, i, e, hq, hi.kept hg hq, hl⟩
  | 10, _, _, _, hg, ⟨q, i, e, hq, hi, hl⟩ => ⟨q, i, e, hq, hi.kept hg hq, hl⟩
  | _ + 15, _, _, _, _, _ => trivial
set_option maxHeartbeats 1600000 in
theorem DrawPlaceAt_any (A : Option Addr) (n c : Nat) (w : World) (h : Byt w w.heap.size A n) (hnc : n ≤ c) (hc : c ≤ maxLen) :
    Calls Try.prog 27 #[.slice A n c] w (DPlaceAtV w) := by
  go_enter Try.func27, Try.ntmps27
  go_wp2_with fail
  refine (open_any _ _ _ _ h hnc hc).mono ?_
  rintro e w1 ⟨r, rfl, hr, hrd, hb1⟩
  go_wp2_with fail
  refine (line_draw _ _ _ hrd (by omega)).mono ?_
  rintro e w2 ⟨s, p, rfl, hs, hrd2, hg2⟩
  have hb2 := brd hb1 hg2 hr
  go_wp2_with fail
  refine wp_region_slots (by kernel_rfl) (fun vs => ⟨#[.slice A n c, undef, vs 12, vs 13, vs 14, .pointer (some ⟨r, 0, none⟩), .string s, .int .i64 p, .slice A n c, .pointer (some ⟨r, 0, none⟩), .tuple #[.string s, .int .i64 p], .pointer (some ⟨r, 0, none⟩), .tuple #[.string s, .int .i64 p], .string s, .int .i64 p, vs 0, vs 1, vs 2, vs 3, vs 4, vs 5, vs 6, vs 7, vs 8, vs 9, vs 10, vs 11], []⟩)
    (fun k => (#[undef, undef, undef, undef, undef, undef, undef, undef, undef, undef, undef, undef, .string ⟨#[]⟩, .int .i64 0, .int .i64 0] : Array Value).getD k undef) rfl (paΦ r s p) (fun m w' => Rd 82 w' r (0 + 40 + m) ∧ w2.grownBy w' (some r)) (fun a b => World.grownBy a b (some r)) (paΦ_stab r s p) (by kernel_rfl) ⟨hrd2.drew, gdrew (World.grownBy.refl _ _)⟩ ?_ ?_
  · intro L m vs w' i hi hm hd hI hΦ
    obtain ⟨hrd', hg'⟩ := hI
    have hi' : i < 15 := hi
    have hm' : m < 15 := hm
    have hrl := hrd'.lt
    rcases (by omega : i = 0 ∨ i = 1 ∨ i = 2 ∨ i = 3 ∨ i = 4 ∨ i = 5 ∨ i = 6 ∨ i = 7 ∨ i = 8 ∨ i = 9 ∨ i = 10 ∨ i = 11 ∨ i = 12 ∨ i = 13 ∨ i = 14) with rfl | rfl | rfl | rfl | rfl | rfl | rfl | rfl | rfl | rfl | rfl | rfl | rfl | rfl | rfl
    · refine wpOp_step rfl (fun K hK => ?_)
      go_simp
      refine hK _ _ ⟨_, rfl, World.grownBy.refl _ _, ⟨hrd'.more (by omega), hg'⟩, rfl⟩
    · refine wpOp_step rfl (fun K hK => ?_)
      go_simp
      refine hK _ _ ⟨_, rfl, World.grownBy.refl _ _, ⟨hrd'.more (by omega), hg'⟩, rfl⟩
    · refine wpOp_step rfl (fun K hK => ?_)
      go_simp
      refine hK _ _ ⟨_, rfl, World.grownBy.refl _ _, ⟨hrd'.more (by omega), hg'⟩, rfl⟩
    · have h2 : vs 2 = .pointer (some ⟨r, 0, none⟩) := hΦ 2 (hd 2 (by kernel_rfl))
      refine wpOp_step rfl (fun K hK => ?_)
      go_simp
      refine (pick_any r _ _ _ hrd' (by omega)).mono ?_
      rintro e w3 ⟨x, rfl, hx0, hx1, hr3, hg3⟩
      go_simp
      exact hK _ _ ⟨_, by simp [upd, h2], hg3, ⟨hr3.more (by omega), gtrans hg' hg3⟩, ⟨x, rfl⟩⟩
    · obtain ⟨x, h3⟩ : ∃ x : Int, vs 3 = .int .i64 x := hΦ 3 (hd 3 (by kernel_rfl))
      refine wpOp_step rfl (fun K hK => ?_)
      go_simp
      exact hK _ _ ⟨_, by simp [upd, h3], World.grownBy_alloc w' _ _, ⟨(hrd'.alloc _).more (by omega), galloc hg' _⟩, ⟨w'.heap.size, rfl, by omega, IntsAt.new w' 3 [x, -1, 9223372036854775807, 0] (fun _ _ => trivial)⟩⟩
    · refine wpOp_step rfl (fun K hK => ?_)
      go_simp
      exact hK _ _ ⟨_, rfl, World.grownBy_alloc w' _ _, ⟨(hrd'.alloc _).more (by omega), galloc hg' _⟩, ⟨w'.heap.size, rfl, by omega, IntsAt.new w' 3 [0, 0, 0, 0, 3, 1, 2] (by simp)⟩⟩
    · refine wpOp_step rfl (fun K hK => ?_)
      go_simp
      refine hK _ _ ⟨_, rfl, World.grownBy.refl _ _, ⟨hrd'.more (by omega), hg'⟩, rfl⟩
    · have h6 : vs 6 = .pointer (some ⟨r, 0, none⟩) := hΦ 6 (hd 6 (by kernel_rfl))
      refine wpOp_step rfl (fun K hK => ?_)
      go_simp
      refine (pick_any r _ _ _ hrd' (by omega)).mono ?_
      rintro e w3 ⟨x, rfl, hx0, hx1, hr3, hg3⟩
      have hx2 := hx1 (by decide)
      obtain ⟨i, rfl⟩ := Int.eq_ofNat_of_zero_le hx0
      go_simp
      exact hK _ _ ⟨_, by simp [upd, h6], hg3, ⟨hr3.more (by omega), gtrans hg' hg3⟩, ⟨i, rfl, by omega⟩⟩
    · obtain ⟨q, h5, hq, hints⟩ : ∃ q, vs 5 = .slice (some ⟨q, 0, none⟩) 7 7 ∧ q ≠ r ∧ IntsAt w' q 7 (fun x => 0 ≤ x ∧ x ≤ 3) := hΦ 5 (hd 5 (by kernel_rfl))
      obtain ⟨i, h7, hi7⟩ : ∃ i : Nat, vs 7 = .int .i64 i ∧ i < 7 := hΦ 7 (hd 7 (by kernel_rfl))
      have j1 : (i : Int) < 7 := by omega
      have j0 : (0 : Int) ≤ (i : Int) := by omega
      refine wpOp_step rfl (fun K hK => ?_)
      go_simp
      exact hK _ _ ⟨_, by simp [upd, h5, h7], World.grownBy.refl _ _, ⟨hrd'.more (by omega), hg'⟩, ⟨q, i, rfl, hq, hints, hi7⟩⟩
    · obtain ⟨q, i, h8, hq, hints, hi7⟩ : ∃ q i, vs 8 = .pointer (some ⟨q, i, none⟩) ∧ q ≠ r ∧ IntsAt w' q 7 (fun x => 0 ≤ x ∧ x ≤ 3) ∧ i < 7 := hΦ 8 (hd 8 (by kernel_rfl))
      obtain ⟨x, hcx, hx0, hx1⟩ := hints i hi7
      obtain ⟨k, rfl⟩ := Int.eq_ofNat_of_zero_le hx0
      refine wpOp_step rfl (fun K hK => ?_)
      go_simp
      exact hK _ _ ⟨_, by simp [upd, h8], World.grownBy.refl _ _, ⟨hrd'.more (by omega), hg'⟩, ⟨k, rfl, by omega⟩⟩
    · obtain ⟨q, h4, hq, hints⟩ : ∃ q, vs 4 = .slice (some ⟨q, 0, none⟩) 4 4 ∧ q ≠ r ∧ IntsAt w' q 4 (fun _ => True) := hΦ 4 (hd 4 (by kernel_rfl))
      obtain ⟨i, h9, hi9⟩ : ∃ i : Nat, vs 9 = .int .i64 i ∧ i < 4 := hΦ 9 (hd 9 (by kernel_rfl))
      have j1 : (i : Int) < 4 := by omega
      have j0 : (0 : Int) ≤ (i : Int) := by omega
      refine wpOp_step rfl (fun K hK => ?_)
      go_simp
      exact hK _ _ ⟨_, by simp [upd, h4, h9], World.grownBy.refl _ _, ⟨hrd'.more (by omega), hg'⟩, ⟨q, i, rfl, hq, hints, hi9⟩⟩
    · obtain ⟨q, i, h10, hq, hints, hi4⟩ : ∃ q i, vs 10 = .pointer (some ⟨q, i, none⟩) ∧ q ≠ r ∧ IntsAt w' q 4 (fun _ => True) ∧ i < 4 := hΦ 10 (hd 10 (by kernel_rfl))
      obtain ⟨x, hcx, _⟩ := hints i hi4
      refine wpOp_step rfl (fun K hK => ?_)
      go_simp
      exact hK _ _ ⟨_, by simp [upd, h10], World.grownBy.refl _ _, ⟨hrd'.more (by omega), hg'⟩, ⟨x, rfl⟩⟩
    · have h0 : vs 0 = .string s := hΦ 0 (hd 0 (by kernel_rfl))
      refine wpOp_step rfl (fun K hK => ?_)
      go_simp
      exact hK _ _ ⟨_, by simp [upd, h0], World.grownBy.refl _ _, ⟨hrd'.more (by omega), hg'⟩, rfl⟩
    · have h1 : vs 1 = .int .i64 p := hΦ 1 (hd 1 (by kernel_rfl))
      refine wpOp_step rfl (fun K hK => ?_)
      go_simp
      exact hK _ _ ⟨_, by simp [upd, h1], World.grownBy.refl _ _, ⟨hrd'.more (by omega), hg'⟩, rfl⟩
    · obtain ⟨x, h11⟩ : ∃ x : Int, vs 11 = .int .i64 x := hΦ 11 (hd 11 (by kernel_rfl))
      refine wpOp_step rfl (fun K hK => ?_)
      go_simp
      exact hK _ _ ⟨_, by simp [upd, h11], World.grownBy.refl _ _, ⟨hrd'.more (by omega), hg'⟩, ⟨x, rfl⟩⟩
  · intro m vs w' hm hI hΦ
    have h12 : vs 12 = .string s := hΦ 12 (by decide)
    have h13 : vs 13 = .int .i64 p := hΦ 13 (by decide)
    obtain ⟨x, h14⟩ : ∃ x : Int, vs 14 = .int .i64 x := hΦ 14 (by decide)
    rw [h12, h13, h14]
    go_wp2
    go_ret3
    exact ⟨s, p, x, rfl, hs, brd hb2 hI.2 hr⟩
end Go.Proofs.Ytlndlgbpnlfflaa
