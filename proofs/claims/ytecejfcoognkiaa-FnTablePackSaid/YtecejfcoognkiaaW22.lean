/- Contracts of TableText, whole. -/
import Derived.Test.YtecejfcoognkiaaW18
import Derived.Test.YtecejfcoognkiaaW20
import Derived.Test.YtecejfcoognkiaaW21
import Derived.Test.YtecejfcoognkiaaSh
import Derived.Deep.RegionHeld3
import Derived.Deep.AppendLies
namespace Go.Proofs.Ytecejfcoognkiaa
open Go.RowKit

theorem builderAt_below {T e : TypeId} {B b : Nat} {p : Value} {bs : List Value} {w w' : World} (h : Lib.BuilderAt T e B b p bs w) (hb : Below w.heap.size w w') : Lib.BuilderAt T e B b p bs w' := by
  have hlt := h.lt
  obtain ⟨hB, v, hbk, hown, hne⟩ := h
  exact ⟨hB, v, by rw [hb.block b hlt]; exact hbk, owns_below hown hb, hne⟩
theorem builder_below {T e : TypeId} {B b : Nat} {bs : List Value} {w w' : World} (h : Lib.IsBuilder T e B b bs w) (hb : Below w.heap.size w w') : Lib.IsBuilder T e B b bs w' := by
  rcases h with h | h
  · exact .inl (builderAt_below h hb)
  · exact .inr (builderAt_below h hb)
theorem builder_lt {T e : TypeId} {B b : Nat} {bs : List Value} {w : World} (h : Lib.IsBuilder T e B b bs w) : b < w.heap.size := by
  rcases h with h | h
  · exact h.lt
  · exact h.lt
set_option maxHeartbeats 800000 in
theorem whole_any (f m : ByteArray) (A : Option Addr) (n c : Nat) (ps : List (Bool × Int × Int)) (w : World) (hf : f.size ≤ 1048576) (hm : m.size ≤ 1048576) (hn2 : n ≤ 1048576) (hr : Pieces w w.heap.size A n ps) (ht : tableB f.data.toList m.data.toList ps = true) :
    Calls Try.prog 26 #[.agg #[.string f, .string m, .slice A n c]] w fun e w' => e = .returned (.string (mk (wholeL f.data.toList m.data.toList ps))) ∧ Below w.heap.size w w' := by
  have HT := Lib.hid ht
  clear ht
  go_enter Try.func26, Try.ntmps26
  go_wp2
  go_loopw [9] (fun i wr => ∃ k : Nat, k ≤ n ∧ i = .int .i64 k ∧ Lib.IsBuilder 59 5 (w.heap.size + 1) (w.heap.size + 1) (Lib.byteCells (wholeL f.data.toList m.data.toList (ps.take k))) wr ∧ Below (w.heap.size + 1) (w.alloc (.cells #[.string f, .string m, .slice A n c] 25)) wr) (fun i _ => n - (intOf i).toNat)
  case atStart => exact ⟨0, Nat.zero_le _, rfl, by have := Lib.fresh_isBuilder 59 5 (w.alloc (.cells #[.string f, .string m, .slice A n c] 25)); simp only [World.size_alloc] at this; exact this, (Below.refl _ _).alloc (by simp) _⟩
  case round =>
    obtain ⟨k, hk, rfl, hbu, hbw⟩ := hrel
    have hz := builder_lt hbu
    have hz' : w.heap.size < wr.heap.size := by omega
    have b0 : wr.cell? ⟨w.heap.size, 0, none⟩ = some (.string f) := (hbw.cell (p := ⟨w.heap.size, 0, none⟩) (by simp)).trans (by simp)
    have b1 : wr.cell? ⟨w.heap.size, 1, none⟩ = some (.string m) := (hbw.cell (p := ⟨w.heap.size, 1, none⟩) (by simp)).trans (by simp)
    have b2 : wr.cell? ⟨w.heap.size, 2, none⟩ = some (.slice A n c) := (hbw.cell (p := ⟨w.heap.size, 2, none⟩) (by simp)).trans (by simp)
    have hbw' : Below w.heap.size w wr := (balloc (Below.refl _ _) _).trans (hbw.mono (by omega))
    by_cases hlt : k < n
    · obtain ⟨ad, b, x, y, rfl, hb, hps, hc0, _, _, hc1, hc2⟩ := (hr.below hbw' (Nat.le_refl _)).at_ hlt
      have HM := Lib.hid hps
      clear hps
      have hp : pieceB f.size m.size (b, x, y) = true := tableB_pieceB HT.out HM.out
      have HS := Lib.hid (wholeL_step (f := f.data.toList) (m := m.data.toList) HM.out)
      have hsh := wholeL_short HT.out (k + 1)
      rw [HS.out, List.length_append] at hsh
      go_wp2_with fail
      refine (text_any f m _ _ _ b x y _ hf hm hp).mono ?_
      rintro e w1 ⟨rfl, hb1⟩
      have hz1 := hb1.size
      simp at hz1
      have hbu1 := builder_below (builder_below hbu (balloc (Below.refl _ _) (.cells #[.bool b, .int .i64 x, .int .i64 y] 29))) hb1
      go_wp2_with fail
      refine (builderWrite_any _ _ _ _ _ hbu1 (by rw [Lib.byteCells_length, mk_size]; omega) (by omega)).mono ?_
      rintro e w2 ⟨rfl, hbu2, hb2⟩
      go_wp2
      go_roundw
      case rel => exact ⟨k + 1, by omega, by go_num, .inr (by rw [HS.out, Lib.byteCells_append]; exact hbu2), ((hbw.alloc (by omega) _).trans (hb1.mono (by simp; omega))).trans hb2⟩
      case measure => simp [intOf]; omega
    · have hl := hr.1
      rw [List.take_of_length_le (by omega)] at hbu
      clear hl
      go_wp2_with (go_at_call 38; refine (Try.Builder_String_any _ _ _ _ hbu (by omega)).mono ?_; rintro e w1 ⟨rfl, hb1⟩)
      go_ret
      exact ⟨rfl, hbw'.trans (hb1.mono (by omega))⟩
theorem implTableText_any (f m : ByteArray) (A : Option Addr) (n c : Nat) (ps : List (Bool × Int × Int)) (w : World) (hf : f.size ≤ 1048576) (hm : m.size ≤ 1048576) (hn2 : n ≤ 1048576) (hr : Pieces w w.heap.size A n ps) :
    Calls Try.prog 11 #[.agg #[.string f, .string m, .slice A n c]] w fun e w' => e = .returned (.string (mk (tableTextL f.data.toList m.data.toList ps))) ∧ Below w.heap.size w w' := by
  have hr0 : Pieces (w.alloc (.cells #[.string f, .string m, .slice A n c] 25)) (w.alloc (.cells #[.string f, .string m, .slice A n c] 25)).heap.size A n ps := (hr.below (balloc (Below.refl _ _) _) (Nat.le_refl _)).more (by simp)
  cases ht : tableB f.data.toList m.data.toList ps
  · rw [tableTextL_0 ht]
    have H := Lib.hid ht
    clear ht
    go_enter Try.func11, Try.ntmps11
    go_wp2_with fail
    refine (implTableValid_any _ _ _ _ _ _ _ hf hm hn2 hr0).mono ?_
    rw [H.out]
    rintro e w1 ⟨rfl, hb1⟩
    go_wp2
    go_ret
    exact ⟨rfl, (by repeat (first | exact Below.refl _ _ | assumption | (refine bstep ?_ (by assumption)) | refine balloc ?_ _ | refine bdrew ?_ | refine bdrewN ?_ _ | refine bset ?_ (by first | (simp; done) | (simp; omega)) _))⟩
  · rw [tableTextL_1 ht]
    have H := Lib.hid ht
    clear ht
    go_enter Try.func11, Try.ntmps11
    go_wp2_with fail
    refine (implTableValid_any _ _ _ _ _ _ _ hf hm hn2 hr0).mono ?_
    rw [H.out]
    rintro e w1 ⟨rfl, hb1⟩
    obtain ⟨hc1, hf1⟩ := bcell hb1
    have hz1 := hb1.size
    simp at hz1
    have hr1 : Pieces w1 w1.heap.size A n ps := (hr0.below hb1 (Nat.le_refl _)).more hb1.size
    go_wp2_with fail
    refine (whole_any _ _ _ _ _ _ _ hf hm hn2 hr1 H.out).mono ?_
    rintro e w2 ⟨rfl, hb2⟩
    go_wp2
    go_ret
    exact ⟨rfl, (by repeat (first | exact Below.refl _ _ | assumption | (refine bstep ?_ (by assumption)) | refine balloc ?_ _ | refine bdrew ?_ | refine bdrewN ?_ _ | refine bset ?_ (by first | (simp; done) | (simp; omega)) _))⟩
set_option maxHeartbeats 800000 in
theorem specTableText_any (f m : ByteArray) (A : Option Addr) (n c : Nat) (ps : List (Bool × Int × Int)) (w : World) (hf : f.size ≤ 1048576) (hm : m.size ≤ 1048576) (hn2 : n ≤ 1048576) (hr : Pieces w w.heap.size A n ps) :
    Calls Try.prog 12 #[.agg #[.string f, .string m, .slice A n c]] w fun e w' => e = .returned (.string (mk (tableTextL f.data.toList m.data.toList ps))) ∧ Below w.heap.size w w' := by
  cases ht : tableB f.data.toList m.data.toList ps
  · rw [tableTextL_0 ht]
    have H := Lib.hid ht
    clear ht
    have hr0 : Pieces (w.alloc (.cells #[.string f, .string m, .slice A n c] 25)) (w.alloc (.cells #[.string f, .string m, .slice A n c] 25)).heap.size A n ps := (hr.below (balloc (Below.refl _ _) _) (Nat.le_refl _)).more (by simp)
    go_enter Try.func12, Try.ntmps12
    go_wp2
    refine wp_loop_rounds 1 ?_
    rw [rounds_succ]
    by_cases h0 : 0 < n
    · go_wp2_with (go_at_call 8; refine (specTableValid_any _ _ _ _ _ _ _ hf hm hn2 hr0).mono ?_; rw [H.out]; rintro e w1 ⟨rfl, hb1⟩; obtain ⟨hc1, hf1⟩ := bcell hb1; have hz1 := hb1.size; (try simp at hz1); (try replace hz1 := Nat.lt_of_succ_le hz1); (try have hy1w : w.heap.size < w1.heap.size := by omega); (try have hx1w : w.heap.size + 1 < w1.heap.size := by omega))
      go_ret
      exact ⟨rfl, (by repeat (first | exact Below.refl _ _ | assumption | (refine bstep ?_ (by assumption)) | refine balloc ?_ _ | refine bdrew ?_ | refine bdrewN ?_ _ | refine bset ?_ (by first | (simp; done) | (simp; omega)) _))⟩
    · go_wp2
      go_ret
      exact ⟨rfl, (by repeat (first | exact Below.refl _ _ | assumption | (refine bstep ?_ (by assumption)) | refine balloc ?_ _ | refine bdrew ?_ | refine bdrewN ?_ _ | refine bset ?_ (by first | (simp; done) | (simp; omega)) _))⟩
  · rw [tableTextL_1 ht]
    have H := Lib.hid ht
    clear ht
    go_enter Try.func12, Try.ntmps12
    go_wp2
    go_loopw [3, 4] (fun o i wr => ∃ (k : Nat) (t : ByteArray), k ≤ n ∧ i = .int .i64 k ∧ o = .string t ∧ Hid (t = mk (wholeL f.data.toList m.data.toList (ps.take k))) ∧ Below (w.heap.size + 1) (w.alloc (.cells #[.string f, .string m, .slice A n c] 25)) wr) (fun _ i _ => n - (intOf i).toNat)
    case atStart => exact ⟨0, _, Nat.zero_le _, rfl, rfl, Lib.hid rfl, Below.refl _ _⟩
    case round =>
      obtain ⟨k, t, hk, rfl, rfl, HTX, hbw⟩ := hrel
      have hz := hbw.size
      simp at hz
      have b0 : wr.cell? ⟨w.heap.size, 0, none⟩ = some (.string f) := (hbw.cell (p := ⟨w.heap.size, 0, none⟩) (by simp)).trans (by simp)
      have b1 : wr.cell? ⟨w.heap.size, 1, none⟩ = some (.string m) := (hbw.cell (p := ⟨w.heap.size, 1, none⟩) (by simp)).trans (by simp)
      have b2 : wr.cell? ⟨w.heap.size, 2, none⟩ = some (.slice A n c) := (hbw.cell (p := ⟨w.heap.size, 2, none⟩) (by simp)).trans (by simp)
      have hbw' : Below w.heap.size w wr := (balloc (Below.refl _ _) _).trans (hbw.mono (by omega))
      have hz' : w.heap.size < wr.heap.size := by omega
      have hrw : Pieces wr wr.heap.size A n ps := (hr.below hbw' (Nat.le_refl _)).more (by omega)
      by_cases hlt : k < n
      · go_wp2_with fail
        refine (specTableValid_any _ _ _ _ _ _ _ hf hm hn2 hrw).mono ?_
        rw [H.out]
        rintro e w1 ⟨rfl, hb1⟩
        have hz1 := hb1.size
        have hbw1 : Below w.heap.size w w1 := bstep hbw' hb1
        obtain ⟨ad, b, x, y, rfl, hb, hps, hc0, _, _, hc1, hc2⟩ := (hr.below hbw1 (Nat.le_refl _)).at_ hlt
        have HM := Lib.hid hps
        clear hps
        have hp : pieceB f.size m.size (b, x, y) = true := tableB_pieceB H.out HM.out
        have HS := Lib.hid (wholeL_step (f := f.data.toList) (m := m.data.toList) HM.out)
        have hsh := wholeL_short H.out (k + 1)
        rw [HS.out, List.length_append] at hsh
        have q0 : w1.cell? ⟨w.heap.size, 0, none⟩ = some (.string f) := (hb1.cell (p := ⟨w.heap.size, 0, none⟩) (by simp; omega)).trans b0
        have q1 : w1.cell? ⟨w.heap.size, 1, none⟩ = some (.string m) := (hb1.cell (p := ⟨w.heap.size, 1, none⟩) (by simp; omega)).trans b1
        have q2 : w1.cell? ⟨w.heap.size, 2, none⟩ = some (.slice (some ad) n c) := (hb1.cell (p := ⟨w.heap.size, 2, none⟩) (by simp; omega)).trans b2
        have HP := Lib.hid hp
        clear b0 b1 b2 hp
        have hkn : (k : Int) < (n : Int) := by omega
        obtain ⟨p, hpe⟩ : ∃ p, mk (pieceL f.data.toList m.data.toList (b, x, y)) = p := ⟨_, rfl⟩
        have jz1 : t.size + p.size ≤ 120 := by rw [HTX.out, ← hpe, mk_size, mk_size]; omega
        have jz2 : ¬ 9223372036854775807 < t.size + p.size := by omega
        have HPE := Lib.hid hpe
        clear hpe
        go_wp2_with fail
        go_region_held3 (fun w' => w'.cell? ⟨w.heap.size, 0, none⟩ = some (.string f) ∧ w'.cell? ⟨w.heap.size, 1, none⟩ = some (.string m) ∧ w'.cell? ⟨w.heap.size, 2, none⟩ = some (.slice (some ad) n c) ∧ w'.cell? (ad.add (k * 3)) = some (.bool b) ∧ w'.cell? ⟨(ad.add (k * 3)).block, (ad.add (k * 3)).off + 1, none⟩ = some (.int .i64 x) ∧ w'.cell? ⟨(ad.add (k * 3)).block, (ad.add (k * 3)).off + 2, none⟩ = some (.int .i64 y))
          (first
            | go_keep
            | (go_split_ands; exact ⟨(hb2.cell (p := ⟨w.heap.size, 0, none⟩) (by simp; omega)).trans q0, (hb2.cell (p := ⟨w.heap.size, 1, none⟩) (by simp; omega)).trans q1, (hb2.cell (p := ⟨w.heap.size, 2, none⟩) (by simp; omega)).trans q2, (hb2.cell (by rw [add_block]; simp; omega)).trans hc0, (hb2.cell (by show (ad.add (k * 3)).block < _; rw [add_block]; simp; omega)).trans hc1, (hb2.cell (by show (ad.add (k * 3)).block < _; rw [add_block]; simp; omega)).trans hc2⟩))
          ((first
            | (go_at_call 27; refine (l3Text_any _ _ _ _ _ _ _ _ _ hf hm HP.out).mono ?_; rw [HPE.out]; rintro e w2 ⟨rfl, hb2⟩; have hz2 := hb2.size; simp at hz2)))
        go_wp2
        go_roundw
        case rel => exact ⟨k + 1, t ++ p, by omega, by go_num, rfl, Lib.hid (by rw [HTX.out, ← HPE.out, append_mk, mk_data, mk_data, HS.out]), (hbw.trans (hb1.mono (by omega))).drew.trans (hb2.mono (by simp; omega))⟩
        case measure => simp [intOf]; omega
      · have hl := hr.1
        have hte := HTX.out
        rw [List.take_of_length_le (by omega)] at hte
        have HTE := Lib.hid hte
        clear hl hte
        go_wp2
        go_ret
        exact ⟨congrArg (fun z => Ending.returned (Value.string z)) HTE.out, hbw'⟩
end Go.Proofs.Ytecejfcoognkiaa
