/- What the drawing functions leave: a text and marks. -/
import Derived.Test.YtckhhdhkchcljaaD11
import Derived.Test.YtckhhdhkchcljaaW10
namespace Go.Proofs.Ytckhhdhkchcljaa
open Go.RowKit

/-- What DrawMarksValid leaves. -/
def DMarksV (M : TypeId) (w : World) (e : Ending) (w' : World) : Prop := ∃ (s : ByteArray) (A : Option Addr) (k c : Nat) (ms : List (Int × Bool)), e = .returned (.tuple #[.string s, .slice A k c]) ∧ s.size ≤ 125 ∧ k ≤ 11 ∧ OwnV M w' w.heap.size A k c ms ∧ Below w.heap.size w w'
/-- What DrawNextMark leaves. -/
def DNextV (M : TypeId) (w : World) (e : Ending) (w' : World) : Prop := ∃ (s : ByteArray) (A : Option Addr) (k c : Nat) (ms : List (Int × Bool)) (p : Int), e = .returned (.tuple #[.string s, .slice A k c, .int .i64 p]) ∧ s.size ≤ 125 ∧ k ≤ 11 ∧ OwnV M w' w.heap.size A k c ms ∧ Below w.heap.size w w'
set_option maxHeartbeats 400000 in
theorem DrawMarksValid_any (A : Option Addr) (n c : Nat) (w : World) (h : Byt w w.heap.size A n) (hnc : n ≤ c) (hc : c ≤ maxLen) :
    Calls Try.prog 24 #[.slice A n c] w (DMarksV 43 w) := by
  go_enter Try.func24, Try.ntmps24
  go_wp2_with fail
  refine (open_any _ _ _ _ h hnc hc).mono ?_
  rintro e w1 ⟨r, rfl, hr, hrd, hb1⟩
  go_wp2_with fail
  refine (marks_draw _ _ _ _ hrd (by omega)).mono ?_
  rintro e w2 ⟨s, A', k, c', ms, rfl, hs, hk, ho, hr2, hg2⟩
  have hz1 := hb1.size
  go_wp2
  go_ret2
  exact ⟨s, A', k, c', ms, rfl, hs, hk, ⟨ho.1, owns_base ho.2 hz1⟩, brd hb1 hg2 hr⟩
set_option maxHeartbeats 400000 in
theorem DrawNextMark_any (A : Option Addr) (n c : Nat) (w : World) (h : Byt w w.heap.size A n) (hnc : n ≤ c) (hc : c ≤ maxLen) :
    Calls Try.prog 27 #[.slice A n c] w (DNextV 43 w) := by
  go_enter Try.func27, Try.ntmps27
  go_wp2_with fail
  refine (open_any _ _ _ _ h hnc hc).mono ?_
  rintro e w1 ⟨r, rfl, hr, hrd, hb1⟩
  have hrl := hrd.lt
  go_wp2_with fail
  refine (marks_draw _ _ _ _ hrd (by omega)).mono ?_
  rintro e w2 ⟨s, A', k, c', ms, rfl, hs, hk, ho, hr2, hg2⟩
  have hz1 := hb1.size
  go_wp2_with fail
  refine (place_draw _ _ _ _ _ hr2 (by omega) (by omega)).mono ?_
  rintro e w3 ⟨p, rfl, hr3, hg3⟩
  go_wp2
  refine bodyPost_ret (v := .tuple #[.string s, .slice A' k c', .int .i64 p]) (by simp [results, Try.results27, go_sem]) rfl ?_
  exact ⟨s, A', k, c', ms, p, rfl, hs, hk, ⟨ho.1, owns_base (ho.2.kept hg3 (own_ne_row ho.2 hrl)) hz1⟩, brd (brd hb1 hg2 hr) hg3 hr⟩
theorem marksB_iff {l : List UInt8} {ms : List (Int × Bool)} : marksB l ms = true ↔ placesB l.length ms = true ∧ tvB l = true ∧ ms.length ≤ 10 := by
  unfold marksB
  rw [Bool.and_eq_true, Bool.and_eq_true, decide_eq_true_iff]
  constructor
  · rintro ⟨a, b, c⟩
    exact ⟨a, b, by omega⟩
  · rintro ⟨a, b, c⟩
    exact ⟨a, b, by omega⟩
theorem marksB_take {l : List UInt8} {ms : List (Int × Bool)} (h : marksB l ms = true) (k : Nat) : marksB l (ms.take k) = true := by
  obtain ⟨a, b, c⟩ := marksB_iff.1 h
  refine marksB_iff.2 ⟨?_, b, by rw [List.length_take]; omega⟩
  unfold placesB at a ⊢
  rw [List.all_eq_true] at a ⊢
  exact fun x hx => a x (List.mem_of_mem_take hx)
theorem marksB_out (l : List UInt8) (ms : List (Int × Bool)) (x : Int) (b : Bool) (hx : (l.length : Int) < x) : marksB l (ms ++ [(x, b)]) = false := by
  refine marksB_0 ?_
  unfold placesB
  rw [List.all_append]
  simp [inI]
  omega
theorem Marks.take {w : World} {B n m : Nat} {A : Option Addr} {ms : List (Int × Bool)} (h : Marks w B A n ms) (hm : m ≤ n) : Marks w B A m (ms.take m) := by
  obtain ⟨h1, h2⟩ := h
  refine ⟨by rw [List.length_take]; omega, fun h0 => ?_⟩
  obtain ⟨ad, e, hb, hc⟩ := h2 (by omega)
  refine ⟨ad, e, hb, fun k p b hk => hc k p b ?_⟩
  rw [List.getElem?_take] at hk
  split at hk
  · exact hk
  · cases hk
end Go.Proofs.Ytckhhdhkchcljaa
