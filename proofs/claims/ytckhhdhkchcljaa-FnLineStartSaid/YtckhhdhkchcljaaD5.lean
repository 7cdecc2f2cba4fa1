/- What the drawing functions leave: gaps, places, changes. -/
import Derived.Test.YtckhhdhkchcljaaD3
import Derived.Test.YtckhhdhkchcljaaD4
import Derived.Test.YtckhhdhkchcljaaPb
namespace Go.Proofs.Ytckhhdhkchcljaa
open Go.RowKit

/-- What a function that draws a gap leaves. -/
def DGapV (w : World) (e : Ending) (w' : World) : Prop := ∃ a b : ByteArray, e = .returned (.agg #[.string a, .string b]) ∧ a.size + b.size ≤ 130 ∧ Below w.heap.size w w'
/-- What a function that draws a text and a place leaves. -/
def DSpotV (w : World) (e : Ending) (w' : World) : Prop := ∃ (s : ByteArray) (p : Int), e = .returned (.tuple #[.string s, .int .i64 p]) ∧ s.size ≤ 125 ∧ Below w.heap.size w w'
theorem DrawLineOf_any (A : Option Addr) (n c : Nat) (w : World) (h : Byt w w.heap.size A n) (hnc : n ≤ c) (hc : c ≤ maxLen) :
    Calls Try.prog 30 #[.slice A n c] w (DSpotV w) := by
  go_enter Try.func30, Try.ntmps30
  go_wp2_with fail
  refine (open_any _ _ _ _ h hnc hc).mono ?_
  rintro e w1 ⟨r, rfl, hr, hrd, hb1⟩
  go_wp2_with fail
  refine (spot_draw _ _ _ hrd (by omega)).mono ?_
  rintro e w2 ⟨s, p, rfl, hs, hrd2, hg2⟩
  go_wp2
  go_ret2
  exact ⟨s, p, rfl, hs, brd hb1 hg2 hr⟩
theorem DrawColumnOf_any (A : Option Addr) (n c : Nat) (w : World) (h : Byt w w.heap.size A n) (hnc : n ≤ c) (hc : c ≤ maxLen) :
    Calls Try.prog 45 #[.slice A n c] w (DSpotV w) := by
  go_enter Try.func45, Try.ntmps45
  go_wp2_with fail
  refine (open_any _ _ _ _ h hnc hc).mono ?_
  rintro e w1 ⟨r, rfl, hr, hrd, hb1⟩
  go_wp2_with fail
  refine (spot_draw _ _ _ hrd (by omega)).mono ?_
  rintro e w2 ⟨s, p, rfl, hs, hrd2, hg2⟩
  go_wp2
  go_ret2
  exact ⟨s, p, rfl, hs, brd hb1 hg2 hr⟩
end Go.Proofs.Ytckhhdhkchcljaa
