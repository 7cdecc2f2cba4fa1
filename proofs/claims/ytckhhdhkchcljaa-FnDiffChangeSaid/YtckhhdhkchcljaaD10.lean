/- What the drawing functions leave: two texts. -/
import Derived.Test.YtckhhdhkchcljaaD6
import Derived.Test.YtckhhdhkchcljaaW6
import Derived.Test.YtckhhdhkchcljaaPf
namespace Go.Proofs.Ytckhhdhkchcljaa
open Go.RowKit

/-- What a function that draws two texts leaves. -/
def DTwoV (w : World) (e : Ending) (w' : World) : Prop := ∃ a b : ByteArray, e = .returned (.tuple #[.string a, .string b]) ∧ a.size ≤ 125 ∧ b.size ≤ 125 ∧ Below w.heap.size w w'
theorem applyR_size (l : List UInt8) (a c : Int) (p : List UInt8) (h : l.length ≤ 125) : (applyR l a c p).1.length ≤ 125 := by
  cases hf : fitsB l a c p
  · cases ht : tvB l
    · rw [applyR_0 ht]
      exact Nat.zero_le _
    · rw [applyR_1 ht hf]
      exact h
  · rw [applyR_2 hf]
    have := tvB_len (out_tv hf)
    show (outL l a c p).length ≤ 125
    omega
set_option maxHeartbeats 400000 in
theorem DrawDiffChange_any (A : Option Addr) (n c : Nat) (w : World) (h : Byt w w.heap.size A n) (hnc : n ≤ c) (hc : c ≤ maxLen) :
    Calls Try.prog 20 #[.slice A n c] w (DTwoV w) := by
  go_enter Try.func20, Try.ntmps20
  go_wp2_with fail
  refine (open_any _ _ _ _ h hnc hc).mono ?_
  rintro e w1 ⟨r, rfl, hr, hrd, hb1⟩
  go_wp2_with fail
  refine (text_draw _ _ _ _ hrd (by omega)).mono ?_
  rintro e w2 ⟨s, rfl, hs, hr2, hg2⟩
  have hb2 := brd hb1 hg2 hr
  go_wp2_with fail
  refine (pick_any r _ _ _ hr2 (by omega)).mono ?_
  rintro e w3 ⟨K, rfl, hK0, _, hr3, hg3⟩
  have hb3 := brd hb2 hg3 hr
  by_cases h0 : K = 0
  · subst h0
    go_wp2_with fail
    refine (text_draw _ _ _ _ hr3 (by omega)).mono ?_
    rintro e w4 ⟨t, rfl, ht, hr4, hg4⟩
    go_wp2
    go_ret2
    exact ⟨s, t, rfl, hs, ht, brd hb3 hg4 hr⟩
  · have h0' : (K == 0) = false := by simpa using h0
    go_wp2_with fail
    refine (change_draw _ _ s _ _ hr3 (by omega) (by omega)).mono ?_
    rintro e w4 ⟨x, y, p, rfl, hp, hr4, hg4⟩
    have hz := applyR_size s.data.toList x y p.data.toList (show s.data.toList.length ≤ 125 from hs)
    obtain ⟨X, hX⟩ : ∃ X, applyR s.data.toList x y p.data.toList = X := ⟨_, rfl⟩
    have HX := Lib.hid (congrArg strBoolV hX)
    rw [hX] at hz
    clear hX
    go_wp2_with fail
    with_reducible refine (specApplyChange_any s x y p _ (by omega)).mono ?_
    rw [HX.out, show strBoolV X = .tuple #[.string (mk X.1), .bool X.2] from rfl]
    rintro e w5 ⟨rfl, hb5⟩
    go_wp2
    go_ret2
    exact ⟨s, mk X.1, rfl, hs, hz, bstep (brd hb3 hg4 hr) hb5⟩
end Go.Proofs.Ytckhhdhkchcljaa
