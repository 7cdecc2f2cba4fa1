/- Contracts of LinesOf. -/
import Derived.Test.YtckhhdhkchcljaaDoorW9
import Derived.Test.YtckhhdhkchcljaaDoorW15
import Derived.Test.YtckhhdhkchcljaaDoorW24
import Derived.Test.YtckhhdhkchcljaaDoorPi
import Derived.Test.YtckhhdhkchcljaaDoorSh
import Derived.Deep.AppendLies
namespace Go.Proofs.YtckhhdhkchcljaaDoor
open Go.RowKit

/-- What a call leaves that makes strings. -/
def MadeS (T : TypeId) (w : World) (xs : List ByteArray) (e : Ending) (w' : World) : Prop := ∃ (A : Option Addr) (n c : Nat), e = .returned (.slice A n c) ∧ OwnS T w' w.heap.size A n c xs ∧ Below w.heap.size w w'
theorem tv_small {s : ByteArray} (h : tvB s.data.toList = true) : s.size ≤ 120 := tv_size h
theorem linesOf_any (s : ByteArray) (m : Int) (w : World) (hs : s.size < 4294967281) (hm : w.cell? ⟨0, 0, none⟩ = some (.int .i64 m)) :
    Calls Tryd.prog 14 #[.string s] w (MadeS 9 w (linesB s)) := by
  go_enter Tryd.func14, Tryd.ntmps14
  go_wp2_with fail
  refine (Tryd.strings_Split s ⟨#[10]⟩ m _ hs hm (by decide)).mono ?_
  rintro e w1 ⟨rfl, rfl⟩
  rw [splitB_eq, countB_nl]
  have hl := linesB_length s
  have hn := nlc_le s.data.toList
  have hsl : s.data.toList.length = s.size := rfl
  go_wp2
  go_ret
  refine ⟨_, _, _, rfl, ⟨hl, ?_⟩, balloc (Below.refl _ _) _⟩
  have := World.ownsRow_lit (base := w.heap.size) (e := 9) (size := 1) w ((linesB s).map Value.string).toArray (nlc s.data.toList + 1) (Nat.le_refl _) (by unfold maxLen; omega) (by simp [hl])
  exact this
theorem implLinesOf_any (s : ByteArray) (m : Int) (w : World) (hs : s.size < 4294967281) (hm : w.cell? ⟨0, 0, none⟩ = some (.int .i64 m)) :
    Calls Tryd.prog 8 #[.string s] w (MadeS 9 w (linesR s)) := by
  have hsm : s.size ≤ maxLen := by unfold maxLen; omega
  cases ht : tvB s.data.toList
  · rw [linesR_0 ht]
    have H := Lib.hid ht
    clear ht
    go_enter Tryd.func8, Tryd.ntmps8
    go_wp2_with (go_at_call 11; refine (implTextValid_any _ _ hsm).mono ?_; rw [H.out]; rintro e w' ⟨rfl, rfl⟩)
    go_ret
    exact ⟨_, _, _, rfl, ⟨rfl, World.ownsRow_nil _ _ _ _⟩, Below.refl _ _⟩
  · rw [linesR_1 ht]
    have H := Lib.hid ht
    clear ht
    go_enter Tryd.func8, Tryd.ntmps8
    go_wp2_with (first | (go_at_call 11; refine (implTextValid_any _ _ hsm).mono ?_; rw [H.out]; rintro e w' ⟨rfl, rfl⟩) | fail)
    refine (linesOf_any s m _ hs hm).mono ?_
    rintro e w1 ⟨A, n, c, rfl, ho, hb⟩
    go_wp2
    go_ret
    exact ⟨A, n, c, rfl, ho, hb⟩
end Go.Proofs.YtckhhdhkchcljaaDoor
