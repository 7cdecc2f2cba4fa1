/- Contracts of LinesOf. -/
import Derived.Test.YtecejfcoognkiaaDoorW9
import Derived.Test.YtecejfcoognkiaaDoorW15
import Derived.Test.YtecejfcoognkiaaDoorW24
import Derived.Test.YtecejfcoognkiaaDoorPi
import Derived.Test.YtecejfcoognkiaaDoorSh
import Derived.Deep.AppendLies
namespace Go.Proofs.YtecejfcoognkiaaDoor
open Go.RowKit

/-- What a call leaves that makes strings. -/
def MadeS (T : TypeId) (w : World) (xs : List ByteArray) (e : Ending) (w' : World) : Prop := ∃ (A : Option Addr) (n c : Nat), e = .returned (.slice A n c) ∧ OwnS T w' w.heap.size A n c xs ∧ Below w.heap.size w w'
theorem tv_small {s : ByteArray} (h : tvB s.data.toList = true) : s.size ≤ 120 := tv_size h
theorem linesOf_any (s : ByteArray) (m : Int) (w : World) (hs : s.size < 4294967281) (hm : w.cell? ⟨0, 0, none⟩ = some (.int .i64 m)) :
    Calls Tryd.prog 29 #[.string s] w (MadeS 9 w (linesB s)) := by
  go_enter Tryd.func29, Tryd.ntmps29
  go_wp2_with fail
  refine (Tryd.strings_Split s ⟨#[10]⟩ m _ hs hm (by decide)).mono ?_
  rintro e w1 ⟨rfl, rfl⟩
  rw [splitB_eq, countB_nl]
  have hl := linesB_length s
  have hn := nlc_le s.data.toList
  have hsl : s.data.toList.length = s.size := rfl
  go_wp2
  go_ret
  refine ⟨_, _, _, rfl, ⟨hl, ?_⟩, balloc (Below.refl _ _) _⟩
  have := World.ownsRow_lit (base := w.heap.size) (e := 9) (size := 1) w ((linesB s).map Value.string).toArray (nlc s.data.toList + 1) (Nat.le_refl _) (by unfold maxLen; omega) (by simp [hl])
  exact this
theorem implLinesOf_any (s : ByteArray) (m : Int) (w : World) (hs : s.size < 4294967281) (hm : w.cell? ⟨0, 0, none⟩ = some (.int .i64 m)) :
    Calls Tryd.prog 9 #[.string s] w (MadeS 9 w (linesR s)) := by
  have hsm : s.size ≤ maxLen := by unfold maxLen; omega
  cases ht : tvB s.data.toList
  · rw [linesR_0 ht]
    have H := Lib.hid ht
    clear ht
    go_enter Tryd.func9, Tryd.ntmps9
    go_wp2_with (go_at_call 26; refine (implTextValid_any _ _ hsm).mono ?_; rw [H.out]; rintro e w' ⟨rfl, rfl⟩)
    go_ret
    exact ⟨_, _, _, rfl, ⟨rfl, World.ownsRow_nil _ _ _ _⟩, Below.refl _ _⟩
  · rw [linesR_1 ht]
    have H := Lib.hid ht
    clear ht
    go_enter Tryd.func9, Tryd.ntmps9
    go_wp2_with (first | (go_at_call 26; refine (implTextValid_any _ _ hsm).mono ?_; rw [H.out]; rintro e w' ⟨rfl, rfl⟩) | fail)
    refine (linesOf_any s m _ hs hm).mono ?_
    rintro e w1 ⟨A, n, c, rfl, ho, hb⟩
    go_wp2
    go_ret
    exact ⟨A, n, c, rfl, ho, hb⟩
theorem strInfo : (Tryd.prog.info? 9).map (fun i => (i.zero, i.size, i.bytes)) = some (some (.string ⟨#[]⟩), 1, 16) := by kernel_rfl
set_option maxHeartbeats 800000 in
theorem specLinesOf_any (s : ByteArray) (w : World) (hs : s.size ≤ 1099511627776) :
    Calls Tryd.prog 11 #[.string s] w (MadeS 9 w (linesR s)) := by
  have hsm : s.size ≤ maxLen := by unfold maxLen; omega
  obtain ⟨i0, hi, hi0, hi1, hi2⟩ := info_parts strInfo
  have hown0 := owns_empty w w.heap.size 9 1 (Nat.le_refl _)
  cases ht : tvB s.data.toList
  · rw [linesR_0 ht]
    have H := Lib.hid (lineManyI_0 ht)
    clear ht
    go_enter Tryd.func11, Tryd.ntmps11
    go_wp2
    refine wp_loop_rounds 1 ?_
    rw [rounds_succ]
    go_wp2_with (go_at_call 30; refine (specLineMany_any _ _ hsm).mono ?_; rw [H.out]; rintro e w' ⟨rfl, rfl⟩)
    go_ret
    exact ⟨_, _, _, rfl, ⟨rfl, hown0⟩, balloc (Below.refl _ _) _⟩
  · rw [linesR_1 ht]
    have HT := Lib.hid ht
    have H := Lib.hid (lineManyI_1 ht)
    have hl := linesB_length s
    have hn := nlc_le s.data.toList
    have hsl : s.data.toList.length = s.size := rfl
    have hsz := tv_size ht
    obtain ⟨N, hN⟩ : ∃ N, nlc s.data.toList = N := ⟨_, rfl⟩
    rw [hN] at H hl hn
    have HN := Lib.hid hN
    clear ht hN
    go_enter Tryd.func11, Tryd.ntmps11
    go_wp2
    go_loopw [3, 4] (fun o i wr => ∃ (k c' : Nat) (A' : Option Addr), k ≤ N + 1 ∧ i = .int .i64 k ∧ o = .slice A' k c' ∧ OwnS 9 wr w.heap.size A' k c' ((linesB s).take k) ∧ Below w.heap.size w wr) (fun _ i _ => N + 1 - (intOf i).toNat)
    case atStart => exact ⟨0, 0, _, Nat.zero_le _, rfl, rfl, ⟨rfl, hown0⟩, balloc (Below.refl _ _) _⟩
    case round =>
      clear hown0
      obtain ⟨k, c', A', hk, rfl, rfl, hown, hbw⟩ := hrel
      have hz := hbw.size
      by_cases hlt : k < N + 1
      · obtain ⟨a, ha⟩ : ∃ a, startN s.data.toList k = some a := startN_some (by have := HN.out; omega)
        have ha1 : a ≤ s.data.toList.length := (isStart_of ha).1
        have hq := nlAt_le (s.data.toList.drop a)
        rw [List.length_drop] at hq
        have hS := lineStartI_1 (n := (k : Int)) HT.out (by omega) (by simpa using ha)
        have hE := lineEndI_1 hS
        have HM := Lib.hid (linesB_at ha)
        obtain ⟨q, hqe⟩ : ∃ q, nlAt (s.data.toList.drop a) = q := ⟨_, rfl⟩
        rw [hqe] at hE hq HM
        have HS := Lib.hid hS
        have HE := Lib.hid (hE.trans (show (a : Int) + q = ((a + q : Nat) : Int) by omega))
        clear hS hE ha hqe
        have j1 : a ≤ a + q := by omega
        have j2 : a + q ≤ s.size := by omega
        go_wp2_with (first | (go_at_call 30; refine (specLineMany_any _ _ hsm).mono ?_; rw [H.out]; rintro e w' ⟨rfl, rfl⟩) | (go_at_call 31; refine (specLineStart_any _ _ _ hsm).mono ?_; rw [HS.out]; rintro e w' ⟨rfl, rfl⟩) | (go_at_call 32; refine (specLineEnd_any _ _ _ hsm).mono ?_; rw [HE.out]; rintro e w' ⟨rfl, rfl⟩) | (at_builtin; refine wpList_append_lies _ rfl _ _ 24 rfl w.heap.size 9 i0 _ 1 16 Tryd.underlying24 hi hi0 hi1 hi2 rfl (by decide) _ _ _ rfl (hown.2.alloc _) ⟨wr.heap.size, 0, none⟩ 1 1 [.string (s.extract a (a + q))] rfl rfl (World.news_of_block (cs := #[.string (s.extract a (a + q))]) (t := 9) (fr := (0, 0)) (heap_alloc_new wr _)) (by simp [Value.oneCell']) (by omega) (by unfold maxLen; omega) (by omega) (by simp; omega) (wr.heap.size + 1) (by simp) ?_; intro gg cap w3 hown3 hgrow3 hat3 hlt3))
        go_roundw
        case rel => exact ⟨k + 1, cap, some ⟨gg, 0, none⟩, by omega, by go_num, rfl, ⟨by rw [List.length_take, hl]; omega, by rw [List.take_add_one, HM.out, strCells_append]; exact hown3⟩, (balloc hbw _).grown hgrow3 (by simp; omega) (fun i hi => (hown.2.lt i hi).1)⟩
        case measure => simp [intOf]; omega
      · have hkn : k = N + 1 := by omega
        subst hkn
        rw [List.take_of_length_le (by omega)] at hown
        go_wp2_with (first | (go_at_call 30; refine (specLineMany_any _ _ hsm).mono ?_; rw [H.out]; rintro e w' ⟨rfl, rfl⟩) | fail)
        go_ret
        exact ⟨A', _, c', rfl, hown, hbw⟩
end Go.Proofs.YtecejfcoognkiaaDoor
