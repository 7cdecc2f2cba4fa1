/- Contracts of the laws' own functions on rows of strings. -/
import Derived.Test.YtppfggfmpmccpaaDoorW2
import Derived.Test.YtppfggfmpmccpaaDoorPs
import Derived.WalkSmall
import Derived.Deep.AppendLies
import Derived.OwnWalk
import Derived.RegionTactic
import Derived.BigQuiet
import Derived.Deep.QuietTactic
import Derived.Deep.RegionHeld3
import Derived.IntWalk
import Derived.Laws.IdiomStrings
namespace Go.Proofs.YtppfggfmpmccpaaDoor
open Go.RowKit

/-- A digit. -/
def digC (j : Nat) : UInt8 := UInt8.ofNat (48 + j % 10)
/-- The decimal digits of k ahead of a text. -/
def digitsB (k : Nat) (out : ByteArray) : ByteArray := if _h : k = 0 then out else digitsB (k / 10) (⟨#[digC k]⟩ ++ out)
termination_by k
decreasing_by omega
theorem digitsB_step {k : Nat} (h : 0 < k) (out : ByteArray) : digitsB k out = digitsB (k / 10) (⟨#[digC k]⟩ ++ out) := by
  rw [digitsB, dif_neg (by omega)]
theorem digitsB_end (out : ByteArray) : digitsB 0 out = out := by rw [digitsB, dif_pos rfl]
/-- markText. -/
def markT (k : Nat) : ByteArray := if k = 0 then ⟨#[109, 48]⟩ else ⟨#[109]⟩ ++ digitsB k ⟨#[]⟩
set_option maxHeartbeats 400000 in
theorem markText_any (k : Nat) (w : World) (hk : k ≤ 4194304) :
    Calls Tryd.prog 26 #[.int .i64 k] w fun e w' => e = .returned (.string (markT k)) ∧ Below w.heap.size w w' := by
  by_cases h0 : k = 0
  · subst h0
    go_enter Tryd.func26, Tryd.ntmps26
    go_wp2
    go_ret
    exact ⟨rfl, Below.refl _ _⟩
  · have hm : markT k = ⟨#[109]⟩ ++ digitsB k ⟨#[]⟩ := by unfold markT; rw [if_neg h0]
    rw [hm]
    clear hm
    go_enter Tryd.func26, Tryd.ntmps26
    go_wp2
    go_loopw [0, 3] (fun q o wr => ∃ (j : Nat) (x : ByteArray), q = .int .i64 j ∧ o = .string x ∧ x.size + j ≤ k ∧ digitsB j x = digitsB k ⟨#[]⟩ ∧ Below w.heap.size w wr) (fun q _ _ => (intOf q).toNat)
    case atStart => exact ⟨k, _, rfl, rfl, by show 0 + k ≤ k; omega, rfl, Below.refl _ _⟩
    case round =>
      obtain ⟨j, x, rfl, rfl, hx, hd, hb⟩ := hrel
      by_cases hj : 0 < j
      · have HD := Lib.hid hd
        clear hd
        have hu : ((digC j).toNat : Int) = 48 + (j : Int) % 10 := by
          unfold digC
          rw [UInt8.toNat_ofNat']
          omega
        have hcv : (convert 43 9 (.slice (some ⟨wr.heap.size, 0, none⟩) 1 1)).run Tryd.prog (wr.alloc (.cells #[.int .u8 (48 + (j : Int) % 10)] 5)) = .ok (.string ⟨#[digC j]⟩) (wr.alloc (.cells #[.int .u8 (48 + (j : Int) % 10)] 5)) :=
          run_convert_bytes_back _ _ _ 5 ⟨wr.heap.size, 0, none⟩ 1 [digC j] Tryd.underlying43 Tryd.underlying5 Tryd.underlying9 (fun i hi => by
            have : i = 0 := by simpa using hi
            subst this
            rw [show ([digC j][0]).toNat = (digC j).toNat from rfl, hu]
            exact Lib.cell_of_heap (heap_alloc_new wr _) 0)
        clear hu
        go_wp2
        go_roundw
        case rel => exact ⟨j / 10, _, rfl, rfl, by rw [ByteArray.size_append]; show 1 + x.size + j / 10 ≤ k; omega, (digitsB_step hj x).symm.trans HD.out, balloc hb _⟩
        case measure => simp [intOf]; omega
      · obtain rfl : j = 0 := by omega
        rw [digitsB_end] at hd
        subst hd
        have hsz : (digitsB k ⟨#[]⟩).size ≤ k := by omega
        go_wp2
        go_ret
        exact ⟨rfl, hb⟩
/-- What markStringS writes. -/
def markedS (k0 n : Nat) : List ByteArray := (List.range n).map fun i => markT (k0 + i)
theorem markedS_length (k0 n : Nat) : (markedS k0 n).length = n := by simp [markedS]
theorem markedS_at {k0 n k : Nat} (h : k < n) : (markedS k0 n)[k]? = some (markT (k0 + k)) := by simp [markedS, h]
set_option maxHeartbeats 400000 in
theorem eqStringS_same (A A' : Option Addr) (n c c' : Nat) (xs : List ByteArray) (w : World) (hn : n ≤ 1099511627776) (h : Strs w w.heap.size A n xs) (h' : Strs w w.heap.size A' n xs) :
    Calls Tryd.prog 10 #[.slice A n c, .slice A' n c'] w fun e w' => e = .returned (.bool true) ∧ Below w.heap.size w w' := by
  go_enter Tryd.func10, Tryd.ntmps10
  go_wp2
  go_loopw [5] (fun i wr => ∃ k : Nat, k ≤ n ∧ i = .int .i64 k ∧ Below w.heap.size w wr) (fun i _ => n - (intOf i).toNat)
  case atStart => exact ⟨0, Nat.zero_le _, rfl, Below.refl _ _⟩
  case round =>
    obtain ⟨k, hk, rfl, hbw⟩ := hrel
    by_cases hlt : k < n
    · obtain ⟨ad, x, rfl, hb, hms, hc0⟩ := (h.below hbw (Nat.le_refl _)).at_ hlt
      obtain ⟨ad', x', rfl, hb', hms', hc0'⟩ := (h'.below hbw (Nat.le_refl _)).at_ hlt
      rw [hms] at hms'
      injection hms' with hms'
      subst hms'
      clear hms
      have j1 : (k : Int) < (n : Int) := by omega
      go_wp2_with fail
      go_quiet (fail)
      go_wp2
      go_roundw
      case rel => exact ⟨k + 1, by omega, by go_num, below_drewN hbw _⟩
      case measure => simp [intOf]; omega
    · go_wp2
      go_ret
      exact ⟨rfl, hbw⟩
/-- What markStringS leaves. -/
def MarkedS (T : TypeId) (w : World) (base : Nat) (A : Option Addr) (n c : Nat) (k0 : Nat) (e : Ending) (w' : World) : Prop :=
  e = .returned (.int .i64 ((k0 + n : Nat) : Int)) ∧ OwnS T w' base A n c (markedS k0 n) ∧ Below base w w'
set_option maxHeartbeats 400000 in
theorem markStringS_any (A : Option Addr) (n c base : Nat) (xs : List Value) (k0 : Nat) (w : World) (hn : n ≤ 2097152) (h0 : k0 ≤ 1048576) (hbase : base ≤ w.heap.size) (hown : w.ownsRow base 9 1 (.slice A n c) n xs) :
    Calls Tryd.prog 11 #[.slice A n c, .int .i64 k0] w (MarkedS 9 w base A n c k0) := by
  have hlen := hown.1
  rw [← rowStr_zero (markedS k0 n) xs] at hown
  go_enter Tryd.func11, Tryd.ntmps11
  go_wp2
  go_loopw [1, 5] (fun kk i wr => ∃ k : Nat, k ≤ n ∧ i = .int .i64 k ∧ kk = .int .i64 ((k0 + k : Nat) : Int) ∧ wr.ownsRow base 9 1 (.slice A n c) n (rowStr (markedS k0 n) k xs) ∧ Below base w wr) (fun _ i _ => n - (intOf i).toNat)
  case atStart => exact ⟨0, Nat.zero_le _, rfl, rfl, hown, Below.refl _ _⟩
  case round =>
    clear hown
    obtain ⟨k, hk, rfl, rfl, hown, hbw⟩ := hrel
    have hz := hbw.size
    by_cases hlt : k < n
    · obtain ⟨g, cap, hv, hbg, hgl⟩ := hown.form (by omega)
      injection hv with hA _ hc
      subst hA hc
      have HZ := Lib.hid hlen
      clear hlen
      go_wp2_with fail
      refine (markText_any (k0 + k) _ (by omega)).mono ?_
      rintro e w1 ⟨rfl, hb1⟩
      have hown1 := owns_below hown hb1
      have q0 := hown1.cellAt k (by omega)
      obtain ⟨v0, hv0⟩ : ∃ v0, (rowStr (markedS k0 n) k xs)[k]? = some v0 := ⟨_, List.getElem?_eq_getElem (by rw [rowStr_length (by rw [markedS_length]; omega) (by have := HZ.out; omega)]; have := HZ.out; omega)⟩
      rw [hv0] at q0
      have f0 := hown1.frozenAt k
      have HM := Lib.hid (markedS_at (k0 := k0) hlt)
      clear hv0
      go_wp2
      go_roundw
      case rel => exact ⟨k + 1, by omega, by go_num, congrArg (Value.int IntKind.i64) (by omega), by rw [← rowStr_step HM.out (by have := HZ.out; omega)]; exact (hown1.stored k _).1, (hbw.trans (hb1.mono (Nat.le_trans hbase hz))).setCell hbg _⟩
      case measure => simp [intOf]; omega
    · have hkn : k = n := by omega
      subst hkn
      rw [rowStr_end (markedS_length _ _) (by omega)] at hown
      clear hlen
      go_wp2
      go_ret
      exact ⟨rfl, ⟨markedS_length _ _, hown⟩, hbw⟩
set_option maxHeartbeats 400000 in
theorem heldStringS_any (A : Option Addr) (n c : Nat) (k0 : Nat) (w : World) (hn : n ≤ 2097152) (h0 : k0 ≤ 1048576) (h : Strs w w.heap.size A n (markedS k0 n)) :
    Calls Tryd.prog 12 #[.slice A n c, .int .i64 k0] w fun e w' => e = .returned (.int .i64 ((k0 + n : Nat) : Int)) ∧ Below w.heap.size w w' := by
  go_enter Tryd.func12, Tryd.ntmps12
  go_wp2
  go_loopw [1, 5] (fun kk i wr => ∃ k : Nat, k ≤ n ∧ i = .int .i64 k ∧ kk = .int .i64 ((k0 + k : Nat) : Int) ∧ Below w.heap.size w wr) (fun _ i _ => n - (intOf i).toNat)
  case atStart => exact ⟨0, Nat.zero_le _, rfl, rfl, Below.refl _ _⟩
  case round =>
    obtain ⟨k, hk, rfl, rfl, hbw⟩ := hrel
    have hz := hbw.size
    by_cases hlt : k < n
    · obtain ⟨ad, x, rfl, hb, hms, hc0⟩ := (h.below hbw (Nat.le_refl _)).at_ hlt
      rw [markedS_at hlt] at hms
      injection hms with hms
      subst hms
      have j1 : (k : Int) < (n : Int) := by omega
      go_wp2_with fail
      go_region_held3 (fun w' => w'.cell? (ad.add k) = some (.string (markT (k0 + k))))
        (first | go_keep | exact (hb1.cell (by rw [add_block]; simp; omega)).trans hc0)
        ((go_at_call 26; (refine (markText_any (k0 + k) _ (by omega)).mono ?_); rintro e w1 ⟨rfl, hb1⟩))
      go_wp2
      go_roundw
      case rel => exact ⟨k + 1, by omega, by go_num, congrArg (Value.int IntKind.i64) (by omega), bstep (bdrew hbw) hb1⟩
      case measure => simp [intOf]; omega
    · have hkn : k = n := by omega
      subst hkn
      go_wp2
      go_ret
      exact ⟨rfl, hbw⟩
end Go.Proofs.YtppfggfmpmccpaaDoor
