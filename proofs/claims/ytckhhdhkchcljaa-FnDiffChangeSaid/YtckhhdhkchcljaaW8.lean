/- Contracts of DiffChange. -/
import Derived.Test.YtckhhdhkchcljaaW2
import Derived.BigRegion
import Derived.Deep.QuietTactic
import Derived.BigQuiet
import Derived.Deep.DeepCutAuto
import Derived.Deep.CutBlock
import Derived.IntWalk
namespace Go.Proofs.Ytckhhdhkchcljaa
open Go.RowKit

set_option maxHeartbeats 1000000 in
theorem specDiffChange_good (a b : ByteArray) (w : World) (hta : tvB a.data.toList = true) (htb : tvB b.data.toList = true) :
    Calls Try.prog 22 #[.string a, .string b] w fun e w' => e = .returned (changeV (diffG a.data.toList b.data.toList)) ∧ Below w.heap.size w w' := by
  have ha1 := tv_size hta
  have hb1 := tv_size htb
  have ha : a.size ≤ maxLen := by unfold maxLen; omega
  have hb : b.size ≤ maxLen := by unfold maxLen; omega
  have HA := Lib.hid hta
  have HB := Lib.hid htb
  clear hta htb
  go_enter Try.func22, Try.ntmps22
  go_upto_block 0 with (go_at_call 23; refine (specTextValid_any _ _ (by assumption)).mono ?_; (first | rw [HA.out] | rw [HB.out]); rintro e w' ⟨rfl, rfl⟩)
  go_cut [5] (fun s5 wx => ∃ k q : Nat, s5 = .int .i64 k ∧ IsPre a b k ∧ wx = (w.alloc (.cells #[.int .i64 0, .int .i64 0, .string ⟨#[]⟩] 24)).drewN q)
  case first =>
    go_wp2_with fail
    go_loopw [5] (fun s5 wr => ∃ k q : Nat, s5 = .int .i64 k ∧ EqPre a b k ∧ wr = (w.alloc (.cells #[.int .i64 0, .int .i64 0, .string ⟨#[]⟩] 24)).drewN q) (fun s5 _ => a.size - (intOf s5).toNat)
    case atStart => exact ⟨0, 0, rfl, EqPre.zero _ _, rfl⟩
    case round =>
      obtain ⟨k, q, rfl, hp, rfl⟩ := hrel
      have hk1 := hp.1
      have hk2 := hp.2.1
      by_cases h1 : k < a.size
      · by_cases h2 : k < b.size
        · go_wp2_with fail
          go_quiet (fail)
          go_wp2
          · go_roundw
            case rel => exact ⟨k + 1, _, by go_num, hp.step h1 h2 (eq_of_beq ‹((a[k].toNat : Int) == (b[k].toNat : Int)) = true›), rfl⟩
            case measure => simp [intOf]; omega
          · go_meet
            exact ⟨k, q + nq, rfl, hp.stop h1 h2 (ne_of_beq_false ‹((a[k].toNat : Int) == (b[k].toNat : Int)) = false›), by simp⟩
        · have hd : decide ((k : Int) < (b.size : Int)) = false := by simpa using h2
          go_wp2_with fail
          go_quiet (fail)
          go_wp2
          go_meet
          exact ⟨k, q + nq, rfl, hp.end_ (by omega), by simp⟩
      · have hd : decide ((k : Int) < (a.size : Int)) = false := by simpa using h1
        go_wp2_with fail
        go_quiet (fail)
        go_wp2
        go_meet
        exact ⟨k, q + nq, rfl, hp.end_ (by omega), by simp⟩
  case rest =>
    obtain ⟨k, q, rfl, hk, rfl⟩ := hcut
    obtain ⟨hk1, hk2⟩ := hk.le
    go_upto_block 2 with fail
    go_cut [6] (fun s6 wx => ∃ m q : Nat, s6 = .int .i64 m ∧ IsSuf a b k m ∧ wx = (w.alloc (.cells #[.int .i64 0, .int .i64 0, .string ⟨#[]⟩] 24)).drewN q)
    case first =>
      go_wp2_with fail
      go_loopw [6] (fun s6 wr => ∃ m q : Nat, s6 = .int .i64 m ∧ EqSuf a b k m ∧ wr = (w.alloc (.cells #[.int .i64 0, .int .i64 0, .string ⟨#[]⟩] 24)).drewN q) (fun s6 _ => a.size - (intOf s6).toNat)
      case atStart => exact ⟨0, q, rfl, EqSuf.zero hk1 hk2, rfl⟩
      case round =>
        obtain ⟨m, q, rfl, hp, rfl⟩ := hrel
        have hm1 := hp.1
        have hm2 := hp.2.1
        by_cases h1 : k + m < a.size
        · by_cases h2 : k + m < b.size
          · have e1 : IntKind.i64.wrap ((a.size : Int) - (k : Int)) = (a.size : Int) - (k : Int) := IntWalk.i64_in _ (by omega)
            have e2 : IntKind.i64.wrap ((b.size : Int) - (k : Int)) = (b.size : Int) - (k : Int) := IntWalk.i64_in _ (by omega)
            have e3 : IntKind.i64.wrap ((a.size : Int) - 1) = (a.size : Int) - 1 := IntWalk.i64_in _ (by omega)
            have e4 : IntKind.i64.wrap ((b.size : Int) - 1) = (b.size : Int) - 1 := IntWalk.i64_in _ (by omega)
            have e5 : IntKind.i64.wrap ((a.size : Int) - 1 - (m : Int)) = (a.size : Int) - 1 - (m : Int) := IntWalk.i64_in _ (by omega)
            have e6 : IntKind.i64.wrap ((b.size : Int) - 1 - (m : Int)) = (b.size : Int) - 1 - (m : Int) := IntWalk.i64_in _ (by omega)
            have f5 : ((a.size : Int) - 1 - (m : Int)).toNat = a.size - 1 - m := by omega
            have f6 : ((b.size : Int) - 1 - (m : Int)).toNat = b.size - 1 - m := by omega
            have g5 : 0 ≤ (a.size : Int) - 1 - (m : Int) := by omega
            have g6 : 0 ≤ (b.size : Int) - 1 - (m : Int) := by omega
            have j5 : (m : Int) ≤ (a.size : Int) - 1 := by omega
            have j6 : (m : Int) ≤ (b.size : Int) - 1 := by omega
            have i5 : (a.size : Int) - 1 - (m : Int) < (a.size : Int) := by omega
            have i6 : (b.size : Int) - 1 - (m : Int) < (b.size : Int) := by omega
            have hd1 : decide ((m : Int) < (a.size : Int) - (k : Int)) = true := by simp; omega
            have hd2 : decide ((m : Int) < (b.size : Int) - (k : Int)) = true := by simp; omega
            go_wp2_with fail
            go_quiet (fail)
            go_wp2
            · clear e1 e2 e3 e4 e5 e6 hd1 hd2
              go_roundw
              case rel => exact ⟨m + 1, _, by go_num, hp.step h1 h2 (eq_of_beq ‹((a[a.size - 1 - m].toNat : Int) == (b[b.size - 1 - m].toNat : Int)) = true›), rfl⟩
              case measure => simp [intOf]; omega
            · clear e1 e2 e3 e4 e5 e6 hd1 hd2
              go_meet
              exact ⟨m, q + nq, rfl, hp.stop h1 h2 (ne_of_beq_false ‹((a[a.size - 1 - m].toNat : Int) == (b[b.size - 1 - m].toNat : Int)) = false›), by simp⟩
          · have e1 : IntKind.i64.wrap ((a.size : Int) - (k : Int)) = (a.size : Int) - (k : Int) := IntWalk.i64_in _ (by omega)
            have e2 : IntKind.i64.wrap ((b.size : Int) - (k : Int)) = (b.size : Int) - (k : Int) := IntWalk.i64_in _ (by omega)
            have hd1 : decide ((m : Int) < (a.size : Int) - (k : Int)) = true := by simp; omega
            have hd : decide ((m : Int) < (b.size : Int) - (k : Int)) = false := by simp; omega
            go_wp2_with fail
            go_quiet (fail)
            go_wp2
            clear e1 e2 hd1 hd
            go_meet
            exact ⟨m, q + nq, rfl, hp.end_ (by omega), by simp⟩
        · have e1 : IntKind.i64.wrap ((a.size : Int) - (k : Int)) = (a.size : Int) - (k : Int) := IntWalk.i64_in _ (by omega)
          have hd : decide ((m : Int) < (a.size : Int) - (k : Int)) = false := by simp; omega
          go_wp2_with fail
          go_quiet (fail)
          go_wp2
          clear e1 hd
          go_meet
          exact ⟨m, q + nq, rfl, hp.end_ (by omega), by simp⟩
    case rest =>
      obtain ⟨m, q, rfl, hm, rfl⟩ := hcut
      obtain ⟨hm1, hm2⟩ := hm.le hk1 hk2
      have HD := Lib.hid (diffG_of hk hm)
      clear hk hm
      go_wp2_with fail
      refine bodyPost_ret (v := .agg #[.int .i64 k, .int .i64 ((a.size : Int) - k - m), .string (b.extract k (b.size - m))]) (by simp [results, Try.results22, go_sem]) rfl ⟨?_, (by repeat (first | exact Below.refl _ _ | assumption | (refine bstep ?_ (by assumption)) | refine balloc ?_ _ | refine bdrew ?_ | refine bdrewN ?_ _ | refine bset ?_ (by first | (simp; done) | (simp; omega)) _))⟩
      rw [HD.out, extract_mid]
      rfl
set_option maxHeartbeats 1000000 in
theorem implDiffChange_good1 (a b : ByteArray) (w : World) (hta : tvB a.data.toList = true) (htb : tvB b.data.toList = true) (hmin : (a.size : Int) ≤ b.size) :
    Calls Try.prog 21 #[.string a, .string b] w fun e w' => e = .returned (changeV (diffG a.data.toList b.data.toList)) ∧ Below w.heap.size w w' := by
  have ha1 := tv_size hta
  have hb1 := tv_size htb
  have ha : a.size ≤ maxLen := by unfold maxLen; omega
  have hb : b.size ≤ maxLen := by unfold maxLen; omega
  have HA := Lib.hid hta
  have HB := Lib.hid htb
  clear hta htb
  go_enter Try.func21, Try.ntmps21
  go_upto_block 0 with (go_at_call 57; refine (implTextValid_any _ _ (by assumption)).mono ?_; (first | rw [HA.out] | rw [HB.out]); rintro e w' ⟨rfl, rfl⟩)
  go_cut [5] (fun s5 wx => ∃ k q : Nat, s5 = .int .i64 k ∧ IsPre a b k ∧ wx = (w.alloc (.cells #[.int .i64 0, .int .i64 0, .string ⟨#[]⟩] 24)).drewN q)
  case first =>
    go_wp2_with fail
    go_loopw [5] (fun s5 wr => ∃ k q : Nat, s5 = .int .i64 k ∧ EqPre a b k ∧ wr = (w.alloc (.cells #[.int .i64 0, .int .i64 0, .string ⟨#[]⟩] 24)).drewN q) (fun s5 _ => a.size - (intOf s5).toNat)
    case atStart => exact ⟨0, 0, rfl, EqPre.zero _ _, rfl⟩
    case round =>
      obtain ⟨k, q, rfl, hp, rfl⟩ := hrel
      have hk1 := hp.1
      have hk2 := hp.2.1
      by_cases h1 : k < a.size
      · have h1a : k < a.size := by omega
        have h1b : k < b.size := by omega
        go_wp2_with fail
        go_quiet (fail)
        go_wp2
        · go_roundw
          case rel => exact ⟨k + 1, _, by go_num, hp.step (by omega) (by omega) (eq_of_beq ‹((a[k].toNat : Int) == (b[k].toNat : Int)) = true›), rfl⟩
          case measure => simp [intOf]; omega
        · go_meet
          exact ⟨k, q + nq, rfl, hp.stop (by omega) (by omega) (ne_of_beq_false ‹((a[k].toNat : Int) == (b[k].toNat : Int)) = false›), by simp⟩
      · have hd : decide ((k : Int) < (a.size : Int)) = false := by simpa using h1
        go_wp2_with fail
        go_quiet (fail)
        go_wp2
        go_meet
        exact ⟨k, q + nq, rfl, hp.end_ (by omega), by simp⟩
  case rest =>
    obtain ⟨k, q, rfl, hk, rfl⟩ := hcut
    obtain ⟨hk1, hk2⟩ := hk.le
    go_upto_block 2 with fail
    go_cut [6] (fun s6 wx => ∃ m q : Nat, s6 = .int .i64 m ∧ IsSuf a b k m ∧ wx = (w.alloc (.cells #[.int .i64 0, .int .i64 0, .string ⟨#[]⟩] 24)).drewN q)
    case first =>
      go_wp2_with fail
      go_loopw [6] (fun s6 wr => ∃ m q : Nat, s6 = .int .i64 m ∧ EqSuf a b k m ∧ wr = (w.alloc (.cells #[.int .i64 0, .int .i64 0, .string ⟨#[]⟩] 24)).drewN q) (fun s6 _ => a.size - (intOf s6).toNat)
      case atStart => exact ⟨0, q, rfl, EqSuf.zero hk1 hk2, rfl⟩
      case round =>
        obtain ⟨m, q, rfl, hp, rfl⟩ := hrel
        have hm1 := hp.1
        have hm2 := hp.2.1
        by_cases h1 : k + m < a.size
        · have h1a : k + m < a.size := by omega
          have h1b : k + m < b.size := by omega
          have e1 : IntKind.i64.wrap ((a.size : Int) - (k : Int)) = (a.size : Int) - (k : Int) := IntWalk.i64_in _ (by omega)
          have e3 : IntKind.i64.wrap ((a.size : Int) - 1) = (a.size : Int) - 1 := IntWalk.i64_in _ (by omega)
          have e4 : IntKind.i64.wrap ((b.size : Int) - 1) = (b.size : Int) - 1 := IntWalk.i64_in _ (by omega)
          have e5 : IntKind.i64.wrap ((a.size : Int) - 1 - (m : Int)) = (a.size : Int) - 1 - (m : Int) := IntWalk.i64_in _ (by omega)
          have e6 : IntKind.i64.wrap ((b.size : Int) - 1 - (m : Int)) = (b.size : Int) - 1 - (m : Int) := IntWalk.i64_in _ (by omega)
          have f5 : ((a.size : Int) - 1 - (m : Int)).toNat = a.size - 1 - m := by omega
          have f6 : ((b.size : Int) - 1 - (m : Int)).toNat = b.size - 1 - m := by omega
          have g5 : 0 ≤ (a.size : Int) - 1 - (m : Int) := by omega
          have g6 : 0 ≤ (b.size : Int) - 1 - (m : Int) := by omega
          have j5 : (m : Int) ≤ (a.size : Int) - 1 := by omega
          have j6 : (m : Int) ≤ (b.size : Int) - 1 := by omega
          have i5 : (a.size : Int) - 1 - (m : Int) < (a.size : Int) := by omega
          have i6 : (b.size : Int) - 1 - (m : Int) < (b.size : Int) := by omega
          have hd1 : decide ((m : Int) < (a.size : Int) - (k : Int)) = true := by simp; omega
          go_wp2_with fail
          go_quiet (fail)
          go_wp2
          · clear e1 e3 e4 e5 e6 hd1
            go_roundw
            case rel => exact ⟨m + 1, _, by go_num, hp.step h1a h1b (eq_of_beq ‹((a[a.size - 1 - m].toNat : Int) == (b[b.size - 1 - m].toNat : Int)) = true›), rfl⟩
            case measure => simp [intOf]; omega
          · clear e1 e3 e4 e5 e6 hd1
            go_meet
            exact ⟨m, q + nq, rfl, hp.stop h1a h1b (ne_of_beq_false ‹((a[a.size - 1 - m].toNat : Int) == (b[b.size - 1 - m].toNat : Int)) = false›), by simp⟩
        · have e1 : IntKind.i64.wrap ((a.size : Int) - (k : Int)) = (a.size : Int) - (k : Int) := IntWalk.i64_in _ (by omega)
          have hd : decide ((m : Int) < (a.size : Int) - (k : Int)) = false := by simp; omega
          go_wp2_with fail
          go_quiet (fail)
          go_wp2
          clear e1 hd
          go_meet
          exact ⟨m, q + nq, rfl, hp.end_ (by omega), by simp⟩
    case rest =>
      obtain ⟨m, q, rfl, hm, rfl⟩ := hcut
      obtain ⟨hm1, hm2⟩ := hm.le hk1 hk2
      have HD := Lib.hid (diffG_of hk hm)
      clear hk hm
      go_wp2_with fail
      refine bodyPost_ret (v := .agg #[.int .i64 k, .int .i64 ((a.size : Int) - m - k), .string (b.extract k (b.size - m))]) (by simp [results, Try.results21, go_sem]) rfl ⟨?_, (by repeat (first | exact Below.refl _ _ | assumption | (refine bstep ?_ (by assumption)) | refine balloc ?_ _ | refine bdrew ?_ | refine bdrewN ?_ _ | refine bset ?_ (by first | (simp; done) | (simp; omega)) _))⟩
      rw [HD.out, extract_mid]
      unfold changeV
      rw [show (a.size : Int) - m - k = (a.size : Int) - k - m from by omega]
set_option maxHeartbeats 1000000 in
theorem implDiffChange_good2 (a b : ByteArray) (w : World) (hta : tvB a.data.toList = true) (htb : tvB b.data.toList = true) (hmin : (b.size : Int) < a.size) :
    Calls Try.prog 21 #[.string a, .string b] w fun e w' => e = .returned (changeV (diffG a.data.toList b.data.toList)) ∧ Below w.heap.size w w' := by
  have ha1 := tv_size hta
  have hb1 := tv_size htb
  have ha : a.size ≤ maxLen := by unfold maxLen; omega
  have hb : b.size ≤ maxLen := by unfold maxLen; omega
  have HA := Lib.hid hta
  have HB := Lib.hid htb
  clear hta htb
  go_enter Try.func21, Try.ntmps21
  go_upto_block 0 with (go_at_call 57; refine (implTextValid_any _ _ (by assumption)).mono ?_; (first | rw [HA.out] | rw [HB.out]); rintro e w' ⟨rfl, rfl⟩)
  go_cut [5] (fun s5 wx => ∃ k q : Nat, s5 = .int .i64 k ∧ IsPre a b k ∧ wx = (w.alloc (.cells #[.int .i64 0, .int .i64 0, .string ⟨#[]⟩] 24)).drewN q)
  case first =>
    go_wp2_with fail
    go_loopw [5] (fun s5 wr => ∃ k q : Nat, s5 = .int .i64 k ∧ EqPre a b k ∧ wr = (w.alloc (.cells #[.int .i64 0, .int .i64 0, .string ⟨#[]⟩] 24)).drewN q) (fun s5 _ => a.size - (intOf s5).toNat)
    case atStart => exact ⟨0, 0, rfl, EqPre.zero _ _, rfl⟩
    case round =>
      obtain ⟨k, q, rfl, hp, rfl⟩ := hrel
      have hk1 := hp.1
      have hk2 := hp.2.1
      by_cases h1 : k < b.size
      · have h1a : k < a.size := by omega
        have h1b : k < b.size := by omega
        go_wp2_with fail
        go_quiet (fail)
        go_wp2
        · go_roundw
          case rel => exact ⟨k + 1, _, by go_num, hp.step (by omega) (by omega) (eq_of_beq ‹((a[k].toNat : Int) == (b[k].toNat : Int)) = true›), rfl⟩
          case measure => simp [intOf]; omega
        · go_meet
          exact ⟨k, q + nq, rfl, hp.stop (by omega) (by omega) (ne_of_beq_false ‹((a[k].toNat : Int) == (b[k].toNat : Int)) = false›), by simp⟩
      · have hd : decide ((k : Int) < (b.size : Int)) = false := by simpa using h1
        go_wp2_with fail
        go_quiet (fail)
        go_wp2
        go_meet
        exact ⟨k, q + nq, rfl, hp.end_ (by omega), by simp⟩
  case rest =>
    obtain ⟨k, q, rfl, hk, rfl⟩ := hcut
    obtain ⟨hk1, hk2⟩ := hk.le
    go_upto_block 2 with fail
    go_cut [6] (fun s6 wx => ∃ m q : Nat, s6 = .int .i64 m ∧ IsSuf a b k m ∧ wx = (w.alloc (.cells #[.int .i64 0, .int .i64 0, .string ⟨#[]⟩] 24)).drewN q)
    case first =>
      go_wp2_with fail
      go_loopw [6] (fun s6 wr => ∃ m q : Nat, s6 = .int .i64 m ∧ EqSuf a b k m ∧ wr = (w.alloc (.cells #[.int .i64 0, .int .i64 0, .string ⟨#[]⟩] 24)).drewN q) (fun s6 _ => a.size - (intOf s6).toNat)
      case atStart => exact ⟨0, q, rfl, EqSuf.zero hk1 hk2, rfl⟩
      case round =>
        obtain ⟨m, q, rfl, hp, rfl⟩ := hrel
        have hm1 := hp.1
        have hm2 := hp.2.1
        by_cases h1 : k + m < b.size
        · have h1a : k + m < a.size := by omega
          have h1b : k + m < b.size := by omega
          have e1 : IntKind.i64.wrap ((b.size : Int) - (k : Int)) = (b.size : Int) - (k : Int) := IntWalk.i64_in _ (by omega)
          have e3 : IntKind.i64.wrap ((a.size : Int) - 1) = (a.size : Int) - 1 := IntWalk.i64_in _ (by omega)
          have e4 : IntKind.i64.wrap ((b.size : Int) - 1) = (b.size : Int) - 1 := IntWalk.i64_in _ (by omega)
          have e5 : IntKind.i64.wrap ((a.size : Int) - 1 - (m : Int)) = (a.size : Int) - 1 - (m : Int) := IntWalk.i64_in _ (by omega)
          have e6 : IntKind.i64.wrap ((b.size : Int) - 1 - (m : Int)) = (b.size : Int) - 1 - (m : Int) := IntWalk.i64_in _ (by omega)
          have f5 : ((a.size : Int) - 1 - (m : Int)).toNat = a.size - 1 - m := by omega
          have f6 : ((b.size : Int) - 1 - (m : Int)).toNat = b.size - 1 - m := by omega
          have g5 : 0 ≤ (a.size : Int) - 1 - (m : Int) := by omega
          have g6 : 0 ≤ (b.size : Int) - 1 - (m : Int) := by omega
          have j5 : (m : Int) ≤ (a.size : Int) - 1 := by omega
          have j6 : (m : Int) ≤ (b.size : Int) - 1 := by omega
          have i5 : (a.size : Int) - 1 - (m : Int) < (a.size : Int) := by omega
          have i6 : (b.size : Int) - 1 - (m : Int) < (b.size : Int) := by omega
          have hd1 : decide ((m : Int) < (b.size : Int) - (k : Int)) = true := by simp; omega
          go_wp2_with fail
          go_quiet (fail)
          go_wp2
          · clear e1 e3 e4 e5 e6 hd1
            go_roundw
            case rel => exact ⟨m + 1, _, by go_num, hp.step h1a h1b (eq_of_beq ‹((a[a.size - 1 - m].toNat : Int) == (b[b.size - 1 - m].toNat : Int)) = true›), rfl⟩
            case measure => simp [intOf]; omega
          · clear e1 e3 e4 e5 e6 hd1
            go_meet
            exact ⟨m, q + nq, rfl, hp.stop h1a h1b (ne_of_beq_false ‹((a[a.size - 1 - m].toNat : Int) == (b[b.size - 1 - m].toNat : Int)) = false›), by simp⟩
        · have e1 : IntKind.i64.wrap ((b.size : Int) - (k : Int)) = (b.size : Int) - (k : Int) := IntWalk.i64_in _ (by omega)
          have hd : decide ((m : Int) < (b.size : Int) - (k : Int)) = false := by simp; omega
          go_wp2_with fail
          go_quiet (fail)
          go_wp2
          clear e1 hd
          go_meet
          exact ⟨m, q + nq, rfl, hp.end_ (by omega), by simp⟩
    case rest =>
      obtain ⟨m, q, rfl, hm, rfl⟩ := hcut
      obtain ⟨hm1, hm2⟩ := hm.le hk1 hk2
      have HD := Lib.hid (diffG_of hk hm)
      clear hk hm
      go_wp2_with fail
      refine bodyPost_ret (v := .agg #[.int .i64 k, .int .i64 ((a.size : Int) - m - k), .string (b.extract k (b.size - m))]) (by simp [results, Try.results21, go_sem]) rfl ⟨?_, (by repeat (first | exact Below.refl _ _ | assumption | (refine bstep ?_ (by assumption)) | refine balloc ?_ _ | refine bdrew ?_ | refine bdrewN ?_ _ | refine bset ?_ (by first | (simp; done) | (simp; omega)) _))⟩
      rw [HD.out, extract_mid]
      unfold changeV
      rw [show (a.size : Int) - m - k = (a.size : Int) - k - m from by omega]
theorem specDiffChange_any (a b : ByteArray) (w : World) (ha : a.size ≤ maxLen) (hb : b.size ≤ maxLen) :
    Calls Try.prog 22 #[.string a, .string b] w fun e w' => e = .returned (changeV (diffR a.data.toList b.data.toList)) ∧ Below w.heap.size w w' := by
  cases hta : tvB a.data.toList
  · rw [diffR_0 (.inl hta)]
    have HA := Lib.hid hta
    clear hta
    go_enter Try.func22, Try.ntmps22
    go_wp2_with (go_at_call 23; refine (specTextValid_any _ _ ha).mono ?_; rw [HA.out]; rintro e w' ⟨rfl, rfl⟩)
    go_returns
    exact ⟨rfl, (by repeat (first | exact Below.refl _ _ | assumption | (refine bstep ?_ (by assumption)) | refine balloc ?_ _ | refine bdrew ?_ | refine bdrewN ?_ _ | refine bset ?_ (by first | (simp; done) | (simp; omega)) _))⟩
  · cases htb : tvB b.data.toList
    · rw [diffR_0 (.inr htb)]
      have HA := Lib.hid hta
      have HB := Lib.hid htb
      clear hta htb
      go_enter Try.func22, Try.ntmps22
      go_wp2_with (go_at_call 23; refine (specTextValid_any _ _ (by assumption)).mono ?_; (first | rw [HA.out] | rw [HB.out]); rintro e w' ⟨rfl, rfl⟩)
      go_returns
      exact ⟨rfl, (by repeat (first | exact Below.refl _ _ | assumption | (refine bstep ?_ (by assumption)) | refine balloc ?_ _ | refine bdrew ?_ | refine bdrewN ?_ _ | refine bset ?_ (by first | (simp; done) | (simp; omega)) _))⟩
    · rw [diffR_1 hta htb]
      exact specDiffChange_good a b w hta htb
theorem implDiffChange_any (a b : ByteArray) (w : World) (ha : a.size ≤ maxLen) (hb : b.size ≤ maxLen) :
    Calls Try.prog 21 #[.string a, .string b] w fun e w' => e = .returned (changeV (diffR a.data.toList b.data.toList)) ∧ Below w.heap.size w w' := by
  cases hta : tvB a.data.toList
  · rw [diffR_0 (.inl hta)]
    have HA := Lib.hid hta
    clear hta
    go_enter Try.func21, Try.ntmps21
    go_wp2_with (go_at_call 57; refine (implTextValid_any _ _ ha).mono ?_; rw [HA.out]; rintro e w' ⟨rfl, rfl⟩)
    go_returns
    exact ⟨rfl, (by repeat (first | exact Below.refl _ _ | assumption | (refine bstep ?_ (by assumption)) | refine balloc ?_ _ | refine bdrew ?_ | refine bdrewN ?_ _ | refine bset ?_ (by first | (simp; done) | (simp; omega)) _))⟩
  · cases htb : tvB b.data.toList
    · rw [diffR_0 (.inr htb)]
      have HA := Lib.hid hta
      have HB := Lib.hid htb
      clear hta htb
      go_enter Try.func21, Try.ntmps21
      go_wp2_with (go_at_call 57; refine (implTextValid_any _ _ (by assumption)).mono ?_; (first | rw [HA.out] | rw [HB.out]); rintro e w' ⟨rfl, rfl⟩)
      go_returns
      exact ⟨rfl, (by repeat (first | exact Below.refl _ _ | assumption | (refine bstep ?_ (by assumption)) | refine balloc ?_ _ | refine bdrew ?_ | refine bdrewN ?_ _ | refine bset ?_ (by first | (simp; done) | (simp; omega)) _))⟩
    · rw [diffR_1 hta htb]
      exact if h : (b.size : Int) < a.size then implDiffChange_good2 a b w hta htb h else implDiffChange_good1 a b w hta htb (by omega)
end Go.Proofs.Ytckhhdhkchcljaa
