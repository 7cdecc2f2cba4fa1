/- Rows of strings appended to rows of strings; the reference's CutLines. -/
import Derived.Test.YtppfggfmpmccpaaDoorW25
import Derived.Test.YtppfggfmpmccpaaDoorW26
import Derived.Test.YtppfggfmpmccpaaDoorPj
import Derived.Test.YtppfggfmpmccpaaDoorD13
import Derived.Deep.RegionHeld3
import Derived.IntWalk
namespace Go.Proofs.YtppfggfmpmccpaaDoor
open Go.RowKit

/-- append of strings to an owned row of strings. -/
theorem run_append_strs {P : Program} {w : World} (t ty T : TypeId) (i : TypeInfo) (z : Value) (ht : P.underlying t = some (.slice T)) (hi : P.info? T = some i) (hz : i.zero = some z) (hs1 : i.size = 1) (hb16 : i.bytes = 16) (hzs : z.cells.size = 1)
    (base n0 c0 : Nat) (A0 : Option Addr) (xs : List ByteArray) (hown : OwnS T w base A0 n0 c0 xs) (A : Option Addr) (m c B : Nat) (ys : List ByteArray) (hm : Strs w B A m ys) (hsum : n0 + m ≤ 4194304) (hbase : base ≤ w.heap.size) :
    ∃ A' c' w', (Builtin.append_ #[t, t] ty #[.slice A0 n0 c0, .slice A m c]).run P w = .ok (.slice A' (n0 + m) c') w' ∧ OwnS T w' base A' (n0 + m) c' (xs ++ ys) ∧ w.grownBy w' (Value.slice A0 n0 c0).ownBlock := by
  have hxl := hown.1
  cases A with
  | none =>
    have h0 : m = 0 := by
      rcases Nat.eq_zero_or_pos m with h0 | h0
      · exact h0
      · obtain ⟨ad, he, _⟩ := hm.2 (by omega)
        cases he
    subst h0
    have hys : ys = [] := List.eq_nil_of_length_eq_zero hm.1
    subst hys
    exact ⟨A0, c0, w, run_append_nil t ty T i ht hi _ base 1 n0 c _ hown.2, by rw [List.append_nil]; exact hown, World.grownBy.refl _ _⟩
  | some ad =>
    have hl := hm.1
    have f1 : ∀ j u, (strCells ys)[j]? = some u → w.cell? (ad.add j) = some u := fun j u hj => by
      have hlt : j < (strCells ys).length := (List.getElem?_eq_some_iff.1 hj).1
      rw [strCells_length] at hlt
      obtain ⟨ad', x, he, _, hx, hc⟩ := hm.at_ (show j < m by omega)
      injection he with he
      subst he
      have := strCells_at hx
      rw [hj] at this
      rw [hc, this]
    obtain ⟨v', w', h1, h2, h3, _, _⟩ := run_append_own_at (P := P) w base t ty T i z 1 16 ht hi hz hs1 hb16 hzs (by decide) _ n0 _ hown.2 ad m c (strCells ys) (by rw [strCells_length, hl, Nat.mul_one]) f1 strCells_one (by unfold maxLen; omega) (by omega) hbase
    have h2' : w'.ownsRow base T 1 v' (n0 + m) (strCells (xs ++ ys)) := by rw [strCells_append]; exact h2
    rcases h2'.2 with ⟨hv, h0⟩ | ⟨g, cap, _, hv, _⟩
    · subst hv
      have e0 : n0 + m = 0 := h0
      refine ⟨none, 0, w', by rw [h1, e0], ⟨by rw [List.length_append]; omega, ?_⟩, h3⟩
      rw [e0] at h2' ⊢
      exact h2'
    · subst hv
      exact ⟨_, cap, w', h1, ⟨by rw [List.length_append]; omega, h2'⟩, h3⟩
/-- The same at a step of a region that draws its order. -/
theorem step_append_strs {P : Program} {w : World} {ops : Array Oper} {o : Oper} {a : Act} {K : Act → World → Prop} {Q : Exit → Act → World → Prop} {E : Prop} (hgd : o.guard = none) (s x : Operand) (t : TypeId)
    (ho : o.op = .call { callee := .builtin .append, args := #[s, x], argTypes := #[t, t] })
    (T : TypeId) (i : TypeInfo) (z : Value) (ht : P.underlying t = some (.slice T)) (hi : P.info? T = some i) (hz : i.zero = some z) (hs1 : i.size = 1) (hb16 : i.bytes = 16) (hzs : z.cells.size = 1)
    (base n0 c0 : Nat) (A0 : Option Addr) (xs : List ByteArray) (hs : a.eval s = .slice A0 n0 c0) (hown : OwnS T w base A0 n0 c0 xs) (A : Option Addr) (m c B : Nat) (ys : List ByteArray) (hx : a.eval x = .slice A m c) (hm : Strs w B A m ys) (hsum : n0 + m ≤ 4194304) (hbase : base ≤ w.heap.size)
    (q : Nat) (hq : n0 + m = q) (zs : List ByteArray) (hzz : xs ++ ys = zs) (h : ∀ A' c' w', OwnS T w' base A' q c' zs → w.grownBy w' (Value.slice A0 n0 c0).ownBlock → K (a.put o.dst (.slice A' q c')) w') :
    if Region.wanted o (yielded ops a.tmps) = true then Oper.wp P o a w K Q else E := by
  subst hq hzz
  have hw : Region.wanted o (yielded ops a.tmps) = true := by simp [Region.wanted, hgd]
  rw [if_pos hw]
  obtain ⟨A', c', w', hr, h2, h3⟩ := run_append_strs (P := P) (w := w) t o.type T i z ht hi hz hs1 hb16 hzs base n0 c0 A0 xs hown A m c B ys hm hsum hbase
  unfold Oper.wp execOp
  simp only [ho, resolve, invoke, builtin, Sem.run_bind, Sem.run_pure, Result.andThen_ok, List.map_toArray, List.map_cons, List.map_nil, hs, hx, hr]
  exact h A' c' w' h2 h3
/-- The same at a plain region's list. -/
theorem wpList_append_strs {P : Program} {w : World} {ops : Array Oper} {rest : List Oper} {o : Oper} {a : Act} {Q : Exit → Act → World → Prop} (hgd : o.guard = none) (s x : Operand) (t : TypeId)
    (ho : o.op = .call { callee := .builtin .append, args := #[s, x], argTypes := #[t, t] })
    (T : TypeId) (i : TypeInfo) (z : Value) (ht : P.underlying t = some (.slice T)) (hi : P.info? T = some i) (hz : i.zero = some z) (hs1 : i.size = 1) (hb16 : i.bytes = 16) (hzs : z.cells.size = 1)
    (base n0 c0 : Nat) (A0 : Option Addr) (xs : List ByteArray) (hs : a.eval s = .slice A0 n0 c0) (hown : OwnS T w base A0 n0 c0 xs) (A : Option Addr) (m c B : Nat) (ys : List ByteArray) (hx : a.eval x = .slice A m c) (hm : Strs w B A m ys) (hsum : n0 + m ≤ 4194304) (hbase : base ≤ w.heap.size)
    (q : Nat) (hq : n0 + m = q) (zs : List ByteArray) (hzz : xs ++ ys = zs) (h : ∀ A' c' w', OwnS T w' base A' q c' zs → w.grownBy w' (Value.slice A0 n0 c0).ownBlock → wpList P ops Q rest (a.put o.dst (.slice A' q c')) w') : wpList P ops Q (o :: rest) a w := by
  subst hq hzz
  refine wpList_plain hgd fun K hK => ?_
  obtain ⟨A', c', w', hr, h2, h3⟩ := run_append_strs (P := P) (w := w) t o.type T i z ht hi hz hs1 hb16 hzs base n0 c0 A0 xs hown A m c B ys hm hsum hbase
  unfold Oper.wp execOp
  simp only [ho, resolve, invoke, builtin, Sem.run_bind, Sem.run_pure, Result.andThen_ok, List.map_toArray, List.map_cons, List.map_nil, hs, hx, hr]
  exact hK _ _ (h A' c' w' h2 h3)
theorem Strs.kept {w w' : World} {B n : Nat} {A : Option Addr} {xs : List ByteArray} {row : Option Nat} (h : Strs w B A n xs) (hg : w.grownBy w' row) (hB : B ≤ w.heap.size) (hr : ∀ g, row = some g → B ≤ g) : Strs w' B A n xs := by
  refine ⟨h.1, fun hn => ?_⟩
  obtain ⟨ad, rfl, hlt, hc⟩ := h.2 hn
  exact ⟨ad, rfl, hlt, fun k x hk => (hg.cell_far (ad.add k) (by rw [add_block]; omega) (fun e => by rw [add_block] at e; have := hr _ e.symm; omega)).trans (hc k x hk)⟩
theorem Strs.take {w : World} {B n k : Nat} {A : Option Addr} {xs : List ByteArray} (h : Strs w B A n xs) (hk : k ≤ n) : Strs w B A k (xs.take k) := by
  have hl := h.1
  refine ⟨by rw [List.length_take]; omega, fun hn => ?_⟩
  obtain ⟨ad, rfl, hlt, hc⟩ := h.2 (by omega)
  refine ⟨ad, rfl, hlt, fun j x hj => hc j x ?_⟩
  have hjl := (List.getElem?_eq_some_iff.1 hj).1
  rw [List.length_take] at hjl
  rwa [List.getElem?_take, if_pos (by omega)] at hj
theorem Strs.drop {w : World} {B n k : Nat} {ad : Addr} {xs : List ByteArray} (h : Strs w B (some ad) n xs) (hk : k ≤ n) : Strs w B (some (ad.add k)) (n - k) (xs.drop k) := by
  have hl := h.1
  refine ⟨by rw [List.length_drop]; omega, fun hn => ?_⟩
  obtain ⟨ad', he, hlt, hc⟩ := h.2 (by omega)
  injection he with he
  subst he
  refine ⟨_, rfl, by rw [add_block]; exact hlt, fun j x hj => ?_⟩
  rw [List.getElem?_drop] at hj
  rw [add_add]
  exact hc _ _ hj
theorem Strs.zero {w : World} {B m : Nat} {A : Option Addr} {xs : List ByteArray} (hm : m = 0) (h : xs.length = 0) : Strs w B A m xs := by
  subst hm
  rw [List.eq_nil_of_length_eq_zero h]
  exact strs_nil _ _ _
theorem Strs.none {w : World} {B : Nat} {A : Option Addr} {xs : List ByteArray} {k : Nat} (h : xs.length = k) : Strs w B A 0 (xs.drop k) := by
  rw [List.drop_of_length_le (by omega)]
  exact strs_nil _ _ _
set_option maxRecDepth 100000 in
set_option maxHeartbeats 1600000 in
theorem specCutLines_any (s : ByteArray) (f m : Int) (w : World) (hs : s.size ≤ 1099511627776) (hf : -9223372036854775808 ≤ f ∧ f ≤ 9223372036854775807) (hm0 : -9223372036854775808 ≤ m ∧ m ≤ 9223372036854775807) :
    Calls Tryd.prog 13 #[.string s, .int .i64 f, .int .i64 m] w fun e w' => e = .returned (strBoolV (cutR s.data.toList f m)) ∧ Below w.heap.size w w' := by
  cases ht : tvB s.data.toList
  · rw [cutR_0 ht]
    have H := Lib.hid (linesR_0 ht)
    clear ht
    go_enter Tryd.func13, Tryd.ntmps13
    go_wp2_with fail
    refine (specLinesOf_any s _ hs).mono ?_
    rw [H.out]
    rintro e w1 ⟨A, n, c, rfl, ho, hb⟩
    obtain rfl : 0 = n := ho.1
    clear ho
    go_wp2
    go_ret2
    exact ⟨rfl, hb⟩
  · have hl := linesB_length s
    have hn := nlc_le s.data.toList
    have hsl : s.data.toList.length = s.size := rfl
    have hsz := tv_size ht
    obtain ⟨N, hN⟩ : ∃ N, nlc s.data.toList = N := ⟨_, rfl⟩
    rw [hN] at hl hn
    have HT := Lib.hid ht
    have HL := Lib.hid (linesR_1 ht)
    obtain ⟨i0, hi, hz0, hz1, hz2⟩ := info_parts strInfo
    go_enter Tryd.func13, Tryd.ntmps13
    go_wp2_with fail
    refine (specLinesOf_any s _ hs).mono ?_
    rw [HL.out]
    rintro e w1 ⟨A, n, c, rfl, ho, hb⟩
    obtain rfl : n = N + 1 := ho.1.symm.trans hl
    cases h1 : inI f 0 (N : Int)
    · have hR := cutR_1 (f := f) (m := m) ht (.inl (by rw [hN]; exact h1))
      have HR := Lib.hid hR
      have H1 := Lib.hid h1
      clear hR h1 ht hN
      go_wp2_with (go_at_call 16; refine (l1In_any _ _ _ _).mono ?_; rw [H1.out]; rintro e w' ⟨rfl, rfl⟩)
      go_ret2
      exact ⟨by rw [HR.out]; rfl, hb⟩
    · obtain ⟨a1, a2⟩ := by simpa [inI] using h1
      obtain ⟨F, rfl⟩ := Int.eq_ofNat_of_zero_le a1
      cases h2 : inI m 1 ((N : Int) + 1 - F)
      · have hR := cutR_1 (f := F) (m := m) ht (.inr (by rw [hN]; exact h2))
        have HR := Lib.hid hR
        have H1 := Lib.hid h1
        have H2 := Lib.hid h2
        clear hR h1 h2 ht hN
        go_wp2_with (first | (go_at_call 16; refine (l1In_any _ _ _ _).mono ?_; rw [H1.out]; rintro e w' ⟨rfl, rfl⟩) | (go_at_call 16; refine (l1In_any _ _ _ _).mono ?_; rw [H2.out]; rintro e w' ⟨rfl, rfl⟩))
        go_ret2
        exact ⟨by rw [HR.out]; rfl, hb⟩
      · obtain ⟨b1, b2⟩ := by simpa [inI] using h2
        obtain ⟨M, rfl⟩ := Int.eq_ofNat_of_zero_le (show 0 ≤ m by omega)
        have hR := cutR_2 (f := F) (m := M) ht (by rw [hN]; exact h1) (by rw [hN]; exact h2)
        rw [show ((F : Int)).toNat = F by omega, show ((F : Int) + (M : Int)).toNat = F + M by omega] at hR
        have hT := cut_text ht F (F + M) (by omega)
        have hD : datas ((linesB s).take F ++ (linesB s).drop (F + M)) = (linesL s.data.toList).take F ++ (linesL s.data.toList).drop (F + M) := by
          have : (linesB s).map (·.data.toList) = linesL s.data.toList := by
            unfold linesB
            rw [List.map_map]
            exact List.map_id'' (fun x => mk_data x) _
          unfold datas
          rw [List.map_append, List.map_take, List.map_drop, this]
        have hX : ∀ x ∈ (linesB s).take F ++ (linesB s).drop (F + M), x.size ≤ 1099511627776 := fun x hx => by
          have hm : x ∈ linesB s := by
            rcases List.mem_append.1 hx with hx | hx
            · exact List.mem_of_mem_take hx
            · exact List.mem_of_mem_drop hx
          obtain ⟨y, hy, rfl⟩ := List.mem_map.1 hm
          have h1 := joinL_mem_len _ _ hy
          rw [joinL_lines] at h1
          rw [mk_size]
          omega
        have HR := Lib.hid hR
        have HTX := Lib.hid hT
        have HD := Lib.hid hD
        have HX := Lib.hid hX
        have H1 := Lib.hid h1
        have H2 := Lib.hid h2
        obtain ⟨g, c2, hv, hbg, hgl⟩ := ho.2.form (by omega)
        injection hv with hA _ hc
        subst hA hc
        have hcap : N + 1 ≤ c := owns_cap ho.2
        have hst := ho.strs
        have e1 : IntKind.i64.wrap ((F : Int) + (M : Int)) = ((F + M : Nat) : Int) := by
          rw [show ((F + M : Nat) : Int) = (F : Int) + M by omega]
          exact IntWalk.i64_in _ (by omega)
        clear hR h1 h2 ht hN hT hD hX
        go_wp2_with (first | (go_at_call 16; refine (l1In_any _ _ _ _).mono ?_; rw [H1.out]; rintro e w' ⟨rfl, rfl⟩) | (go_at_call 16; refine (l1In_any _ _ _ _).mono ?_; rw [H2.out]; rintro e w' ⟨rfl, rfl⟩) | fail)
        have hF0 : (0 : Int) ≤ (F : Int) := by omega
        have hF1 : (F : Int) ≤ (c : Int) := by omega
        have hF2 : F ≤ c := by omega
        have hFM0 : (0 : Int) ≤ (F : Int) + (M : Int) := by omega
        have hFM1 : (F : Int) + (M : Int) ≤ (N : Int) + 1 := by omega
        have hFM2 : ((F : Int) + (M : Int)).toNat = F + M := by omega
        have hFM3 : F + M ≤ N + 1 := by omega
        have e2 : IntKind.i64.wrap ((F : Int) + (M : Int)) = (F : Int) + (M : Int) := IntWalk.i64_in _ (by omega)
        have how := owns_empty w1 w.heap.size 9 1 hb.size
        have HW := Lib.hid how
        clear how e1
        have hs1 : Strs (w1.alloc (.cells #[] 9)).drew w1.heap.size (some ⟨g, 0, none⟩) F ((linesB s).take F) := (Strs.below hst (bdrew (balloc (Below.refl _ _) (.cells #[] 9))) (Nat.le_refl _)).take (by omega)
        have HS1 := Lib.hid hs1
        have hs2 : ∀ w2, (w1.alloc (.cells #[] 9)).drew.grownBy w2 (some w1.heap.size) → Strs w2 w1.heap.size (some ⟨g, 0, none⟩) (N + 1) (linesB s) := fun w2 hg =>
          Strs.kept (row := some w1.heap.size) (Strs.below hst (bdrew (balloc (Below.refl _ _) (.cells #[] 9))) (Nat.le_refl _) : Strs (w1.alloc (.cells #[] 9)).drew w1.heap.size (some ⟨g, 0, none⟩) (N + 1) (linesB s)) hg (by simp) (fun g' e => by injection e with e; omega)
        have HS2 := Lib.hid hs2
        have hbig : F ≤ 120 ∧ N ≤ 120 := by omega
        clear hs1 hs2
        have hz2' : ∀ w2, (w1.alloc (.cells #[] 9)).drew.grownBy w2 (some w1.heap.size) → w.heap.size ≤ w2.heap.size := fun w2 hg => by
          have h1 := hg.size
          have h2 := hb.size
          have h3 : (w1.alloc (.cells #[] 9)).drew.heap.size = w1.heap.size + 1 := World.size_alloc _ _
          omega
        have HZ2 := Lib.hid hz2'
        clear hz2'
        by_cases hcFM : c = F + M
        · have hF4 : (F : Int) ≤ (F : Int) + (M : Int) := by omega
          go_region_held3 (fun _ => True) (trivial)
            ((first
              | ((refine step_append_strs rfl (.tmp 30) (.tmp 33) 25 rfl 9 i0 _ Tryd.underlying25 hi hz0 hz1 hz2 rfl w.heap.size 0 0 (some ⟨w1.heap.size, 0, none⟩) [] (by rfl) ⟨rfl, HW.out⟩ (some ⟨g, 0, none⟩) F _ w1.heap.size ((linesB s).take F) (by rfl) HS1.out (by omega) (by simp; omega) F (Nat.zero_add F) ((linesB s).take F) rfl ?_); intro A2 c2 w2 ho2 hg2)
              | ((refine step_append_strs rfl (.tmp 34) (.tmp 39) 25 rfl 9 i0 _ Tryd.underlying25 hi hz0 hz1 hz2 rfl w.heap.size F c2 A2 ((linesB s).take F) (by rfl) ho2 (some ⟨g, 0, none⟩) (N + 1 - (F + M)) _ w1.heap.size ((linesB s).drop (F + M)) (by rfl) (Strs.zero (by omega) (by rw [List.length_drop]; omega)) (by omega) (HZ2.out _ hg2) (N + 1 - M) (by omega) ((linesB s).take F ++ (linesB s).drop (F + M)) rfl ?_); intro A3 c3 w3 ho3 hg3)
              | (go_at_call 17; (refine (specLinesText_any A3 (N + 1 - M) c3 _ _ (by omega) HX.out ho3.strs).mono ?_); rw [HD.out, HTX.out]; rintro e w4 ⟨rfl, rfl⟩)))
          go_wp2
          go_ret2
          refine ⟨by rw [HR.out]; rfl, ?_⟩
          have hbx : Below w.heap.size w (w1.alloc (.cells #[] 9)).drew := bdrew (balloc hb _)
          exact (hbx.grown (row := some w1.heap.size) hg2 hbx.size (fun i hi => by cases hi; exact hb.size)).grown hg3 (HZ2.out _ hg2) (fun i hi => (ho2.2.lt i hi).1)
        · have hs3 : Hid (∀ w2, (w1.alloc (.cells #[] 9)).drew.grownBy w2 (some w1.heap.size) → Strs w2 w1.heap.size (some ⟨g, F + M, none⟩) (N + 1 - (F + M)) ((linesB s).drop (F + M))) := Lib.hid fun w2 hg => by
            have := (HS2.out w2 hg).drop (k := F + M) (by omega)
            rwa [add_zero_off] at this
          go_region_held3 (fun _ => True) (trivial)
            ((first
              | ((refine step_append_strs rfl (.tmp 30) (.tmp 33) 25 rfl 9 i0 _ Tryd.underlying25 hi hz0 hz1 hz2 rfl w.heap.size 0 0 (some ⟨w1.heap.size, 0, none⟩) [] (by rfl) ⟨rfl, HW.out⟩ (some ⟨g, 0, none⟩) F _ w1.heap.size ((linesB s).take F) (by rfl) HS1.out (by omega) (by simp; omega) F (Nat.zero_add F) ((linesB s).take F) rfl ?_); intro A2 c2 w2 ho2 hg2)
              | ((refine step_append_strs rfl (.tmp 34) (.tmp 39) 25 rfl 9 i0 _ Tryd.underlying25 hi hz0 hz1 hz2 rfl w.heap.size F c2 A2 ((linesB s).take F) (by rfl) ho2 (some ⟨g, F + M, none⟩) (N + 1 - (F + M)) _ w1.heap.size ((linesB s).drop (F + M)) (by rfl) (hs3.out w2 hg2) (by omega) (HZ2.out _ hg2) (N + 1 - M) (by omega) ((linesB s).take F ++ (linesB s).drop (F + M)) rfl ?_); intro A3 c3 w3 ho3 hg3)
              | (go_at_call 17; (refine (specLinesText_any A3 (N + 1 - M) c3 _ _ (by omega) HX.out ho3.strs).mono ?_); rw [HD.out, HTX.out]; rintro e w4 ⟨rfl, rfl⟩)))
          go_wp2
          go_ret2
          refine ⟨by rw [HR.out]; rfl, ?_⟩
          have hbx : Below w.heap.size w (w1.alloc (.cells #[] 9)).drew := bdrew (balloc hb _)
          exact (hbx.grown (row := some w1.heap.size) hg2 hbx.size (fun i hi => by cases hi; exact hb.size)).grown hg3 (HZ2.out _ hg2) (fun i hi => (ho2.2.lt i hi).1)
end Go.Proofs.YtppfggfmpmccpaaDoor
