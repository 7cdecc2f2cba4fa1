/- Contracts of PutLines. -/
import Derived.Test.YtecejfcoognkiaaDoorW25
import Derived.Test.YtecejfcoognkiaaDoorW26
import Derived.Test.YtecejfcoognkiaaDoorW31
import Derived.Test.YtecejfcoognkiaaDoorPu
import Derived.Test.YtecejfcoognkiaaDoorSi
import Derived.Lib.LazyBuf
import Derived.WalkSmall
import Derived.IntWalk
namespace Go.Proofs.YtecejfcoognkiaaDoor
open Go.RowKit Go.Lib
theorem size_setCells (b : Nat) : ∀ (vs : List Value) (o : Nat) (w : World), (w.setCells b o vs).heap.size = w.heap.size
  | [], _, _ => rfl
  | v :: vs, o, w => by
    rw [World.setCells, size_setCells b vs]
    simp [World.setCell]
/-- What Insert leaves. -/
def InsV (w : World) (zs : List ByteArray) (e : Ending) (w' : World) : Prop :=
  ∃ c', e = .returned (.slice (some ⟨w.heap.size, 0, none⟩) zs.length c') ∧ zs.length ≤ c' ∧ (∀ (k : Nat) x, zs[k]? = some x → w'.cell? ⟨w.heap.size, 0 + k, none⟩ = some (.string x)) ∧ w.heap.size < w'.heap.size ∧ Below w.heap.size w w'
theorem insertS_any (T : TypeId) (w : World) (base g gv n i m vc : Nat) (xs ys : List ByteArray) (h : OwnS T w base (some ⟨g, 0, none⟩) n n xs) (hv : Strs w w.heap.size (some ⟨gv, 0, none⟩) m ys) (hi : i ≤ n) (hn : 0 < n) (hm : 0 < m) (hbig : n + m ≤ 4194304) :
    Calls Tryd.prog 42 #[.slice (some ⟨g, 0, none⟩) n n, .int .i64 i, .slice (some ⟨gv, 0, none⟩) m vc] w (InsV w (xs.take i ++ ys ++ xs.drop i)) := by
  have hxl := h.1
  have hyl := hv.1
  have hcx : (strCells xs).length = n := by rw [strCells_length, hxl]
  have hcy : (strCells ys).length = m := by rw [strCells_length, hyl]
  have hxs : ∀ j v, (strCells xs)[j]? = some v → w.cell? ⟨g, 0 + j, none⟩ = some v := fun j v hj => by
    have hlt := (List.getElem?_eq_some_iff.1 hj).1
    rw [Nat.zero_add, h.2.cellAt j (by omega)]
    exact hj
  have hys : ∀ j v, (strCells ys)[j]? = some v → w.cell? ⟨gv, 0 + j, none⟩ = some v := fun j v hj => by
    have hlt := (List.getElem?_eq_some_iff.1 hj).1
    obtain ⟨ad, x, he, _, hx, hc⟩ := hv.at_ (show j < m by omega)
    injection he with he
    subst he
    have := strCells_at hx
    rw [hj] at this
    rw [Nat.zero_add, ← add_zero_off, hc, this]
  have hzl : (xs.take i ++ ys ++ xs.drop i).length = n + m := by
    rw [List.length_append, List.length_append, List.length_take, List.length_drop]
    omega
  by_cases hin : i < n
  · refine (Any2.slices_Insert_string_grow ins_lays g 0 n n i gv 0 m vc (strCells xs) (strCells ys) w hin hm (Nat.le_refl _) (by omega) (by omega) hcx hcy hxs hys strCells_one strCells_one).mono ?_
    rintro e w' ⟨rfl, rfl⟩
    obtain ⟨G, hG⟩ : ∃ G, grownCap w (n + m) n (ins_ren.t 9) = G := ⟨_, rfl⟩
    have hge := grownCap_ge w (n + m) n (ins_ren.t 9)
    rw [hG] at hge ⊢
    obtain ⟨ROW, hROW⟩ : ∃ ROW : Array Value, ((strCells xs).take i).toArray ++ Builtin.zeroCells (Value.string ⟨#[]⟩).cells (n + m - i) ++ Builtin.zeroCells (Value.string ⟨#[]⟩).cells (G - (n + m)) = ROW := ⟨_, rfl⟩
    rw [hROW]
    have hRl : n + m ≤ ROW.size := by
      rw [← hROW]
      simp [Builtin.zeroCells, Value.cells]
      omega
    have hhead : ∀ k, k < i → ROW[k]? = (strCells xs)[k]? := fun k hk => by
      rw [← hROW, Array.append_assoc, Array.getElem?_append_left (by simp; omega)]
      simp [hk]
    obtain ⟨W1, hW1⟩ : ∃ W1, (w.alloc (.cells ROW (ins_ren.t 9))).drew = W1 := ⟨_, rfl⟩
    rw [hW1]
    have hcell1 : ∀ k, W1.cell? ⟨w.heap.size, k, none⟩ = ROW[k]? := fun k => by
      rw [← hW1]
      exact Lib.cell_of_heap (heap_alloc_new w (.cells ROW (ins_ren.t 9))) k
    have hb1 : Below w.heap.size w W1 := by
      rw [← hW1]
      exact bdrew (balloc (Below.refl _ _) _)
    have hsz1 : w.heap.size < W1.heap.size := by
      rw [← hW1]
      simp
    have hs1 : ∀ k, k < n + m → (W1.cell? ⟨w.heap.size, k, none⟩).isSome = true := fun k hk => by
      rw [hcell1, Array.getElem?_eq_getElem (by omega)]
      rfl
    obtain ⟨W2, hW2⟩ : ∃ W2, (W1.setCells w.heap.size i (strCells ys)).drew = W2 := ⟨_, rfl⟩
    rw [hW2]
    have hout2 : ∀ k, k < i ∨ i + m ≤ k → W2.cell? ⟨w.heap.size, k, none⟩ = W1.cell? ⟨w.heap.size, k, none⟩ := fun k hk => by
      rw [← hW2]
      exact World.cell?_setCells_out w.heap.size (strCells ys) i W1 ⟨w.heap.size, k, none⟩ (fun _ _ => by rw [hcy]; exact hk)
    have hin2 : ∀ j v, (strCells ys)[j]? = some v → W2.cell? ⟨w.heap.size, i + j, none⟩ = some v := fun j v hj => by
      obtain ⟨hl, he⟩ := List.getElem?_eq_some_iff.1 hj
      rw [← hW2, ← he]
      exact World.cell?_setCells_in w.heap.size (strCells ys) i W1 (fun q hq => hs1 _ (by omega)) j hl
    have hs2 : ∀ k, k < n + m → (W2.cell? ⟨w.heap.size, k, none⟩).isSome = true := fun k hk => by
      by_cases hk2 : i ≤ k ∧ k < i + m
      · have := hin2 (k - i) _ (List.getElem?_eq_getElem (by omega))
        rw [show i + (k - i) = k by omega] at this
        rw [this]
        rfl
      · rw [hout2 k (by omega)]
        exact hs1 k hk
    have hb2 : Below w.heap.size w W2 := by
      rw [← hW2]
      exact bdrew (below_setCells (Nat.le_refl _) _ _ _ hb1)
    have hdl : ((strCells xs).drop i).length = n - i := by rw [List.length_drop, hcx]
    have hsz2 : w.heap.size < W2.heap.size := by
      have h1 : Below W1.heap.size W1 W2 ∨ W1.heap.size ≤ W2.heap.size := .inr (by rw [← hW2]; exact Nat.le_of_eq (size_setCells _ _ _ _).symm)
      rcases h1 with h1 | h1
      · exact Nat.lt_of_lt_of_le hsz1 h1.size
      · omega
    refine ⟨G, by rw [hzl], by rw [hzl]; exact hge, fun k x hk => ?_, by rw [size_setCells]; exact hsz2, below_setCells (Nat.le_refl _) _ _ _ hb2⟩
    have hkl : k < n + m := by
      have := (List.getElem?_eq_some_iff.1 hk).1
      omega
    rw [Nat.zero_add]
    have htl : (xs.take i).length = i := by rw [List.length_take]; omega
    by_cases h3 : i + m ≤ k
    · have hd : ((strCells xs).drop i)[k - (i + m)]? = some (.string x) := by
        rw [List.getElem?_append_right (by rw [List.length_append, htl]; omega), List.length_append, htl, hyl] at hk
        have := strCells_at hk
        rw [strCells, List.map_drop] at this
        exact this
      obtain ⟨hl, he⟩ := List.getElem?_eq_some_iff.1 hd
      have := World.cell?_setCells_in w.heap.size ((strCells xs).drop i) (i + m) W2 (fun q hq => hs2 _ (by omega)) (k - (i + m)) hl
      rw [show i + m + (k - (i + m)) = k by omega] at this
      rw [this, he]
    · rw [World.cell?_setCells_out w.heap.size ((strCells xs).drop i) (i + m) W2 ⟨w.heap.size, k, none⟩ (fun _ _ => .inl (by show k < i + m; omega))]
      rw [List.getElem?_append_left (by rw [List.length_append, htl]; omega)] at hk
      by_cases h4 : i ≤ k
      · rw [List.getElem?_append_right (by omega), htl] at hk
        have := hin2 (k - i) _ (strCells_at hk)
        rwa [show i + (k - i) = k by omega] at this
      · rw [List.getElem?_append_left (by omega), List.getElem?_take, if_pos (by omega)] at hk
        rw [hout2 k (.inl (by omega)), hcell1, hhead k (by omega)]
        exact strCells_at hk
  · obtain rfl : i = n := by omega
    refine (Any2.slices_Insert_string_end_grow ins_lays (some ⟨g, 0, none⟩) i i gv 0 m vc (strCells xs) (strCells ys) w hm (Nat.le_refl _) (by omega) (by omega) hcx hcy (fun h => by cases h) (fun a ha j v hj => by injection ha with ha; subst ha; rw [add_zero_off]; have := hxs j v hj; rwa [Nat.zero_add] at this) hys strCells_one).mono ?_
    rintro e w' ⟨rfl, rfl⟩
    have hz : xs.take i ++ ys ++ xs.drop i = xs ++ ys := by
      rw [List.take_of_length_le (by omega), List.drop_of_length_le (by omega), List.append_nil]
    rw [hz] at hzl ⊢
    have hge := grownCap_ge w (i + m) i (ins_ren.t 9)
    refine ⟨_, by rw [hzl], by rw [hzl]; exact hge, fun k x hk => ?_, by simp, balloc (bdrew (Below.refl _ _)) _⟩
    have hc := strCells_at hk
    have hl := (List.getElem?_eq_some_iff.1 hc).1
    rw [strCells_append] at hc hl
    rw [Nat.zero_add, show w.heap.size = w.drew.heap.size from rfl, Lib.cell_of_heap (heap_alloc_new w.drew _) k, Array.getElem?_append_left (by simpa using hl), List.getElem?_toArray]
    exact hc
theorem datas_put (s r : ByteArray) (k : Nat) : datas ((linesB s).take k ++ linesB r ++ (linesB s).drop k) = putZ s.data.toList k r.data.toList := by
  have h : ∀ x : ByteArray, (linesB x).map (·.data.toList) = linesL x.data.toList := fun x => by
    unfold linesB
    rw [List.map_map]
    exact List.map_id'' (fun x => mk_data x) _
  unfold datas putZ
  rw [List.map_append, List.map_append, List.map_take, List.map_drop, h, h]
theorem linesOf_cap (s : ByteArray) (m : Int) (w : World) (hs : s.size < 4294967281) (hm : w.cell? ⟨0, 0, none⟩ = some (.int .i64 m)) :
    Calls Tryd.prog 29 #[.string s] w fun e w' => e = .returned (.slice (some ⟨w.heap.size, 0, none⟩) (nlc s.data.toList + 1) (nlc s.data.toList + 1)) ∧ OwnS 9 w' w.heap.size (some ⟨w.heap.size, 0, none⟩) (nlc s.data.toList + 1) (nlc s.data.toList + 1) (linesB s) ∧ Below w.heap.size w w' := by
  go_enter Tryd.func29, Tryd.ntmps29
  go_wp2_with fail
  refine (Tryd.strings_Split s ⟨#[10]⟩ m _ hs hm (by decide)).mono ?_
  rintro e w1 ⟨rfl, rfl⟩
  rw [splitB_eq, countB_nl]
  have hl := linesB_length s
  have hn := nlc_le s.data.toList
  have hsl : s.data.toList.length = s.size := rfl
  go_wp2
  go_ret
  refine ⟨rfl, ⟨hl, ?_⟩, balloc (Below.refl _ _) _⟩
  have := World.ownsRow_lit (base := w.heap.size) (e := 9) (size := 1) w ((linesB s).map Value.string).toArray (nlc s.data.toList + 1) (Nat.le_refl _) (by unfold maxLen; omega) (by simp [hl])
  exact this
set_option maxRecDepth 100000 in
set_option maxHeartbeats 800000 in
theorem implPutLines_any (s : ByteArray) (a : Int) (r : ByteArray) (mL : Int) (w : World) (hs : s.size < 4294967281) (hr : r.size < 4294967281) (hm : w.cell? ⟨0, 0, none⟩ = some (.int .i64 mL)) :
    Calls Tryd.prog 19 #[.string s, .int .i64 a, .string r] w fun e w' => e = .returned (strBoolV (putR s.data.toList a r.data.toList)) ∧ Below w.heap.size w w' := by
  have hsm : s.size ≤ maxLen := by unfold maxLen; omega
  have hrm : r.size ≤ maxLen := by unfold maxLen; omega
  cases ht : tvB s.data.toList
  · rw [putR_0 (.inl ht)]
    have H := Lib.hid ht
    clear ht
    go_enter Tryd.func19, Tryd.ntmps19
    go_wp2_with (go_at_call 26; refine (implTextValid_any _ _ hsm).mono ?_; rw [H.out]; rintro e w' ⟨rfl, rfl⟩)
    go_ret2
    exact ⟨rfl, Below.refl _ _⟩
  · cases htr : tvB r.data.toList
    · rw [putR_0 (.inr htr)]
      have H := Lib.hid ht
      have H2 := Lib.hid htr
      clear ht htr
      go_enter Tryd.func19, Tryd.ntmps19
      go_wp2_with (first | (go_at_call 26; ((with_reducible refine (implTextValid_any s _ hsm).mono ?_); rw [H.out]; rintro e w' ⟨rfl, rfl⟩)) | (go_at_call 26; ((with_reducible refine (implTextValid_any r _ hrm).mono ?_); rw [H2.out]; rintro e w' ⟨rfl, rfl⟩)))
      go_ret2
      exact ⟨rfl, Below.refl _ _⟩
    · have hl := linesB_length s
      have hlr := linesB_length r
      have hn := nlc_le s.data.toList
      have hnr := nlc_le r.data.toList
      have hsl : s.data.toList.length = s.size := rfl
      have hrl : r.data.toList.length = r.size := rfl
      have hsz := tv_size ht
      have hrz := tv_size htr
      have hlt0 : 0 < w.heap.size := cell_lt hm
      have hcap := linesOf_cap s mL w hs hm
      have hcap2 := linesOf_cap r mL
      obtain ⟨N, hN⟩ : ∃ N, nlc s.data.toList = N := ⟨_, rfl⟩
      obtain ⟨R, hR⟩ : ∃ R, nlc r.data.toList = R := ⟨_, rfl⟩
      rw [hN] at hl hn hcap
      rw [hR] at hlr hnr hcap2
      have HT := Lib.hid ht
      have HTR := Lib.hid htr
      have HCAP := Lib.hid hcap
      have HCAP2 := Lib.hid hcap2
      cases h1 : inI a 0 ((N : Int) + 1)
      · have hP := putR_1 (a := a) ht htr (.inl (by rw [hN]; exact h1))
        have HP := Lib.hid hP
        have H1 := Lib.hid h1
        clear hP h1 ht htr hN hR hcap hcap2
        go_enter Tryd.func19, Tryd.ntmps19
        go_wp2_with (first | (go_at_call 26; ((with_reducible refine (implTextValid_any s _ hsm).mono ?_); rw [HT.out]; rintro e w' ⟨rfl, rfl⟩)) | (go_at_call 26; ((with_reducible refine (implTextValid_any r _ hrm).mono ?_); rw [HTR.out]; rintro e w' ⟨rfl, rfl⟩)) | fail)
        refine HCAP.out.mono ?_
        rintro e w1 ⟨rfl, ho1, hb1⟩
        go_wp2_with (go_at_call 41; refine (in_any _ _ _ _).mono ?_; rw [H1.out]; rintro e w' ⟨rfl, rfl⟩)
        go_ret2
        exact ⟨by rw [HP.out]; rfl, hb1⟩
      · obtain ⟨a1, a2⟩ := (inI_iff _ _ _).1 h1
        obtain ⟨k, rfl⟩ := Int.eq_ofNat_of_zero_le a1
        have hval := putZ_valid ht htr k
        have hzl := putZ_len s.data.toList k r.data.toList
        have hP1 : ¬ s.data.toList.length + 1 + r.data.toList.length ≤ 120 → putR s.data.toList k r.data.toList = (s.data.toList, false) := fun h => putR_1 (a := k) ht htr (.inr h)
        have hP2 : s.data.toList.length + 1 + r.data.toList.length ≤ 120 → putR s.data.toList k r.data.toList = (joinL (putZ s.data.toList k r.data.toList), true) := fun h => by
          have := putR_2 (a := k) ht htr (by rw [hN]; exact h1) h
          rwa [show ((k : Int)).toNat = k by omega] at this
        obtain ⟨zs, hzs⟩ : ∃ zs, (linesB s).take k ++ linesB r ++ (linesB s).drop k = zs := ⟨_, rfl⟩
        have hzd : zs.map (·.data.toList) = putZ s.data.toList k r.data.toList := by rw [← hzs]; exact datas_put s r k
        have hzsl : zs.length = N + 1 + (R + 1) := by
          rw [← hzs, List.length_append, List.length_append, List.length_take, List.length_drop, hl, hlr]
          omega
        obtain ⟨X, hXe⟩ : ∃ X, mk (joinL (putZ s.data.toList k r.data.toList)) = X := ⟨_, rfl⟩
        have hXd : X.data.toList = joinL (putZ s.data.toList k r.data.toList) := by rw [← hXe, mk_data]
        have hXs : X.size = s.size + 1 + r.size := by
          have : X.size = X.data.toList.length := rfl
          rw [this, hXd, hzl, hsl, hrl]
        have hXm : X.size ≤ maxLen := by unfold maxLen; omega
        have H1 := Lib.hid h1
        have HVAL := Lib.hid hval
        have HP1 := Lib.hid hP1
        have HP2 := Lib.hid hP2
        have HZS := Lib.hid hzs
        have HZD := Lib.hid hzd
        have HZL := Lib.hid hzsl
        have HXE := Lib.hid hXe
        have HXD := Lib.hid hXd
        have HXS := Lib.hid hXs
        clear h1 ht htr hN hR hcap hcap2 hval hP1 hP2 hzs hzd hzsl hXe hXd hXs hzl
        go_enter Tryd.func19, Tryd.ntmps19
        go_wp2_with (first | (go_at_call 26; ((with_reducible refine (implTextValid_any s _ hsm).mono ?_); rw [HT.out]; rintro e w' ⟨rfl, rfl⟩)) | (go_at_call 26; ((with_reducible refine (implTextValid_any r _ hrm).mono ?_); rw [HTR.out]; rintro e w' ⟨rfl, rfl⟩)) | fail)
        refine HCAP.out.mono ?_
        rintro e w1 ⟨rfl, ho1, hb1⟩
        have hm1 := (hb1.cell (p := ⟨0, 0, none⟩) hlt0).trans hm
        have hl1 : 0 < w1.heap.size := cell_lt hm1
        go_wp2_with (first | (go_at_call 41; refine (in_any _ _ _ _).mono ?_; rw [H1.out]; rintro e w' ⟨rfl, rfl⟩) | fail)
        refine (HCAP2.out w1 hr hm1).mono ?_
        rintro e w2 ⟨rfl, ho2, hb2⟩
        have ho12 := ho1.below hb2
        have hbw2 := bstep hb1 hb2
        go_wp2_with fail
        refine (insertS_any 9 w2 w.heap.size w.heap.size w1.heap.size (N + 1) k (R + 1) (R + 1) (linesB s) (linesB r) ho12 ho2.strs (by omega) (by omega) (by omega) (by omega)).mono ?_
        rw [HZS.out]
        rintro e w3 ⟨c3, rfl, hc3, hcell, hlt3, hb3⟩
        have hbw3 := bstep hbw2 hb3
        have hzlen : (joinL (zs.map (·.data.toList))).length ≤ 140737488355328 := by
          rw [HZD.out, ← HXD.out]
          have := HXS.out
          have h2 : X.data.toList.length = X.size := rfl
          omega
        have hj := Tryd.strings_Join w2.heap.size 0 c3 zs ⟨#[10]⟩ w3 hcell hlt3 (by have := HZL.out; omega) hc3 (by
          rw [show (⟨#[10]⟩ : ByteArray).data.toList = [10] from rfl, joinL_lib]
          exact hzlen)
        rw [show (⟨#[10]⟩ : ByteArray).data.toList = [10] from rfl, joinL_lib, HZD.out] at hj
        have hj2 : Calls Tryd.prog 38 #[.slice (some ⟨w2.heap.size, 0, none⟩) zs.length c3, .string ⟨#[10]⟩] w3 fun e w' => e = .returned (.string X) ∧ Below w3.heap.size w3 w' := hj.mono fun e w' ⟨he, hb⟩ => ⟨he.trans (by rw [← HXE.out]; rfl), hb⟩
        have HJ := Lib.hid hj2
        clear hj hj2 hcell hc3 hzlen ho1 ho2 ho12
        go_wp2_with fail
        with_reducible refine HJ.out.mono ?_
        rintro e w4 ⟨rfl, hb4⟩
        have hbw4 := bstep hbw3 hb4
        by_cases hfit : s.data.toList.length + 1 + r.data.toList.length ≤ 120
        · have HV : Hid (tvB X.data.toList = true) := Lib.hid (by rw [HXD.out, HVAL.out, decide_eq_true hfit])
          have HR := Lib.hid (HP2.out hfit)
          clear hfit
          go_wp2_with (go_at_call 26; ((with_reducible refine (implTextValid_any X _ hXm).mono ?_); rw [HV.out]; rintro e w' ⟨rfl, rfl⟩))
          go_ret2
          exact ⟨by rw [HR.out, ← HXE.out]; rfl, hbw4⟩
        · have HV : Hid (tvB X.data.toList = false) := Lib.hid (by rw [HXD.out, HVAL.out, decide_eq_false hfit])
          have HR := Lib.hid (HP1.out hfit)
          clear hfit
          go_wp2_with (go_at_call 26; ((with_reducible refine (implTextValid_any X _ hXm).mono ?_); rw [HV.out]; rintro e w' ⟨rfl, rfl⟩))
          go_ret2
          exact ⟨by rw [HR.out]; rfl, hbw4⟩
set_option maxRecDepth 100000 in
set_option maxHeartbeats 1600000 in
theorem specPutLines_any (s : ByteArray) (a : Int) (r : ByteArray) (w : World) (hs : s.size ≤ 1048576) (hr : r.size ≤ 1048576) :
    Calls Tryd.prog 20 #[.string s, .int .i64 a, .string r] w fun e w' => e = .returned (strBoolV (putR s.data.toList a r.data.toList)) ∧ Below w.heap.size w w' := by
  have hrm : r.size ≤ maxLen := by unfold maxLen; omega
  cases ht : tvB s.data.toList
  · rw [putR_0 (.inl ht)]
    have H := Lib.hid (linesR_0 ht)
    clear ht
    go_enter Tryd.func20, Tryd.ntmps20
    go_wp2_with fail
    refine (specLinesOf_any s _ (by omega)).mono ?_
    rw [H.out]
    rintro e w1 ⟨A, n, c, rfl, ho, hb⟩
    obtain rfl : 0 = n := ho.1
    clear ho
    go_wp2
    go_ret2
    exact ⟨rfl, hb⟩
  · have hl := linesB_length s
    have hn := nlc_le s.data.toList
    have hsl : s.data.toList.length = s.size := rfl
    have hrl : r.data.toList.length = r.size := rfl
    have hsz := tv_size ht
    obtain ⟨N, hN⟩ : ∃ N, nlc s.data.toList = N := ⟨_, rfl⟩
    rw [hN] at hl hn
    have HT := Lib.hid ht
    have HL := Lib.hid (linesR_1 ht)
    cases htr : tvB r.data.toList
    · have hP := putR_0 (l := s.data.toList) (a := a) (.inr htr)
      have HP := Lib.hid hP
      have HTR := Lib.hid htr
      clear hP ht htr hN
      go_enter Tryd.func20, Tryd.ntmps20
      go_wp2_with fail
      refine (specLinesOf_any s _ (by omega)).mono ?_
      rw [HL.out]
      rintro e w1 ⟨A, n, c, rfl, ho, hb⟩
      obtain rfl : n = N + 1 := ho.1.symm.trans hl
      clear ho
      go_wp2_with (go_at_call 12; refine (specTextValid_any _ _ hrm).mono ?_; rw [HTR.out]; rintro e w' ⟨rfl, rfl⟩)
      go_ret2
      exact ⟨by rw [HP.out]; rfl, hb⟩
    · have hlr := linesB_length r
      have hnr := nlc_le r.data.toList
      have hrz := tv_size htr
      have HLR := Lib.hid (linesR_1 htr)
      have HTR := Lib.hid htr
      obtain ⟨R, hR⟩ : ∃ R, nlc r.data.toList = R := ⟨_, rfl⟩
      rw [hR] at hlr hnr
      by_cases hbad : inI a 0 ((N : Int) + 1) = true ∧ s.data.toList.length + 1 + r.data.toList.length ≤ 120
      · obtain ⟨h1, hfit⟩ := hbad
        obtain ⟨a1, a2⟩ := (inI_iff _ _ _).1 h1
        obtain ⟨k, rfl⟩ := Int.eq_ofNat_of_zero_le a1
        have hP := putR_2 (a := (k : Int)) ht htr (by rw [hN]; exact h1) hfit
        rw [show ((k : Int)).toNat = k by omega] at hP
        have hT := put_text ht htr k hfit
        have hD := datas_put s r k
        have hXX : ∀ x ∈ (linesB s).take k ++ linesB r ++ (linesB s).drop k, x.size ≤ 1099511627776 := fun x hx => by
          have key : ∀ t : ByteArray, t.size ≤ 1048576 → x ∈ linesB t → x.size ≤ 1099511627776 := fun t ht hm => by
            obtain ⟨y, hy, rfl⟩ := List.mem_map.1 hm
            have h1 := joinL_mem_len _ _ hy
            rw [joinL_lines] at h1
            rw [mk_size]
            have : t.data.toList.length = t.size := rfl
            omega
          rcases List.mem_append.1 hx with hx | hx
          · rcases List.mem_append.1 hx with hx | hx
            · exact key s hs (List.mem_of_mem_take hx)
            · exact key r hr hx
          · exact key s hs (List.mem_of_mem_drop hx)
        have HP := Lib.hid hP
        have HTX := Lib.hid hT
        have HD := Lib.hid hD
        have HX := Lib.hid hXX
        have H1 := Lib.hid h1
        have hfit2 : (s.size : Int) + 1 + (r.size : Int) ≤ 120 := by omega
        obtain ⟨i0, hi, hz0, hz1, hz2⟩ := info_parts strInfo
        have hlen : (linesB s).length = N + 1 := hl
        have HLEN := Lib.hid hlen
        have HLENR := Lib.hid hlr
        clear hP hT hD hXX h1 ht htr hN hR hfit hlen
        go_enter Tryd.func20, Tryd.ntmps20
        go_wp2_with fail
        refine (specLinesOf_any s _ (by omega)).mono ?_
        rw [HL.out]
        rintro e w1 ⟨A, n, c, rfl, ho, hb⟩
        obtain rfl : n = N + 1 := ho.1.symm.trans hl
        obtain ⟨g, c2, hv, hbg, hgl⟩ := ho.2.form (by omega)
        injection hv with hA _ hc
        subst hA hc
        have hcap : N + 1 ≤ c := owns_cap ho.2
        have hst := ho.strs
        have hk0 : (0 : Int) ≤ (k : Int) := by omega
        have hk1 : (k : Int) ≤ (N : Int) + 1 := by omega
        have hk2 : (k : Int) ≤ (c : Int) := by omega
        have hs1 : Strs (w1.alloc (.cells #[] 9)) w1.heap.size (some ⟨g, 0, none⟩) k ((linesB s).take k) := (Strs.below hst (balloc (Below.refl _ _) (.cells #[] 9)) (Nat.le_refl _)).take (by omega)
        have ho7 : OwnS 9 (w1.alloc (.cells #[] 9)) w1.heap.size (some ⟨w1.heap.size, 0, none⟩) 0 0 [] := ⟨rfl, owns_empty w1 w1.heap.size 9 1 (Nat.le_refl _)⟩
        have hB7 : w1.heap.size ≤ (w1.alloc (.cells #[] 9)).heap.size := by simp
        have hs2 : ∀ w2, (w1.alloc (.cells #[] 9)).grownBy w2 (some w1.heap.size) → Strs w2 w1.heap.size (some ⟨g, 0, none⟩) (N + 1) (linesB s) := fun w2 hg =>
          Strs.kept (row := some w1.heap.size) (Strs.below hst (balloc (Below.refl _ _) (.cells #[] 9)) (Nat.le_refl _) : Strs (w1.alloc (.cells #[] 9)) w1.heap.size (some ⟨g, 0, none⟩) (N + 1) (linesB s)) hg (by simp) (fun g' e => by injection e with e; omega)
        have hb7 : Below w.heap.size w (w1.alloc (.cells #[] 9)) := balloc hb _
        have hsum1 : 0 + k ≤ 4194304 := by omega
        have HS1 := Lib.hid hs1
        have HO7 := Lib.hid ho7
        have HB7 := Lib.hid hB7
        have HS2 := Lib.hid hs2
        have hbz := hb.size
        clear hs1 ho7 hB7 hs2
        go_wp2_with (first | (go_at_call 12; refine (specTextValid_any _ _ hrm).mono ?_; rw [HTR.out]; rintro e w' ⟨rfl, rfl⟩) | (go_at_call 43; refine (l1In_any _ _ _ _).mono ?_; rw [H1.out]; rintro e w' ⟨rfl, rfl⟩) | (at_builtin; refine wpList_append_strs rfl _ _ 24 rfl 9 i0 _ Tryd.underlying24 hi hz0 hz1 hz2 rfl w1.heap.size 0 0 (some ⟨w1.heap.size, 0, none⟩) [] rfl HO7.out (some ⟨g, 0, none⟩) k _ w1.heap.size ((linesB s).take k) rfl HS1.out hsum1 HB7.out k (Nat.zero_add _) ((linesB s).take k) rfl ?_; intro A2 c2 w2 ho2 hg2) | fail)
        have hg2' : (w1.alloc (.cells #[] 9)).grownBy w2 (some w1.heap.size) := hg2
        have hst2 := HS2.out w2 hg2'
        have hb2 : Below w.heap.size w w2 := hb7.grown (row := some w1.heap.size) hg2' (by have := hb7.size; omega) (fun i hi => by cases hi; exact hbz)
        have hz12 : w1.heap.size + 1 ≤ w2.heap.size := by have := hg2'.size; rwa [World.size_alloc] at this
        go_wp2_with fail
        refine (specLinesOf_any r _ (by omega)).mono ?_
        rw [HLR.out]
        rintro e w3 ⟨A3, n3, c3, rfl, ho3, hb3⟩
        obtain rfl : R + 1 = n3 := hlr.symm.trans ho3.1
        have ho23 := ho2.below hb3
        have hst3 := hst2.below hb3 (by omega)
        have hb23 := bstep hb2 hb3
        have hz23 := hb3.size
        have hstr := ho3.strs
        have hsum2 : k + (R + 1) ≤ 4194304 := by omega
        have hB3 : w1.heap.size ≤ w3.heap.size := by omega
        have hlt23 := ho23.2.lt
        have hst4 : ∀ w4, w3.grownBy w4 (Value.slice A2 k c2).ownBlock → Strs w4 w1.heap.size (some ⟨g, 0, none⟩) (N + 1) (linesB s) := fun w4 hg => Strs.kept hst3 hg hB3 (fun g' e => (hlt23 g' e).1)
        have hB4 : ∀ w4, w3.grownBy w4 (Value.slice A2 k c2).ownBlock → w1.heap.size ≤ w4.heap.size := fun w4 hg => Nat.le_trans hB3 hg.size
        have HST4 := Lib.hid hst4
        have HB4 := Lib.hid hB4
        have hsum3 : k + (R + 1) + (N + 1 - k) ≤ 4194304 := by omega
        have hq3 : k + (R + 1) + (N + 1 - k) = N + 1 + (R + 1) := by omega
        clear ho2 ho3 hst2 hg2 hg2' hb2 hb3 hst4 hB4 hst3
        by_cases hck : c = k
        · have hst5 : Hid (∀ w4, w3.grownBy w4 (Value.slice A2 k c2).ownBlock → Strs w4 w1.heap.size (some ⟨g, 0, none⟩) 0 ((linesB s).drop k)) := Lib.hid fun w4 hg => Strs.zero rfl (by rw [List.length_drop, HLEN.out]; omega)
          have hsum4 : k + (R + 1) + 0 ≤ 4194304 := by omega
          have hq4 : k + (R + 1) + 0 = N + 1 + (R + 1) := by omega
          subst hck
          go_wp2_with (first | (at_builtin; refine wpList_append_strs rfl (.tmp 40) (.tmp 42) 24 rfl 9 i0 _ Tryd.underlying24 hi hz0 hz1 hz2 rfl w1.heap.size c c2 A2 ((linesB s).take c) rfl ho23 A3 (R + 1) c3 w3.heap.size (linesB r) rfl hstr hsum2 hB3 (c + (R + 1)) rfl ((linesB s).take c ++ linesB r) rfl ?_; intro A4 c4 w4 ho4 hg4) | (at_builtin; refine wpList_append_strs rfl (.tmp 44) (.tmp 47) 24 rfl 9 i0 _ Tryd.underlying24 hi hz0 hz1 hz2 rfl w1.heap.size (c + (R + 1)) c4 A4 ((linesB s).take c ++ linesB r) rfl ho4 (some ⟨g, 0, none⟩) 0 _ w1.heap.size ((linesB s).drop c) rfl (hst5.out _ hg4) hsum4 (HB4.out _ hg4) (N + 1 + (R + 1)) hq4 ((linesB s).take c ++ linesB r ++ (linesB s).drop c) rfl ?_; intro A5 c5 w5 ho5 hg5) | (go_at_call 25; ((with_reducible refine (specLinesText_any A5 (N + 1 + (R + 1)) c5 _ w5 (by omega) HX.out ho5.strs).mono ?_); rw [HD.out, HTX.out]; rintro e w6 ⟨rfl, rfl⟩)) | fail)
          go_ret2
          refine ⟨by rw [HP.out]; rfl, ?_⟩
          exact (hb23.grown hg4 (by omega) (fun i hi => Nat.le_trans hbz (hlt23 i hi).1)).grown hg5 (by have := HB4.out _ hg4; omega) (fun i hi => Nat.le_trans hbz (ho4.2.lt i hi).1)
        · have hst5 : Hid (∀ w4, w3.grownBy w4 (Value.slice A2 k c2).ownBlock → Strs w4 w1.heap.size (some ⟨g, k, none⟩) (N + 1 - k) ((linesB s).drop k)) := Lib.hid fun w4 hg => by
            have := (HST4.out w4 hg).drop (k := k) (by omega)
            rwa [add_zero_off] at this
          go_wp2_with (first | (at_builtin; refine wpList_append_strs rfl (.tmp 40) (.tmp 42) 24 rfl 9 i0 _ Tryd.underlying24 hi hz0 hz1 hz2 rfl w1.heap.size k c2 A2 ((linesB s).take k) rfl ho23 A3 (R + 1) c3 w3.heap.size (linesB r) rfl hstr hsum2 hB3 (k + (R + 1)) rfl ((linesB s).take k ++ linesB r) rfl ?_; intro A4 c4 w4 ho4 hg4) | (at_builtin; refine wpList_append_strs rfl (.tmp 44) (.tmp 47) 24 rfl 9 i0 _ Tryd.underlying24 hi hz0 hz1 hz2 rfl w1.heap.size (k + (R + 1)) c4 A4 ((linesB s).take k ++ linesB r) rfl ho4 (some ⟨g, k, none⟩) (N + 1 - k) _ w1.heap.size ((linesB s).drop k) rfl (hst5.out _ hg4) hsum3 (HB4.out _ hg4) (N + 1 + (R + 1)) hq3 ((linesB s).take k ++ linesB r ++ (linesB s).drop k) rfl ?_; intro A5 c5 w5 ho5 hg5) | (go_at_call 25; ((with_reducible refine (specLinesText_any A5 (N + 1 + (R + 1)) c5 _ w5 (by omega) HX.out ho5.strs).mono ?_); rw [HD.out, HTX.out]; rintro e w6 ⟨rfl, rfl⟩)) | fail)
          go_ret2
          refine ⟨by rw [HP.out]; rfl, ?_⟩
          exact (hb23.grown hg4 (by omega) (fun i hi => Nat.le_trans hbz (hlt23 i hi).1)).grown hg5 (by have := HB4.out _ hg4; omega) (fun i hi => Nat.le_trans hbz (ho4.2.lt i hi).1)
      · have hP := putR_1 (a := a) ht htr (by
          rw [hN]
          by_cases h1 : inI a 0 ((N : Int) + 1) = true
          · exact .inr fun h2 => hbad ⟨h1, h2⟩
          · exact .inl (by simpa using h1))
        have HP := Lib.hid hP
        cases h1 : inI a 0 ((N : Int) + 1)
        · have H1 := Lib.hid h1
          clear hP ht htr hN hR hbad h1
          go_enter Tryd.func20, Tryd.ntmps20
          go_wp2_with fail
          refine (specLinesOf_any s _ (by omega)).mono ?_
          rw [HL.out]
          rintro e w1 ⟨A, n, c, rfl, ho, hb⟩
          obtain rfl : n = N + 1 := ho.1.symm.trans hl
          clear ho
          go_wp2_with (first | (go_at_call 12; refine (specTextValid_any _ _ hrm).mono ?_; rw [HTR.out]; rintro e w' ⟨rfl, rfl⟩) | (go_at_call 43; refine (l1In_any _ _ _ _).mono ?_; rw [H1.out]; rintro e w' ⟨rfl, rfl⟩))
          go_ret2
          exact ⟨by rw [HP.out]; rfl, hb⟩
        · have hbig : 120 < (s.size : Int) + 1 + (r.size : Int) := by
            have : ¬ s.data.toList.length + 1 + r.data.toList.length ≤ 120 := fun h2 => hbad ⟨h1, h2⟩
            omega
          have H1 := Lib.hid h1
          clear hP ht htr hN hR hbad h1
          go_enter Tryd.func20, Tryd.ntmps20
          go_wp2_with fail
          refine (specLinesOf_any s _ (by omega)).mono ?_
          rw [HL.out]
          rintro e w1 ⟨A, n, c, rfl, ho, hb⟩
          obtain rfl : n = N + 1 := ho.1.symm.trans hl
          clear ho
          go_wp2_with (first | (go_at_call 12; refine (specTextValid_any _ _ hrm).mono ?_; rw [HTR.out]; rintro e w' ⟨rfl, rfl⟩) | (go_at_call 43; refine (l1In_any _ _ _ _).mono ?_; rw [H1.out]; rintro e w' ⟨rfl, rfl⟩))
          go_ret2
          exact ⟨by rw [HP.out]; rfl, hb⟩
end Go.Proofs.YtecejfcoognkiaaDoor
