/- Contracts of TableOf. -/
import Derived.Test.YtecejfcoognkiaaW2
import Derived.Test.YtecejfcoognkiaaPt
import Derived.Lib.Strings
import Derived.OwnWalk
import Derived.Deep.AppendLies
namespace Go.Proofs.Ytecejfcoognkiaa
open Go.RowKit

/-- TableOf: the text, what was added, the pieces. -/
def tableOfF (l : List UInt8) : List UInt8 := if tvB l then l else []
def tableOfP (l : List UInt8) : List (Bool × Int × Int) := if tvB l then (if l.length = 0 then [] else [(false, 0, (l.length : Int))]) else []
theorem tableOf_0 {l : List UInt8} (h : tvB l = false) : tableOfF l = [] ∧ tableOfP l = [] := by simp [tableOfF, tableOfP, h]
theorem tableOf_1 {l : List UInt8} (h : tvB l = true) (h' : l.length = 0) : tableOfF l = l ∧ tableOfP l = [] := by simp [tableOfF, tableOfP, h, h']
theorem tableOf_2 {l : List UInt8} (h : tvB l = true) (h' : l.length ≠ 0) : tableOfF l = l ∧ tableOfP l = [(false, 0, (l.length : Int))] := by simp [tableOfF, tableOfP, h, h']
theorem str_empty (s : ByteArray) (h : s.size = 0) : s = ⟨#[]⟩ := by
  obtain ⟨⟨l⟩⟩ := s
  have : l.length = 0 := h
  cases l with
  | nil => rfl
  | cons => cases this
theorem alloc3_block (w : World) (a b c : Obj) : (((w.alloc a).alloc b).alloc c).heap[w.heap.size + 1 + 1]? = some c := by
  have := heap_alloc_new ((w.alloc a).alloc b) c
  simpa only [World.size_alloc] using this
theorem str_full (s : ByteArray) (h : s.size ≠ 0) : s.toList.isEmpty = false := by
  rw [Lib.toList_data]
  cases hl : s.data.toList with
  | nil => exact absurd (by rw [Lib.size_eq, hl]; rfl) h
  | cons _ _ => rfl
theorem pieceInfo' : (Try.prog.info? 29).map (fun i => (i.zero, i.size, i.bytes)) = some (some (.agg #[.bool false, .int .i64 0, .int .i64 0]), 3, 24) := by kernel_rfl
set_option maxHeartbeats 400000 in
theorem specTableOf_any (s : ByteArray) (w : World) (hs : s.size ≤ maxLen) :
    Calls Try.prog 30 #[.string s] w (MadeT 29 w (tableOfF s.data.toList) [] (tableOfP s.data.toList)) := by
  cases ht : tvB s.data.toList
  · rw [(tableOf_0 ht).1, (tableOf_0 ht).2]
    have H := Lib.hid ht
    clear ht
    go_enter Try.func30, Try.ntmps30
    go_wp2_with (go_at_call 23; refine (specTextValid_any _ _ hs).mono ?_; rw [H.out]; rintro e w' ⟨rfl, rfl⟩)
    go_returns
    exact ⟨none, 0, 0, rfl, ownP_nil _ _ _, (by repeat (first | exact Below.refl _ _ | assumption | (refine bstep ?_ (by assumption)) | refine balloc ?_ _ | refine bdrew ?_ | refine bdrewN ?_ _ | refine bset ?_ (by first | (simp; done) | (simp; omega)) _))⟩
  · by_cases hn : s.size = 0
    · rw [(tableOf_1 ht (by simpa using hn)).1, (tableOf_1 ht (by simpa using hn)).2]
      obtain rfl := str_empty s hn
      have H := Lib.hid ht
      clear ht hn
      go_enter Try.func30, Try.ntmps30
      go_wp2_with (go_at_call 23; refine (specTextValid_any _ _ hs).mono ?_; rw [H.out]; rintro e w' ⟨rfl, rfl⟩)
      go_returns
      exact ⟨none, 0, 0, rfl, ownP_nil _ _ _, (by repeat (first | exact Below.refl _ _ | assumption | (refine bstep ?_ (by assumption)) | refine balloc ?_ _ | refine bdrew ?_ | refine bdrewN ?_ _ | refine bset ?_ (by first | (simp; done) | (simp; omega)) _))⟩
    · rw [(tableOf_2 ht (by simpa using hn)).1, (tableOf_2 ht (by simpa using hn)).2]
      have hne := str_full s hn
      obtain ⟨i0, hi, hi0, hi1, hi2⟩ := info_parts pieceInfo'
      have H := Lib.hid ht
      clear ht
      go_enter Try.func30, Try.ntmps30
      go_wp2_with (first | (go_at_call 23; refine (specTextValid_any _ _ hs).mono ?_; rw [H.out]; rintro e w' ⟨rfl, rfl⟩) | (at_builtin; refine wpList_append_lies _ rfl _ _ 23 rfl (w.heap.size + 1 + 1) 29 i0 _ 3 24 Try.underlying23 hi hi0 hi1 hi2 rfl (by decide) (.slice none 0 0) 0 [] rfl (World.ownsRow_nil _ _ _ _) ⟨w.heap.size + 1 + 1, 0, none⟩ 1 1 [.bool false, .int .i64 0, .int .i64 s.size] rfl rfl (World.news_of_block (cs := #[.bool false, .int .i64 0, .int .i64 s.size]) (t := 29) (fr := (0, 0)) (alloc3_block _ _ _ _)) (by simp [Value.oneCell']) (by omega) (by unfold maxLen; omega) (by omega) (by first | (simp; done) | (simp; omega)) (w.heap.size + 1 + 1 + 1) (by simp) ?_; intro gg cap w3 hown3 hgrow3 hat3 hlt3; have hb3 := (Below.refl _ _).grown hgrow3 (Nat.le_refl _) (fun _ h => by cases h); obtain ⟨hc3, hf3⟩ := bcell hb3; have hz3 := hb3.size; (try simp at hz3); (try replace hz3 := Nat.lt_of_succ_le hz3)))
      have ho := hown3
      simp only [Nat.zero_add, List.nil_append] at ho
      have hq : w.heap.size < w3.heap.size := by omega
      have hq2 : w.heap.size + 1 < w3.heap.size := by omega
      have c0 : w3.cell? ⟨w.heap.size, 0, none⟩ = some (.string ⟨#[]⟩) := (hc3 _ _ (by simp; omega)).trans (by simp [go_sem]; done)
      have c1 : w3.cell? ⟨w.heap.size, 1, none⟩ = some (.string ⟨#[]⟩) := (hc3 _ _ (by simp; omega)).trans (by simp [go_sem]; done)
      have c2 : w3.cell? ⟨w.heap.size, 2, none⟩ = some (.slice none 0 0) := (hc3 _ _ (by simp; omega)).trans (by simp [go_sem]; done)
      clear hc3 hf3
      refine bodyPost_ret (v := .agg #[.string s, .string ⟨#[]⟩, .slice (some ⟨gg, 0, none⟩) 1 cap]) (by simp [results, Try.results30, go_sem, c0, c1, c2]) rfl ?_
      refine ⟨_, _, _, rfl, ⟨rfl, owns_base (base := w.heap.size + 1 + 1) ?_ (by omega)⟩, (by repeat (first | exact Below.refl _ _ | assumption | (refine bstep ?_ (by assumption)) | refine balloc ?_ _ | refine bdrew ?_ | refine bdrewN ?_ _ | refine bset ?_ (by first | (simp; done) | (simp; omega)) _))⟩
      repeat refine ownsRow_setCell_below ?_ (by first | (simp; done) | (simp; omega)) _
      exact ho
end Go.Proofs.Ytecejfcoognkiaa
