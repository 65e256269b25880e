/- The program's number and word: walked. -/
import Derived.Test.YtigaacbaaopfmaaDoorPi
namespace Go.Proofs.YtigaacbaaopfmaaDoor.sh
open Go.RowKit
set_option linter.unusedVariables false
/-- A number's text: its value and the error. -/
def numP (s : List UInt8) : Int × Int :=
  match s with
  | [] => (0, 160)
  | c :: t =>
    if c = 45 then
      if allD false t = true then (if val false t ≤ 9223372036854775808 then (-(val false t : Int), 0) else (0, 161)) else (0, 160)
    else if allD false (c :: t) = true then (if val false (c :: t) < 9223372036854775808 then ((val false (c :: t) : Int), 0) else (0, 161)) else (0, 160)
theorem trim_minus {s : ByteArray} {t : List UInt8} (h : s.data.toList = 45 :: t) : (⟨(Lib.trimPrefix s.data.toList [45]).toArray⟩ : ByteArray) = s.extract 1 s.size := by
  apply ByteArray.ext
  apply Array.toList_inj.1
  have : (s.extract 1 s.size).data.toList = s.data.toList.drop 1 := by
    rw [Lib.extract_data]
    rw [List.take_of_length_le]
    simp
  rw [this, h]
  rfl
theorem trim_plain {s : ByteArray} {c : UInt8} {t : List UInt8} (h : s.data.toList = c :: t) (hc : c ≠ 45) : (⟨(Lib.trimPrefix s.data.toList [45]).toArray⟩ : ByteArray) = s := by
  apply ByteArray.ext
  apply Array.toList_inj.1
  rw [h, Lib.trimPrefix, if_neg]
  unfold Lib.hasPrefix
  simp [List.isPrefixOf, Ne.symm hc]
theorem index0 {s : ByteArray} {c : UInt8} {t : List UInt8} (h : s.data.toList = c :: t) (W : World) : (Instr.index 9 (.string s) (.int .i64 0)).run Tryd.prog W = .ok (.int .u8 (c.toNat : Int)) W := by
  have hsz : 0 < s.size := by
    have : s.data.toList.length = s.size := by rw [Array.length_toList]; rfl
    rw [h] at this; simp at this; omega
  rw [run_index_string (h := Tryd.underlying9), dif_pos (by omega)]
  have e : s.data.toList[0]? = some c := by rw [h]; rfl
  have e2 : s[(0 : Int).toNat]'(by simpa using hsz) = c := by
    have : s[(0 : Int).toNat]'(by simpa using hsz) = s.data.toList[0]'(by simpa using hsz) := rfl
    rw [this]
    rw [List.getElem?_eq_getElem (by simpa using hsz)] at e
    exact Option.some.inj e
  rw [e2]
theorem nonempty {s : ByteArray} {c : UInt8} {t : List UInt8} (h : s.data.toList = c :: t) : s.toList.isEmpty = false := by
  rw [← isEmpty_iff, h]; rfl
theorem size_cons {s : ByteArray} {c : UInt8} {t : List UInt8} (h : s.data.toList = c :: t) : s.size = t.length + 1 := by
  have : s.data.toList.length = s.size := by rw [Array.length_toList]; rfl
  rw [← this, h]; rfl
theorem extract1 {s : ByteArray} {c : UInt8} {t : List UInt8} (h : s.data.toList = c :: t) : (s.extract 1 s.size).data.toList = t := by
  rw [Lib.extract_data, List.take_of_length_le (by simp), h]; rfl
theorem isEmpty_nil {s : ByteArray} (h : s.data.toList = []) : s = ⟨#[]⟩ := by
  cases s with | mk d => simp at h; subst h; rfl
/-- The call of ParseInt in number. -/
theorem pi_all (w : World) (hb : Bs w) (s : ByteArray) (hs : s.size ≤ 3000000) (c : UInt8) (t : List UInt8) (h : s.data.toList = c :: t) (hd : allD false (if c = 45 then t else c :: t) = true) :
    ((numP s.data.toList).2 = 0 ∧ Calls Tryd.prog 94 #[.string s, .int .i64 10, .int .i64 64] w fun e w' => e = .returned (.tuple #[.int .i64 (numP s.data.toList).1, .nilIface]) ∧ Below w.heap.size w w') ∨
    (numP s.data.toList = (0, 161) ∧ Calls Tryd.prog 94 #[.string s, .int .i64 10, .int .i64 64] w (RngO w)) := by
  have hne := nonempty h
  have hx := index0 h
  have hsz := size_cons h
  by_cases hc : c = 45
  · subst hc
    rw [if_pos rfl] at hd
    have e1 := extract1 h
    have hs1 : (s.extract 1 s.size).size ≤ 3000000 := by simp; omega
    have cu := pu_64 false (s.extract 1 s.size) (by rw [e1]; exact hd) hs1 w
    rw [e1] at cu
    have cu : Calls Tryd.prog 110 #[.string (s.extract 1 s.size), .int .i64 10, .int .i64 64] w fun e w' => e = .returned (puV 18446744073709551615 (val false t)) ∧ Below w.heap.size w w' := cu
    have e0 : numP s.data.toList = if val false t ≤ 9223372036854775808 then (-(val false t : Int), 0) else (0, 161) := by
      rw [h, numP, if_pos rfl, if_pos hd]
    rw [e0]
    generalize val false t = V at cu ⊢
    by_cases h1 : V ≤ 9223372036854775808
    · rw [if_pos h1]
      rw [puV_ok (by omega)] at cu
      refine Or.inl ⟨rfl, parseInt_ok w s _ ?_⟩
      by_cases h2 : V = 9223372036854775808
      · subst h2
        exact pi_neg_min w s hs (by omega) hne hx cu
      · exact pi_neg_ok w s hs (by omega) hne hx V (by omega) (by omega) cu
    · rw [if_neg h1]
      refine Or.inr ⟨rfl, parseInt_no w hb s hs ?_⟩
      by_cases h2 : V ≤ 18446744073709551615
      · rw [puV_ok h2] at cu
        exact pi_neg_no w s hs (by omega) hne hx V (by omega) (by omega) .nilIface (Or.inl rfl) cu
      · rw [puV_no h2] at cu
        exact pi_neg_no w s hs (by omega) hne hx 18446744073709551615 (by omega) (by omega) _ (Or.inr rfl) cu
  · rw [if_neg hc] at hd
    have hall := hd
    unfold allD at hall
    rw [List.all_cons] at hall
    simp only [Bool.and_eq_true] at hall
    have hcd := isD_false hall.2.1
    have cu := pu_64 false s (by rw [h]; exact hd) hs w
    have cu : Calls Tryd.prog 110 #[.string s, .int .i64 10, .int .i64 64] w fun e w' => e = .returned (puV 18446744073709551615 (val false s.data.toList)) ∧ Below w.heap.size w w' := cu
    have e0 : numP s.data.toList = if val false s.data.toList < 9223372036854775808 then ((val false s.data.toList : Int), 0) else (0, 161) := by
      rw [h, numP, if_neg hc, if_pos hd]
    rw [e0]
    generalize val false s.data.toList = V at cu ⊢
    by_cases h1 : V < 9223372036854775808
    · rw [if_pos h1]
      rw [puV_ok (by omega)] at cu
      exact Or.inl ⟨rfl, parseInt_ok w s _ (pi_plain_ok w s hs hne c.toNat (by omega) hx V (by omega) (by omega) cu)⟩
    · rw [if_neg h1]
      refine Or.inr ⟨rfl, parseInt_no w hb s hs ?_⟩
      by_cases h2 : V ≤ 18446744073709551615
      · rw [puV_ok h2] at cu
        exact pi_plain_no w s hs hne c.toNat (by omega) hx V (by omega) (by omega) .nilIface (Or.inl rfl) cu
      · rw [puV_no h2] at cu
        exact pi_plain_no w s hs hne c.toNat (by omega) hx 18446744073709551615 (by omega) (by omega) _ (Or.inr rfl) cu
theorem number_bad (w : World) (s t : ByteArray) (hs : t.size ≤ 3000000) (ht : (⟨(Lib.trimPrefix s.data.toList [45]).toArray⟩ : ByteArray) = t) (hd : allD false t.data.toList = false) :
    Calls Tryd.prog 78 #[.string s] w fun e w' => e = .returned (.tuple #[.int .i64 0, .int .i64 160]) ∧ Below w.heap.size w w' := by
  have ct := fun wq => Tryd.strings_TrimPrefix s ⟨#[45]⟩ wq
  have ct : ∀ wq, Calls Tryd.prog 93 #[.string s, .string ⟨#[45]⟩] wq fun e w' => e = .returned (.string t) ∧ w' = wq := fun wq => ht ▸ ct wq
  have ca := all_walk w t false hs
  rw [hd] at ca
  have ca : Calls Tryd.prog 92 #[.string t, .int .i64 10] w fun e w' => e = .returned (.bool false) ∧ Below w.heap.size w w' := ca
  clear ht hd
  go_enter Tryd.func78, Tryd.ntmps78
  go_wp2_with (first
    | (go_at_call 93; (with_reducible refine (ct _).mono ?_); rintro e w1 ⟨rfl, rfl⟩)
    | (go_at_call 92; (with_reducible refine ca.mono ?_); rintro e w1 ⟨rfl, hB⟩))
  go_ret2
  exact ⟨rfl, hB⟩
theorem number_ok (w : World) (hb : Bs w) (s t : ByteArray) (hs : t.size ≤ 3000000) (ht : (⟨(Lib.trimPrefix s.data.toList [45]).toArray⟩ : ByteArray) = t) (hd : allD false t.data.toList = true) (x : Int)
    (c : ∀ wq, Below w.heap.size w wq → Calls Tryd.prog 94 #[.string s, .int .i64 10, .int .i64 64] wq fun e w' => e = .returned (.tuple #[.int .i64 x, .nilIface]) ∧ Below wq.heap.size wq w') :
    Calls Tryd.prog 78 #[.string s] w fun e w' => e = .returned (.tuple #[.int .i64 x, .int .i64 0]) ∧ Below w.heap.size w w' := by
  have ct := fun wq => Tryd.strings_TrimPrefix s ⟨#[45]⟩ wq
  have ct : ∀ wq, Calls Tryd.prog 93 #[.string s, .string ⟨#[45]⟩] wq fun e w' => e = .returned (.string t) ∧ w' = wq := fun wq => ht ▸ ct wq
  have ca := all_walk w t false hs
  rw [hd] at ca
  have ca : Calls Tryd.prog 92 #[.string t, .int .i64 10] w fun e w' => e = .returned (.bool true) ∧ Below w.heap.size w w' := ca
  clear ht hd
  go_enter Tryd.func78, Tryd.ntmps78
  go_wp2_with (first
    | (go_at_call 93; (with_reducible refine (ct _).mono ?_); rintro e w1 ⟨rfl, rfl⟩)
    | (go_at_call 92; (with_reducible refine ca.mono ?_); rintro e w1 ⟨rfl, hB⟩)
    | (go_at_call 94; (with_reducible refine (c _ hB).mono ?_); rintro e w2 ⟨rfl, hB2⟩))
  go_ret2
  exact ⟨rfl, below_next hB hB2⟩
theorem number_no (w : World) (hb : Bs w) (s t : ByteArray) (hs : t.size ≤ 3000000) (ht : (⟨(Lib.trimPrefix s.data.toList [45]).toArray⟩ : ByteArray) = t) (hd : allD false t.data.toList = true)
    (c : ∀ wq, Below w.heap.size w wq → Calls Tryd.prog 94 #[.string s, .int .i64 10, .int .i64 64] wq (RngO wq)) :
    Calls Tryd.prog 78 #[.string s] w fun e w' => e = .returned (.tuple #[.int .i64 0, .int .i64 161]) ∧ Below w.heap.size w w' := by
  have ct := fun wq => Tryd.strings_TrimPrefix s ⟨#[45]⟩ wq
  have ct : ∀ wq, Calls Tryd.prog 93 #[.string s, .string ⟨#[45]⟩] wq fun e w' => e = .returned (.string t) ∧ w' = wq := fun wq => ht ▸ ct wq
  have ca := all_walk w t false hs
  rw [hd] at ca
  have ca : Calls Tryd.prog 92 #[.string t, .int .i64 10] w fun e w' => e = .returned (.bool true) ∧ Below w.heap.size w w' := ca
  clear ht hd
  go_enter Tryd.func78, Tryd.ntmps78
  go_wp2_with (first
    | (go_at_call 93; (with_reducible refine (ct _).mono ?_); rintro e w1 ⟨rfl, rfl⟩)
    | (go_at_call 92; (with_reducible refine ca.mono ?_); rintro e w1 ⟨rfl, hB⟩)
    | (go_at_call 94; (with_reducible refine (c _ hB).mono ?_); rintro e w2 ⟨x, p, rfl, hB2⟩))
  go_ret2
  exact ⟨rfl, below_next hB hB2⟩
theorem number_walk (w : World) (hb : Bs w) (s : ByteArray) (hs : s.size ≤ 3000000) :
    Calls Tryd.prog 78 #[.string s] w fun e w' => e = .returned (.tuple #[.int .i64 (numP s.data.toList).1, .int .i64 (numP s.data.toList).2]) ∧ Below w.heap.size w w' := by
  cases h : s.data.toList with
  | nil =>
    exact number_bad w s s hs (by rw [h, isEmpty_nil h]; rfl) (by rw [h]; rfl)
  | cons c t =>
    have hsz := size_cons h
    obtain ⟨u, hu, hud⟩ : ∃ u : ByteArray, (⟨(Lib.trimPrefix s.data.toList [45]).toArray⟩ : ByteArray) = u ∧ u.data.toList = if c = 45 then t else c :: t := by
      by_cases hc : c = 45
      · subst hc
        exact ⟨_, trim_minus h, by rw [if_pos rfl, extract1 h]⟩
      · exact ⟨_, trim_plain h hc, by rw [if_neg hc, h]⟩
    have hus : u.size ≤ 3000000 := by
      have : u.data.toList.length = u.size := by rw [Array.length_toList]; rfl
      rw [hud] at this
      by_cases hc : c = 45
      · rw [if_pos hc] at this; omega
      · rw [if_neg hc, List.length_cons] at this; omega
    by_cases hd : allD false (if c = 45 then t else c :: t) = true
    · rw [← h]
      have hd' : allD false u.data.toList = true := by rw [hud]; exact hd
      have key : ∀ wq, Below w.heap.size w wq → _ := fun wq hw => pi_all wq (hb.below hw) s hs c t h hd
      rcases key w (Below.refl _ _) with ⟨e1, _⟩ | ⟨e1, _⟩
      · rw [e1]
        refine number_ok w hb s u hus hu hd' _ fun wq hw => ?_
        rcases key wq hw with ⟨_, k⟩ | ⟨e2, _⟩
        · exact k
        · rw [e2] at e1; cases e1
      · rw [e1]
        refine number_no w hb s u hus hu hd' fun wq hw => ?_
        rcases key wq hw with ⟨e2, _⟩ | ⟨_, k⟩
        · rw [e1] at e2; cases e2
        · exact k
    · have hd1 : allD false (if c = 45 then t else c :: t) = false := by simpa using hd
      have e0 : numP (c :: t) = (0, 160) := by
        rw [numP]
        by_cases hc : c = 45
        · rw [if_pos hc] at hd ⊢; rw [if_neg hd]
        · rw [if_neg hc] at hd ⊢; rw [if_neg hd]
      rw [e0]
      exact number_bad w s u hus hu (by rw [hud]; exact hd1)
end Go.Proofs.YtigaacbaaopfmaaDoor.sh
