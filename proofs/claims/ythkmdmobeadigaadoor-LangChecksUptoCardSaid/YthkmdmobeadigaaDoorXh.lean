/- One statement, without its parts: the document's word, walked. -/
import Derived.Test.YthkmdmobeadigaaDoorXg
import Derived.Test.YthkmdmobeadigaaDoorWf
namespace Go.Proofs.YthkmdmobeadigaaDoor.lg
open Go.RowKit
set_option linter.unusedVariables false
set_option linter.unusedSimpArgs false
theorem locS1 (k : Int) (n ke v : List UInt8) (ne nb nf : Nat) (h : k = 1 ∨ k = 3) : locS k n ke v ne nb nf = ((ne == 1) && (nb == 0) && (nf == 0) && (ke.isEmpty && v.isEmpty) && nameB n) := by
  rw [locS, if_pos h]; simp only [Bool.and_assoc]
theorem locS2 (n ke v : List UInt8) (ne nb nf : Nat) : locS 2 n ke v ne nb nf = ((ne == 2) && (nb == 0) && (nf == 0) && (ke.isEmpty && v.isEmpty) && nameB n) := by
  simp [locS, Bool.and_assoc]
theorem locS4 (n ke v : List UInt8) (ne nb nf : Nat) : locS 4 n ke v ne nb nf = ((ne == 0) && (nb == 0) && (nf == 0) && (ke.isEmpty && v.isEmpty) && nameB n) := by
  simp [locS, Bool.and_assoc]
theorem locS5 (n ke v : List UInt8) (ne nb nf : Nat) : locS 5 n ke v ne nb nf = ((nb == 0) && (nf == 0) && (ke.isEmpty && v.isEmpty) && n.isEmpty) := by
  simp [locS, Bool.and_assoc]
theorem locS6 (n ke v : List UInt8) (ne nb nf : Nat) : locS 6 n ke v ne nb nf = ((ne == 1) && (ke.isEmpty && v.isEmpty) && n.isEmpty) := by
  simp [locS, Bool.and_assoc]
theorem locS7 (n ke v : List UInt8) (ne nb nf : Nat) : locS 7 n ke v ne nb nf = ((ne == 1) && (ke.isEmpty && v.isEmpty) && n.isEmpty && (nf == 0)) := by
  simp [locS, Bool.and_assoc]
theorem locS8 (n ke v : List UInt8) (ne nb nf : Nat) : locS 8 n ke v ne nb nf = ((ne == 0) && nameB ke && nameB v && nameB n && (nf == 0)) := by
  simp [locS, Bool.and_assoc]
theorem locS9 (k : Int) (n ke v : List UInt8) (ne nb nf : Nat) (h : k = 9 ∨ k = 10) : locS k n ke v ne nb nf = ((ne == 0) && (nb == 0) && (nf == 0) && (ke.isEmpty && v.isEmpty) && n.isEmpty) := by
  rcases h with rfl | rfl <;> simp [locS, Bool.and_assoc]
set_option maxHeartbeats 40000000 in
set_option maxRecDepth 100000 in
theorem stmtFormed_a (k : Int) (name key val : ByteArray) (a1 a2 a3 : Option Addr) (c1 c2 c3 : Nat) (ne nb nf : Nat) (w : World) (hs : name.size ≤ 100000000 ∧ key.size ≤ 100000000 ∧ val.size ≤ 100000000) (hne3 : ne ≤ 3000000 ∧ nb ≤ 3000000 ∧ nf ≤ 3000000) (hnb : nb = 0) (hnf : nf = 0) : Calls Tryd.prog 56 #[.agg #[.int .i64 k, .string name, .string key, .string val, .slice a1 ne c1, .slice a2 nb c2, .slice a3 nf c3]] w (IsY (locS k name.data.toList key.data.toList val.data.toList ne nb nf) w) := by
  have c1' : ∀ W, Calls Tryd.prog 27 #[.string name] W (IsY (nameB name.data.toList) W) := fun W => name_walk W name hs.1
  have c2' : ∀ W, Calls Tryd.prog 27 #[.string key] W (IsY (nameB key.data.toList) W) := fun W => name_walk W key hs.2.1
  have c3' : ∀ W, Calls Tryd.prog 27 #[.string val] W (IsY (nameB val.data.toList) W) := fun W => name_walk W val hs.2.2
  have cZ : ∀ (W : World) (p : Nat), W.heap.size = p → Calls Tryd.prog 81 #[.slice (some ⟨p, 0, none⟩) 2 2] (W.alloc (.cells #[.string key, .string val] 9)) (IsB (key.data.toList.isEmpty && val.data.toList.isEmpty) (W.alloc (.cells #[.string key, .string val] 9))) := fun W p h => h ▸ none2 key val W
  obtain ⟨R, hR⟩ : ∃ R, locS k name.data.toList key.data.toList val.data.toList ne nb nf = R := ⟨_, rfl⟩
  rw [hR]
  have HR : Aside0 (R = locS k name.data.toList key.data.toList val.data.toList ne nb nf) := ⟨hR.symm⟩
  obtain ⟨nl, hnl⟩ : ∃ l, name.data.toList = l := ⟨_, rfl⟩
  obtain ⟨kl, hkl⟩ : ∃ l, key.data.toList = l := ⟨_, rfl⟩
  obtain ⟨vl, hvl⟩ : ∃ l, val.data.toList = l := ⟨_, rfl⟩
  have HT : Aside0 (name.toList = nl) := ⟨by rw [toList_data, hnl]⟩
  rw [hnl, hkl, hvl] at HR
  rw [hkl, hvl] at cZ
  rw [hnl] at c1'
  rw [hkl] at c2'
  rw [hvl] at c3'
  clear hnl hkl hvl hR
  obtain ⟨b1, hb1⟩ : ∃ b, nameB nl = b := ⟨_, rfl⟩
  obtain ⟨b2, hb2⟩ : ∃ b, nameB kl = b := ⟨_, rfl⟩
  obtain ⟨b3, hb3⟩ : ∃ b, nameB vl = b := ⟨_, rfl⟩
  obtain ⟨bz, hbz⟩ : ∃ b, (kl.isEmpty && vl.isEmpty) = b := ⟨_, rfl⟩
  have HN : Aside0 (nameB nl = b1 ∧ nameB kl = b2 ∧ nameB vl = b3 ∧ (kl.isEmpty && vl.isEmpty) = bz) := ⟨hb1, hb2, hb3, hbz⟩
  rw [hb1] at c1'
  rw [hb2] at c2'
  rw [hb3] at c3'
  rw [hbz] at cZ
  clear hb1 hb2 hb3 hbz
  subst hnb
  subst hnf
  by_cases h1 : k = 1
  · subst h1
    by_cases hl : ne = 1
    · subst hl
      cases bz
      case false =>
        have A : Aside0 (R = false) := ⟨by rw [HR.out, locS1 _ _ _ _ _ _ _ (.inl rfl)]; simp [HN.out.1, HN.out.2.1, HN.out.2.2.1, HN.out.2.2.2]⟩
        go_enter Tryd.func56, Tryd.ntmps56
        go_wp2_with (first | (go_at_call 27; (first | with_reducible refine (c1' _).mono ?_ | with_reducible refine (c2' _).mono ?_ | with_reducible refine (c3' _).mono ?_); rintro e w1 ⟨rfl, hB1⟩; (have hbc := (bcell hB1).1); (have hbs : w.heap.size < w1.heap.size := (by have hq := hB1.size; (try simp at hq); omega))) | (go_at_call 81; (with_reducible refine (cZ _ _ (by simp)).mono ?_); rintro e w1 ⟨rfl, rfl⟩))
        go_ret
        exact ⟨ret_bool (by first | exact A.out.symm | (rw [A.out]; simp; omega) | (rw [A.out]; simp)), by repeat (first | with_reducible assumption | with_reducible refine below_set ?_ (by omega) _ | with_reducible refine Below.alloc ?_ (by first | omega | (simp; done) | (simp; omega)) _ | with_reducible refine Below.drew ?_ | with_reducible exact Below.refl _ _ | with_reducible refine below_two ?_ (by with_reducible assumption))⟩
      case true =>
        have A : Aside0 (R = b1) := ⟨by rw [HR.out, locS1 _ _ _ _ _ _ _ (.inl rfl)]; simp [HN.out.1, HN.out.2.1, HN.out.2.2.1, HN.out.2.2.2]⟩
        go_enter Tryd.func56, Tryd.ntmps56
        go_wp2_with (first | (go_at_call 27; (first | with_reducible refine (c1' _).mono ?_ | with_reducible refine (c2' _).mono ?_ | with_reducible refine (c3' _).mono ?_); rintro e w1 ⟨rfl, hB1⟩; (have hbc := (bcell hB1).1); (have hbs : w.heap.size < w1.heap.size := (by have hq := hB1.size; (try simp at hq); omega))) | (go_at_call 81; (with_reducible refine (cZ _ _ (by simp)).mono ?_); rintro e w1 ⟨rfl, rfl⟩))
        go_ret
        exact ⟨ret_bool (by first | exact A.out.symm | (rw [A.out]; simp; omega) | (rw [A.out]; simp)), by repeat (first | with_reducible assumption | with_reducible refine below_set ?_ (by omega) _ | with_reducible refine Below.alloc ?_ (by first | omega | (simp; done) | (simp; omega)) _ | with_reducible refine Below.drew ?_ | with_reducible exact Below.refl _ _ | with_reducible refine below_two ?_ (by with_reducible assumption))⟩
    · have hl' : ¬ (ne : Int) = 1 := by omega
      have A : Aside0 (R = false) := ⟨by rw [HR.out, locS1 _ _ _ _ _ _ _ (.inl rfl)]; simp [HN.out.1, HN.out.2.1, HN.out.2.2.1, HN.out.2.2.2, hl]⟩
      go_enter Tryd.func56, Tryd.ntmps56
      go_wp2_with (first | (go_at_call 27; (first | with_reducible refine (c1' _).mono ?_ | with_reducible refine (c2' _).mono ?_ | with_reducible refine (c3' _).mono ?_); rintro e w1 ⟨rfl, hB1⟩; (have hbc := (bcell hB1).1); (have hbs : w.heap.size < w1.heap.size := (by have hq := hB1.size; (try simp at hq); omega))) | (go_at_call 81; (with_reducible refine (cZ _ _ (by simp)).mono ?_); rintro e w1 ⟨rfl, rfl⟩))
      go_ret
      exact ⟨ret_bool (by first | exact A.out.symm | (rw [A.out]; simp; omega) | (rw [A.out]; simp)), by repeat (first | with_reducible assumption | with_reducible refine below_set ?_ (by omega) _ | with_reducible refine Below.alloc ?_ (by first | omega | (simp; done) | (simp; omega)) _ | with_reducible refine Below.drew ?_ | with_reducible exact Below.refl _ _ | with_reducible refine below_two ?_ (by with_reducible assumption))⟩
  have h1' : (k == 1) = false := beq_eq_false_iff_ne.2 h1
  by_cases h3 : k = 3
  · subst h3
    by_cases hl : ne = 1
    · subst hl
      cases bz
      case false =>
        have A : Aside0 (R = false) := ⟨by rw [HR.out, locS1 _ _ _ _ _ _ _ (.inr rfl)]; simp [HN.out.1, HN.out.2.1, HN.out.2.2.1, HN.out.2.2.2]⟩
        go_enter Tryd.func56, Tryd.ntmps56
        go_wp2_with (first | (go_at_call 27; (first | with_reducible refine (c1' _).mono ?_ | with_reducible refine (c2' _).mono ?_ | with_reducible refine (c3' _).mono ?_); rintro e w1 ⟨rfl, hB1⟩; (have hbc := (bcell hB1).1); (have hbs : w.heap.size < w1.heap.size := (by have hq := hB1.size; (try simp at hq); omega))) | (go_at_call 81; (with_reducible refine (cZ _ _ (by simp)).mono ?_); rintro e w1 ⟨rfl, rfl⟩))
        go_ret
        exact ⟨ret_bool (by first | exact A.out.symm | (rw [A.out]; simp; omega) | (rw [A.out]; simp)), by repeat (first | with_reducible assumption | with_reducible refine below_set ?_ (by omega) _ | with_reducible refine Below.alloc ?_ (by first | omega | (simp; done) | (simp; omega)) _ | with_reducible refine Below.drew ?_ | with_reducible exact Below.refl _ _ | with_reducible refine below_two ?_ (by with_reducible assumption))⟩
      case true =>
        have A : Aside0 (R = b1) := ⟨by rw [HR.out, locS1 _ _ _ _ _ _ _ (.inr rfl)]; simp [HN.out.1, HN.out.2.1, HN.out.2.2.1, HN.out.2.2.2]⟩
        go_enter Tryd.func56, Tryd.ntmps56
        go_wp2_with (first | (go_at_call 27; (first | with_reducible refine (c1' _).mono ?_ | with_reducible refine (c2' _).mono ?_ | with_reducible refine (c3' _).mono ?_); rintro e w1 ⟨rfl, hB1⟩; (have hbc := (bcell hB1).1); (have hbs : w.heap.size < w1.heap.size := (by have hq := hB1.size; (try simp at hq); omega))) | (go_at_call 81; (with_reducible refine (cZ _ _ (by simp)).mono ?_); rintro e w1 ⟨rfl, rfl⟩))
        go_ret
        exact ⟨ret_bool (by first | exact A.out.symm | (rw [A.out]; simp; omega) | (rw [A.out]; simp)), by repeat (first | with_reducible assumption | with_reducible refine below_set ?_ (by omega) _ | with_reducible refine Below.alloc ?_ (by first | omega | (simp; done) | (simp; omega)) _ | with_reducible refine Below.drew ?_ | with_reducible exact Below.refl _ _ | with_reducible refine below_two ?_ (by with_reducible assumption))⟩
    · have hl' : ¬ (ne : Int) = 1 := by omega
      have A : Aside0 (R = false) := ⟨by rw [HR.out, locS1 _ _ _ _ _ _ _ (.inr rfl)]; simp [HN.out.1, HN.out.2.1, HN.out.2.2.1, HN.out.2.2.2, hl]⟩
      go_enter Tryd.func56, Tryd.ntmps56
      go_wp2_with (first | (go_at_call 27; (first | with_reducible refine (c1' _).mono ?_ | with_reducible refine (c2' _).mono ?_ | with_reducible refine (c3' _).mono ?_); rintro e w1 ⟨rfl, hB1⟩; (have hbc := (bcell hB1).1); (have hbs : w.heap.size < w1.heap.size := (by have hq := hB1.size; (try simp at hq); omega))) | (go_at_call 81; (with_reducible refine (cZ _ _ (by simp)).mono ?_); rintro e w1 ⟨rfl, rfl⟩))
      go_ret
      exact ⟨ret_bool (by first | exact A.out.symm | (rw [A.out]; simp; omega) | (rw [A.out]; simp)), by repeat (first | with_reducible assumption | with_reducible refine below_set ?_ (by omega) _ | with_reducible refine Below.alloc ?_ (by first | omega | (simp; done) | (simp; omega)) _ | with_reducible refine Below.drew ?_ | with_reducible exact Below.refl _ _ | with_reducible refine below_two ?_ (by with_reducible assumption))⟩
  have h3' : (k == 3) = false := beq_eq_false_iff_ne.2 h3
  by_cases h2 : k = 2
  · subst h2
    by_cases hl : ne = 2
    · subst hl
      cases bz
      case false =>
        have A : Aside0 (R = false) := ⟨by rw [HR.out, locS2]; simp [HN.out.1, HN.out.2.1, HN.out.2.2.1, HN.out.2.2.2]⟩
        go_enter Tryd.func56, Tryd.ntmps56
        go_wp2_with (first | (go_at_call 27; (first | with_reducible refine (c1' _).mono ?_ | with_reducible refine (c2' _).mono ?_ | with_reducible refine (c3' _).mono ?_); rintro e w1 ⟨rfl, hB1⟩; (have hbc := (bcell hB1).1); (have hbs : w.heap.size < w1.heap.size := (by have hq := hB1.size; (try simp at hq); omega))) | (go_at_call 81; (with_reducible refine (cZ _ _ (by simp)).mono ?_); rintro e w1 ⟨rfl, rfl⟩))
        go_ret
        exact ⟨ret_bool (by first | exact A.out.symm | (rw [A.out]; simp; omega) | (rw [A.out]; simp)), by repeat (first | with_reducible assumption | with_reducible refine below_set ?_ (by omega) _ | with_reducible refine Below.alloc ?_ (by first | omega | (simp; done) | (simp; omega)) _ | with_reducible refine Below.drew ?_ | with_reducible exact Below.refl _ _ | with_reducible refine below_two ?_ (by with_reducible assumption))⟩
      case true =>
        have A : Aside0 (R = b1) := ⟨by rw [HR.out, locS2]; simp [HN.out.1, HN.out.2.1, HN.out.2.2.1, HN.out.2.2.2]⟩
        go_enter Tryd.func56, Tryd.ntmps56
        go_wp2_with (first | (go_at_call 27; (first | with_reducible refine (c1' _).mono ?_ | with_reducible refine (c2' _).mono ?_ | with_reducible refine (c3' _).mono ?_); rintro e w1 ⟨rfl, hB1⟩; (have hbc := (bcell hB1).1); (have hbs : w.heap.size < w1.heap.size := (by have hq := hB1.size; (try simp at hq); omega))) | (go_at_call 81; (with_reducible refine (cZ _ _ (by simp)).mono ?_); rintro e w1 ⟨rfl, rfl⟩))
        go_ret
        exact ⟨ret_bool (by first | exact A.out.symm | (rw [A.out]; simp; omega) | (rw [A.out]; simp)), by repeat (first | with_reducible assumption | with_reducible refine below_set ?_ (by omega) _ | with_reducible refine Below.alloc ?_ (by first | omega | (simp; done) | (simp; omega)) _ | with_reducible refine Below.drew ?_ | with_reducible exact Below.refl _ _ | with_reducible refine below_two ?_ (by with_reducible assumption))⟩
    · have hl' : ¬ (ne : Int) = 2 := by omega
      have A : Aside0 (R = false) := ⟨by rw [HR.out, locS2]; simp [HN.out.1, HN.out.2.1, HN.out.2.2.1, HN.out.2.2.2, hl]⟩
      go_enter Tryd.func56, Tryd.ntmps56
      go_wp2_with (first | (go_at_call 27; (first | with_reducible refine (c1' _).mono ?_ | with_reducible refine (c2' _).mono ?_ | with_reducible refine (c3' _).mono ?_); rintro e w1 ⟨rfl, hB1⟩; (have hbc := (bcell hB1).1); (have hbs : w.heap.size < w1.heap.size := (by have hq := hB1.size; (try simp at hq); omega))) | (go_at_call 81; (with_reducible refine (cZ _ _ (by simp)).mono ?_); rintro e w1 ⟨rfl, rfl⟩))
      go_ret
      exact ⟨ret_bool (by first | exact A.out.symm | (rw [A.out]; simp; omega) | (rw [A.out]; simp)), by repeat (first | with_reducible assumption | with_reducible refine below_set ?_ (by omega) _ | with_reducible refine Below.alloc ?_ (by first | omega | (simp; done) | (simp; omega)) _ | with_reducible refine Below.drew ?_ | with_reducible exact Below.refl _ _ | with_reducible refine below_two ?_ (by with_reducible assumption))⟩
  have h2' : (k == 2) = false := beq_eq_false_iff_ne.2 h2
  by_cases h4 : k = 4
  · subst h4
    by_cases hl : ne = 0
    · subst hl
      cases bz
      case false =>
        have A : Aside0 (R = false) := ⟨by rw [HR.out, locS4]; simp [HN.out.1, HN.out.2.1, HN.out.2.2.1, HN.out.2.2.2]⟩
        go_enter Tryd.func56, Tryd.ntmps56
        go_wp2_with (first | (go_at_call 27; (first | with_reducible refine (c1' _).mono ?_ | with_reducible refine (c2' _).mono ?_ | with_reducible refine (c3' _).mono ?_); rintro e w1 ⟨rfl, hB1⟩; (have hbc := (bcell hB1).1); (have hbs : w.heap.size < w1.heap.size := (by have hq := hB1.size; (try simp at hq); omega))) | (go_at_call 81; (with_reducible refine (cZ _ _ (by simp)).mono ?_); rintro e w1 ⟨rfl, rfl⟩))
        go_ret
        exact ⟨ret_bool (by first | exact A.out.symm | (rw [A.out]; simp; omega) | (rw [A.out]; simp)), by repeat (first | with_reducible assumption | with_reducible refine below_set ?_ (by omega) _ | with_reducible refine Below.alloc ?_ (by first | omega | (simp; done) | (simp; omega)) _ | with_reducible refine Below.drew ?_ | with_reducible exact Below.refl _ _ | with_reducible refine below_two ?_ (by with_reducible assumption))⟩
      case true =>
        have A : Aside0 (R = b1) := ⟨by rw [HR.out, locS4]; simp [HN.out.1, HN.out.2.1, HN.out.2.2.1, HN.out.2.2.2]⟩
        go_enter Tryd.func56, Tryd.ntmps56
        go_wp2_with (first | (go_at_call 27; (first | with_reducible refine (c1' _).mono ?_ | with_reducible refine (c2' _).mono ?_ | with_reducible refine (c3' _).mono ?_); rintro e w1 ⟨rfl, hB1⟩; (have hbc := (bcell hB1).1); (have hbs : w.heap.size < w1.heap.size := (by have hq := hB1.size; (try simp at hq); omega))) | (go_at_call 81; (with_reducible refine (cZ _ _ (by simp)).mono ?_); rintro e w1 ⟨rfl, rfl⟩))
        go_ret
        exact ⟨ret_bool (by first | exact A.out.symm | (rw [A.out]; simp; omega) | (rw [A.out]; simp)), by repeat (first | with_reducible assumption | with_reducible refine below_set ?_ (by omega) _ | with_reducible refine Below.alloc ?_ (by first | omega | (simp; done) | (simp; omega)) _ | with_reducible refine Below.drew ?_ | with_reducible exact Below.refl _ _ | with_reducible refine below_two ?_ (by with_reducible assumption))⟩
    · have hl' : ¬ (ne : Int) = 0 := by omega
      have A : Aside0 (R = false) := ⟨by rw [HR.out, locS4]; simp [HN.out.1, HN.out.2.1, HN.out.2.2.1, HN.out.2.2.2, hl]⟩
      go_enter Tryd.func56, Tryd.ntmps56
      go_wp2_with (first | (go_at_call 27; (first | with_reducible refine (c1' _).mono ?_ | with_reducible refine (c2' _).mono ?_ | with_reducible refine (c3' _).mono ?_); rintro e w1 ⟨rfl, hB1⟩; (have hbc := (bcell hB1).1); (have hbs : w.heap.size < w1.heap.size := (by have hq := hB1.size; (try simp at hq); omega))) | (go_at_call 81; (with_reducible refine (cZ _ _ (by simp)).mono ?_); rintro e w1 ⟨rfl, rfl⟩))
      go_ret
      exact ⟨ret_bool (by first | exact A.out.symm | (rw [A.out]; simp; omega) | (rw [A.out]; simp)), by repeat (first | with_reducible assumption | with_reducible refine below_set ?_ (by omega) _ | with_reducible refine Below.alloc ?_ (by first | omega | (simp; done) | (simp; omega)) _ | with_reducible refine Below.drew ?_ | with_reducible exact Below.refl _ _ | with_reducible refine below_two ?_ (by with_reducible assumption))⟩
  have h4' : (k == 4) = false := beq_eq_false_iff_ne.2 h4
  by_cases h5 : k = 5
  · subst h5
    cases bz
    case false =>
      have A : Aside0 (R = false) := ⟨by rw [HR.out, locS5]; simp [HN.out.1, HN.out.2.1, HN.out.2.2.1, HN.out.2.2.2]⟩
      go_enter Tryd.func56, Tryd.ntmps56
      go_wp2_with (first | (go_at_call 27; (first | with_reducible refine (c1' _).mono ?_ | with_reducible refine (c2' _).mono ?_ | with_reducible refine (c3' _).mono ?_); rintro e w1 ⟨rfl, hB1⟩; (have hbc := (bcell hB1).1); (have hbs : w.heap.size < w1.heap.size := (by have hq := hB1.size; (try simp at hq); omega))) | (go_at_call 81; (with_reducible refine (cZ _ _ (by simp)).mono ?_); rintro e w1 ⟨rfl, rfl⟩))
      go_ret
      exact ⟨ret_bool (by first | exact A.out.symm | (rw [A.out]; simp; omega) | (rw [A.out]; simp)), by repeat (first | with_reducible assumption | with_reducible refine below_set ?_ (by omega) _ | with_reducible refine Below.alloc ?_ (by first | omega | (simp; done) | (simp; omega)) _ | with_reducible refine Below.drew ?_ | with_reducible exact Below.refl _ _ | with_reducible refine below_two ?_ (by with_reducible assumption))⟩
    case true =>
      by_cases ho : name.toList = []
      · have HO : Aside0 (nl = []) := ⟨by rw [← HT.out]; exact ho⟩
        have A : Aside0 (R = true) := ⟨by rw [HR.out, locS5]; simp [HN.out.1, HN.out.2.1, HN.out.2.2.1, HN.out.2.2.2, HO.out]⟩
        go_enter Tryd.func56, Tryd.ntmps56
        go_wp2_with (first | (go_at_call 27; (first | with_reducible refine (c1' _).mono ?_ | with_reducible refine (c2' _).mono ?_ | with_reducible refine (c3' _).mono ?_); rintro e w1 ⟨rfl, hB1⟩; (have hbc := (bcell hB1).1); (have hbs : w.heap.size < w1.heap.size := (by have hq := hB1.size; (try simp at hq); omega))) | (go_at_call 81; (with_reducible refine (cZ _ _ (by simp)).mono ?_); rintro e w1 ⟨rfl, rfl⟩))
        go_ret
        exact ⟨ret_bool (by first | exact A.out.symm | (rw [A.out]; simp; omega) | (rw [A.out]; simp)), by repeat (first | with_reducible assumption | with_reducible refine below_set ?_ (by omega) _ | with_reducible refine Below.alloc ?_ (by first | omega | (simp; done) | (simp; omega)) _ | with_reducible refine Below.drew ?_ | with_reducible exact Below.refl _ _ | with_reducible refine below_two ?_ (by with_reducible assumption))⟩
      · have ho' : name.toList.isEmpty = false := by simpa using ho
        have HO : Aside0 (¬ nl = []) := ⟨by rw [← HT.out]; exact ho⟩
        have A : Aside0 (R = false) := ⟨by rw [HR.out, locS5]; simp [HN.out.1, HN.out.2.1, HN.out.2.2.1, HN.out.2.2.2, HO.out]⟩
        go_enter Tryd.func56, Tryd.ntmps56
        go_wp2_with (first | (go_at_call 27; (first | with_reducible refine (c1' _).mono ?_ | with_reducible refine (c2' _).mono ?_ | with_reducible refine (c3' _).mono ?_); rintro e w1 ⟨rfl, hB1⟩; (have hbc := (bcell hB1).1); (have hbs : w.heap.size < w1.heap.size := (by have hq := hB1.size; (try simp at hq); omega))) | (go_at_call 81; (with_reducible refine (cZ _ _ (by simp)).mono ?_); rintro e w1 ⟨rfl, rfl⟩))
        go_ret
        exact ⟨ret_bool (by first | exact A.out.symm | (rw [A.out]; simp; omega) | (rw [A.out]; simp)), by repeat (first | with_reducible assumption | with_reducible refine below_set ?_ (by omega) _ | with_reducible refine Below.alloc ?_ (by first | omega | (simp; done) | (simp; omega)) _ | with_reducible refine Below.drew ?_ | with_reducible exact Below.refl _ _ | with_reducible refine below_two ?_ (by with_reducible assumption))⟩
  have h5' : (k == 5) = false := beq_eq_false_iff_ne.2 h5
  by_cases h6 : k = 6
  · subst h6
    by_cases hl : ne = 1
    · subst hl
      cases bz
      case false =>
        have A : Aside0 (R = false) := ⟨by rw [HR.out, locS6]; simp [HN.out.1, HN.out.2.1, HN.out.2.2.1, HN.out.2.2.2]⟩
        go_enter Tryd.func56, Tryd.ntmps56
        go_wp2_with (first | (go_at_call 27; (first | with_reducible refine (c1' _).mono ?_ | with_reducible refine (c2' _).mono ?_ | with_reducible refine (c3' _).mono ?_); rintro e w1 ⟨rfl, hB1⟩; (have hbc := (bcell hB1).1); (have hbs : w.heap.size < w1.heap.size := (by have hq := hB1.size; (try simp at hq); omega))) | (go_at_call 81; (with_reducible refine (cZ _ _ (by simp)).mono ?_); rintro e w1 ⟨rfl, rfl⟩))
        go_ret
        exact ⟨ret_bool (by first | exact A.out.symm | (rw [A.out]; simp; omega) | (rw [A.out]; simp)), by repeat (first | with_reducible assumption | with_reducible refine below_set ?_ (by omega) _ | with_reducible refine Below.alloc ?_ (by first | omega | (simp; done) | (simp; omega)) _ | with_reducible refine Below.drew ?_ | with_reducible exact Below.refl _ _ | with_reducible refine below_two ?_ (by with_reducible assumption))⟩
      case true =>
        by_cases ho : name.toList = []
        · have HO : Aside0 (nl = []) := ⟨by rw [← HT.out]; exact ho⟩
          have A : Aside0 (R = true) := ⟨by rw [HR.out, locS6]; simp [HN.out.1, HN.out.2.1, HN.out.2.2.1, HN.out.2.2.2, HO.out]⟩
          go_enter Tryd.func56, Tryd.ntmps56
          go_wp2_with (first | (go_at_call 27; (first | with_reducible refine (c1' _).mono ?_ | with_reducible refine (c2' _).mono ?_ | with_reducible refine (c3' _).mono ?_); rintro e w1 ⟨rfl, hB1⟩; (have hbc := (bcell hB1).1); (have hbs : w.heap.size < w1.heap.size := (by have hq := hB1.size; (try simp at hq); omega))) | (go_at_call 81; (with_reducible refine (cZ _ _ (by simp)).mono ?_); rintro e w1 ⟨rfl, rfl⟩))
          go_ret
          exact ⟨ret_bool (by first | exact A.out.symm | (rw [A.out]; simp; omega) | (rw [A.out]; simp)), by repeat (first | with_reducible assumption | with_reducible refine below_set ?_ (by omega) _ | with_reducible refine Below.alloc ?_ (by first | omega | (simp; done) | (simp; omega)) _ | with_reducible refine Below.drew ?_ | with_reducible exact Below.refl _ _ | with_reducible refine below_two ?_ (by with_reducible assumption))⟩
        · have ho' : name.toList.isEmpty = false := by simpa using ho
          have HO : Aside0 (¬ nl = []) := ⟨by rw [← HT.out]; exact ho⟩
          have A : Aside0 (R = false) := ⟨by rw [HR.out, locS6]; simp [HN.out.1, HN.out.2.1, HN.out.2.2.1, HN.out.2.2.2, HO.out]⟩
          go_enter Tryd.func56, Tryd.ntmps56
          go_wp2_with (first | (go_at_call 27; (first | with_reducible refine (c1' _).mono ?_ | with_reducible refine (c2' _).mono ?_ | with_reducible refine (c3' _).mono ?_); rintro e w1 ⟨rfl, hB1⟩; (have hbc := (bcell hB1).1); (have hbs : w.heap.size < w1.heap.size := (by have hq := hB1.size; (try simp at hq); omega))) | (go_at_call 81; (with_reducible refine (cZ _ _ (by simp)).mono ?_); rintro e w1 ⟨rfl, rfl⟩))
          go_ret
          exact ⟨ret_bool (by first | exact A.out.symm | (rw [A.out]; simp; omega) | (rw [A.out]; simp)), by repeat (first | with_reducible assumption | with_reducible refine below_set ?_ (by omega) _ | with_reducible refine Below.alloc ?_ (by first | omega | (simp; done) | (simp; omega)) _ | with_reducible refine Below.drew ?_ | with_reducible exact Below.refl _ _ | with_reducible refine below_two ?_ (by with_reducible assumption))⟩
    · have hl' : ¬ (ne : Int) = 1 := by omega
      have A : Aside0 (R = false) := ⟨by rw [HR.out, locS6]; simp [HN.out.1, HN.out.2.1, HN.out.2.2.1, HN.out.2.2.2, hl]⟩
      go_enter Tryd.func56, Tryd.ntmps56
      go_wp2_with (first | (go_at_call 27; (first | with_reducible refine (c1' _).mono ?_ | with_reducible refine (c2' _).mono ?_ | with_reducible refine (c3' _).mono ?_); rintro e w1 ⟨rfl, hB1⟩; (have hbc := (bcell hB1).1); (have hbs : w.heap.size < w1.heap.size := (by have hq := hB1.size; (try simp at hq); omega))) | (go_at_call 81; (with_reducible refine (cZ _ _ (by simp)).mono ?_); rintro e w1 ⟨rfl, rfl⟩))
      go_ret
      exact ⟨ret_bool (by first | exact A.out.symm | (rw [A.out]; simp; omega) | (rw [A.out]; simp)), by repeat (first | with_reducible assumption | with_reducible refine below_set ?_ (by omega) _ | with_reducible refine Below.alloc ?_ (by first | omega | (simp; done) | (simp; omega)) _ | with_reducible refine Below.drew ?_ | with_reducible exact Below.refl _ _ | with_reducible refine below_two ?_ (by with_reducible assumption))⟩
  have h6' : (k == 6) = false := beq_eq_false_iff_ne.2 h6
  by_cases h7 : k = 7
  · subst h7
    by_cases hl : ne = 1
    · subst hl
      cases bz
      case false =>
        have A : Aside0 (R = false) := ⟨by rw [HR.out, locS7]; simp [HN.out.1, HN.out.2.1, HN.out.2.2.1, HN.out.2.2.2]⟩
        go_enter Tryd.func56, Tryd.ntmps56
        go_wp2_with (first | (go_at_call 27; (first | with_reducible refine (c1' _).mono ?_ | with_reducible refine (c2' _).mono ?_ | with_reducible refine (c3' _).mono ?_); rintro e w1 ⟨rfl, hB1⟩; (have hbc := (bcell hB1).1); (have hbs : w.heap.size < w1.heap.size := (by have hq := hB1.size; (try simp at hq); omega))) | (go_at_call 81; (with_reducible refine (cZ _ _ (by simp)).mono ?_); rintro e w1 ⟨rfl, rfl⟩))
        go_ret
        exact ⟨ret_bool (by first | exact A.out.symm | (rw [A.out]; simp; omega) | (rw [A.out]; simp)), by repeat (first | with_reducible assumption | with_reducible refine below_set ?_ (by omega) _ | with_reducible refine Below.alloc ?_ (by first | omega | (simp; done) | (simp; omega)) _ | with_reducible refine Below.drew ?_ | with_reducible exact Below.refl _ _ | with_reducible refine below_two ?_ (by with_reducible assumption))⟩
      case true =>
        by_cases ho : name.toList = []
        · have HO : Aside0 (nl = []) := ⟨by rw [← HT.out]; exact ho⟩
          have A : Aside0 (R = true) := ⟨by rw [HR.out, locS7]; simp [HN.out.1, HN.out.2.1, HN.out.2.2.1, HN.out.2.2.2, HO.out]⟩
          go_enter Tryd.func56, Tryd.ntmps56
          go_wp2_with (first | (go_at_call 27; (first | with_reducible refine (c1' _).mono ?_ | with_reducible refine (c2' _).mono ?_ | with_reducible refine (c3' _).mono ?_); rintro e w1 ⟨rfl, hB1⟩; (have hbc := (bcell hB1).1); (have hbs : w.heap.size < w1.heap.size := (by have hq := hB1.size; (try simp at hq); omega))) | (go_at_call 81; (with_reducible refine (cZ _ _ (by simp)).mono ?_); rintro e w1 ⟨rfl, rfl⟩))
          go_ret
          exact ⟨ret_bool (by first | exact A.out.symm | (rw [A.out]; simp; omega) | (rw [A.out]; simp)), by repeat (first | with_reducible assumption | with_reducible refine below_set ?_ (by omega) _ | with_reducible refine Below.alloc ?_ (by first | omega | (simp; done) | (simp; omega)) _ | with_reducible refine Below.drew ?_ | with_reducible exact Below.refl _ _ | with_reducible refine below_two ?_ (by with_reducible assumption))⟩
        · have ho' : name.toList.isEmpty = false := by simpa using ho
          have HO : Aside0 (¬ nl = []) := ⟨by rw [← HT.out]; exact ho⟩
          have A : Aside0 (R = false) := ⟨by rw [HR.out, locS7]; simp [HN.out.1, HN.out.2.1, HN.out.2.2.1, HN.out.2.2.2, HO.out]⟩
          go_enter Tryd.func56, Tryd.ntmps56
          go_wp2_with (first | (go_at_call 27; (first | with_reducible refine (c1' _).mono ?_ | with_reducible refine (c2' _).mono ?_ | with_reducible refine (c3' _).mono ?_); rintro e w1 ⟨rfl, hB1⟩; (have hbc := (bcell hB1).1); (have hbs : w.heap.size < w1.heap.size := (by have hq := hB1.size; (try simp at hq); omega))) | (go_at_call 81; (with_reducible refine (cZ _ _ (by simp)).mono ?_); rintro e w1 ⟨rfl, rfl⟩))
          go_ret
          exact ⟨ret_bool (by first | exact A.out.symm | (rw [A.out]; simp; omega) | (rw [A.out]; simp)), by repeat (first | with_reducible assumption | with_reducible refine below_set ?_ (by omega) _ | with_reducible refine Below.alloc ?_ (by first | omega | (simp; done) | (simp; omega)) _ | with_reducible refine Below.drew ?_ | with_reducible exact Below.refl _ _ | with_reducible refine below_two ?_ (by with_reducible assumption))⟩
    · have hl' : ¬ (ne : Int) = 1 := by omega
      have A : Aside0 (R = false) := ⟨by rw [HR.out, locS7]; simp [HN.out.1, HN.out.2.1, HN.out.2.2.1, HN.out.2.2.2, hl]⟩
      go_enter Tryd.func56, Tryd.ntmps56
      go_wp2_with (first | (go_at_call 27; (first | with_reducible refine (c1' _).mono ?_ | with_reducible refine (c2' _).mono ?_ | with_reducible refine (c3' _).mono ?_); rintro e w1 ⟨rfl, hB1⟩; (have hbc := (bcell hB1).1); (have hbs : w.heap.size < w1.heap.size := (by have hq := hB1.size; (try simp at hq); omega))) | (go_at_call 81; (with_reducible refine (cZ _ _ (by simp)).mono ?_); rintro e w1 ⟨rfl, rfl⟩))
      go_ret
      exact ⟨ret_bool (by first | exact A.out.symm | (rw [A.out]; simp; omega) | (rw [A.out]; simp)), by repeat (first | with_reducible assumption | with_reducible refine below_set ?_ (by omega) _ | with_reducible refine Below.alloc ?_ (by first | omega | (simp; done) | (simp; omega)) _ | with_reducible refine Below.drew ?_ | with_reducible exact Below.refl _ _ | with_reducible refine below_two ?_ (by with_reducible assumption))⟩
  have h7' : (k == 7) = false := beq_eq_false_iff_ne.2 h7
  by_cases h8 : k = 8
  · subst h8
    by_cases hl : ne = 0
    · subst hl
      cases b2
      case false =>
        have A : Aside0 (R = false) := ⟨by rw [HR.out, locS8]; simp [HN.out.1, HN.out.2.1, HN.out.2.2.1, HN.out.2.2.2]⟩
        go_enter Tryd.func56, Tryd.ntmps56
        go_wp2_with (first | (go_at_call 27; (first | with_reducible refine (c1' _).mono ?_ | with_reducible refine (c2' _).mono ?_ | with_reducible refine (c3' _).mono ?_); rintro e w1 ⟨rfl, hB1⟩; (have hbc := (bcell hB1).1); (have hbs : w.heap.size < w1.heap.size := (by have hq := hB1.size; (try simp at hq); omega))) | (go_at_call 81; (with_reducible refine (cZ _ _ (by simp)).mono ?_); rintro e w1 ⟨rfl, rfl⟩))
        go_ret
        exact ⟨ret_bool (by first | exact A.out.symm | (rw [A.out]; simp; omega) | (rw [A.out]; simp)), by repeat (first | with_reducible assumption | with_reducible refine below_set ?_ (by omega) _ | with_reducible refine Below.alloc ?_ (by first | omega | (simp; done) | (simp; omega)) _ | with_reducible refine Below.drew ?_ | with_reducible exact Below.refl _ _ | with_reducible refine below_two ?_ (by with_reducible assumption))⟩
      case true =>
        cases b3
        case false =>
          have A : Aside0 (R = false) := ⟨by rw [HR.out, locS8]; simp [HN.out.1, HN.out.2.1, HN.out.2.2.1, HN.out.2.2.2]⟩
          go_enter Tryd.func56, Tryd.ntmps56
          go_wp2_with (first | (go_at_call 27; (first | with_reducible refine (c1' _).mono ?_ | with_reducible refine (c2' _).mono ?_ | with_reducible refine (c3' _).mono ?_); rintro e w1 ⟨rfl, hB1⟩; (have hbc := (bcell hB1).1); (have hbs : w.heap.size < w1.heap.size := (by have hq := hB1.size; (try simp at hq); omega))) | (go_at_call 81; (with_reducible refine (cZ _ _ (by simp)).mono ?_); rintro e w1 ⟨rfl, rfl⟩))
          go_ret
          exact ⟨ret_bool (by first | exact A.out.symm | (rw [A.out]; simp; omega) | (rw [A.out]; simp)), by repeat (first | with_reducible assumption | with_reducible refine below_set ?_ (by omega) _ | with_reducible refine Below.alloc ?_ (by first | omega | (simp; done) | (simp; omega)) _ | with_reducible refine Below.drew ?_ | with_reducible exact Below.refl _ _ | with_reducible refine below_two ?_ (by with_reducible assumption))⟩
        case true =>
          cases b1
          case false =>
            have A : Aside0 (R = false) := ⟨by rw [HR.out, locS8]; simp [HN.out.1, HN.out.2.1, HN.out.2.2.1, HN.out.2.2.2]⟩
            go_enter Tryd.func56, Tryd.ntmps56
            go_wp2_with (first | (go_at_call 27; (first | with_reducible refine (c1' _).mono ?_ | with_reducible refine (c2' _).mono ?_ | with_reducible refine (c3' _).mono ?_); rintro e w1 ⟨rfl, hB1⟩; (have hbc := (bcell hB1).1); (have hbs : w.heap.size < w1.heap.size := (by have hq := hB1.size; (try simp at hq); omega))) | (go_at_call 81; (with_reducible refine (cZ _ _ (by simp)).mono ?_); rintro e w1 ⟨rfl, rfl⟩))
            go_ret
            exact ⟨ret_bool (by first | exact A.out.symm | (rw [A.out]; simp; omega) | (rw [A.out]; simp)), by repeat (first | with_reducible assumption | with_reducible refine below_set ?_ (by omega) _ | with_reducible refine Below.alloc ?_ (by first | omega | (simp; done) | (simp; omega)) _ | with_reducible refine Below.drew ?_ | with_reducible exact Below.refl _ _ | with_reducible refine below_two ?_ (by with_reducible assumption))⟩
          case true =>
            have A : Aside0 (R = true) := ⟨by rw [HR.out, locS8]; simp [HN.out.1, HN.out.2.1, HN.out.2.2.1, HN.out.2.2.2]⟩
            go_enter Tryd.func56, Tryd.ntmps56
            go_wp2_with (first | (go_at_call 27; (first | with_reducible refine (c1' _).mono ?_ | with_reducible refine (c2' _).mono ?_ | with_reducible refine (c3' _).mono ?_); rintro e w1 ⟨rfl, hB1⟩; (have hbc := (bcell hB1).1); (have hbs : w.heap.size < w1.heap.size := (by have hq := hB1.size; (try simp at hq); omega))) | (go_at_call 81; (with_reducible refine (cZ _ _ (by simp)).mono ?_); rintro e w1 ⟨rfl, rfl⟩))
            go_ret
            exact ⟨ret_bool (by first | exact A.out.symm | (rw [A.out]; simp; omega) | (rw [A.out]; simp)), by repeat (first | with_reducible assumption | with_reducible refine below_set ?_ (by omega) _ | with_reducible refine Below.alloc ?_ (by first | omega | (simp; done) | (simp; omega)) _ | with_reducible refine Below.drew ?_ | with_reducible exact Below.refl _ _ | with_reducible refine below_two ?_ (by with_reducible assumption))⟩
    · have hl' : ¬ (ne : Int) = 0 := by omega
      have A : Aside0 (R = false) := ⟨by rw [HR.out, locS8]; simp [HN.out.1, HN.out.2.1, HN.out.2.2.1, HN.out.2.2.2, hl]⟩
      go_enter Tryd.func56, Tryd.ntmps56
      go_wp2_with (first | (go_at_call 27; (first | with_reducible refine (c1' _).mono ?_ | with_reducible refine (c2' _).mono ?_ | with_reducible refine (c3' _).mono ?_); rintro e w1 ⟨rfl, hB1⟩; (have hbc := (bcell hB1).1); (have hbs : w.heap.size < w1.heap.size := (by have hq := hB1.size; (try simp at hq); omega))) | (go_at_call 81; (with_reducible refine (cZ _ _ (by simp)).mono ?_); rintro e w1 ⟨rfl, rfl⟩))
      go_ret
      exact ⟨ret_bool (by first | exact A.out.symm | (rw [A.out]; simp; omega) | (rw [A.out]; simp)), by repeat (first | with_reducible assumption | with_reducible refine below_set ?_ (by omega) _ | with_reducible refine Below.alloc ?_ (by first | omega | (simp; done) | (simp; omega)) _ | with_reducible refine Below.drew ?_ | with_reducible exact Below.refl _ _ | with_reducible refine below_two ?_ (by with_reducible assumption))⟩
  have h8' : (k == 8) = false := beq_eq_false_iff_ne.2 h8
  by_cases h9 : k = 9
  · subst h9
    by_cases hl : ne = 0
    · subst hl
      cases bz
      case false =>
        have A : Aside0 (R = false) := ⟨by rw [HR.out, locS9 _ _ _ _ _ _ _ (.inl rfl)]; simp [HN.out.1, HN.out.2.1, HN.out.2.2.1, HN.out.2.2.2]⟩
        go_enter Tryd.func56, Tryd.ntmps56
        go_wp2_with (first | (go_at_call 27; (first | with_reducible refine (c1' _).mono ?_ | with_reducible refine (c2' _).mono ?_ | with_reducible refine (c3' _).mono ?_); rintro e w1 ⟨rfl, hB1⟩; (have hbc := (bcell hB1).1); (have hbs : w.heap.size < w1.heap.size := (by have hq := hB1.size; (try simp at hq); omega))) | (go_at_call 81; (with_reducible refine (cZ _ _ (by simp)).mono ?_); rintro e w1 ⟨rfl, rfl⟩))
        go_ret
        exact ⟨ret_bool (by first | exact A.out.symm | (rw [A.out]; simp; omega) | (rw [A.out]; simp)), by repeat (first | with_reducible assumption | with_reducible refine below_set ?_ (by omega) _ | with_reducible refine Below.alloc ?_ (by first | omega | (simp; done) | (simp; omega)) _ | with_reducible refine Below.drew ?_ | with_reducible exact Below.refl _ _ | with_reducible refine below_two ?_ (by with_reducible assumption))⟩
      case true =>
        by_cases ho : name.toList = []
        · have HO : Aside0 (nl = []) := ⟨by rw [← HT.out]; exact ho⟩
          have A : Aside0 (R = true) := ⟨by rw [HR.out, locS9 _ _ _ _ _ _ _ (.inl rfl)]; simp [HN.out.1, HN.out.2.1, HN.out.2.2.1, HN.out.2.2.2, HO.out]⟩
          go_enter Tryd.func56, Tryd.ntmps56
          go_wp2_with (first | (go_at_call 27; (first | with_reducible refine (c1' _).mono ?_ | with_reducible refine (c2' _).mono ?_ | with_reducible refine (c3' _).mono ?_); rintro e w1 ⟨rfl, hB1⟩; (have hbc := (bcell hB1).1); (have hbs : w.heap.size < w1.heap.size := (by have hq := hB1.size; (try simp at hq); omega))) | (go_at_call 81; (with_reducible refine (cZ _ _ (by simp)).mono ?_); rintro e w1 ⟨rfl, rfl⟩))
          go_ret
          exact ⟨ret_bool (by first | exact A.out.symm | (rw [A.out]; simp; omega) | (rw [A.out]; simp)), by repeat (first | with_reducible assumption | with_reducible refine below_set ?_ (by omega) _ | with_reducible refine Below.alloc ?_ (by first | omega | (simp; done) | (simp; omega)) _ | with_reducible refine Below.drew ?_ | with_reducible exact Below.refl _ _ | with_reducible refine below_two ?_ (by with_reducible assumption))⟩
        · have ho' : name.toList.isEmpty = false := by simpa using ho
          have HO : Aside0 (¬ nl = []) := ⟨by rw [← HT.out]; exact ho⟩
          have A : Aside0 (R = false) := ⟨by rw [HR.out, locS9 _ _ _ _ _ _ _ (.inl rfl)]; simp [HN.out.1, HN.out.2.1, HN.out.2.2.1, HN.out.2.2.2, HO.out]⟩
          go_enter Tryd.func56, Tryd.ntmps56
          go_wp2_with (first | (go_at_call 27; (first | with_reducible refine (c1' _).mono ?_ | with_reducible refine (c2' _).mono ?_ | with_reducible refine (c3' _).mono ?_); rintro e w1 ⟨rfl, hB1⟩; (have hbc := (bcell hB1).1); (have hbs : w.heap.size < w1.heap.size := (by have hq := hB1.size; (try simp at hq); omega))) | (go_at_call 81; (with_reducible refine (cZ _ _ (by simp)).mono ?_); rintro e w1 ⟨rfl, rfl⟩))
          go_ret
          exact ⟨ret_bool (by first | exact A.out.symm | (rw [A.out]; simp; omega) | (rw [A.out]; simp)), by repeat (first | with_reducible assumption | with_reducible refine below_set ?_ (by omega) _ | with_reducible refine Below.alloc ?_ (by first | omega | (simp; done) | (simp; omega)) _ | with_reducible refine Below.drew ?_ | with_reducible exact Below.refl _ _ | with_reducible refine below_two ?_ (by with_reducible assumption))⟩
    · have hl' : ¬ (ne : Int) = 0 := by omega
      have A : Aside0 (R = false) := ⟨by rw [HR.out, locS9 _ _ _ _ _ _ _ (.inl rfl)]; simp [HN.out.1, HN.out.2.1, HN.out.2.2.1, HN.out.2.2.2, hl]⟩
      go_enter Tryd.func56, Tryd.ntmps56
      go_wp2_with (first | (go_at_call 27; (first | with_reducible refine (c1' _).mono ?_ | with_reducible refine (c2' _).mono ?_ | with_reducible refine (c3' _).mono ?_); rintro e w1 ⟨rfl, hB1⟩; (have hbc := (bcell hB1).1); (have hbs : w.heap.size < w1.heap.size := (by have hq := hB1.size; (try simp at hq); omega))) | (go_at_call 81; (with_reducible refine (cZ _ _ (by simp)).mono ?_); rintro e w1 ⟨rfl, rfl⟩))
      go_ret
      exact ⟨ret_bool (by first | exact A.out.symm | (rw [A.out]; simp; omega) | (rw [A.out]; simp)), by repeat (first | with_reducible assumption | with_reducible refine below_set ?_ (by omega) _ | with_reducible refine Below.alloc ?_ (by first | omega | (simp; done) | (simp; omega)) _ | with_reducible refine Below.drew ?_ | with_reducible exact Below.refl _ _ | with_reducible refine below_two ?_ (by with_reducible assumption))⟩
  have h9' : (k == 9) = false := beq_eq_false_iff_ne.2 h9
  by_cases h10 : k = 10
  · subst h10
    by_cases hl : ne = 0
    · subst hl
      cases bz
      case false =>
        have A : Aside0 (R = false) := ⟨by rw [HR.out, locS9 _ _ _ _ _ _ _ (.inr rfl)]; simp [HN.out.1, HN.out.2.1, HN.out.2.2.1, HN.out.2.2.2]⟩
        go_enter Tryd.func56, Tryd.ntmps56
        go_wp2_with (first | (go_at_call 27; (first | with_reducible refine (c1' _).mono ?_ | with_reducible refine (c2' _).mono ?_ | with_reducible refine (c3' _).mono ?_); rintro e w1 ⟨rfl, hB1⟩; (have hbc := (bcell hB1).1); (have hbs : w.heap.size < w1.heap.size := (by have hq := hB1.size; (try simp at hq); omega))) | (go_at_call 81; (with_reducible refine (cZ _ _ (by simp)).mono ?_); rintro e w1 ⟨rfl, rfl⟩))
        go_ret
        exact ⟨ret_bool (by first | exact A.out.symm | (rw [A.out]; simp; omega) | (rw [A.out]; simp)), by repeat (first | with_reducible assumption | with_reducible refine below_set ?_ (by omega) _ | with_reducible refine Below.alloc ?_ (by first | omega | (simp; done) | (simp; omega)) _ | with_reducible refine Below.drew ?_ | with_reducible exact Below.refl _ _ | with_reducible refine below_two ?_ (by with_reducible assumption))⟩
      case true =>
        by_cases ho : name.toList = []
        · have HO : Aside0 (nl = []) := ⟨by rw [← HT.out]; exact ho⟩
          have A : Aside0 (R = true) := ⟨by rw [HR.out, locS9 _ _ _ _ _ _ _ (.inr rfl)]; simp [HN.out.1, HN.out.2.1, HN.out.2.2.1, HN.out.2.2.2, HO.out]⟩
          go_enter Tryd.func56, Tryd.ntmps56
          go_wp2_with (first | (go_at_call 27; (first | with_reducible refine (c1' _).mono ?_ | with_reducible refine (c2' _).mono ?_ | with_reducible refine (c3' _).mono ?_); rintro e w1 ⟨rfl, hB1⟩; (have hbc := (bcell hB1).1); (have hbs : w.heap.size < w1.heap.size := (by have hq := hB1.size; (try simp at hq); omega))) | (go_at_call 81; (with_reducible refine (cZ _ _ (by simp)).mono ?_); rintro e w1 ⟨rfl, rfl⟩))
          go_ret
          exact ⟨ret_bool (by first | exact A.out.symm | (rw [A.out]; simp; omega) | (rw [A.out]; simp)), by repeat (first | with_reducible assumption | with_reducible refine below_set ?_ (by omega) _ | with_reducible refine Below.alloc ?_ (by first | omega | (simp; done) | (simp; omega)) _ | with_reducible refine Below.drew ?_ | with_reducible exact Below.refl _ _ | with_reducible refine below_two ?_ (by with_reducible assumption))⟩
        · have ho' : name.toList.isEmpty = false := by simpa using ho
          have HO : Aside0 (¬ nl = []) := ⟨by rw [← HT.out]; exact ho⟩
          have A : Aside0 (R = false) := ⟨by rw [HR.out, locS9 _ _ _ _ _ _ _ (.inr rfl)]; simp [HN.out.1, HN.out.2.1, HN.out.2.2.1, HN.out.2.2.2, HO.out]⟩
          go_enter Tryd.func56, Tryd.ntmps56
          go_wp2_with (first | (go_at_call 27; (first | with_reducible refine (c1' _).mono ?_ | with_reducible refine (c2' _).mono ?_ | with_reducible refine (c3' _).mono ?_); rintro e w1 ⟨rfl, hB1⟩; (have hbc := (bcell hB1).1); (have hbs : w.heap.size < w1.heap.size := (by have hq := hB1.size; (try simp at hq); omega))) | (go_at_call 81; (with_reducible refine (cZ _ _ (by simp)).mono ?_); rintro e w1 ⟨rfl, rfl⟩))
          go_ret
          exact ⟨ret_bool (by first | exact A.out.symm | (rw [A.out]; simp; omega) | (rw [A.out]; simp)), by repeat (first | with_reducible assumption | with_reducible refine below_set ?_ (by omega) _ | with_reducible refine Below.alloc ?_ (by first | omega | (simp; done) | (simp; omega)) _ | with_reducible refine Below.drew ?_ | with_reducible exact Below.refl _ _ | with_reducible refine below_two ?_ (by with_reducible assumption))⟩
    · have hl' : ¬ (ne : Int) = 0 := by omega
      have A : Aside0 (R = false) := ⟨by rw [HR.out, locS9 _ _ _ _ _ _ _ (.inr rfl)]; simp [HN.out.1, HN.out.2.1, HN.out.2.2.1, HN.out.2.2.2, hl]⟩
      go_enter Tryd.func56, Tryd.ntmps56
      go_wp2_with (first | (go_at_call 27; (first | with_reducible refine (c1' _).mono ?_ | with_reducible refine (c2' _).mono ?_ | with_reducible refine (c3' _).mono ?_); rintro e w1 ⟨rfl, hB1⟩; (have hbc := (bcell hB1).1); (have hbs : w.heap.size < w1.heap.size := (by have hq := hB1.size; (try simp at hq); omega))) | (go_at_call 81; (with_reducible refine (cZ _ _ (by simp)).mono ?_); rintro e w1 ⟨rfl, rfl⟩))
      go_ret
      exact ⟨ret_bool (by first | exact A.out.symm | (rw [A.out]; simp; omega) | (rw [A.out]; simp)), by repeat (first | with_reducible assumption | with_reducible refine below_set ?_ (by omega) _ | with_reducible refine Below.alloc ?_ (by first | omega | (simp; done) | (simp; omega)) _ | with_reducible refine Below.drew ?_ | with_reducible exact Below.refl _ _ | with_reducible refine below_two ?_ (by with_reducible assumption))⟩
  have h10' : (k == 10) = false := beq_eq_false_iff_ne.2 h10
  have A : Aside0 (R = false) := ⟨by rw [HR.out, locS]; simp [HN.out.1, HN.out.2.1, HN.out.2.2.1, HN.out.2.2.2, h1, h2, h3, h4, h5, h6, h7, h8, h9, h10]⟩
  go_enter Tryd.func56, Tryd.ntmps56
  go_wp2_with (first | (go_at_call 27; (first | with_reducible refine (c1' _).mono ?_ | with_reducible refine (c2' _).mono ?_ | with_reducible refine (c3' _).mono ?_); rintro e w1 ⟨rfl, hB1⟩; (have hbc := (bcell hB1).1); (have hbs : w.heap.size < w1.heap.size := (by have hq := hB1.size; (try simp at hq); omega))) | (go_at_call 81; (with_reducible refine (cZ _ _ (by simp)).mono ?_); rintro e w1 ⟨rfl, rfl⟩))
  go_ret
  exact ⟨ret_bool (by first | exact A.out.symm | (rw [A.out]; simp; omega) | (rw [A.out]; simp)), by repeat (first | with_reducible assumption | with_reducible refine below_set ?_ (by omega) _ | with_reducible refine Below.alloc ?_ (by first | omega | (simp; done) | (simp; omega)) _ | with_reducible refine Below.drew ?_ | with_reducible exact Below.refl _ _ | with_reducible refine below_two ?_ (by with_reducible assumption))⟩
set_option maxHeartbeats 40000000 in
set_option maxRecDepth 100000 in
theorem stmtFormed_b (k : Int) (name key val : ByteArray) (a1 a2 a3 : Option Addr) (c1 c2 c3 : Nat) (ne nb nf : Nat) (w : World) (hs : name.size ≤ 100000000 ∧ key.size ≤ 100000000 ∧ val.size ≤ 100000000) (hne3 : ne ≤ 3000000 ∧ nb ≤ 3000000 ∧ nf ≤ 3000000) (hnb : nb = 0) (hnf : ¬ nf = 0) : Calls Tryd.prog 56 #[.agg #[.int .i64 k, .string name, .string key, .string val, .slice a1 ne c1, .slice a2 nb c2, .slice a3 nf c3]] w (IsY (locS k name.data.toList key.data.toList val.data.toList ne nb nf) w) := by
  have c1' : ∀ W, Calls Tryd.prog 27 #[.string name] W (IsY (nameB name.data.toList) W) := fun W => name_walk W name hs.1
  have c2' : ∀ W, Calls Tryd.prog 27 #[.string key] W (IsY (nameB key.data.toList) W) := fun W => name_walk W key hs.2.1
  have c3' : ∀ W, Calls Tryd.prog 27 #[.string val] W (IsY (nameB val.data.toList) W) := fun W => name_walk W val hs.2.2
  have cZ : ∀ (W : World) (p : Nat), W.heap.size = p → Calls Tryd.prog 81 #[.slice (some ⟨p, 0, none⟩) 2 2] (W.alloc (.cells #[.string key, .string val] 9)) (IsB (key.data.toList.isEmpty && val.data.toList.isEmpty) (W.alloc (.cells #[.string key, .string val] 9))) := fun W p h => h ▸ none2 key val W
  obtain ⟨R, hR⟩ : ∃ R, locS k name.data.toList key.data.toList val.data.toList ne nb nf = R := ⟨_, rfl⟩
  rw [hR]
  have HR : Aside0 (R = locS k name.data.toList key.data.toList val.data.toList ne nb nf) := ⟨hR.symm⟩
  obtain ⟨nl, hnl⟩ : ∃ l, name.data.toList = l := ⟨_, rfl⟩
  obtain ⟨kl, hkl⟩ : ∃ l, key.data.toList = l := ⟨_, rfl⟩
  obtain ⟨vl, hvl⟩ : ∃ l, val.data.toList = l := ⟨_, rfl⟩
  have HT : Aside0 (name.toList = nl) := ⟨by rw [toList_data, hnl]⟩
  rw [hnl, hkl, hvl] at HR
  rw [hkl, hvl] at cZ
  rw [hnl] at c1'
  rw [hkl] at c2'
  rw [hvl] at c3'
  clear hnl hkl hvl hR
  obtain ⟨b1, hb1⟩ : ∃ b, nameB nl = b := ⟨_, rfl⟩
  obtain ⟨b2, hb2⟩ : ∃ b, nameB kl = b := ⟨_, rfl⟩
  obtain ⟨b3, hb3⟩ : ∃ b, nameB vl = b := ⟨_, rfl⟩
  obtain ⟨bz, hbz⟩ : ∃ b, (kl.isEmpty && vl.isEmpty) = b := ⟨_, rfl⟩
  have HN : Aside0 (nameB nl = b1 ∧ nameB kl = b2 ∧ nameB vl = b3 ∧ (kl.isEmpty && vl.isEmpty) = bz) := ⟨hb1, hb2, hb3, hbz⟩
  rw [hb1] at c1'
  rw [hb2] at c2'
  rw [hb3] at c3'
  rw [hbz] at cZ
  clear hb1 hb2 hb3 hbz
  subst hnb
  have hnf' : ¬ (nf : Int) = 0 := by omega
  by_cases h1 : k = 1
  · subst h1
    by_cases hl : ne = 1
    · subst hl
      have A : Aside0 (R = false) := ⟨by rw [HR.out, locS1 _ _ _ _ _ _ _ (.inl rfl)]; simp [HN.out.1, HN.out.2.1, HN.out.2.2.1, HN.out.2.2.2, hnf]⟩
      go_enter Tryd.func56, Tryd.ntmps56
      go_wp2_with (first | (go_at_call 27; (first | with_reducible refine (c1' _).mono ?_ | with_reducible refine (c2' _).mono ?_ | with_reducible refine (c3' _).mono ?_); rintro e w1 ⟨rfl, hB1⟩; (have hbc := (bcell hB1).1); (have hbs : w.heap.size < w1.heap.size := (by have hq := hB1.size; (try simp at hq); omega))) | (go_at_call 81; (with_reducible refine (cZ _ _ (by simp)).mono ?_); rintro e w1 ⟨rfl, rfl⟩))
      go_ret
      exact ⟨ret_bool (by first | exact A.out.symm | (rw [A.out]; simp; omega) | (rw [A.out]; simp)), by repeat (first | with_reducible assumption | with_reducible refine below_set ?_ (by omega) _ | with_reducible refine Below.alloc ?_ (by first | omega | (simp; done) | (simp; omega)) _ | with_reducible refine Below.drew ?_ | with_reducible exact Below.refl _ _ | with_reducible refine below_two ?_ (by with_reducible assumption))⟩
    · have hl' : ¬ (ne : Int) = 1 := by omega
      have A : Aside0 (R = false) := ⟨by rw [HR.out, locS1 _ _ _ _ _ _ _ (.inl rfl)]; simp [HN.out.1, HN.out.2.1, HN.out.2.2.1, HN.out.2.2.2, hnf, hl]⟩
      go_enter Tryd.func56, Tryd.ntmps56
      go_wp2_with (first | (go_at_call 27; (first | with_reducible refine (c1' _).mono ?_ | with_reducible refine (c2' _).mono ?_ | with_reducible refine (c3' _).mono ?_); rintro e w1 ⟨rfl, hB1⟩; (have hbc := (bcell hB1).1); (have hbs : w.heap.size < w1.heap.size := (by have hq := hB1.size; (try simp at hq); omega))) | (go_at_call 81; (with_reducible refine (cZ _ _ (by simp)).mono ?_); rintro e w1 ⟨rfl, rfl⟩))
      go_ret
      exact ⟨ret_bool (by first | exact A.out.symm | (rw [A.out]; simp; omega) | (rw [A.out]; simp)), by repeat (first | with_reducible assumption | with_reducible refine below_set ?_ (by omega) _ | with_reducible refine Below.alloc ?_ (by first | omega | (simp; done) | (simp; omega)) _ | with_reducible refine Below.drew ?_ | with_reducible exact Below.refl _ _ | with_reducible refine below_two ?_ (by with_reducible assumption))⟩
  have h1' : (k == 1) = false := beq_eq_false_iff_ne.2 h1
  by_cases h3 : k = 3
  · subst h3
    by_cases hl : ne = 1
    · subst hl
      have A : Aside0 (R = false) := ⟨by rw [HR.out, locS1 _ _ _ _ _ _ _ (.inr rfl)]; simp [HN.out.1, HN.out.2.1, HN.out.2.2.1, HN.out.2.2.2, hnf]⟩
      go_enter Tryd.func56, Tryd.ntmps56
      go_wp2_with (first | (go_at_call 27; (first | with_reducible refine (c1' _).mono ?_ | with_reducible refine (c2' _).mono ?_ | with_reducible refine (c3' _).mono ?_); rintro e w1 ⟨rfl, hB1⟩; (have hbc := (bcell hB1).1); (have hbs : w.heap.size < w1.heap.size := (by have hq := hB1.size; (try simp at hq); omega))) | (go_at_call 81; (with_reducible refine (cZ _ _ (by simp)).mono ?_); rintro e w1 ⟨rfl, rfl⟩))
      go_ret
      exact ⟨ret_bool (by first | exact A.out.symm | (rw [A.out]; simp; omega) | (rw [A.out]; simp)), by repeat (first | with_reducible assumption | with_reducible refine below_set ?_ (by omega) _ | with_reducible refine Below.alloc ?_ (by first | omega | (simp; done) | (simp; omega)) _ | with_reducible refine Below.drew ?_ | with_reducible exact Below.refl _ _ | with_reducible refine below_two ?_ (by with_reducible assumption))⟩
    · have hl' : ¬ (ne : Int) = 1 := by omega
      have A : Aside0 (R = false) := ⟨by rw [HR.out, locS1 _ _ _ _ _ _ _ (.inr rfl)]; simp [HN.out.1, HN.out.2.1, HN.out.2.2.1, HN.out.2.2.2, hnf, hl]⟩
      go_enter Tryd.func56, Tryd.ntmps56
      go_wp2_with (first | (go_at_call 27; (first | with_reducible refine (c1' _).mono ?_ | with_reducible refine (c2' _).mono ?_ | with_reducible refine (c3' _).mono ?_); rintro e w1 ⟨rfl, hB1⟩; (have hbc := (bcell hB1).1); (have hbs : w.heap.size < w1.heap.size := (by have hq := hB1.size; (try simp at hq); omega))) | (go_at_call 81; (with_reducible refine (cZ _ _ (by simp)).mono ?_); rintro e w1 ⟨rfl, rfl⟩))
      go_ret
      exact ⟨ret_bool (by first | exact A.out.symm | (rw [A.out]; simp; omega) | (rw [A.out]; simp)), by repeat (first | with_reducible assumption | with_reducible refine below_set ?_ (by omega) _ | with_reducible refine Below.alloc ?_ (by first | omega | (simp; done) | (simp; omega)) _ | with_reducible refine Below.drew ?_ | with_reducible exact Below.refl _ _ | with_reducible refine below_two ?_ (by with_reducible assumption))⟩
  have h3' : (k == 3) = false := beq_eq_false_iff_ne.2 h3
  by_cases h2 : k = 2
  · subst h2
    by_cases hl : ne = 2
    · subst hl
      have A : Aside0 (R = false) := ⟨by rw [HR.out, locS2]; simp [HN.out.1, HN.out.2.1, HN.out.2.2.1, HN.out.2.2.2, hnf]⟩
      go_enter Tryd.func56, Tryd.ntmps56
      go_wp2_with (first | (go_at_call 27; (first | with_reducible refine (c1' _).mono ?_ | with_reducible refine (c2' _).mono ?_ | with_reducible refine (c3' _).mono ?_); rintro e w1 ⟨rfl, hB1⟩; (have hbc := (bcell hB1).1); (have hbs : w.heap.size < w1.heap.size := (by have hq := hB1.size; (try simp at hq); omega))) | (go_at_call 81; (with_reducible refine (cZ _ _ (by simp)).mono ?_); rintro e w1 ⟨rfl, rfl⟩))
      go_ret
      exact ⟨ret_bool (by first | exact A.out.symm | (rw [A.out]; simp; omega) | (rw [A.out]; simp)), by repeat (first | with_reducible assumption | with_reducible refine below_set ?_ (by omega) _ | with_reducible refine Below.alloc ?_ (by first | omega | (simp; done) | (simp; omega)) _ | with_reducible refine Below.drew ?_ | with_reducible exact Below.refl _ _ | with_reducible refine below_two ?_ (by with_reducible assumption))⟩
    · have hl' : ¬ (ne : Int) = 2 := by omega
      have A : Aside0 (R = false) := ⟨by rw [HR.out, locS2]; simp [HN.out.1, HN.out.2.1, HN.out.2.2.1, HN.out.2.2.2, hnf, hl]⟩
      go_enter Tryd.func56, Tryd.ntmps56
      go_wp2_with (first | (go_at_call 27; (first | with_reducible refine (c1' _).mono ?_ | with_reducible refine (c2' _).mono ?_ | with_reducible refine (c3' _).mono ?_); rintro e w1 ⟨rfl, hB1⟩; (have hbc := (bcell hB1).1); (have hbs : w.heap.size < w1.heap.size := (by have hq := hB1.size; (try simp at hq); omega))) | (go_at_call 81; (with_reducible refine (cZ _ _ (by simp)).mono ?_); rintro e w1 ⟨rfl, rfl⟩))
      go_ret
      exact ⟨ret_bool (by first | exact A.out.symm | (rw [A.out]; simp; omega) | (rw [A.out]; simp)), by repeat (first | with_reducible assumption | with_reducible refine below_set ?_ (by omega) _ | with_reducible refine Below.alloc ?_ (by first | omega | (simp; done) | (simp; omega)) _ | with_reducible refine Below.drew ?_ | with_reducible exact Below.refl _ _ | with_reducible refine below_two ?_ (by with_reducible assumption))⟩
  have h2' : (k == 2) = false := beq_eq_false_iff_ne.2 h2
  by_cases h4 : k = 4
  · subst h4
    by_cases hl : ne = 0
    · subst hl
      have A : Aside0 (R = false) := ⟨by rw [HR.out, locS4]; simp [HN.out.1, HN.out.2.1, HN.out.2.2.1, HN.out.2.2.2, hnf]⟩
      go_enter Tryd.func56, Tryd.ntmps56
      go_wp2_with (first | (go_at_call 27; (first | with_reducible refine (c1' _).mono ?_ | with_reducible refine (c2' _).mono ?_ | with_reducible refine (c3' _).mono ?_); rintro e w1 ⟨rfl, hB1⟩; (have hbc := (bcell hB1).1); (have hbs : w.heap.size < w1.heap.size := (by have hq := hB1.size; (try simp at hq); omega))) | (go_at_call 81; (with_reducible refine (cZ _ _ (by simp)).mono ?_); rintro e w1 ⟨rfl, rfl⟩))
      go_ret
      exact ⟨ret_bool (by first | exact A.out.symm | (rw [A.out]; simp; omega) | (rw [A.out]; simp)), by repeat (first | with_reducible assumption | with_reducible refine below_set ?_ (by omega) _ | with_reducible refine Below.alloc ?_ (by first | omega | (simp; done) | (simp; omega)) _ | with_reducible refine Below.drew ?_ | with_reducible exact Below.refl _ _ | with_reducible refine below_two ?_ (by with_reducible assumption))⟩
    · have hl' : ¬ (ne : Int) = 0 := by omega
      have A : Aside0 (R = false) := ⟨by rw [HR.out, locS4]; simp [HN.out.1, HN.out.2.1, HN.out.2.2.1, HN.out.2.2.2, hnf, hl]⟩
      go_enter Tryd.func56, Tryd.ntmps56
      go_wp2_with (first | (go_at_call 27; (first | with_reducible refine (c1' _).mono ?_ | with_reducible refine (c2' _).mono ?_ | with_reducible refine (c3' _).mono ?_); rintro e w1 ⟨rfl, hB1⟩; (have hbc := (bcell hB1).1); (have hbs : w.heap.size < w1.heap.size := (by have hq := hB1.size; (try simp at hq); omega))) | (go_at_call 81; (with_reducible refine (cZ _ _ (by simp)).mono ?_); rintro e w1 ⟨rfl, rfl⟩))
      go_ret
      exact ⟨ret_bool (by first | exact A.out.symm | (rw [A.out]; simp; omega) | (rw [A.out]; simp)), by repeat (first | with_reducible assumption | with_reducible refine below_set ?_ (by omega) _ | with_reducible refine Below.alloc ?_ (by first | omega | (simp; done) | (simp; omega)) _ | with_reducible refine Below.drew ?_ | with_reducible exact Below.refl _ _ | with_reducible refine below_two ?_ (by with_reducible assumption))⟩
  have h4' : (k == 4) = false := beq_eq_false_iff_ne.2 h4
  by_cases h5 : k = 5
  · subst h5
    have A : Aside0 (R = false) := ⟨by rw [HR.out, locS5]; simp [HN.out.1, HN.out.2.1, HN.out.2.2.1, HN.out.2.2.2, hnf]⟩
    go_enter Tryd.func56, Tryd.ntmps56
    go_wp2_with (first | (go_at_call 27; (first | with_reducible refine (c1' _).mono ?_ | with_reducible refine (c2' _).mono ?_ | with_reducible refine (c3' _).mono ?_); rintro e w1 ⟨rfl, hB1⟩; (have hbc := (bcell hB1).1); (have hbs : w.heap.size < w1.heap.size := (by have hq := hB1.size; (try simp at hq); omega))) | (go_at_call 81; (with_reducible refine (cZ _ _ (by simp)).mono ?_); rintro e w1 ⟨rfl, rfl⟩))
    go_ret
    exact ⟨ret_bool (by first | exact A.out.symm | (rw [A.out]; simp; omega) | (rw [A.out]; simp)), by repeat (first | with_reducible assumption | with_reducible refine below_set ?_ (by omega) _ | with_reducible refine Below.alloc ?_ (by first | omega | (simp; done) | (simp; omega)) _ | with_reducible refine Below.drew ?_ | with_reducible exact Below.refl _ _ | with_reducible refine below_two ?_ (by with_reducible assumption))⟩
  have h5' : (k == 5) = false := beq_eq_false_iff_ne.2 h5
  by_cases h6 : k = 6
  · subst h6
    by_cases hl : ne = 1
    · subst hl
      cases bz
      case false =>
        have A : Aside0 (R = false) := ⟨by rw [HR.out, locS6]; simp [HN.out.1, HN.out.2.1, HN.out.2.2.1, HN.out.2.2.2, hnf]⟩
        go_enter Tryd.func56, Tryd.ntmps56
        go_wp2_with (first | (go_at_call 27; (first | with_reducible refine (c1' _).mono ?_ | with_reducible refine (c2' _).mono ?_ | with_reducible refine (c3' _).mono ?_); rintro e w1 ⟨rfl, hB1⟩; (have hbc := (bcell hB1).1); (have hbs : w.heap.size < w1.heap.size := (by have hq := hB1.size; (try simp at hq); omega))) | (go_at_call 81; (with_reducible refine (cZ _ _ (by simp)).mono ?_); rintro e w1 ⟨rfl, rfl⟩))
        go_ret
        exact ⟨ret_bool (by first | exact A.out.symm | (rw [A.out]; simp; omega) | (rw [A.out]; simp)), by repeat (first | with_reducible assumption | with_reducible refine below_set ?_ (by omega) _ | with_reducible refine Below.alloc ?_ (by first | omega | (simp; done) | (simp; omega)) _ | with_reducible refine Below.drew ?_ | with_reducible exact Below.refl _ _ | with_reducible refine below_two ?_ (by with_reducible assumption))⟩
      case true =>
        by_cases ho : name.toList = []
        · have HO : Aside0 (nl = []) := ⟨by rw [← HT.out]; exact ho⟩
          have A : Aside0 (R = true) := ⟨by rw [HR.out, locS6]; simp [HN.out.1, HN.out.2.1, HN.out.2.2.1, HN.out.2.2.2, hnf, HO.out]⟩
          go_enter Tryd.func56, Tryd.ntmps56
          go_wp2_with (first | (go_at_call 27; (first | with_reducible refine (c1' _).mono ?_ | with_reducible refine (c2' _).mono ?_ | with_reducible refine (c3' _).mono ?_); rintro e w1 ⟨rfl, hB1⟩; (have hbc := (bcell hB1).1); (have hbs : w.heap.size < w1.heap.size := (by have hq := hB1.size; (try simp at hq); omega))) | (go_at_call 81; (with_reducible refine (cZ _ _ (by simp)).mono ?_); rintro e w1 ⟨rfl, rfl⟩))
          go_ret
          exact ⟨ret_bool (by first | exact A.out.symm | (rw [A.out]; simp; omega) | (rw [A.out]; simp)), by repeat (first | with_reducible assumption | with_reducible refine below_set ?_ (by omega) _ | with_reducible refine Below.alloc ?_ (by first | omega | (simp; done) | (simp; omega)) _ | with_reducible refine Below.drew ?_ | with_reducible exact Below.refl _ _ | with_reducible refine below_two ?_ (by with_reducible assumption))⟩
        · have ho' : name.toList.isEmpty = false := by simpa using ho
          have HO : Aside0 (¬ nl = []) := ⟨by rw [← HT.out]; exact ho⟩
          have A : Aside0 (R = false) := ⟨by rw [HR.out, locS6]; simp [HN.out.1, HN.out.2.1, HN.out.2.2.1, HN.out.2.2.2, hnf, HO.out]⟩
          go_enter Tryd.func56, Tryd.ntmps56
          go_wp2_with (first | (go_at_call 27; (first | with_reducible refine (c1' _).mono ?_ | with_reducible refine (c2' _).mono ?_ | with_reducible refine (c3' _).mono ?_); rintro e w1 ⟨rfl, hB1⟩; (have hbc := (bcell hB1).1); (have hbs : w.heap.size < w1.heap.size := (by have hq := hB1.size; (try simp at hq); omega))) | (go_at_call 81; (with_reducible refine (cZ _ _ (by simp)).mono ?_); rintro e w1 ⟨rfl, rfl⟩))
          go_ret
          exact ⟨ret_bool (by first | exact A.out.symm | (rw [A.out]; simp; omega) | (rw [A.out]; simp)), by repeat (first | with_reducible assumption | with_reducible refine below_set ?_ (by omega) _ | with_reducible refine Below.alloc ?_ (by first | omega | (simp; done) | (simp; omega)) _ | with_reducible refine Below.drew ?_ | with_reducible exact Below.refl _ _ | with_reducible refine below_two ?_ (by with_reducible assumption))⟩
    · have hl' : ¬ (ne : Int) = 1 := by omega
      have A : Aside0 (R = false) := ⟨by rw [HR.out, locS6]; simp [HN.out.1, HN.out.2.1, HN.out.2.2.1, HN.out.2.2.2, hnf, hl]⟩
      go_enter Tryd.func56, Tryd.ntmps56
      go_wp2_with (first | (go_at_call 27; (first | with_reducible refine (c1' _).mono ?_ | with_reducible refine (c2' _).mono ?_ | with_reducible refine (c3' _).mono ?_); rintro e w1 ⟨rfl, hB1⟩; (have hbc := (bcell hB1).1); (have hbs : w.heap.size < w1.heap.size := (by have hq := hB1.size; (try simp at hq); omega))) | (go_at_call 81; (with_reducible refine (cZ _ _ (by simp)).mono ?_); rintro e w1 ⟨rfl, rfl⟩))
      go_ret
      exact ⟨ret_bool (by first | exact A.out.symm | (rw [A.out]; simp; omega) | (rw [A.out]; simp)), by repeat (first | with_reducible assumption | with_reducible refine below_set ?_ (by omega) _ | with_reducible refine Below.alloc ?_ (by first | omega | (simp; done) | (simp; omega)) _ | with_reducible refine Below.drew ?_ | with_reducible exact Below.refl _ _ | with_reducible refine below_two ?_ (by with_reducible assumption))⟩
  have h6' : (k == 6) = false := beq_eq_false_iff_ne.2 h6
  by_cases h7 : k = 7
  · subst h7
    by_cases hl : ne = 1
    · subst hl
      cases bz
      case false =>
        have A : Aside0 (R = false) := ⟨by rw [HR.out, locS7]; simp [HN.out.1, HN.out.2.1, HN.out.2.2.1, HN.out.2.2.2, hnf]⟩
        go_enter Tryd.func56, Tryd.ntmps56
        go_wp2_with (first | (go_at_call 27; (first | with_reducible refine (c1' _).mono ?_ | with_reducible refine (c2' _).mono ?_ | with_reducible refine (c3' _).mono ?_); rintro e w1 ⟨rfl, hB1⟩; (have hbc := (bcell hB1).1); (have hbs : w.heap.size < w1.heap.size := (by have hq := hB1.size; (try simp at hq); omega))) | (go_at_call 81; (with_reducible refine (cZ _ _ (by simp)).mono ?_); rintro e w1 ⟨rfl, rfl⟩))
        go_ret
        exact ⟨ret_bool (by first | exact A.out.symm | (rw [A.out]; simp; omega) | (rw [A.out]; simp)), by repeat (first | with_reducible assumption | with_reducible refine below_set ?_ (by omega) _ | with_reducible refine Below.alloc ?_ (by first | omega | (simp; done) | (simp; omega)) _ | with_reducible refine Below.drew ?_ | with_reducible exact Below.refl _ _ | with_reducible refine below_two ?_ (by with_reducible assumption))⟩
      case true =>
        by_cases ho : name.toList = []
        · have HO : Aside0 (nl = []) := ⟨by rw [← HT.out]; exact ho⟩
          have A : Aside0 (R = false) := ⟨by rw [HR.out, locS7]; simp [HN.out.1, HN.out.2.1, HN.out.2.2.1, HN.out.2.2.2, hnf, HO.out]⟩
          go_enter Tryd.func56, Tryd.ntmps56
          go_wp2_with (first | (go_at_call 27; (first | with_reducible refine (c1' _).mono ?_ | with_reducible refine (c2' _).mono ?_ | with_reducible refine (c3' _).mono ?_); rintro e w1 ⟨rfl, hB1⟩; (have hbc := (bcell hB1).1); (have hbs : w.heap.size < w1.heap.size := (by have hq := hB1.size; (try simp at hq); omega))) | (go_at_call 81; (with_reducible refine (cZ _ _ (by simp)).mono ?_); rintro e w1 ⟨rfl, rfl⟩))
          go_ret
          exact ⟨ret_bool (by first | exact A.out.symm | (rw [A.out]; simp; omega) | (rw [A.out]; simp)), by repeat (first | with_reducible assumption | with_reducible refine below_set ?_ (by omega) _ | with_reducible refine Below.alloc ?_ (by first | omega | (simp; done) | (simp; omega)) _ | with_reducible refine Below.drew ?_ | with_reducible exact Below.refl _ _ | with_reducible refine below_two ?_ (by with_reducible assumption))⟩
        · have ho' : name.toList.isEmpty = false := by simpa using ho
          have HO : Aside0 (¬ nl = []) := ⟨by rw [← HT.out]; exact ho⟩
          have A : Aside0 (R = false) := ⟨by rw [HR.out, locS7]; simp [HN.out.1, HN.out.2.1, HN.out.2.2.1, HN.out.2.2.2, hnf, HO.out]⟩
          go_enter Tryd.func56, Tryd.ntmps56
          go_wp2_with (first | (go_at_call 27; (first | with_reducible refine (c1' _).mono ?_ | with_reducible refine (c2' _).mono ?_ | with_reducible refine (c3' _).mono ?_); rintro e w1 ⟨rfl, hB1⟩; (have hbc := (bcell hB1).1); (have hbs : w.heap.size < w1.heap.size := (by have hq := hB1.size; (try simp at hq); omega))) | (go_at_call 81; (with_reducible refine (cZ _ _ (by simp)).mono ?_); rintro e w1 ⟨rfl, rfl⟩))
          go_ret
          exact ⟨ret_bool (by first | exact A.out.symm | (rw [A.out]; simp; omega) | (rw [A.out]; simp)), by repeat (first | with_reducible assumption | with_reducible refine below_set ?_ (by omega) _ | with_reducible refine Below.alloc ?_ (by first | omega | (simp; done) | (simp; omega)) _ | with_reducible refine Below.drew ?_ | with_reducible exact Below.refl _ _ | with_reducible refine below_two ?_ (by with_reducible assumption))⟩
    · have hl' : ¬ (ne : Int) = 1 := by omega
      have A : Aside0 (R = false) := ⟨by rw [HR.out, locS7]; simp [HN.out.1, HN.out.2.1, HN.out.2.2.1, HN.out.2.2.2, hnf, hl]⟩
      go_enter Tryd.func56, Tryd.ntmps56
      go_wp2_with (first | (go_at_call 27; (first | with_reducible refine (c1' _).mono ?_ | with_reducible refine (c2' _).mono ?_ | with_reducible refine (c3' _).mono ?_); rintro e w1 ⟨rfl, hB1⟩; (have hbc := (bcell hB1).1); (have hbs : w.heap.size < w1.heap.size := (by have hq := hB1.size; (try simp at hq); omega))) | (go_at_call 81; (with_reducible refine (cZ _ _ (by simp)).mono ?_); rintro e w1 ⟨rfl, rfl⟩))
      go_ret
      exact ⟨ret_bool (by first | exact A.out.symm | (rw [A.out]; simp; omega) | (rw [A.out]; simp)), by repeat (first | with_reducible assumption | with_reducible refine below_set ?_ (by omega) _ | with_reducible refine Below.alloc ?_ (by first | omega | (simp; done) | (simp; omega)) _ | with_reducible refine Below.drew ?_ | with_reducible exact Below.refl _ _ | with_reducible refine below_two ?_ (by with_reducible assumption))⟩
  have h7' : (k == 7) = false := beq_eq_false_iff_ne.2 h7
  by_cases h8 : k = 8
  · subst h8
    by_cases hl : ne = 0
    · subst hl
      cases b2
      case false =>
        have A : Aside0 (R = false) := ⟨by rw [HR.out, locS8]; simp [HN.out.1, HN.out.2.1, HN.out.2.2.1, HN.out.2.2.2, hnf]⟩
        go_enter Tryd.func56, Tryd.ntmps56
        go_wp2_with (first | (go_at_call 27; (first | with_reducible refine (c1' _).mono ?_ | with_reducible refine (c2' _).mono ?_ | with_reducible refine (c3' _).mono ?_); rintro e w1 ⟨rfl, hB1⟩; (have hbc := (bcell hB1).1); (have hbs : w.heap.size < w1.heap.size := (by have hq := hB1.size; (try simp at hq); omega))) | (go_at_call 81; (with_reducible refine (cZ _ _ (by simp)).mono ?_); rintro e w1 ⟨rfl, rfl⟩))
        go_ret
        exact ⟨ret_bool (by first | exact A.out.symm | (rw [A.out]; simp; omega) | (rw [A.out]; simp)), by repeat (first | with_reducible assumption | with_reducible refine below_set ?_ (by omega) _ | with_reducible refine Below.alloc ?_ (by first | omega | (simp; done) | (simp; omega)) _ | with_reducible refine Below.drew ?_ | with_reducible exact Below.refl _ _ | with_reducible refine below_two ?_ (by with_reducible assumption))⟩
      case true =>
        cases b3
        case false =>
          have A : Aside0 (R = false) := ⟨by rw [HR.out, locS8]; simp [HN.out.1, HN.out.2.1, HN.out.2.2.1, HN.out.2.2.2, hnf]⟩
          go_enter Tryd.func56, Tryd.ntmps56
          go_wp2_with (first | (go_at_call 27; (first | with_reducible refine (c1' _).mono ?_ | with_reducible refine (c2' _).mono ?_ | with_reducible refine (c3' _).mono ?_); rintro e w1 ⟨rfl, hB1⟩; (have hbc := (bcell hB1).1); (have hbs : w.heap.size < w1.heap.size := (by have hq := hB1.size; (try simp at hq); omega))) | (go_at_call 81; (with_reducible refine (cZ _ _ (by simp)).mono ?_); rintro e w1 ⟨rfl, rfl⟩))
          go_ret
          exact ⟨ret_bool (by first | exact A.out.symm | (rw [A.out]; simp; omega) | (rw [A.out]; simp)), by repeat (first | with_reducible assumption | with_reducible refine below_set ?_ (by omega) _ | with_reducible refine Below.alloc ?_ (by first | omega | (simp; done) | (simp; omega)) _ | with_reducible refine Below.drew ?_ | with_reducible exact Below.refl _ _ | with_reducible refine below_two ?_ (by with_reducible assumption))⟩
        case true =>
          cases b1
          case false =>
            have A : Aside0 (R = false) := ⟨by rw [HR.out, locS8]; simp [HN.out.1, HN.out.2.1, HN.out.2.2.1, HN.out.2.2.2, hnf]⟩
            go_enter Tryd.func56, Tryd.ntmps56
            go_wp2_with (first | (go_at_call 27; (first | with_reducible refine (c1' _).mono ?_ | with_reducible refine (c2' _).mono ?_ | with_reducible refine (c3' _).mono ?_); rintro e w1 ⟨rfl, hB1⟩; (have hbc := (bcell hB1).1); (have hbs : w.heap.size < w1.heap.size := (by have hq := hB1.size; (try simp at hq); omega))) | (go_at_call 81; (with_reducible refine (cZ _ _ (by simp)).mono ?_); rintro e w1 ⟨rfl, rfl⟩))
            go_ret
            exact ⟨ret_bool (by first | exact A.out.symm | (rw [A.out]; simp; omega) | (rw [A.out]; simp)), by repeat (first | with_reducible assumption | with_reducible refine below_set ?_ (by omega) _ | with_reducible refine Below.alloc ?_ (by first | omega | (simp; done) | (simp; omega)) _ | with_reducible refine Below.drew ?_ | with_reducible exact Below.refl _ _ | with_reducible refine below_two ?_ (by with_reducible assumption))⟩
          case true =>
            have A : Aside0 (R = false) := ⟨by rw [HR.out, locS8]; simp [HN.out.1, HN.out.2.1, HN.out.2.2.1, HN.out.2.2.2, hnf]⟩
            go_enter Tryd.func56, Tryd.ntmps56
            go_wp2_with (first | (go_at_call 27; (first | with_reducible refine (c1' _).mono ?_ | with_reducible refine (c2' _).mono ?_ | with_reducible refine (c3' _).mono ?_); rintro e w1 ⟨rfl, hB1⟩; (have hbc := (bcell hB1).1); (have hbs : w.heap.size < w1.heap.size := (by have hq := hB1.size; (try simp at hq); omega))) | (go_at_call 81; (with_reducible refine (cZ _ _ (by simp)).mono ?_); rintro e w1 ⟨rfl, rfl⟩))
            go_ret
            exact ⟨ret_bool (by first | exact A.out.symm | (rw [A.out]; simp; omega) | (rw [A.out]; simp)), by repeat (first | with_reducible assumption | with_reducible refine below_set ?_ (by omega) _ | with_reducible refine Below.alloc ?_ (by first | omega | (simp; done) | (simp; omega)) _ | with_reducible refine Below.drew ?_ | with_reducible exact Below.refl _ _ | with_reducible refine below_two ?_ (by with_reducible assumption))⟩
    · have hl' : ¬ (ne : Int) = 0 := by omega
      have A : Aside0 (R = false) := ⟨by rw [HR.out, locS8]; simp [HN.out.1, HN.out.2.1, HN.out.2.2.1, HN.out.2.2.2, hnf, hl]⟩
      go_enter Tryd.func56, Tryd.ntmps56
      go_wp2_with (first | (go_at_call 27; (first | with_reducible refine (c1' _).mono ?_ | with_reducible refine (c2' _).mono ?_ | with_reducible refine (c3' _).mono ?_); rintro e w1 ⟨rfl, hB1⟩; (have hbc := (bcell hB1).1); (have hbs : w.heap.size < w1.heap.size := (by have hq := hB1.size; (try simp at hq); omega))) | (go_at_call 81; (with_reducible refine (cZ _ _ (by simp)).mono ?_); rintro e w1 ⟨rfl, rfl⟩))
      go_ret
      exact ⟨ret_bool (by first | exact A.out.symm | (rw [A.out]; simp; omega) | (rw [A.out]; simp)), by repeat (first | with_reducible assumption | with_reducible refine below_set ?_ (by omega) _ | with_reducible refine Below.alloc ?_ (by first | omega | (simp; done) | (simp; omega)) _ | with_reducible refine Below.drew ?_ | with_reducible exact Below.refl _ _ | with_reducible refine below_two ?_ (by with_reducible assumption))⟩
  have h8' : (k == 8) = false := beq_eq_false_iff_ne.2 h8
  by_cases h9 : k = 9
  · subst h9
    by_cases hl : ne = 0
    · subst hl
      have A : Aside0 (R = false) := ⟨by rw [HR.out, locS9 _ _ _ _ _ _ _ (.inl rfl)]; simp [HN.out.1, HN.out.2.1, HN.out.2.2.1, HN.out.2.2.2, hnf]⟩
      go_enter Tryd.func56, Tryd.ntmps56
      go_wp2_with (first | (go_at_call 27; (first | with_reducible refine (c1' _).mono ?_ | with_reducible refine (c2' _).mono ?_ | with_reducible refine (c3' _).mono ?_); rintro e w1 ⟨rfl, hB1⟩; (have hbc := (bcell hB1).1); (have hbs : w.heap.size < w1.heap.size := (by have hq := hB1.size; (try simp at hq); omega))) | (go_at_call 81; (with_reducible refine (cZ _ _ (by simp)).mono ?_); rintro e w1 ⟨rfl, rfl⟩))
      go_ret
      exact ⟨ret_bool (by first | exact A.out.symm | (rw [A.out]; simp; omega) | (rw [A.out]; simp)), by repeat (first | with_reducible assumption | with_reducible refine below_set ?_ (by omega) _ | with_reducible refine Below.alloc ?_ (by first | omega | (simp; done) | (simp; omega)) _ | with_reducible refine Below.drew ?_ | with_reducible exact Below.refl _ _ | with_reducible refine below_two ?_ (by with_reducible assumption))⟩
    · have hl' : ¬ (ne : Int) = 0 := by omega
      have A : Aside0 (R = false) := ⟨by rw [HR.out, locS9 _ _ _ _ _ _ _ (.inl rfl)]; simp [HN.out.1, HN.out.2.1, HN.out.2.2.1, HN.out.2.2.2, hnf, hl]⟩
      go_enter Tryd.func56, Tryd.ntmps56
      go_wp2_with (first | (go_at_call 27; (first | with_reducible refine (c1' _).mono ?_ | with_reducible refine (c2' _).mono ?_ | with_reducible refine (c3' _).mono ?_); rintro e w1 ⟨rfl, hB1⟩; (have hbc := (bcell hB1).1); (have hbs : w.heap.size < w1.heap.size := (by have hq := hB1.size; (try simp at hq); omega))) | (go_at_call 81; (with_reducible refine (cZ _ _ (by simp)).mono ?_); rintro e w1 ⟨rfl, rfl⟩))
      go_ret
      exact ⟨ret_bool (by first | exact A.out.symm | (rw [A.out]; simp; omega) | (rw [A.out]; simp)), by repeat (first | with_reducible assumption | with_reducible refine below_set ?_ (by omega) _ | with_reducible refine Below.alloc ?_ (by first | omega | (simp; done) | (simp; omega)) _ | with_reducible refine Below.drew ?_ | with_reducible exact Below.refl _ _ | with_reducible refine below_two ?_ (by with_reducible assumption))⟩
  have h9' : (k == 9) = false := beq_eq_false_iff_ne.2 h9
  by_cases h10 : k = 10
  · subst h10
    by_cases hl : ne = 0
    · subst hl
      have A : Aside0 (R = false) := ⟨by rw [HR.out, locS9 _ _ _ _ _ _ _ (.inr rfl)]; simp [HN.out.1, HN.out.2.1, HN.out.2.2.1, HN.out.2.2.2, hnf]⟩
      go_enter Tryd.func56, Tryd.ntmps56
      go_wp2_with (first | (go_at_call 27; (first | with_reducible refine (c1' _).mono ?_ | with_reducible refine (c2' _).mono ?_ | with_reducible refine (c3' _).mono ?_); rintro e w1 ⟨rfl, hB1⟩; (have hbc := (bcell hB1).1); (have hbs : w.heap.size < w1.heap.size := (by have hq := hB1.size; (try simp at hq); omega))) | (go_at_call 81; (with_reducible refine (cZ _ _ (by simp)).mono ?_); rintro e w1 ⟨rfl, rfl⟩))
      go_ret
      exact ⟨ret_bool (by first | exact A.out.symm | (rw [A.out]; simp; omega) | (rw [A.out]; simp)), by repeat (first | with_reducible assumption | with_reducible refine below_set ?_ (by omega) _ | with_reducible refine Below.alloc ?_ (by first | omega | (simp; done) | (simp; omega)) _ | with_reducible refine Below.drew ?_ | with_reducible exact Below.refl _ _ | with_reducible refine below_two ?_ (by with_reducible assumption))⟩
    · have hl' : ¬ (ne : Int) = 0 := by omega
      have A : Aside0 (R = false) := ⟨by rw [HR.out, locS9 _ _ _ _ _ _ _ (.inr rfl)]; simp [HN.out.1, HN.out.2.1, HN.out.2.2.1, HN.out.2.2.2, hnf, hl]⟩
      go_enter Tryd.func56, Tryd.ntmps56
      go_wp2_with (first | (go_at_call 27; (first | with_reducible refine (c1' _).mono ?_ | with_reducible refine (c2' _).mono ?_ | with_reducible refine (c3' _).mono ?_); rintro e w1 ⟨rfl, hB1⟩; (have hbc := (bcell hB1).1); (have hbs : w.heap.size < w1.heap.size := (by have hq := hB1.size; (try simp at hq); omega))) | (go_at_call 81; (with_reducible refine (cZ _ _ (by simp)).mono ?_); rintro e w1 ⟨rfl, rfl⟩))
      go_ret
      exact ⟨ret_bool (by first | exact A.out.symm | (rw [A.out]; simp; omega) | (rw [A.out]; simp)), by repeat (first | with_reducible assumption | with_reducible refine below_set ?_ (by omega) _ | with_reducible refine Below.alloc ?_ (by first | omega | (simp; done) | (simp; omega)) _ | with_reducible refine Below.drew ?_ | with_reducible exact Below.refl _ _ | with_reducible refine below_two ?_ (by with_reducible assumption))⟩
  have h10' : (k == 10) = false := beq_eq_false_iff_ne.2 h10
  have A : Aside0 (R = false) := ⟨by rw [HR.out, locS]; simp [HN.out.1, HN.out.2.1, HN.out.2.2.1, HN.out.2.2.2, h1, h2, h3, h4, h5, h6, h7, h8, h9, h10]⟩
  go_enter Tryd.func56, Tryd.ntmps56
  go_wp2_with (first | (go_at_call 27; (first | with_reducible refine (c1' _).mono ?_ | with_reducible refine (c2' _).mono ?_ | with_reducible refine (c3' _).mono ?_); rintro e w1 ⟨rfl, hB1⟩; (have hbc := (bcell hB1).1); (have hbs : w.heap.size < w1.heap.size := (by have hq := hB1.size; (try simp at hq); omega))) | (go_at_call 81; (with_reducible refine (cZ _ _ (by simp)).mono ?_); rintro e w1 ⟨rfl, rfl⟩))
  go_ret
  exact ⟨ret_bool (by first | exact A.out.symm | (rw [A.out]; simp; omega) | (rw [A.out]; simp)), by repeat (first | with_reducible assumption | with_reducible refine below_set ?_ (by omega) _ | with_reducible refine Below.alloc ?_ (by first | omega | (simp; done) | (simp; omega)) _ | with_reducible refine Below.drew ?_ | with_reducible exact Below.refl _ _ | with_reducible refine below_two ?_ (by with_reducible assumption))⟩
set_option maxHeartbeats 40000000 in
set_option maxRecDepth 100000 in
theorem stmtFormed_c (k : Int) (name key val : ByteArray) (a1 a2 a3 : Option Addr) (c1 c2 c3 : Nat) (ne nb nf : Nat) (w : World) (hs : name.size ≤ 100000000 ∧ key.size ≤ 100000000 ∧ val.size ≤ 100000000) (hne3 : ne ≤ 3000000 ∧ nb ≤ 3000000 ∧ nf ≤ 3000000) (hnb : ¬ nb = 0) : Calls Tryd.prog 56 #[.agg #[.int .i64 k, .string name, .string key, .string val, .slice a1 ne c1, .slice a2 nb c2, .slice a3 nf c3]] w (IsY (locS k name.data.toList key.data.toList val.data.toList ne nb nf) w) := by
  have c1' : ∀ W, Calls Tryd.prog 27 #[.string name] W (IsY (nameB name.data.toList) W) := fun W => name_walk W name hs.1
  have c2' : ∀ W, Calls Tryd.prog 27 #[.string key] W (IsY (nameB key.data.toList) W) := fun W => name_walk W key hs.2.1
  have c3' : ∀ W, Calls Tryd.prog 27 #[.string val] W (IsY (nameB val.data.toList) W) := fun W => name_walk W val hs.2.2
  have cZ : ∀ (W : World) (p : Nat), W.heap.size = p → Calls Tryd.prog 81 #[.slice (some ⟨p, 0, none⟩) 2 2] (W.alloc (.cells #[.string key, .string val] 9)) (IsB (key.data.toList.isEmpty && val.data.toList.isEmpty) (W.alloc (.cells #[.string key, .string val] 9))) := fun W p h => h ▸ none2 key val W
  obtain ⟨R, hR⟩ : ∃ R, locS k name.data.toList key.data.toList val.data.toList ne nb nf = R := ⟨_, rfl⟩
  rw [hR]
  have HR : Aside0 (R = locS k name.data.toList key.data.toList val.data.toList ne nb nf) := ⟨hR.symm⟩
  obtain ⟨nl, hnl⟩ : ∃ l, name.data.toList = l := ⟨_, rfl⟩
  obtain ⟨kl, hkl⟩ : ∃ l, key.data.toList = l := ⟨_, rfl⟩
  obtain ⟨vl, hvl⟩ : ∃ l, val.data.toList = l := ⟨_, rfl⟩
  have HT : Aside0 (name.toList = nl) := ⟨by rw [toList_data, hnl]⟩
  rw [hnl, hkl, hvl] at HR
  rw [hkl, hvl] at cZ
  rw [hnl] at c1'
  rw [hkl] at c2'
  rw [hvl] at c3'
  clear hnl hkl hvl hR
  obtain ⟨b1, hb1⟩ : ∃ b, nameB nl = b := ⟨_, rfl⟩
  obtain ⟨b2, hb2⟩ : ∃ b, nameB kl = b := ⟨_, rfl⟩
  obtain ⟨b3, hb3⟩ : ∃ b, nameB vl = b := ⟨_, rfl⟩
  obtain ⟨bz, hbz⟩ : ∃ b, (kl.isEmpty && vl.isEmpty) = b := ⟨_, rfl⟩
  have HN : Aside0 (nameB nl = b1 ∧ nameB kl = b2 ∧ nameB vl = b3 ∧ (kl.isEmpty && vl.isEmpty) = bz) := ⟨hb1, hb2, hb3, hbz⟩
  rw [hb1] at c1'
  rw [hb2] at c2'
  rw [hb3] at c3'
  rw [hbz] at cZ
  clear hb1 hb2 hb3 hbz
  have hnb' : ¬ (nb : Int) = 0 := by omega
  by_cases h1 : k = 1
  · subst h1
    by_cases hl : ne = 1
    · subst hl
      have A : Aside0 (R = false) := ⟨by rw [HR.out, locS1 _ _ _ _ _ _ _ (.inl rfl)]; simp [HN.out.1, HN.out.2.1, HN.out.2.2.1, HN.out.2.2.2, hnb]⟩
      go_enter Tryd.func56, Tryd.ntmps56
      go_wp2_with (first | (go_at_call 27; (first | with_reducible refine (c1' _).mono ?_ | with_reducible refine (c2' _).mono ?_ | with_reducible refine (c3' _).mono ?_); rintro e w1 ⟨rfl, hB1⟩; (have hbc := (bcell hB1).1); (have hbs : w.heap.size < w1.heap.size := (by have hq := hB1.size; (try simp at hq); omega))) | (go_at_call 81; (with_reducible refine (cZ _ _ (by simp)).mono ?_); rintro e w1 ⟨rfl, rfl⟩))
      go_ret
      exact ⟨ret_bool (by first | exact A.out.symm | (rw [A.out]; simp; omega) | (rw [A.out]; simp)), by repeat (first | with_reducible assumption | with_reducible refine below_set ?_ (by omega) _ | with_reducible refine Below.alloc ?_ (by first | omega | (simp; done) | (simp; omega)) _ | with_reducible refine Below.drew ?_ | with_reducible exact Below.refl _ _ | with_reducible refine below_two ?_ (by with_reducible assumption))⟩
    · have hl' : ¬ (ne : Int) = 1 := by omega
      have A : Aside0 (R = false) := ⟨by rw [HR.out, locS1 _ _ _ _ _ _ _ (.inl rfl)]; simp [HN.out.1, HN.out.2.1, HN.out.2.2.1, HN.out.2.2.2, hnb, hl]⟩
      go_enter Tryd.func56, Tryd.ntmps56
      go_wp2_with (first | (go_at_call 27; (first | with_reducible refine (c1' _).mono ?_ | with_reducible refine (c2' _).mono ?_ | with_reducible refine (c3' _).mono ?_); rintro e w1 ⟨rfl, hB1⟩; (have hbc := (bcell hB1).1); (have hbs : w.heap.size < w1.heap.size := (by have hq := hB1.size; (try simp at hq); omega))) | (go_at_call 81; (with_reducible refine (cZ _ _ (by simp)).mono ?_); rintro e w1 ⟨rfl, rfl⟩))
      go_ret
      exact ⟨ret_bool (by first | exact A.out.symm | (rw [A.out]; simp; omega) | (rw [A.out]; simp)), by repeat (first | with_reducible assumption | with_reducible refine below_set ?_ (by omega) _ | with_reducible refine Below.alloc ?_ (by first | omega | (simp; done) | (simp; omega)) _ | with_reducible refine Below.drew ?_ | with_reducible exact Below.refl _ _ | with_reducible refine below_two ?_ (by with_reducible assumption))⟩
  have h1' : (k == 1) = false := beq_eq_false_iff_ne.2 h1
  by_cases h3 : k = 3
  · subst h3
    by_cases hl : ne = 1
    · subst hl
      have A : Aside0 (R = false) := ⟨by rw [HR.out, locS1 _ _ _ _ _ _ _ (.inr rfl)]; simp [HN.out.1, HN.out.2.1, HN.out.2.2.1, HN.out.2.2.2, hnb]⟩
      go_enter Tryd.func56, Tryd.ntmps56
      go_wp2_with (first | (go_at_call 27; (first | with_reducible refine (c1' _).mono ?_ | with_reducible refine (c2' _).mono ?_ | with_reducible refine (c3' _).mono ?_); rintro e w1 ⟨rfl, hB1⟩; (have hbc := (bcell hB1).1); (have hbs : w.heap.size < w1.heap.size := (by have hq := hB1.size; (try simp at hq); omega))) | (go_at_call 81; (with_reducible refine (cZ _ _ (by simp)).mono ?_); rintro e w1 ⟨rfl, rfl⟩))
      go_ret
      exact ⟨ret_bool (by first | exact A.out.symm | (rw [A.out]; simp; omega) | (rw [A.out]; simp)), by repeat (first | with_reducible assumption | with_reducible refine below_set ?_ (by omega) _ | with_reducible refine Below.alloc ?_ (by first | omega | (simp; done) | (simp; omega)) _ | with_reducible refine Below.drew ?_ | with_reducible exact Below.refl _ _ | with_reducible refine below_two ?_ (by with_reducible assumption))⟩
    · have hl' : ¬ (ne : Int) = 1 := by omega
      have A : Aside0 (R = false) := ⟨by rw [HR.out, locS1 _ _ _ _ _ _ _ (.inr rfl)]; simp [HN.out.1, HN.out.2.1, HN.out.2.2.1, HN.out.2.2.2, hnb, hl]⟩
      go_enter Tryd.func56, Tryd.ntmps56
      go_wp2_with (first | (go_at_call 27; (first | with_reducible refine (c1' _).mono ?_ | with_reducible refine (c2' _).mono ?_ | with_reducible refine (c3' _).mono ?_); rintro e w1 ⟨rfl, hB1⟩; (have hbc := (bcell hB1).1); (have hbs : w.heap.size < w1.heap.size := (by have hq := hB1.size; (try simp at hq); omega))) | (go_at_call 81; (with_reducible refine (cZ _ _ (by simp)).mono ?_); rintro e w1 ⟨rfl, rfl⟩))
      go_ret
      exact ⟨ret_bool (by first | exact A.out.symm | (rw [A.out]; simp; omega) | (rw [A.out]; simp)), by repeat (first | with_reducible assumption | with_reducible refine below_set ?_ (by omega) _ | with_reducible refine Below.alloc ?_ (by first | omega | (simp; done) | (simp; omega)) _ | with_reducible refine Below.drew ?_ | with_reducible exact Below.refl _ _ | with_reducible refine below_two ?_ (by with_reducible assumption))⟩
  have h3' : (k == 3) = false := beq_eq_false_iff_ne.2 h3
  by_cases h2 : k = 2
  · subst h2
    by_cases hl : ne = 2
    · subst hl
      have A : Aside0 (R = false) := ⟨by rw [HR.out, locS2]; simp [HN.out.1, HN.out.2.1, HN.out.2.2.1, HN.out.2.2.2, hnb]⟩
      go_enter Tryd.func56, Tryd.ntmps56
      go_wp2_with (first | (go_at_call 27; (first | with_reducible refine (c1' _).mono ?_ | with_reducible refine (c2' _).mono ?_ | with_reducible refine (c3' _).mono ?_); rintro e w1 ⟨rfl, hB1⟩; (have hbc := (bcell hB1).1); (have hbs : w.heap.size < w1.heap.size := (by have hq := hB1.size; (try simp at hq); omega))) | (go_at_call 81; (with_reducible refine (cZ _ _ (by simp)).mono ?_); rintro e w1 ⟨rfl, rfl⟩))
      go_ret
      exact ⟨ret_bool (by first | exact A.out.symm | (rw [A.out]; simp; omega) | (rw [A.out]; simp)), by repeat (first | with_reducible assumption | with_reducible refine below_set ?_ (by omega) _ | with_reducible refine Below.alloc ?_ (by first | omega | (simp; done) | (simp; omega)) _ | with_reducible refine Below.drew ?_ | with_reducible exact Below.refl _ _ | with_reducible refine below_two ?_ (by with_reducible assumption))⟩
    · have hl' : ¬ (ne : Int) = 2 := by omega
      have A : Aside0 (R = false) := ⟨by rw [HR.out, locS2]; simp [HN.out.1, HN.out.2.1, HN.out.2.2.1, HN.out.2.2.2, hnb, hl]⟩
      go_enter Tryd.func56, Tryd.ntmps56
      go_wp2_with (first | (go_at_call 27; (first | with_reducible refine (c1' _).mono ?_ | with_reducible refine (c2' _).mono ?_ | with_reducible refine (c3' _).mono ?_); rintro e w1 ⟨rfl, hB1⟩; (have hbc := (bcell hB1).1); (have hbs : w.heap.size < w1.heap.size := (by have hq := hB1.size; (try simp at hq); omega))) | (go_at_call 81; (with_reducible refine (cZ _ _ (by simp)).mono ?_); rintro e w1 ⟨rfl, rfl⟩))
      go_ret
      exact ⟨ret_bool (by first | exact A.out.symm | (rw [A.out]; simp; omega) | (rw [A.out]; simp)), by repeat (first | with_reducible assumption | with_reducible refine below_set ?_ (by omega) _ | with_reducible refine Below.alloc ?_ (by first | omega | (simp; done) | (simp; omega)) _ | with_reducible refine Below.drew ?_ | with_reducible exact Below.refl _ _ | with_reducible refine below_two ?_ (by with_reducible assumption))⟩
  have h2' : (k == 2) = false := beq_eq_false_iff_ne.2 h2
  by_cases h4 : k = 4
  · subst h4
    by_cases hl : ne = 0
    · subst hl
      have A : Aside0 (R = false) := ⟨by rw [HR.out, locS4]; simp [HN.out.1, HN.out.2.1, HN.out.2.2.1, HN.out.2.2.2, hnb]⟩
      go_enter Tryd.func56, Tryd.ntmps56
      go_wp2_with (first | (go_at_call 27; (first | with_reducible refine (c1' _).mono ?_ | with_reducible refine (c2' _).mono ?_ | with_reducible refine (c3' _).mono ?_); rintro e w1 ⟨rfl, hB1⟩; (have hbc := (bcell hB1).1); (have hbs : w.heap.size < w1.heap.size := (by have hq := hB1.size; (try simp at hq); omega))) | (go_at_call 81; (with_reducible refine (cZ _ _ (by simp)).mono ?_); rintro e w1 ⟨rfl, rfl⟩))
      go_ret
      exact ⟨ret_bool (by first | exact A.out.symm | (rw [A.out]; simp; omega) | (rw [A.out]; simp)), by repeat (first | with_reducible assumption | with_reducible refine below_set ?_ (by omega) _ | with_reducible refine Below.alloc ?_ (by first | omega | (simp; done) | (simp; omega)) _ | with_reducible refine Below.drew ?_ | with_reducible exact Below.refl _ _ | with_reducible refine below_two ?_ (by with_reducible assumption))⟩
    · have hl' : ¬ (ne : Int) = 0 := by omega
      have A : Aside0 (R = false) := ⟨by rw [HR.out, locS4]; simp [HN.out.1, HN.out.2.1, HN.out.2.2.1, HN.out.2.2.2, hnb, hl]⟩
      go_enter Tryd.func56, Tryd.ntmps56
      go_wp2_with (first | (go_at_call 27; (first | with_reducible refine (c1' _).mono ?_ | with_reducible refine (c2' _).mono ?_ | with_reducible refine (c3' _).mono ?_); rintro e w1 ⟨rfl, hB1⟩; (have hbc := (bcell hB1).1); (have hbs : w.heap.size < w1.heap.size := (by have hq := hB1.size; (try simp at hq); omega))) | (go_at_call 81; (with_reducible refine (cZ _ _ (by simp)).mono ?_); rintro e w1 ⟨rfl, rfl⟩))
      go_ret
      exact ⟨ret_bool (by first | exact A.out.symm | (rw [A.out]; simp; omega) | (rw [A.out]; simp)), by repeat (first | with_reducible assumption | with_reducible refine below_set ?_ (by omega) _ | with_reducible refine Below.alloc ?_ (by first | omega | (simp; done) | (simp; omega)) _ | with_reducible refine Below.drew ?_ | with_reducible exact Below.refl _ _ | with_reducible refine below_two ?_ (by with_reducible assumption))⟩
  have h4' : (k == 4) = false := beq_eq_false_iff_ne.2 h4
  by_cases h5 : k = 5
  · subst h5
    have A : Aside0 (R = false) := ⟨by rw [HR.out, locS5]; simp [HN.out.1, HN.out.2.1, HN.out.2.2.1, HN.out.2.2.2, hnb]⟩
    go_enter Tryd.func56, Tryd.ntmps56
    go_wp2_with (first | (go_at_call 27; (first | with_reducible refine (c1' _).mono ?_ | with_reducible refine (c2' _).mono ?_ | with_reducible refine (c3' _).mono ?_); rintro e w1 ⟨rfl, hB1⟩; (have hbc := (bcell hB1).1); (have hbs : w.heap.size < w1.heap.size := (by have hq := hB1.size; (try simp at hq); omega))) | (go_at_call 81; (with_reducible refine (cZ _ _ (by simp)).mono ?_); rintro e w1 ⟨rfl, rfl⟩))
    go_ret
    exact ⟨ret_bool (by first | exact A.out.symm | (rw [A.out]; simp; omega) | (rw [A.out]; simp)), by repeat (first | with_reducible assumption | with_reducible refine below_set ?_ (by omega) _ | with_reducible refine Below.alloc ?_ (by first | omega | (simp; done) | (simp; omega)) _ | with_reducible refine Below.drew ?_ | with_reducible exact Below.refl _ _ | with_reducible refine below_two ?_ (by with_reducible assumption))⟩
  have h5' : (k == 5) = false := beq_eq_false_iff_ne.2 h5
  by_cases h6 : k = 6
  · subst h6
    by_cases hl : ne = 1
    · subst hl
      cases bz
      case false =>
        have A : Aside0 (R = false) := ⟨by rw [HR.out, locS6]; simp [HN.out.1, HN.out.2.1, HN.out.2.2.1, HN.out.2.2.2, hnb]⟩
        go_enter Tryd.func56, Tryd.ntmps56
        go_wp2_with (first | (go_at_call 27; (first | with_reducible refine (c1' _).mono ?_ | with_reducible refine (c2' _).mono ?_ | with_reducible refine (c3' _).mono ?_); rintro e w1 ⟨rfl, hB1⟩; (have hbc := (bcell hB1).1); (have hbs : w.heap.size < w1.heap.size := (by have hq := hB1.size; (try simp at hq); omega))) | (go_at_call 81; (with_reducible refine (cZ _ _ (by simp)).mono ?_); rintro e w1 ⟨rfl, rfl⟩))
        go_ret
        exact ⟨ret_bool (by first | exact A.out.symm | (rw [A.out]; simp; omega) | (rw [A.out]; simp)), by repeat (first | with_reducible assumption | with_reducible refine below_set ?_ (by omega) _ | with_reducible refine Below.alloc ?_ (by first | omega | (simp; done) | (simp; omega)) _ | with_reducible refine Below.drew ?_ | with_reducible exact Below.refl _ _ | with_reducible refine below_two ?_ (by with_reducible assumption))⟩
      case true =>
        by_cases ho : name.toList = []
        · have HO : Aside0 (nl = []) := ⟨by rw [← HT.out]; exact ho⟩
          have A : Aside0 (R = true) := ⟨by rw [HR.out, locS6]; simp [HN.out.1, HN.out.2.1, HN.out.2.2.1, HN.out.2.2.2, hnb, HO.out]⟩
          go_enter Tryd.func56, Tryd.ntmps56
          go_wp2_with (first | (go_at_call 27; (first | with_reducible refine (c1' _).mono ?_ | with_reducible refine (c2' _).mono ?_ | with_reducible refine (c3' _).mono ?_); rintro e w1 ⟨rfl, hB1⟩; (have hbc := (bcell hB1).1); (have hbs : w.heap.size < w1.heap.size := (by have hq := hB1.size; (try simp at hq); omega))) | (go_at_call 81; (with_reducible refine (cZ _ _ (by simp)).mono ?_); rintro e w1 ⟨rfl, rfl⟩))
          go_ret
          exact ⟨ret_bool (by first | exact A.out.symm | (rw [A.out]; simp; omega) | (rw [A.out]; simp)), by repeat (first | with_reducible assumption | with_reducible refine below_set ?_ (by omega) _ | with_reducible refine Below.alloc ?_ (by first | omega | (simp; done) | (simp; omega)) _ | with_reducible refine Below.drew ?_ | with_reducible exact Below.refl _ _ | with_reducible refine below_two ?_ (by with_reducible assumption))⟩
        · have ho' : name.toList.isEmpty = false := by simpa using ho
          have HO : Aside0 (¬ nl = []) := ⟨by rw [← HT.out]; exact ho⟩
          have A : Aside0 (R = false) := ⟨by rw [HR.out, locS6]; simp [HN.out.1, HN.out.2.1, HN.out.2.2.1, HN.out.2.2.2, hnb, HO.out]⟩
          go_enter Tryd.func56, Tryd.ntmps56
          go_wp2_with (first | (go_at_call 27; (first | with_reducible refine (c1' _).mono ?_ | with_reducible refine (c2' _).mono ?_ | with_reducible refine (c3' _).mono ?_); rintro e w1 ⟨rfl, hB1⟩; (have hbc := (bcell hB1).1); (have hbs : w.heap.size < w1.heap.size := (by have hq := hB1.size; (try simp at hq); omega))) | (go_at_call 81; (with_reducible refine (cZ _ _ (by simp)).mono ?_); rintro e w1 ⟨rfl, rfl⟩))
          go_ret
          exact ⟨ret_bool (by first | exact A.out.symm | (rw [A.out]; simp; omega) | (rw [A.out]; simp)), by repeat (first | with_reducible assumption | with_reducible refine below_set ?_ (by omega) _ | with_reducible refine Below.alloc ?_ (by first | omega | (simp; done) | (simp; omega)) _ | with_reducible refine Below.drew ?_ | with_reducible exact Below.refl _ _ | with_reducible refine below_two ?_ (by with_reducible assumption))⟩
    · have hl' : ¬ (ne : Int) = 1 := by omega
      have A : Aside0 (R = false) := ⟨by rw [HR.out, locS6]; simp [HN.out.1, HN.out.2.1, HN.out.2.2.1, HN.out.2.2.2, hnb, hl]⟩
      go_enter Tryd.func56, Tryd.ntmps56
      go_wp2_with (first | (go_at_call 27; (first | with_reducible refine (c1' _).mono ?_ | with_reducible refine (c2' _).mono ?_ | with_reducible refine (c3' _).mono ?_); rintro e w1 ⟨rfl, hB1⟩; (have hbc := (bcell hB1).1); (have hbs : w.heap.size < w1.heap.size := (by have hq := hB1.size; (try simp at hq); omega))) | (go_at_call 81; (with_reducible refine (cZ _ _ (by simp)).mono ?_); rintro e w1 ⟨rfl, rfl⟩))
      go_ret
      exact ⟨ret_bool (by first | exact A.out.symm | (rw [A.out]; simp; omega) | (rw [A.out]; simp)), by repeat (first | with_reducible assumption | with_reducible refine below_set ?_ (by omega) _ | with_reducible refine Below.alloc ?_ (by first | omega | (simp; done) | (simp; omega)) _ | with_reducible refine Below.drew ?_ | with_reducible exact Below.refl _ _ | with_reducible refine below_two ?_ (by with_reducible assumption))⟩
  have h6' : (k == 6) = false := beq_eq_false_iff_ne.2 h6
  by_cases h7 : k = 7
  · subst h7
    by_cases hl : ne = 1
    · subst hl
      cases bz
      case false =>
        have A : Aside0 (R = false) := ⟨by rw [HR.out, locS7]; simp [HN.out.1, HN.out.2.1, HN.out.2.2.1, HN.out.2.2.2, hnb]⟩
        go_enter Tryd.func56, Tryd.ntmps56
        go_wp2_with (first | (go_at_call 27; (first | with_reducible refine (c1' _).mono ?_ | with_reducible refine (c2' _).mono ?_ | with_reducible refine (c3' _).mono ?_); rintro e w1 ⟨rfl, hB1⟩; (have hbc := (bcell hB1).1); (have hbs : w.heap.size < w1.heap.size := (by have hq := hB1.size; (try simp at hq); omega))) | (go_at_call 81; (with_reducible refine (cZ _ _ (by simp)).mono ?_); rintro e w1 ⟨rfl, rfl⟩))
        go_ret
        exact ⟨ret_bool (by first | exact A.out.symm | (rw [A.out]; simp; omega) | (rw [A.out]; simp)), by repeat (first | with_reducible assumption | with_reducible refine below_set ?_ (by omega) _ | with_reducible refine Below.alloc ?_ (by first | omega | (simp; done) | (simp; omega)) _ | with_reducible refine Below.drew ?_ | with_reducible exact Below.refl _ _ | with_reducible refine below_two ?_ (by with_reducible assumption))⟩
      case true =>
        by_cases ho : name.toList = []
        · have HO : Aside0 (nl = []) := ⟨by rw [← HT.out]; exact ho⟩
          by_cases hq : nf = 0
          · subst hq
            have A : Aside0 (R = true) := ⟨by rw [HR.out, locS7]; simp [HN.out.1, HN.out.2.1, HN.out.2.2.1, HN.out.2.2.2, hnb, HO.out]⟩
            go_enter Tryd.func56, Tryd.ntmps56
            go_wp2_with (first | (go_at_call 27; (first | with_reducible refine (c1' _).mono ?_ | with_reducible refine (c2' _).mono ?_ | with_reducible refine (c3' _).mono ?_); rintro e w1 ⟨rfl, hB1⟩; (have hbc := (bcell hB1).1); (have hbs : w.heap.size < w1.heap.size := (by have hq := hB1.size; (try simp at hq); omega))) | (go_at_call 81; (with_reducible refine (cZ _ _ (by simp)).mono ?_); rintro e w1 ⟨rfl, rfl⟩))
            go_ret
            exact ⟨ret_bool (by first | exact A.out.symm | (rw [A.out]; simp; omega) | (rw [A.out]; simp)), by repeat (first | with_reducible assumption | with_reducible refine below_set ?_ (by omega) _ | with_reducible refine Below.alloc ?_ (by first | omega | (simp; done) | (simp; omega)) _ | with_reducible refine Below.drew ?_ | with_reducible exact Below.refl _ _ | with_reducible refine below_two ?_ (by with_reducible assumption))⟩
          · have hq' : ¬ (nf : Int) = 0 := by omega
            have A : Aside0 (R = false) := ⟨by rw [HR.out, locS7]; simp [HN.out.1, HN.out.2.1, HN.out.2.2.1, HN.out.2.2.2, hnb, HO.out, hq]⟩
            go_enter Tryd.func56, Tryd.ntmps56
            go_wp2_with (first | (go_at_call 27; (first | with_reducible refine (c1' _).mono ?_ | with_reducible refine (c2' _).mono ?_ | with_reducible refine (c3' _).mono ?_); rintro e w1 ⟨rfl, hB1⟩; (have hbc := (bcell hB1).1); (have hbs : w.heap.size < w1.heap.size := (by have hq := hB1.size; (try simp at hq); omega))) | (go_at_call 81; (with_reducible refine (cZ _ _ (by simp)).mono ?_); rintro e w1 ⟨rfl, rfl⟩))
            go_ret
            exact ⟨ret_bool (by first | exact A.out.symm | (rw [A.out]; simp; omega) | (rw [A.out]; simp)), by repeat (first | with_reducible assumption | with_reducible refine below_set ?_ (by omega) _ | with_reducible refine Below.alloc ?_ (by first | omega | (simp; done) | (simp; omega)) _ | with_reducible refine Below.drew ?_ | with_reducible exact Below.refl _ _ | with_reducible refine below_two ?_ (by with_reducible assumption))⟩
        · have ho' : name.toList.isEmpty = false := by simpa using ho
          have HO : Aside0 (¬ nl = []) := ⟨by rw [← HT.out]; exact ho⟩
          have A : Aside0 (R = false) := ⟨by rw [HR.out, locS7]; simp [HN.out.1, HN.out.2.1, HN.out.2.2.1, HN.out.2.2.2, hnb, HO.out]⟩
          go_enter Tryd.func56, Tryd.ntmps56
          go_wp2_with (first | (go_at_call 27; (first | with_reducible refine (c1' _).mono ?_ | with_reducible refine (c2' _).mono ?_ | with_reducible refine (c3' _).mono ?_); rintro e w1 ⟨rfl, hB1⟩; (have hbc := (bcell hB1).1); (have hbs : w.heap.size < w1.heap.size := (by have hq := hB1.size; (try simp at hq); omega))) | (go_at_call 81; (with_reducible refine (cZ _ _ (by simp)).mono ?_); rintro e w1 ⟨rfl, rfl⟩))
          go_ret
          exact ⟨ret_bool (by first | exact A.out.symm | (rw [A.out]; simp; omega) | (rw [A.out]; simp)), by repeat (first | with_reducible assumption | with_reducible refine below_set ?_ (by omega) _ | with_reducible refine Below.alloc ?_ (by first | omega | (simp; done) | (simp; omega)) _ | with_reducible refine Below.drew ?_ | with_reducible exact Below.refl _ _ | with_reducible refine below_two ?_ (by with_reducible assumption))⟩
    · have hl' : ¬ (ne : Int) = 1 := by omega
      have A : Aside0 (R = false) := ⟨by rw [HR.out, locS7]; simp [HN.out.1, HN.out.2.1, HN.out.2.2.1, HN.out.2.2.2, hnb, hl]⟩
      go_enter Tryd.func56, Tryd.ntmps56
      go_wp2_with (first | (go_at_call 27; (first | with_reducible refine (c1' _).mono ?_ | with_reducible refine (c2' _).mono ?_ | with_reducible refine (c3' _).mono ?_); rintro e w1 ⟨rfl, hB1⟩; (have hbc := (bcell hB1).1); (have hbs : w.heap.size < w1.heap.size := (by have hq := hB1.size; (try simp at hq); omega))) | (go_at_call 81; (with_reducible refine (cZ _ _ (by simp)).mono ?_); rintro e w1 ⟨rfl, rfl⟩))
      go_ret
      exact ⟨ret_bool (by first | exact A.out.symm | (rw [A.out]; simp; omega) | (rw [A.out]; simp)), by repeat (first | with_reducible assumption | with_reducible refine below_set ?_ (by omega) _ | with_reducible refine Below.alloc ?_ (by first | omega | (simp; done) | (simp; omega)) _ | with_reducible refine Below.drew ?_ | with_reducible exact Below.refl _ _ | with_reducible refine below_two ?_ (by with_reducible assumption))⟩
  have h7' : (k == 7) = false := beq_eq_false_iff_ne.2 h7
  by_cases h8 : k = 8
  · subst h8
    by_cases hl : ne = 0
    · subst hl
      cases b2
      case false =>
        have A : Aside0 (R = false) := ⟨by rw [HR.out, locS8]; simp [HN.out.1, HN.out.2.1, HN.out.2.2.1, HN.out.2.2.2, hnb]⟩
        go_enter Tryd.func56, Tryd.ntmps56
        go_wp2_with (first | (go_at_call 27; (first | with_reducible refine (c1' _).mono ?_ | with_reducible refine (c2' _).mono ?_ | with_reducible refine (c3' _).mono ?_); rintro e w1 ⟨rfl, hB1⟩; (have hbc := (bcell hB1).1); (have hbs : w.heap.size < w1.heap.size := (by have hq := hB1.size; (try simp at hq); omega))) | (go_at_call 81; (with_reducible refine (cZ _ _ (by simp)).mono ?_); rintro e w1 ⟨rfl, rfl⟩))
        go_ret
        exact ⟨ret_bool (by first | exact A.out.symm | (rw [A.out]; simp; omega) | (rw [A.out]; simp)), by repeat (first | with_reducible assumption | with_reducible refine below_set ?_ (by omega) _ | with_reducible refine Below.alloc ?_ (by first | omega | (simp; done) | (simp; omega)) _ | with_reducible refine Below.drew ?_ | with_reducible exact Below.refl _ _ | with_reducible refine below_two ?_ (by with_reducible assumption))⟩
      case true =>
        cases b3
        case false =>
          have A : Aside0 (R = false) := ⟨by rw [HR.out, locS8]; simp [HN.out.1, HN.out.2.1, HN.out.2.2.1, HN.out.2.2.2, hnb]⟩
          go_enter Tryd.func56, Tryd.ntmps56
          go_wp2_with (first | (go_at_call 27; (first | with_reducible refine (c1' _).mono ?_ | with_reducible refine (c2' _).mono ?_ | with_reducible refine (c3' _).mono ?_); rintro e w1 ⟨rfl, hB1⟩; (have hbc := (bcell hB1).1); (have hbs : w.heap.size < w1.heap.size := (by have hq := hB1.size; (try simp at hq); omega))) | (go_at_call 81; (with_reducible refine (cZ _ _ (by simp)).mono ?_); rintro e w1 ⟨rfl, rfl⟩))
          go_ret
          exact ⟨ret_bool (by first | exact A.out.symm | (rw [A.out]; simp; omega) | (rw [A.out]; simp)), by repeat (first | with_reducible assumption | with_reducible refine below_set ?_ (by omega) _ | with_reducible refine Below.alloc ?_ (by first | omega | (simp; done) | (simp; omega)) _ | with_reducible refine Below.drew ?_ | with_reducible exact Below.refl _ _ | with_reducible refine below_two ?_ (by with_reducible assumption))⟩
        case true =>
          cases b1
          case false =>
            have A : Aside0 (R = false) := ⟨by rw [HR.out, locS8]; simp [HN.out.1, HN.out.2.1, HN.out.2.2.1, HN.out.2.2.2, hnb]⟩
            go_enter Tryd.func56, Tryd.ntmps56
            go_wp2_with (first | (go_at_call 27; (first | with_reducible refine (c1' _).mono ?_ | with_reducible refine (c2' _).mono ?_ | with_reducible refine (c3' _).mono ?_); rintro e w1 ⟨rfl, hB1⟩; (have hbc := (bcell hB1).1); (have hbs : w.heap.size < w1.heap.size := (by have hq := hB1.size; (try simp at hq); omega))) | (go_at_call 81; (with_reducible refine (cZ _ _ (by simp)).mono ?_); rintro e w1 ⟨rfl, rfl⟩))
            go_ret
            exact ⟨ret_bool (by first | exact A.out.symm | (rw [A.out]; simp; omega) | (rw [A.out]; simp)), by repeat (first | with_reducible assumption | with_reducible refine below_set ?_ (by omega) _ | with_reducible refine Below.alloc ?_ (by first | omega | (simp; done) | (simp; omega)) _ | with_reducible refine Below.drew ?_ | with_reducible exact Below.refl _ _ | with_reducible refine below_two ?_ (by with_reducible assumption))⟩
          case true =>
            by_cases hq : nf = 0
            · subst hq
              have A : Aside0 (R = true) := ⟨by rw [HR.out, locS8]; simp [HN.out.1, HN.out.2.1, HN.out.2.2.1, HN.out.2.2.2, hnb]⟩
              go_enter Tryd.func56, Tryd.ntmps56
              go_wp2_with (first | (go_at_call 27; (first | with_reducible refine (c1' _).mono ?_ | with_reducible refine (c2' _).mono ?_ | with_reducible refine (c3' _).mono ?_); rintro e w1 ⟨rfl, hB1⟩; (have hbc := (bcell hB1).1); (have hbs : w.heap.size < w1.heap.size := (by have hq := hB1.size; (try simp at hq); omega))) | (go_at_call 81; (with_reducible refine (cZ _ _ (by simp)).mono ?_); rintro e w1 ⟨rfl, rfl⟩))
              go_ret
              exact ⟨ret_bool (by first | exact A.out.symm | (rw [A.out]; simp; omega) | (rw [A.out]; simp)), by repeat (first | with_reducible assumption | with_reducible refine below_set ?_ (by omega) _ | with_reducible refine Below.alloc ?_ (by first | omega | (simp; done) | (simp; omega)) _ | with_reducible refine Below.drew ?_ | with_reducible exact Below.refl _ _ | with_reducible refine below_two ?_ (by with_reducible assumption))⟩
            · have hq' : ¬ (nf : Int) = 0 := by omega
              have A : Aside0 (R = false) := ⟨by rw [HR.out, locS8]; simp [HN.out.1, HN.out.2.1, HN.out.2.2.1, HN.out.2.2.2, hnb, hq]⟩
              go_enter Tryd.func56, Tryd.ntmps56
              go_wp2_with (first | (go_at_call 27; (first | with_reducible refine (c1' _).mono ?_ | with_reducible refine (c2' _).mono ?_ | with_reducible refine (c3' _).mono ?_); rintro e w1 ⟨rfl, hB1⟩; (have hbc := (bcell hB1).1); (have hbs : w.heap.size < w1.heap.size := (by have hq := hB1.size; (try simp at hq); omega))) | (go_at_call 81; (with_reducible refine (cZ _ _ (by simp)).mono ?_); rintro e w1 ⟨rfl, rfl⟩))
              go_ret
              exact ⟨ret_bool (by first | exact A.out.symm | (rw [A.out]; simp; omega) | (rw [A.out]; simp)), by repeat (first | with_reducible assumption | with_reducible refine below_set ?_ (by omega) _ | with_reducible refine Below.alloc ?_ (by first | omega | (simp; done) | (simp; omega)) _ | with_reducible refine Below.drew ?_ | with_reducible exact Below.refl _ _ | with_reducible refine below_two ?_ (by with_reducible assumption))⟩
    · have hl' : ¬ (ne : Int) = 0 := by omega
      have A : Aside0 (R = false) := ⟨by rw [HR.out, locS8]; simp [HN.out.1, HN.out.2.1, HN.out.2.2.1, HN.out.2.2.2, hnb, hl]⟩
      go_enter Tryd.func56, Tryd.ntmps56
      go_wp2_with (first | (go_at_call 27; (first | with_reducible refine (c1' _).mono ?_ | with_reducible refine (c2' _).mono ?_ | with_reducible refine (c3' _).mono ?_); rintro e w1 ⟨rfl, hB1⟩; (have hbc := (bcell hB1).1); (have hbs : w.heap.size < w1.heap.size := (by have hq := hB1.size; (try simp at hq); omega))) | (go_at_call 81; (with_reducible refine (cZ _ _ (by simp)).mono ?_); rintro e w1 ⟨rfl, rfl⟩))
      go_ret
      exact ⟨ret_bool (by first | exact A.out.symm | (rw [A.out]; simp; omega) | (rw [A.out]; simp)), by repeat (first | with_reducible assumption | with_reducible refine below_set ?_ (by omega) _ | with_reducible refine Below.alloc ?_ (by first | omega | (simp; done) | (simp; omega)) _ | with_reducible refine Below.drew ?_ | with_reducible exact Below.refl _ _ | with_reducible refine below_two ?_ (by with_reducible assumption))⟩
  have h8' : (k == 8) = false := beq_eq_false_iff_ne.2 h8
  by_cases h9 : k = 9
  · subst h9
    by_cases hl : ne = 0
    · subst hl
      have A : Aside0 (R = false) := ⟨by rw [HR.out, locS9 _ _ _ _ _ _ _ (.inl rfl)]; simp [HN.out.1, HN.out.2.1, HN.out.2.2.1, HN.out.2.2.2, hnb]⟩
      go_enter Tryd.func56, Tryd.ntmps56
      go_wp2_with (first | (go_at_call 27; (first | with_reducible refine (c1' _).mono ?_ | with_reducible refine (c2' _).mono ?_ | with_reducible refine (c3' _).mono ?_); rintro e w1 ⟨rfl, hB1⟩; (have hbc := (bcell hB1).1); (have hbs : w.heap.size < w1.heap.size := (by have hq := hB1.size; (try simp at hq); omega))) | (go_at_call 81; (with_reducible refine (cZ _ _ (by simp)).mono ?_); rintro e w1 ⟨rfl, rfl⟩))
      go_ret
      exact ⟨ret_bool (by first | exact A.out.symm | (rw [A.out]; simp; omega) | (rw [A.out]; simp)), by repeat (first | with_reducible assumption | with_reducible refine below_set ?_ (by omega) _ | with_reducible refine Below.alloc ?_ (by first | omega | (simp; done) | (simp; omega)) _ | with_reducible refine Below.drew ?_ | with_reducible exact Below.refl _ _ | with_reducible refine below_two ?_ (by with_reducible assumption))⟩
    · have hl' : ¬ (ne : Int) = 0 := by omega
      have A : Aside0 (R = false) := ⟨by rw [HR.out, locS9 _ _ _ _ _ _ _ (.inl rfl)]; simp [HN.out.1, HN.out.2.1, HN.out.2.2.1, HN.out.2.2.2, hnb, hl]⟩
      go_enter Tryd.func56, Tryd.ntmps56
      go_wp2_with (first | (go_at_call 27; (first | with_reducible refine (c1' _).mono ?_ | with_reducible refine (c2' _).mono ?_ | with_reducible refine (c3' _).mono ?_); rintro e w1 ⟨rfl, hB1⟩; (have hbc := (bcell hB1).1); (have hbs : w.heap.size < w1.heap.size := (by have hq := hB1.size; (try simp at hq); omega))) | (go_at_call 81; (with_reducible refine (cZ _ _ (by simp)).mono ?_); rintro e w1 ⟨rfl, rfl⟩))
      go_ret
      exact ⟨ret_bool (by first | exact A.out.symm | (rw [A.out]; simp; omega) | (rw [A.out]; simp)), by repeat (first | with_reducible assumption | with_reducible refine below_set ?_ (by omega) _ | with_reducible refine Below.alloc ?_ (by first | omega | (simp; done) | (simp; omega)) _ | with_reducible refine Below.drew ?_ | with_reducible exact Below.refl _ _ | with_reducible refine below_two ?_ (by with_reducible assumption))⟩
  have h9' : (k == 9) = false := beq_eq_false_iff_ne.2 h9
  by_cases h10 : k = 10
  · subst h10
    by_cases hl : ne = 0
    · subst hl
      have A : Aside0 (R = false) := ⟨by rw [HR.out, locS9 _ _ _ _ _ _ _ (.inr rfl)]; simp [HN.out.1, HN.out.2.1, HN.out.2.2.1, HN.out.2.2.2, hnb]⟩
      go_enter Tryd.func56, Tryd.ntmps56
      go_wp2_with (first | (go_at_call 27; (first | with_reducible refine (c1' _).mono ?_ | with_reducible refine (c2' _).mono ?_ | with_reducible refine (c3' _).mono ?_); rintro e w1 ⟨rfl, hB1⟩; (have hbc := (bcell hB1).1); (have hbs : w.heap.size < w1.heap.size := (by have hq := hB1.size; (try simp at hq); omega))) | (go_at_call 81; (with_reducible refine (cZ _ _ (by simp)).mono ?_); rintro e w1 ⟨rfl, rfl⟩))
      go_ret
      exact ⟨ret_bool (by first | exact A.out.symm | (rw [A.out]; simp; omega) | (rw [A.out]; simp)), by repeat (first | with_reducible assumption | with_reducible refine below_set ?_ (by omega) _ | with_reducible refine Below.alloc ?_ (by first | omega | (simp; done) | (simp; omega)) _ | with_reducible refine Below.drew ?_ | with_reducible exact Below.refl _ _ | with_reducible refine below_two ?_ (by with_reducible assumption))⟩
    · have hl' : ¬ (ne : Int) = 0 := by omega
      have A : Aside0 (R = false) := ⟨by rw [HR.out, locS9 _ _ _ _ _ _ _ (.inr rfl)]; simp [HN.out.1, HN.out.2.1, HN.out.2.2.1, HN.out.2.2.2, hnb, hl]⟩
      go_enter Tryd.func56, Tryd.ntmps56
      go_wp2_with (first | (go_at_call 27; (first | with_reducible refine (c1' _).mono ?_ | with_reducible refine (c2' _).mono ?_ | with_reducible refine (c3' _).mono ?_); rintro e w1 ⟨rfl, hB1⟩; (have hbc := (bcell hB1).1); (have hbs : w.heap.size < w1.heap.size := (by have hq := hB1.size; (try simp at hq); omega))) | (go_at_call 81; (with_reducible refine (cZ _ _ (by simp)).mono ?_); rintro e w1 ⟨rfl, rfl⟩))
      go_ret
      exact ⟨ret_bool (by first | exact A.out.symm | (rw [A.out]; simp; omega) | (rw [A.out]; simp)), by repeat (first | with_reducible assumption | with_reducible refine below_set ?_ (by omega) _ | with_reducible refine Below.alloc ?_ (by first | omega | (simp; done) | (simp; omega)) _ | with_reducible refine Below.drew ?_ | with_reducible exact Below.refl _ _ | with_reducible refine below_two ?_ (by with_reducible assumption))⟩
  have h10' : (k == 10) = false := beq_eq_false_iff_ne.2 h10
  have A : Aside0 (R = false) := ⟨by rw [HR.out, locS]; simp [HN.out.1, HN.out.2.1, HN.out.2.2.1, HN.out.2.2.2, h1, h2, h3, h4, h5, h6, h7, h8, h9, h10]⟩
  go_enter Tryd.func56, Tryd.ntmps56
  go_wp2_with (first | (go_at_call 27; (first | with_reducible refine (c1' _).mono ?_ | with_reducible refine (c2' _).mono ?_ | with_reducible refine (c3' _).mono ?_); rintro e w1 ⟨rfl, hB1⟩; (have hbc := (bcell hB1).1); (have hbs : w.heap.size < w1.heap.size := (by have hq := hB1.size; (try simp at hq); omega))) | (go_at_call 81; (with_reducible refine (cZ _ _ (by simp)).mono ?_); rintro e w1 ⟨rfl, rfl⟩))
  go_ret
  exact ⟨ret_bool (by first | exact A.out.symm | (rw [A.out]; simp; omega) | (rw [A.out]; simp)), by repeat (first | with_reducible assumption | with_reducible refine below_set ?_ (by omega) _ | with_reducible refine Below.alloc ?_ (by first | omega | (simp; done) | (simp; omega)) _ | with_reducible refine Below.drew ?_ | with_reducible exact Below.refl _ _ | with_reducible refine below_two ?_ (by with_reducible assumption))⟩
theorem stmtFormed_walk (x : St) (ve vb vf : Value) (w : World) (hx : x.wt ≤ 3000000) (hve : ∃ a c, ve = .slice a x.exprs.len c) (hvb : ∃ a c, vb = .slice a x.body.len c) (hvf : ∃ a c, vf = .slice a x.els.len c) : Calls Tryd.prog 56 #[x.v ve vb vf] w (IsY x.loc w) := by
  obtain ⟨a1, c1, rfl⟩ := hve
  obtain ⟨a2, c2, rfl⟩ := hvb
  obtain ⟨a3, c3, rfl⟩ := hvf
  have hl1 := x.exprs.len_wt
  have hl2 := x.body.len_wt
  have hl3 := x.els.len_wt
  unfold St.wt at hx
  have hs : x.name.size ≤ 100000000 ∧ x.key.size ≤ 100000000 ∧ x.val.size ≤ 100000000 := by omega
  have hn : x.exprs.len ≤ 3000000 ∧ x.body.len ≤ 3000000 ∧ x.els.len ≤ 3000000 := by omega
  by_cases hb : x.body.len = 0
  · by_cases hf : x.els.len = 0
    · exact stmtFormed_a _ _ _ _ _ _ _ _ _ _ _ _ _ w hs hn hb hf
    · exact stmtFormed_b _ _ _ _ _ _ _ _ _ _ _ _ _ w hs hn hb hf
  · exact stmtFormed_c _ _ _ _ _ _ _ _ _ _ _ _ _ w hs hn hb
end Go.Proofs.YthkmdmobeadigaaDoor.lg
