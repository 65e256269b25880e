/- One expression, without its parts: the document's word, walked. -/
import Derived.Test.YthkmdmobeadigaaDoorXf
namespace Go.Proofs.YthkmdmobeadigaaDoor.lg
open Go.RowKit
set_option linter.unusedVariables false
set_option linter.unusedSimpArgs false
theorem none2 (a b : ByteArray) (W : World) : Calls Tryd.prog 81 #[.slice (some ⟨W.heap.size, 0, none⟩) 2 2] (W.alloc (.cells #[.string a, .string b] 9)) (IsB (a.data.toList.isEmpty && b.data.toList.isEmpty) (W.alloc (.cells #[.string a, .string b] 9))) := by
  have h := none_walk [a, b] (.slice (some ⟨W.heap.size, 0, none⟩) 2 2) (W.alloc (.cells #[.string a, .string b] 9)) (by simp) ⟨_, _, W.heap.size, 0, rfl, rfl, .inr rfl, (fun e => by cases e), Nat.le_refl _, fun j u hj => by rw [Nat.zero_add, cell_new]; simpa [nsC] using hj⟩
  simpa using h
set_option maxHeartbeats 40000000 in
set_option maxRecDepth 100000 in
theorem exprFormed_walk (x : Ex) (va : Value) (w : World) (hx : x.wt ≤ 3000000) (hva : ∃ a c, va = .slice a x.args.len c) : Calls Tryd.prog 57 #[x.v va] w (IsY x.loc w) := by
  obtain ⟨ao, c, rfl⟩ := hva
  obtain ⟨k, num, name, op, args⟩ := x
  unfold Ex.wt at hx
  simp only at hx
  have hlen := args.len_wt
  obtain ⟨na, hna⟩ : ∃ n, args.len = n := ⟨_, rfl⟩
  simp only [Ex.v]
  obtain ⟨R, hR⟩ : ∃ R, Ex.loc ⟨k, num, name, op, args⟩ = R := ⟨_, rfl⟩
  rw [hR]
  have HR : Aside0 (R = locE k num name.data.toList op.data.toList na) := ⟨by rw [← hR, ← hna]; rfl⟩
  rw [hna]
  have hs : name.size ≤ 100000000 := by omega
  have hna3 : na ≤ 3000000 := by omega
  have cN : ∀ W, Calls Tryd.prog 27 #[.string name] W (IsY (nameB name.data.toList) W) := fun W => name_walk W name hs
  have cR : ∀ W, Calls Tryd.prog 82 #[.string op] W (IsM (rankP op.data.toList + 1) W) := fun W => rrank_walk W op
  have cZ : ∀ (W : World) (p : Nat), W.heap.size = p → Calls Tryd.prog 81 #[.slice (some ⟨p, 0, none⟩) 2 2] (W.alloc (.cells #[.string name, .string op] 9)) (IsB (name.data.toList.isEmpty && op.data.toList.isEmpty) (W.alloc (.cells #[.string name, .string op] 9))) := fun W p h => h ▸ none2 name op W
  obtain ⟨nl, hnl⟩ : ∃ l, name.data.toList = l := ⟨_, rfl⟩
  obtain ⟨ol, hol⟩ : ∃ l, op.data.toList = l := ⟨_, rfl⟩
  have HTL : Aside0 (name.toList = nl ∧ op.toList = ol) := ⟨by rw [toList_data, hnl], by rw [toList_data, hol]⟩
  rw [hnl, hol] at HR cZ
  rw [hnl] at cN
  rw [hol] at cR
  clear hnl hol
  obtain ⟨bn, hbn⟩ : ∃ b, nameB nl = b := ⟨_, rfl⟩
  obtain ⟨rr, hrr⟩ : ∃ b, rankP ol = b := ⟨_, rfl⟩
  obtain ⟨bz, hbz⟩ : ∃ b, (nl.isEmpty && ol.isEmpty) = b := ⟨_, rfl⟩
  have HN : Aside0 (nameB nl = bn ∧ rankP ol = rr ∧ (nl.isEmpty && ol.isEmpty) = bz ∧ name.toList = nl ∧ op.toList = ol) := ⟨hbn, hrr, hbz, HTL.out.1, HTL.out.2⟩
  rw [hbn] at cN
  rw [hrr] at cR
  rw [hbz] at cZ
  have hrr3 : -1 ≤ rr ∧ rr ≤ 4 := by rw [← hrr]; unfold rankP; repeat (first | omega | split)
  clear hR hbn hrr hbz hna hlen hx
  by_cases h1 : k = 1
  · subst h1
    by_cases h0 : 0 ≤ num
    · by_cases hl : na = 0
      · subst hl
        have A : Aside0 (R = bz) := ⟨by rw [HR.out]; simp [locE, h0, ← HN.out.2.2.1, Bool.and_comm]⟩
        go_enter Tryd.func57, Tryd.ntmps57
        go_wp2_with (first | (go_at_call 27; (with_reducible refine (cN _).mono ?_); rintro e w1 ⟨rfl, hB1⟩) | (go_at_call 82; (with_reducible refine (cR _).mono ?_); rintro e w1 ⟨rfl, hB1⟩) | (go_at_call 81; (with_reducible refine (cZ _ _ (by simp)).mono ?_); rintro e w1 ⟨rfl, rfl⟩))
        go_ret
        exact ⟨ret_bool (by first | exact A.out.symm | (rw [A.out]; simp; omega) | (rw [A.out]; simp)), by repeat (first | with_reducible assumption | with_reducible refine below_set ?_ (by omega) _ | with_reducible refine Below.alloc ?_ (by first | omega | (simp; done) | (simp; omega)) _ | with_reducible refine Below.drew ?_ | with_reducible exact Below.refl _ _ | with_reducible refine below_two ?_ (by with_reducible assumption))⟩
      · have hl' : ¬ (na : Int) = 0 := by omega
        have A : Aside0 (R = false) := ⟨by rw [HR.out]; simp [locE, hl]⟩
        go_enter Tryd.func57, Tryd.ntmps57
        go_wp2_with (first | (go_at_call 27; (with_reducible refine (cN _).mono ?_); rintro e w1 ⟨rfl, hB1⟩) | (go_at_call 82; (with_reducible refine (cR _).mono ?_); rintro e w1 ⟨rfl, hB1⟩) | (go_at_call 81; (with_reducible refine (cZ _ _ (by simp)).mono ?_); rintro e w1 ⟨rfl, rfl⟩))
        go_ret
        exact ⟨ret_bool (by first | exact A.out.symm | (rw [A.out]; simp; omega) | (rw [A.out]; simp)), by repeat (first | with_reducible assumption | with_reducible refine below_set ?_ (by omega) _ | with_reducible refine Below.alloc ?_ (by first | omega | (simp; done) | (simp; omega)) _ | with_reducible refine Below.drew ?_ | with_reducible exact Below.refl _ _ | with_reducible refine below_two ?_ (by with_reducible assumption))⟩
    · have h0' : num < 0 := by omega
      have A : Aside0 (R = false) := ⟨by rw [HR.out]; simp [locE, h0]⟩
      go_enter Tryd.func57, Tryd.ntmps57
      go_wp2_with (first | (go_at_call 27; (with_reducible refine (cN _).mono ?_); rintro e w1 ⟨rfl, hB1⟩) | (go_at_call 82; (with_reducible refine (cR _).mono ?_); rintro e w1 ⟨rfl, hB1⟩) | (go_at_call 81; (with_reducible refine (cZ _ _ (by simp)).mono ?_); rintro e w1 ⟨rfl, rfl⟩))
      go_ret
      exact ⟨ret_bool (by first | exact A.out.symm | (rw [A.out]; simp; omega) | (rw [A.out]; simp)), by repeat (first | with_reducible assumption | with_reducible refine below_set ?_ (by omega) _ | with_reducible refine Below.alloc ?_ (by first | omega | (simp; done) | (simp; omega)) _ | with_reducible refine Below.drew ?_ | with_reducible exact Below.refl _ _ | with_reducible refine below_two ?_ (by with_reducible assumption))⟩
  have h1' : (k == 1) = false := beq_eq_false_iff_ne.2 h1
  by_cases h2 : k = 2
  · subst h2
    by_cases h0 : num = 0
    · subst h0
      by_cases hl : na = 0
      · subst hl
        by_cases ho : op.toList = []
        · have HO : Aside0 (ol = []) := ⟨by rw [← HN.out.2.2.2.2]; exact ho⟩
          have A : Aside0 (R = bn) := ⟨by rw [HR.out]; simp [locE, HO.out, HN.out.1]⟩
          go_enter Tryd.func57, Tryd.ntmps57
          go_wp2_with (first | (go_at_call 27; (with_reducible refine (cN _).mono ?_); rintro e w1 ⟨rfl, hB1⟩) | (go_at_call 82; (with_reducible refine (cR _).mono ?_); rintro e w1 ⟨rfl, hB1⟩) | (go_at_call 81; (with_reducible refine (cZ _ _ (by simp)).mono ?_); rintro e w1 ⟨rfl, rfl⟩))
          go_ret
          exact ⟨ret_bool (by first | exact A.out.symm | (rw [A.out]; simp; omega) | (rw [A.out]; simp)), by repeat (first | with_reducible assumption | with_reducible refine below_set ?_ (by omega) _ | with_reducible refine Below.alloc ?_ (by first | omega | (simp; done) | (simp; omega)) _ | with_reducible refine Below.drew ?_ | with_reducible exact Below.refl _ _ | with_reducible refine below_two ?_ (by with_reducible assumption))⟩
        · have ho' : op.toList.isEmpty = false := by simpa using ho
          have HO : Aside0 (¬ ol = []) := ⟨by rw [← HN.out.2.2.2.2]; exact ho⟩
          have A : Aside0 (R = false) := ⟨by rw [HR.out]; simp [locE, HO.out]⟩
          go_enter Tryd.func57, Tryd.ntmps57
          go_wp2_with (first | (go_at_call 27; (with_reducible refine (cN _).mono ?_); rintro e w1 ⟨rfl, hB1⟩) | (go_at_call 82; (with_reducible refine (cR _).mono ?_); rintro e w1 ⟨rfl, hB1⟩) | (go_at_call 81; (with_reducible refine (cZ _ _ (by simp)).mono ?_); rintro e w1 ⟨rfl, rfl⟩))
          go_ret
          exact ⟨ret_bool (by first | exact A.out.symm | (rw [A.out]; simp; omega) | (rw [A.out]; simp)), by repeat (first | with_reducible assumption | with_reducible refine below_set ?_ (by omega) _ | with_reducible refine Below.alloc ?_ (by first | omega | (simp; done) | (simp; omega)) _ | with_reducible refine Below.drew ?_ | with_reducible exact Below.refl _ _ | with_reducible refine below_two ?_ (by with_reducible assumption))⟩
      · have hl' : ¬ (na : Int) = 0 := by omega
        have A : Aside0 (R = false) := ⟨by rw [HR.out]; simp [locE, hl]⟩
        go_enter Tryd.func57, Tryd.ntmps57
        go_wp2_with (first | (go_at_call 27; (with_reducible refine (cN _).mono ?_); rintro e w1 ⟨rfl, hB1⟩) | (go_at_call 82; (with_reducible refine (cR _).mono ?_); rintro e w1 ⟨rfl, hB1⟩) | (go_at_call 81; (with_reducible refine (cZ _ _ (by simp)).mono ?_); rintro e w1 ⟨rfl, rfl⟩))
        go_ret
        exact ⟨ret_bool (by first | exact A.out.symm | (rw [A.out]; simp; omega) | (rw [A.out]; simp)), by repeat (first | with_reducible assumption | with_reducible refine below_set ?_ (by omega) _ | with_reducible refine Below.alloc ?_ (by first | omega | (simp; done) | (simp; omega)) _ | with_reducible refine Below.drew ?_ | with_reducible exact Below.refl _ _ | with_reducible refine below_two ?_ (by with_reducible assumption))⟩
    · have h0' : (num == 0) = false := beq_eq_false_iff_ne.2 h0
      have A : Aside0 (R = false) := ⟨by rw [HR.out]; simp [locE, h0]⟩
      go_enter Tryd.func57, Tryd.ntmps57
      go_wp2_with (first | (go_at_call 27; (with_reducible refine (cN _).mono ?_); rintro e w1 ⟨rfl, hB1⟩) | (go_at_call 82; (with_reducible refine (cR _).mono ?_); rintro e w1 ⟨rfl, hB1⟩) | (go_at_call 81; (with_reducible refine (cZ _ _ (by simp)).mono ?_); rintro e w1 ⟨rfl, rfl⟩))
      go_ret
      exact ⟨ret_bool (by first | exact A.out.symm | (rw [A.out]; simp; omega) | (rw [A.out]; simp)), by repeat (first | with_reducible assumption | with_reducible refine below_set ?_ (by omega) _ | with_reducible refine Below.alloc ?_ (by first | omega | (simp; done) | (simp; omega)) _ | with_reducible refine Below.drew ?_ | with_reducible exact Below.refl _ _ | with_reducible refine below_two ?_ (by with_reducible assumption))⟩
  have h2' : (k == 2) = false := beq_eq_false_iff_ne.2 h2
  by_cases h5 : k = 5
  · subst h5
    by_cases h0 : num = 0
    · subst h0
      by_cases hl : na = 0
      · subst hl
        by_cases ho : op.toList = []
        · have HO : Aside0 (ol = []) := ⟨by rw [← HN.out.2.2.2.2]; exact ho⟩
          have A : Aside0 (R = bn) := ⟨by rw [HR.out]; simp [locE, HO.out, HN.out.1]⟩
          go_enter Tryd.func57, Tryd.ntmps57
          go_wp2_with (first | (go_at_call 27; (with_reducible refine (cN _).mono ?_); rintro e w1 ⟨rfl, hB1⟩) | (go_at_call 82; (with_reducible refine (cR _).mono ?_); rintro e w1 ⟨rfl, hB1⟩) | (go_at_call 81; (with_reducible refine (cZ _ _ (by simp)).mono ?_); rintro e w1 ⟨rfl, rfl⟩))
          go_ret
          exact ⟨ret_bool (by first | exact A.out.symm | (rw [A.out]; simp; omega) | (rw [A.out]; simp)), by repeat (first | with_reducible assumption | with_reducible refine below_set ?_ (by omega) _ | with_reducible refine Below.alloc ?_ (by first | omega | (simp; done) | (simp; omega)) _ | with_reducible refine Below.drew ?_ | with_reducible exact Below.refl _ _ | with_reducible refine below_two ?_ (by with_reducible assumption))⟩
        · have ho' : op.toList.isEmpty = false := by simpa using ho
          have HO : Aside0 (¬ ol = []) := ⟨by rw [← HN.out.2.2.2.2]; exact ho⟩
          have A : Aside0 (R = false) := ⟨by rw [HR.out]; simp [locE, HO.out]⟩
          go_enter Tryd.func57, Tryd.ntmps57
          go_wp2_with (first | (go_at_call 27; (with_reducible refine (cN _).mono ?_); rintro e w1 ⟨rfl, hB1⟩) | (go_at_call 82; (with_reducible refine (cR _).mono ?_); rintro e w1 ⟨rfl, hB1⟩) | (go_at_call 81; (with_reducible refine (cZ _ _ (by simp)).mono ?_); rintro e w1 ⟨rfl, rfl⟩))
          go_ret
          exact ⟨ret_bool (by first | exact A.out.symm | (rw [A.out]; simp; omega) | (rw [A.out]; simp)), by repeat (first | with_reducible assumption | with_reducible refine below_set ?_ (by omega) _ | with_reducible refine Below.alloc ?_ (by first | omega | (simp; done) | (simp; omega)) _ | with_reducible refine Below.drew ?_ | with_reducible exact Below.refl _ _ | with_reducible refine below_two ?_ (by with_reducible assumption))⟩
      · have hl' : ¬ (na : Int) = 0 := by omega
        have A : Aside0 (R = false) := ⟨by rw [HR.out]; simp [locE, hl]⟩
        go_enter Tryd.func57, Tryd.ntmps57
        go_wp2_with (first | (go_at_call 27; (with_reducible refine (cN _).mono ?_); rintro e w1 ⟨rfl, hB1⟩) | (go_at_call 82; (with_reducible refine (cR _).mono ?_); rintro e w1 ⟨rfl, hB1⟩) | (go_at_call 81; (with_reducible refine (cZ _ _ (by simp)).mono ?_); rintro e w1 ⟨rfl, rfl⟩))
        go_ret
        exact ⟨ret_bool (by first | exact A.out.symm | (rw [A.out]; simp; omega) | (rw [A.out]; simp)), by repeat (first | with_reducible assumption | with_reducible refine below_set ?_ (by omega) _ | with_reducible refine Below.alloc ?_ (by first | omega | (simp; done) | (simp; omega)) _ | with_reducible refine Below.drew ?_ | with_reducible exact Below.refl _ _ | with_reducible refine below_two ?_ (by with_reducible assumption))⟩
    · have h0' : (num == 0) = false := beq_eq_false_iff_ne.2 h0
      have A : Aside0 (R = false) := ⟨by rw [HR.out]; simp [locE, h0]⟩
      go_enter Tryd.func57, Tryd.ntmps57
      go_wp2_with (first | (go_at_call 27; (with_reducible refine (cN _).mono ?_); rintro e w1 ⟨rfl, hB1⟩) | (go_at_call 82; (with_reducible refine (cR _).mono ?_); rintro e w1 ⟨rfl, hB1⟩) | (go_at_call 81; (with_reducible refine (cZ _ _ (by simp)).mono ?_); rintro e w1 ⟨rfl, rfl⟩))
      go_ret
      exact ⟨ret_bool (by first | exact A.out.symm | (rw [A.out]; simp; omega) | (rw [A.out]; simp)), by repeat (first | with_reducible assumption | with_reducible refine below_set ?_ (by omega) _ | with_reducible refine Below.alloc ?_ (by first | omega | (simp; done) | (simp; omega)) _ | with_reducible refine Below.drew ?_ | with_reducible exact Below.refl _ _ | with_reducible refine below_two ?_ (by with_reducible assumption))⟩
  have h5' : (k == 5) = false := beq_eq_false_iff_ne.2 h5
  by_cases h3 : k = 3
  · subst h3
    by_cases h0 : num = 0
    · subst h0
      by_cases hl : na = 1
      · subst hl
        by_cases ho : op.toList = []
        · have HO : Aside0 (ol = []) := ⟨by rw [← HN.out.2.2.2.2]; exact ho⟩
          have A : Aside0 (R = bn) := ⟨by rw [HR.out]; simp [locE, HO.out, HN.out.1]⟩
          go_enter Tryd.func57, Tryd.ntmps57
          go_wp2_with (first | (go_at_call 27; (with_reducible refine (cN _).mono ?_); rintro e w1 ⟨rfl, hB1⟩) | (go_at_call 82; (with_reducible refine (cR _).mono ?_); rintro e w1 ⟨rfl, hB1⟩) | (go_at_call 81; (with_reducible refine (cZ _ _ (by simp)).mono ?_); rintro e w1 ⟨rfl, rfl⟩))
          go_ret
          exact ⟨ret_bool (by first | exact A.out.symm | (rw [A.out]; simp; omega) | (rw [A.out]; simp)), by repeat (first | with_reducible assumption | with_reducible refine below_set ?_ (by omega) _ | with_reducible refine Below.alloc ?_ (by first | omega | (simp; done) | (simp; omega)) _ | with_reducible refine Below.drew ?_ | with_reducible exact Below.refl _ _ | with_reducible refine below_two ?_ (by with_reducible assumption))⟩
        · have ho' : op.toList.isEmpty = false := by simpa using ho
          have HO : Aside0 (¬ ol = []) := ⟨by rw [← HN.out.2.2.2.2]; exact ho⟩
          have A : Aside0 (R = false) := ⟨by rw [HR.out]; simp [locE, HO.out]⟩
          go_enter Tryd.func57, Tryd.ntmps57
          go_wp2_with (first | (go_at_call 27; (with_reducible refine (cN _).mono ?_); rintro e w1 ⟨rfl, hB1⟩) | (go_at_call 82; (with_reducible refine (cR _).mono ?_); rintro e w1 ⟨rfl, hB1⟩) | (go_at_call 81; (with_reducible refine (cZ _ _ (by simp)).mono ?_); rintro e w1 ⟨rfl, rfl⟩))
          go_ret
          exact ⟨ret_bool (by first | exact A.out.symm | (rw [A.out]; simp; omega) | (rw [A.out]; simp)), by repeat (first | with_reducible assumption | with_reducible refine below_set ?_ (by omega) _ | with_reducible refine Below.alloc ?_ (by first | omega | (simp; done) | (simp; omega)) _ | with_reducible refine Below.drew ?_ | with_reducible exact Below.refl _ _ | with_reducible refine below_two ?_ (by with_reducible assumption))⟩
      · have hl' : ¬ (na : Int) = 1 := by omega
        have A : Aside0 (R = false) := ⟨by rw [HR.out]; simp [locE, hl]⟩
        go_enter Tryd.func57, Tryd.ntmps57
        go_wp2_with (first | (go_at_call 27; (with_reducible refine (cN _).mono ?_); rintro e w1 ⟨rfl, hB1⟩) | (go_at_call 82; (with_reducible refine (cR _).mono ?_); rintro e w1 ⟨rfl, hB1⟩) | (go_at_call 81; (with_reducible refine (cZ _ _ (by simp)).mono ?_); rintro e w1 ⟨rfl, rfl⟩))
        go_ret
        exact ⟨ret_bool (by first | exact A.out.symm | (rw [A.out]; simp; omega) | (rw [A.out]; simp)), by repeat (first | with_reducible assumption | with_reducible refine below_set ?_ (by omega) _ | with_reducible refine Below.alloc ?_ (by first | omega | (simp; done) | (simp; omega)) _ | with_reducible refine Below.drew ?_ | with_reducible exact Below.refl _ _ | with_reducible refine below_two ?_ (by with_reducible assumption))⟩
    · have h0' : (num == 0) = false := beq_eq_false_iff_ne.2 h0
      have A : Aside0 (R = false) := ⟨by rw [HR.out]; simp [locE, h0]⟩
      go_enter Tryd.func57, Tryd.ntmps57
      go_wp2_with (first | (go_at_call 27; (with_reducible refine (cN _).mono ?_); rintro e w1 ⟨rfl, hB1⟩) | (go_at_call 82; (with_reducible refine (cR _).mono ?_); rintro e w1 ⟨rfl, hB1⟩) | (go_at_call 81; (with_reducible refine (cZ _ _ (by simp)).mono ?_); rintro e w1 ⟨rfl, rfl⟩))
      go_ret
      exact ⟨ret_bool (by first | exact A.out.symm | (rw [A.out]; simp; omega) | (rw [A.out]; simp)), by repeat (first | with_reducible assumption | with_reducible refine below_set ?_ (by omega) _ | with_reducible refine Below.alloc ?_ (by first | omega | (simp; done) | (simp; omega)) _ | with_reducible refine Below.drew ?_ | with_reducible exact Below.refl _ _ | with_reducible refine below_two ?_ (by with_reducible assumption))⟩
  have h3' : (k == 3) = false := beq_eq_false_iff_ne.2 h3
  by_cases h4 : k = 4
  · subst h4
    by_cases h0 : num = 0
    · subst h0
      by_cases hl : na = 1
      · subst hl
        by_cases ho : op.toList = []
        · have HO : Aside0 (ol = []) := ⟨by rw [← HN.out.2.2.2.2]; exact ho⟩
          have A : Aside0 (R = bn) := ⟨by rw [HR.out]; simp [locE, HO.out, HN.out.1]⟩
          go_enter Tryd.func57, Tryd.ntmps57
          go_wp2_with (first | (go_at_call 27; (with_reducible refine (cN _).mono ?_); rintro e w1 ⟨rfl, hB1⟩) | (go_at_call 82; (with_reducible refine (cR _).mono ?_); rintro e w1 ⟨rfl, hB1⟩) | (go_at_call 81; (with_reducible refine (cZ _ _ (by simp)).mono ?_); rintro e w1 ⟨rfl, rfl⟩))
          go_ret
          exact ⟨ret_bool (by first | exact A.out.symm | (rw [A.out]; simp; omega) | (rw [A.out]; simp)), by repeat (first | with_reducible assumption | with_reducible refine below_set ?_ (by omega) _ | with_reducible refine Below.alloc ?_ (by first | omega | (simp; done) | (simp; omega)) _ | with_reducible refine Below.drew ?_ | with_reducible exact Below.refl _ _ | with_reducible refine below_two ?_ (by with_reducible assumption))⟩
        · have ho' : op.toList.isEmpty = false := by simpa using ho
          have HO : Aside0 (¬ ol = []) := ⟨by rw [← HN.out.2.2.2.2]; exact ho⟩
          have A : Aside0 (R = false) := ⟨by rw [HR.out]; simp [locE, HO.out]⟩
          go_enter Tryd.func57, Tryd.ntmps57
          go_wp2_with (first | (go_at_call 27; (with_reducible refine (cN _).mono ?_); rintro e w1 ⟨rfl, hB1⟩) | (go_at_call 82; (with_reducible refine (cR _).mono ?_); rintro e w1 ⟨rfl, hB1⟩) | (go_at_call 81; (with_reducible refine (cZ _ _ (by simp)).mono ?_); rintro e w1 ⟨rfl, rfl⟩))
          go_ret
          exact ⟨ret_bool (by first | exact A.out.symm | (rw [A.out]; simp; omega) | (rw [A.out]; simp)), by repeat (first | with_reducible assumption | with_reducible refine below_set ?_ (by omega) _ | with_reducible refine Below.alloc ?_ (by first | omega | (simp; done) | (simp; omega)) _ | with_reducible refine Below.drew ?_ | with_reducible exact Below.refl _ _ | with_reducible refine below_two ?_ (by with_reducible assumption))⟩
      · have hl' : ¬ (na : Int) = 1 := by omega
        have A : Aside0 (R = false) := ⟨by rw [HR.out]; simp [locE, hl]⟩
        go_enter Tryd.func57, Tryd.ntmps57
        go_wp2_with (first | (go_at_call 27; (with_reducible refine (cN _).mono ?_); rintro e w1 ⟨rfl, hB1⟩) | (go_at_call 82; (with_reducible refine (cR _).mono ?_); rintro e w1 ⟨rfl, hB1⟩) | (go_at_call 81; (with_reducible refine (cZ _ _ (by simp)).mono ?_); rintro e w1 ⟨rfl, rfl⟩))
        go_ret
        exact ⟨ret_bool (by first | exact A.out.symm | (rw [A.out]; simp; omega) | (rw [A.out]; simp)), by repeat (first | with_reducible assumption | with_reducible refine below_set ?_ (by omega) _ | with_reducible refine Below.alloc ?_ (by first | omega | (simp; done) | (simp; omega)) _ | with_reducible refine Below.drew ?_ | with_reducible exact Below.refl _ _ | with_reducible refine below_two ?_ (by with_reducible assumption))⟩
    · have h0' : (num == 0) = false := beq_eq_false_iff_ne.2 h0
      have A : Aside0 (R = false) := ⟨by rw [HR.out]; simp [locE, h0]⟩
      go_enter Tryd.func57, Tryd.ntmps57
      go_wp2_with (first | (go_at_call 27; (with_reducible refine (cN _).mono ?_); rintro e w1 ⟨rfl, hB1⟩) | (go_at_call 82; (with_reducible refine (cR _).mono ?_); rintro e w1 ⟨rfl, hB1⟩) | (go_at_call 81; (with_reducible refine (cZ _ _ (by simp)).mono ?_); rintro e w1 ⟨rfl, rfl⟩))
      go_ret
      exact ⟨ret_bool (by first | exact A.out.symm | (rw [A.out]; simp; omega) | (rw [A.out]; simp)), by repeat (first | with_reducible assumption | with_reducible refine below_set ?_ (by omega) _ | with_reducible refine Below.alloc ?_ (by first | omega | (simp; done) | (simp; omega)) _ | with_reducible refine Below.drew ?_ | with_reducible exact Below.refl _ _ | with_reducible refine below_two ?_ (by with_reducible assumption))⟩
  have h4' : (k == 4) = false := beq_eq_false_iff_ne.2 h4
  by_cases h6 : k = 6
  · subst h6
    by_cases h0 : num = 0
    · subst h0
      by_cases hl : na = 1
      · subst hl
        by_cases ho : name.toList = []
        · have HO : Aside0 (nl = []) := ⟨by rw [← HN.out.2.2.2.1]; exact ho⟩
          by_cases e1 : op.toList = [45]
          · have e1' : (op.toList == [45]) = true := beq_iff_eq.2 e1
            have E1 : Aside0 (ol = [45]) := ⟨by rw [← HN.out.2.2.2.2]; exact e1⟩
            have A : Aside0 (R = true) := ⟨by rw [HR.out]; simp [locE, HO.out, E1.out]⟩
            go_enter Tryd.func57, Tryd.ntmps57
            go_wp2_with (first | (go_at_call 27; (with_reducible refine (cN _).mono ?_); rintro e w1 ⟨rfl, hB1⟩) | (go_at_call 82; (with_reducible refine (cR _).mono ?_); rintro e w1 ⟨rfl, hB1⟩) | (go_at_call 81; (with_reducible refine (cZ _ _ (by simp)).mono ?_); rintro e w1 ⟨rfl, rfl⟩))
            go_ret
            exact ⟨ret_bool (by first | exact A.out.symm | (rw [A.out]; simp; omega) | (rw [A.out]; simp)), by repeat (first | with_reducible assumption | with_reducible refine below_set ?_ (by omega) _ | with_reducible refine Below.alloc ?_ (by first | omega | (simp; done) | (simp; omega)) _ | with_reducible refine Below.drew ?_ | with_reducible exact Below.refl _ _ | with_reducible refine below_two ?_ (by with_reducible assumption))⟩
          · have e1' : (op.toList == [45]) = false := beq_eq_false_iff_ne.2 e1
            have E1 : Aside0 (¬ ol = [45]) := ⟨by rw [← HN.out.2.2.2.2]; exact e1⟩
            by_cases e2 : op.toList = [33]
            · have e2' : (op.toList == [33]) = true := beq_iff_eq.2 e2
              have E2 : Aside0 (ol = [33]) := ⟨by rw [← HN.out.2.2.2.2]; exact e2⟩
              have A : Aside0 (R = true) := ⟨by rw [HR.out]; simp [locE, HO.out, E2.out]⟩
              go_enter Tryd.func57, Tryd.ntmps57
              go_wp2_with (first | (go_at_call 27; (with_reducible refine (cN _).mono ?_); rintro e w1 ⟨rfl, hB1⟩) | (go_at_call 82; (with_reducible refine (cR _).mono ?_); rintro e w1 ⟨rfl, hB1⟩) | (go_at_call 81; (with_reducible refine (cZ _ _ (by simp)).mono ?_); rintro e w1 ⟨rfl, rfl⟩))
              go_ret
              exact ⟨ret_bool (by first | exact A.out.symm | (rw [A.out]; simp; omega) | (rw [A.out]; simp)), by repeat (first | with_reducible assumption | with_reducible refine below_set ?_ (by omega) _ | with_reducible refine Below.alloc ?_ (by first | omega | (simp; done) | (simp; omega)) _ | with_reducible refine Below.drew ?_ | with_reducible exact Below.refl _ _ | with_reducible refine below_two ?_ (by with_reducible assumption))⟩
            · have e2' : (op.toList == [33]) = false := beq_eq_false_iff_ne.2 e2
              have E2 : Aside0 (¬ ol = [33]) := ⟨by rw [← HN.out.2.2.2.2]; exact e2⟩
              have A : Aside0 (R = false) := ⟨by rw [HR.out]; simp [locE, HO.out, E1.out, E2.out]⟩
              go_enter Tryd.func57, Tryd.ntmps57
              go_wp2_with (first | (go_at_call 27; (with_reducible refine (cN _).mono ?_); rintro e w1 ⟨rfl, hB1⟩) | (go_at_call 82; (with_reducible refine (cR _).mono ?_); rintro e w1 ⟨rfl, hB1⟩) | (go_at_call 81; (with_reducible refine (cZ _ _ (by simp)).mono ?_); rintro e w1 ⟨rfl, rfl⟩))
              go_ret
              exact ⟨ret_bool (by first | exact A.out.symm | (rw [A.out]; simp; omega) | (rw [A.out]; simp)), by repeat (first | with_reducible assumption | with_reducible refine below_set ?_ (by omega) _ | with_reducible refine Below.alloc ?_ (by first | omega | (simp; done) | (simp; omega)) _ | with_reducible refine Below.drew ?_ | with_reducible exact Below.refl _ _ | with_reducible refine below_two ?_ (by with_reducible assumption))⟩
        · have ho' : name.toList.isEmpty = false := by simpa using ho
          have HO : Aside0 (¬ nl = []) := ⟨by rw [← HN.out.2.2.2.1]; exact ho⟩
          have A : Aside0 (R = false) := ⟨by rw [HR.out]; simp [locE, HO.out]⟩
          go_enter Tryd.func57, Tryd.ntmps57
          go_wp2_with (first | (go_at_call 27; (with_reducible refine (cN _).mono ?_); rintro e w1 ⟨rfl, hB1⟩) | (go_at_call 82; (with_reducible refine (cR _).mono ?_); rintro e w1 ⟨rfl, hB1⟩) | (go_at_call 81; (with_reducible refine (cZ _ _ (by simp)).mono ?_); rintro e w1 ⟨rfl, rfl⟩))
          go_ret
          exact ⟨ret_bool (by first | exact A.out.symm | (rw [A.out]; simp; omega) | (rw [A.out]; simp)), by repeat (first | with_reducible assumption | with_reducible refine below_set ?_ (by omega) _ | with_reducible refine Below.alloc ?_ (by first | omega | (simp; done) | (simp; omega)) _ | with_reducible refine Below.drew ?_ | with_reducible exact Below.refl _ _ | with_reducible refine below_two ?_ (by with_reducible assumption))⟩
      · have hl' : ¬ (na : Int) = 1 := by omega
        have A : Aside0 (R = false) := ⟨by rw [HR.out]; simp [locE, hl]⟩
        go_enter Tryd.func57, Tryd.ntmps57
        go_wp2_with (first | (go_at_call 27; (with_reducible refine (cN _).mono ?_); rintro e w1 ⟨rfl, hB1⟩) | (go_at_call 82; (with_reducible refine (cR _).mono ?_); rintro e w1 ⟨rfl, hB1⟩) | (go_at_call 81; (with_reducible refine (cZ _ _ (by simp)).mono ?_); rintro e w1 ⟨rfl, rfl⟩))
        go_ret
        exact ⟨ret_bool (by first | exact A.out.symm | (rw [A.out]; simp; omega) | (rw [A.out]; simp)), by repeat (first | with_reducible assumption | with_reducible refine below_set ?_ (by omega) _ | with_reducible refine Below.alloc ?_ (by first | omega | (simp; done) | (simp; omega)) _ | with_reducible refine Below.drew ?_ | with_reducible exact Below.refl _ _ | with_reducible refine below_two ?_ (by with_reducible assumption))⟩
    · have h0' : (num == 0) = false := beq_eq_false_iff_ne.2 h0
      have A : Aside0 (R = false) := ⟨by rw [HR.out]; simp [locE, h0]⟩
      go_enter Tryd.func57, Tryd.ntmps57
      go_wp2_with (first | (go_at_call 27; (with_reducible refine (cN _).mono ?_); rintro e w1 ⟨rfl, hB1⟩) | (go_at_call 82; (with_reducible refine (cR _).mono ?_); rintro e w1 ⟨rfl, hB1⟩) | (go_at_call 81; (with_reducible refine (cZ _ _ (by simp)).mono ?_); rintro e w1 ⟨rfl, rfl⟩))
      go_ret
      exact ⟨ret_bool (by first | exact A.out.symm | (rw [A.out]; simp; omega) | (rw [A.out]; simp)), by repeat (first | with_reducible assumption | with_reducible refine below_set ?_ (by omega) _ | with_reducible refine Below.alloc ?_ (by first | omega | (simp; done) | (simp; omega)) _ | with_reducible refine Below.drew ?_ | with_reducible exact Below.refl _ _ | with_reducible refine below_two ?_ (by with_reducible assumption))⟩
  have h6' : (k == 6) = false := beq_eq_false_iff_ne.2 h6
  by_cases h7 : k = 7
  · subst h7
    by_cases h0 : num = 0
    · subst h0
      by_cases hl : na = 2
      · subst hl
        by_cases ho : name.toList = []
        · have HO : Aside0 (nl = []) := ⟨by rw [← HN.out.2.2.2.1]; exact ho⟩
          by_cases hr : 0 ≤ rr
          · have hr' : 0 < rr + 1 := by omega
            have A : Aside0 (R = true) := ⟨by rw [HR.out]; simp [locE, HO.out, HN.out.2.1, hr]⟩
            go_enter Tryd.func57, Tryd.ntmps57
            go_wp2_with (first | (go_at_call 27; (with_reducible refine (cN _).mono ?_); rintro e w1 ⟨rfl, hB1⟩) | (go_at_call 82; (with_reducible refine (cR _).mono ?_); rintro e w1 ⟨rfl, hB1⟩) | (go_at_call 81; (with_reducible refine (cZ _ _ (by simp)).mono ?_); rintro e w1 ⟨rfl, rfl⟩))
            go_ret
            exact ⟨ret_bool (by first | exact A.out.symm | (rw [A.out]; simp; omega) | (rw [A.out]; simp)), by repeat (first | with_reducible assumption | with_reducible refine below_set ?_ (by omega) _ | with_reducible refine Below.alloc ?_ (by first | omega | (simp; done) | (simp; omega)) _ | with_reducible refine Below.drew ?_ | with_reducible exact Below.refl _ _ | with_reducible refine below_two ?_ (by with_reducible assumption))⟩
          · have hr' : ¬ 0 < rr + 1 := by omega
            have A : Aside0 (R = false) := ⟨by rw [HR.out]; simp [locE, HO.out, HN.out.2.1, hr]⟩
            go_enter Tryd.func57, Tryd.ntmps57
            go_wp2_with (first | (go_at_call 27; (with_reducible refine (cN _).mono ?_); rintro e w1 ⟨rfl, hB1⟩) | (go_at_call 82; (with_reducible refine (cR _).mono ?_); rintro e w1 ⟨rfl, hB1⟩) | (go_at_call 81; (with_reducible refine (cZ _ _ (by simp)).mono ?_); rintro e w1 ⟨rfl, rfl⟩))
            go_ret
            exact ⟨ret_bool (by first | exact A.out.symm | (rw [A.out]; simp; omega) | (rw [A.out]; simp)), by repeat (first | with_reducible assumption | with_reducible refine below_set ?_ (by omega) _ | with_reducible refine Below.alloc ?_ (by first | omega | (simp; done) | (simp; omega)) _ | with_reducible refine Below.drew ?_ | with_reducible exact Below.refl _ _ | with_reducible refine below_two ?_ (by with_reducible assumption))⟩
        · have ho' : name.toList.isEmpty = false := by simpa using ho
          have HO : Aside0 (¬ nl = []) := ⟨by rw [← HN.out.2.2.2.1]; exact ho⟩
          have A : Aside0 (R = false) := ⟨by rw [HR.out]; simp [locE, HO.out]⟩
          go_enter Tryd.func57, Tryd.ntmps57
          go_wp2_with (first | (go_at_call 27; (with_reducible refine (cN _).mono ?_); rintro e w1 ⟨rfl, hB1⟩) | (go_at_call 82; (with_reducible refine (cR _).mono ?_); rintro e w1 ⟨rfl, hB1⟩) | (go_at_call 81; (with_reducible refine (cZ _ _ (by simp)).mono ?_); rintro e w1 ⟨rfl, rfl⟩))
          go_ret
          exact ⟨ret_bool (by first | exact A.out.symm | (rw [A.out]; simp; omega) | (rw [A.out]; simp)), by repeat (first | with_reducible assumption | with_reducible refine below_set ?_ (by omega) _ | with_reducible refine Below.alloc ?_ (by first | omega | (simp; done) | (simp; omega)) _ | with_reducible refine Below.drew ?_ | with_reducible exact Below.refl _ _ | with_reducible refine below_two ?_ (by with_reducible assumption))⟩
      · have hl' : ¬ (na : Int) = 2 := by omega
        have A : Aside0 (R = false) := ⟨by rw [HR.out]; simp [locE, hl]⟩
        go_enter Tryd.func57, Tryd.ntmps57
        go_wp2_with (first | (go_at_call 27; (with_reducible refine (cN _).mono ?_); rintro e w1 ⟨rfl, hB1⟩) | (go_at_call 82; (with_reducible refine (cR _).mono ?_); rintro e w1 ⟨rfl, hB1⟩) | (go_at_call 81; (with_reducible refine (cZ _ _ (by simp)).mono ?_); rintro e w1 ⟨rfl, rfl⟩))
        go_ret
        exact ⟨ret_bool (by first | exact A.out.symm | (rw [A.out]; simp; omega) | (rw [A.out]; simp)), by repeat (first | with_reducible assumption | with_reducible refine below_set ?_ (by omega) _ | with_reducible refine Below.alloc ?_ (by first | omega | (simp; done) | (simp; omega)) _ | with_reducible refine Below.drew ?_ | with_reducible exact Below.refl _ _ | with_reducible refine below_two ?_ (by with_reducible assumption))⟩
    · have h0' : (num == 0) = false := beq_eq_false_iff_ne.2 h0
      have A : Aside0 (R = false) := ⟨by rw [HR.out]; simp [locE, h0]⟩
      go_enter Tryd.func57, Tryd.ntmps57
      go_wp2_with (first | (go_at_call 27; (with_reducible refine (cN _).mono ?_); rintro e w1 ⟨rfl, hB1⟩) | (go_at_call 82; (with_reducible refine (cR _).mono ?_); rintro e w1 ⟨rfl, hB1⟩) | (go_at_call 81; (with_reducible refine (cZ _ _ (by simp)).mono ?_); rintro e w1 ⟨rfl, rfl⟩))
      go_ret
      exact ⟨ret_bool (by first | exact A.out.symm | (rw [A.out]; simp; omega) | (rw [A.out]; simp)), by repeat (first | with_reducible assumption | with_reducible refine below_set ?_ (by omega) _ | with_reducible refine Below.alloc ?_ (by first | omega | (simp; done) | (simp; omega)) _ | with_reducible refine Below.drew ?_ | with_reducible exact Below.refl _ _ | with_reducible refine below_two ?_ (by with_reducible assumption))⟩
  have h7' : (k == 7) = false := beq_eq_false_iff_ne.2 h7
  have A : Aside0 (R = false) := ⟨by rw [HR.out]; simp [locE, h1, h2, h3, h4, h5, h6, h7]⟩
  go_enter Tryd.func57, Tryd.ntmps57
  go_wp2_with (first | (go_at_call 27; (with_reducible refine (cN _).mono ?_); rintro e w1 ⟨rfl, hB1⟩) | (go_at_call 82; (with_reducible refine (cR _).mono ?_); rintro e w1 ⟨rfl, hB1⟩) | (go_at_call 81; (with_reducible refine (cZ _ _ (by simp)).mono ?_); rintro e w1 ⟨rfl, rfl⟩))
  go_ret
  exact ⟨ret_bool (by first | exact A.out.symm | (rw [A.out]; simp; omega) | (rw [A.out]; simp)), by repeat (first | with_reducible assumption | with_reducible refine below_set ?_ (by omega) _ | with_reducible refine Below.alloc ?_ (by first | omega | (simp; done) | (simp; omega)) _ | with_reducible refine Below.drew ?_ | with_reducible exact Below.refl _ _ | with_reducible refine below_two ?_ (by with_reducible assumption))⟩
end Go.Proofs.YthkmdmobeadigaaDoor.lg
