/- Formed or not: expressions, the program's, walked. -/
import Derived.Test.YthkmdmobeadigaaDoorWd
namespace Go.Proofs.YthkmdmobeadigaaDoor.lg
open Go.RowKit
set_option linter.unusedVariables false
set_option linter.unusedSimpArgs false
/-- What an expression's kind uses. -/
def partsE (k : Nat) : Nat := if k = 3 ∨ k = 4 ∨ k = 6 then 1 else if k = 7 then 2 else 0
def nameE (k : Nat) : Bool := k == 2 || k == 3 || k == 4 || k == 5
def opE (k : Nat) (op : List UInt8) : Bool := if k = 6 then op == [45] || op == [33] else if k = 7 then decide (0 ≤ rankP op) else op.isEmpty
theorem locE_prog (k : Nat) (h1 : 1 ≤ k) (h7 : k ≤ 7) (n : Int) (name op : List UInt8) (na : Nat) : locE (k : Int) n name op na = (opE k op && (na == partsE k) && namedB name (nameE k) && decide (0 ≤ n) && (decide (n = 0) || (k == 1))) := by
  have hk : k = 1 ∨ k = 2 ∨ k = 3 ∨ k = 4 ∨ k = 5 ∨ k = 6 ∨ k = 7 := by omega
  rcases hk with rfl | rfl | rfl | rfl | rfl | rfl | rfl
  · simp [locE, opE, partsE, nameE, namedB]
  all_goals
    by_cases hn : n = 0
    · subst hn; simp [locE, opE, partsE, nameE, namedB]
    · simp [locE, opE, partsE, nameE, namedB, hn]
theorem locE_out (k n : Int) (h : k < 1 ∨ 7 < k) (name op : List UInt8) (na : Nat) : locE k n name op na = false := by
  unfold locE
  rw [if_neg (by omega), if_neg (by omega), if_neg (by omega), if_neg (by omega), if_neg (by omega)]
/-- The tables of the program. -/
structure Tabs (w : World) : Prop where
  words : Words w
  ex : ∀ k, k < 8 → w.cell? ⟨3, k * 4, none⟩ = some (.int .i64 ((partsE k : Nat) : Int)) ∧ w.cell? ⟨3, k * 4 + 1, none⟩ = some (.bool (nameE k)) ∧ w.cell? ⟨3, k * 4 + 2, none⟩ = some (.bool false) ∧ w.cell? ⟨3, k * 4 + 3, none⟩ = some (.bool false)
  st : ∀ k, k < 11 → w.cell? ⟨1, k * 4, none⟩ = some (.int .i64 (if k = 5 then -1 else if k = 1 ∨ k = 3 ∨ k = 6 ∨ k = 7 then 1 else if k = 2 then 2 else 0)) ∧ w.cell? ⟨1, k * 4 + 1, none⟩ = some (.bool (k == 1 || k == 2 || k == 3 || k == 4 || k == 8)) ∧ w.cell? ⟨1, k * 4 + 2, none⟩ = some (.bool (k == 6 || k == 7 || k == 8)) ∧ w.cell? ⟨1, k * 4 + 3, none⟩ = some (.bool (k == 8))
theorem Tabs.below {w w' : World} (h : Tabs w) (k : Below w.heap.size w w') : Tabs w' := by
  refine ⟨h.words.below k, fun i hi => ?_, fun i hi => ?_⟩
  · obtain ⟨a, b, c, d⟩ := h.ex i hi
    exact ⟨cell_below a k (Nat.le_refl _), cell_below b k (Nat.le_refl _), cell_below c k (Nat.le_refl _), cell_below d k (Nat.le_refl _)⟩
  · obtain ⟨a, b, c, d⟩ := h.st i hi
    exact ⟨cell_below a k (Nat.le_refl _), cell_below b k (Nat.le_refl _), cell_below c k (Nat.le_refl _), cell_below d k (Nat.le_refl _)⟩
def Ex.v (x : Ex) (va : Value) : Value := .agg #[.int .i64 x.kind, .int .i64 x.num, .string x.name, .string x.op, va]
theorem fEs_step {l : Exs} {i : Nat} {x : Ex} {R : Bool} (h : fEs (l.drop i) = R) (hx : l.get i = some x) : (x.ok = false → R = false) ∧ (x.ok = true → fEs (l.drop (i + 1)) = R) := by
  rw [Exs.drop_get hx, fEs_on] at h
  exact ⟨fun e => by rw [e] at h; exact h.symm, fun e => by rw [e] at h; exact h⟩
set_option maxHeartbeats 4000000 in
set_option maxRecDepth 100000 in
theorem fe_walk : ∀ (n : Nat) (x : Ex) (va : Value) (P : Nat → Prop) (w : World), x.wt ≤ n → x.wt ≤ 3000000 → HE P w va x.args → Tabs w → Calls Tryd.prog 106 #[x.v va] w (IsY x.ok w) := by
  intro n
  induction n with
  | zero => intro x va P w h; unfold Ex.wt at h; omega
  | succ n ih =>
    intro x va P w hn hm hA hT
    obtain ⟨kind, num, name, op, args⟩ := x
    obtain ⟨ao, c, b, o, rfl, hd, hL⟩ := hA
    simp only [Ex.v] at hL hd ⊢
    obtain ⟨R, hR⟩ : ∃ R, Ex.ok ⟨kind, num, name, op, args⟩ = R := ⟨_, rfl⟩
    rw [hR]
    obtain ⟨B0, hB0⟩ : ∃ x, locE kind num name.data.toList op.data.toList args.len = x := ⟨_, rfl⟩
    have HR : Aside0 (R = (B0 && fEs args)) := ⟨by rw [← hR, ← hB0]; rfl⟩
    have HB : Aside0 (locE kind num name.data.toList op.data.toList args.len = B0) := ⟨hB0⟩
    have HW : Aside0 (Tabs w) := ⟨hT⟩
    clear hR hB0
    unfold Ex.wt at hn hm
    simp only at hn hm
    have hlen := args.len_wt
    by_cases hk : kind < 1 ∨ 7 < kind
    · have HRR : Aside0 (R = false) := ⟨by rw [HR.out, ← HB.out, locE_out kind num hk]; rfl⟩
      clear hT
      rcases hk with hk | hk
      · go_enter Tryd.func106, Tryd.ntmps106
        go_wp2
        go_ret
        exact ⟨ret_bool HRR.out.symm, (Below.refl _ _).alloc (Nat.le_refl _) _⟩
      · have hk' : ¬ kind < 1 := by omega
        go_enter Tryd.func106, Tryd.ntmps106
        go_wp2
        go_ret
        exact ⟨ret_bool HRR.out.symm, (Below.refl _ _).alloc (Nat.le_refl _) _⟩
    · obtain ⟨k, rfl⟩ : ∃ k : Nat, kind = (k : Int) := ⟨kind.toNat, by omega⟩
      have hk1 : 1 ≤ k := by omega
      have hk7 : k ≤ 7 := by omega
      have hki1 : ¬ (k : Int) < 1 := by omega
      have hki7 : ¬ (7 : Int) < (k : Int) := by omega
      obtain ⟨c0, c1, c2, c3⟩ := hT.ex k (by omega)
      have hlp := locE_prog k hk1 hk7 num name.data.toList op.data.toList args.len
      rw [HB.out] at hlp
      obtain ⟨pk, hpk⟩ : ∃ p, partsE k = p := ⟨_, rfl⟩
      obtain ⟨mk, hmk⟩ : ∃ p, nameE k = p := ⟨_, rfl⟩
      obtain ⟨bo, hbo⟩ : ∃ p, opE k op.data.toList = p := ⟨_, rfl⟩
      obtain ⟨bn, hbn⟩ : ∃ p, namedB name.data.toList mk = p := ⟨_, rfl⟩
      have cn : ∀ W, Below w.heap.size w W → Calls Tryd.prog 105 #[.string name, .bool mk] W (IsB bn W) := fun W hW => hbn ▸ named_walk W name mk (by omega) (HW.out.words.below hW)
      have cr : ∀ W, Calls Tryd.prog 104 #[.string op] W (IsN (rankP op.data.toList) W) := fun W => rank_walk W op
      rw [hpk] at c0
      rw [hmk] at c1
      rw [hpk, hmk, hbo, hbn] at hlp
      have d0 := fun ob => cell_alloc ob c0
      have d1 := fun ob => cell_alloc ob c1
      have d2 := fun ob => cell_alloc ob c2
      have d3 := fun ob => cell_alloc ob c3
      clear c0 c1 c2 c3
      have HL : Aside0 (B0 = (bo && (args.len == pk) && bn && decide (0 ≤ num) && (decide (num = 0) || (k == 1)))) := ⟨hlp⟩
      have HOP : Aside0 (opE k op.data.toList = bo) := ⟨hbo⟩
      have HLE : Aside0 (LEs P w b o args ∧ Hd ao args.len c b o) := ⟨hL, hd⟩
      have HSZ : Aside0 (args.wt ≤ 3000000 ∧ args.wt ≤ n) := ⟨by omega, by omega⟩
      have HIH : Aside0 (∀ (x : Ex) (va : Value) (P : Nat → Prop) (w : World), x.wt ≤ n → x.wt ≤ 3000000 → HE P w va x.args → Tabs w → Calls Tryd.prog 106 #[x.v va] w (IsY x.ok w)) := ⟨ih⟩
      obtain ⟨na, hna⟩ : ∃ p, args.len = p := ⟨_, rfl⟩
      have HNA : Aside0 (args.len = na) := ⟨hna⟩
      have hna3 : na ≤ 3000000 := by omega
      rw [hna] at HL HLE ⊢
      clear hlp hpk hmk hbo hbn hk hT hL hd ih hna hlen hm hn
      by_cases h6 : k = 6
      · have h6' : ((k : Int) == 6) = true := beq_iff_eq.2 (by omega)
        by_cases e1 : op.toList = [45]
        · have e1' : (op.toList == [45]) = true := beq_iff_eq.2 e1
          have hbo : bo = true := by rw [← HOP.out, opE, if_pos h6, ← toList_data, e1]; rfl
          have HK : Aside0 (k = 6) := ⟨h6⟩
          have k1 : k ≠ 1 := by omega
          have k1i : ¬ (k : Int) = 1 := by omega
          clear h6
          subst hbo
          by_cases hl0 : na = pk
          · subst hl0
            have hl : (na == na) = true := beq_self_eq_true _
            cases bn with
            | false =>
              have HRR : Aside0 (R = false) := ⟨by rw [HR.out, HL.out]; simp⟩
              go_enter Tryd.func106, Tryd.ntmps106
              go_wp2_with (first | (go_at_call 105; (with_reducible refine (cn _ (by repeat (first | with_reducible assumption | with_reducible refine below_set ?_ (by omega) _ | with_reducible refine Below.alloc ?_ (by first | omega | (simp; done) | (simp; omega)) _ | with_reducible refine Below.drew ?_ | with_reducible exact Below.refl _ _ | with_reducible refine below_two ?_ (by with_reducible assumption)))).mono ?_); rintro e w' ⟨rfl, rfl⟩) | (go_at_call 104; (with_reducible refine (cr _).mono ?_); rintro e w' ⟨rfl, rfl⟩))
              go_ret
              exact ⟨ret_bool HRR.out.symm, by repeat (first | with_reducible assumption | with_reducible refine below_set ?_ (by omega) _ | with_reducible refine Below.alloc ?_ (by first | omega | (simp; done) | (simp; omega)) _ | with_reducible refine Below.drew ?_ | with_reducible exact Below.refl _ _ | with_reducible refine below_two ?_ (by with_reducible assumption))⟩
            | true =>
              by_cases h0 : num < 0
              · have h0' : ¬ 0 ≤ num := by omega
                have HRR : Aside0 (R = false) := ⟨by rw [HR.out, HL.out]; simp [h0']⟩
                go_enter Tryd.func106, Tryd.ntmps106
                go_wp2_with (first | (go_at_call 105; (with_reducible refine (cn _ (by repeat (first | with_reducible assumption | with_reducible refine below_set ?_ (by omega) _ | with_reducible refine Below.alloc ?_ (by first | omega | (simp; done) | (simp; omega)) _ | with_reducible refine Below.drew ?_ | with_reducible exact Below.refl _ _ | with_reducible refine below_two ?_ (by with_reducible assumption)))).mono ?_); rintro e w' ⟨rfl, rfl⟩) | (go_at_call 104; (with_reducible refine (cr _).mono ?_); rintro e w' ⟨rfl, rfl⟩))
                go_ret
                exact ⟨ret_bool HRR.out.symm, by repeat (first | with_reducible assumption | with_reducible refine below_set ?_ (by omega) _ | with_reducible refine Below.alloc ?_ (by first | omega | (simp; done) | (simp; omega)) _ | with_reducible refine Below.drew ?_ | with_reducible exact Below.refl _ _ | with_reducible refine below_two ?_ (by with_reducible assumption))⟩
              · have h0' : 0 ≤ num := by omega
                by_cases hz : num = 0
                · subst hz
                  have HRL : Aside0 (fEs args = R) := ⟨by rw [HR.out, HL.out]; simp  [hl]⟩
                  go_enter Tryd.func106, Tryd.ntmps106
                  go_wp2_with (first | (go_at_call 105; (with_reducible refine (cn _ (by repeat (first | with_reducible assumption | with_reducible refine below_set ?_ (by omega) _ | with_reducible refine Below.alloc ?_ (by first | omega | (simp; done) | (simp; omega)) _ | with_reducible refine Below.drew ?_ | with_reducible exact Below.refl _ _ | with_reducible refine below_two ?_ (by with_reducible assumption)))).mono ?_); rintro e w' ⟨rfl, rfl⟩) | (go_at_call 104; (with_reducible refine (cr _).mono ?_); rintro e w' ⟨rfl, rfl⟩))
                  go_loopg [76] na (fun g v wr => Below w.heap.size w wr ∧ ∃ i : Nat, v = .int .i64 i ∧ i + g = na ∧ Aside0 (fEs (args.drop i) = R))
                  case atStart => exact ⟨by repeat (first | with_reducible assumption | with_reducible refine below_set ?_ (by omega) _ | with_reducible refine Below.alloc ?_ (by first | omega | (simp; done) | (simp; omega)) _ | with_reducible refine Below.drew ?_ | with_reducible exact Below.refl _ _ | with_reducible refine below_two ?_ (by with_reducible assumption)), 0, rfl, by omega, ⟨by rw [← HRL.out]; cases args <;> rfl⟩⟩
                  case round =>
                    obtain ⟨hB, i, rfl, hig, hF⟩ := hrel
                    have hBs := hB.size
                    clear cn cr d0 d1 d2 d3
                    by_cases hi : i < na
                    · have hlt : (i : Int) < (na : Int) := by omega
                      obtain ⟨q, rfl⟩ : ∃ q, gk = q + 1 := ⟨gk - 1, by omega⟩
                      obtain ⟨y, hy⟩ := Exs.get_lt (l := args) (j := i) (by rw [HNA.out]; exact hi)
                      have hyw := Exs.get_wt hy
                      have hst := fEs_step hF.out hy
                      obtain ⟨y0, y1, y2, y3, y4, y5⟩ := (HLE.out.1.below hB (Nat.le_refl _)).at hy
                      obtain ⟨vy, y5, hvy⟩ := y5
                      have hvs : ∃ ao c, vy = .slice ao y.args.len c := by obtain ⟨ao, c, _, _, e, _⟩ := hvy; exact ⟨ao, c, e⟩
                      obtain ⟨aoy, cap, rfl⟩ := hvs
                      have hao : ao = some ⟨b, o, none⟩ := by rcases HLE.out.2.lead with e | e; (omega); exact e
                      have cy : ∀ W, Below wr.heap.size wr W → Calls Tryd.prog 106 #[y.v (.slice aoy y.args.len cap)] W (IsY y.ok W) := fun W hW => HIH.out y _ P W (by have := HSZ.out.2; omega) (by have := HSZ.out.1; omega) (hvy.below hW (Nat.le_refl _)) ((HW.out.below hB).below hW)
                      have HST : Aside0 ((y.ok = false → R = false) ∧ (y.ok = true → fEs (args.drop (i + 1)) = R)) := ⟨hst⟩
                      obtain ⟨yk, yn, ym, yp, ya⟩ := y
                      simp only [Ex.v] at cy y1 y2 y3 y4
                      subst hao
                      obtain ⟨bk, hbk⟩ : ∃ p, Ex.ok ⟨yk, yn, ym, yp, ya⟩ = p := ⟨_, rfl⟩
                      rw [hbk] at cy HST
                      clear hst hyw hy hvy hbk y0
                      cases bk with
                      | false =>
                        have A : Aside0 (R = false) := ⟨HST.out.1 rfl⟩
                        clear HST
                        go_wp2_with (go_at_call 106; (with_reducible refine (cy _ (by repeat (first | with_reducible assumption | with_reducible refine below_set ?_ (by omega) _ | with_reducible refine Below.alloc ?_ (by first | omega | (simp; done) | (simp; omega)) _ | with_reducible refine Below.drew ?_ | with_reducible exact Below.refl _ _ | with_reducible refine below_two ?_ (by with_reducible assumption)))).mono ?_); rintro e w1 ⟨rfl, hB1⟩)
                        go_ret
                        exact ⟨ret_bool A.out.symm, by repeat (first | with_reducible assumption | with_reducible refine below_set ?_ (by omega) _ | with_reducible refine Below.alloc ?_ (by first | omega | (simp; done) | (simp; omega)) _ | with_reducible refine Below.drew ?_ | with_reducible exact Below.refl _ _ | with_reducible refine below_two ?_ (by with_reducible assumption))⟩
                      | true =>
                        have A : Aside0 (fEs (args.drop (i + 1)) = R) := ⟨HST.out.2 rfl⟩
                        clear HST
                        go_wp2_with (go_at_call 106; (with_reducible refine (cy _ (by repeat (first | with_reducible assumption | with_reducible refine below_set ?_ (by omega) _ | with_reducible refine Below.alloc ?_ (by first | omega | (simp; done) | (simp; omega)) _ | with_reducible refine Below.drew ?_ | with_reducible exact Below.refl _ _ | with_reducible refine below_two ?_ (by with_reducible assumption)))).mono ?_); rintro e w1 ⟨rfl, hB1⟩)
                        go_roundg q
                        case measure => omega
                        case rel => exact ⟨by repeat (first | with_reducible assumption | with_reducible refine below_set ?_ (by omega) _ | with_reducible refine Below.alloc ?_ (by first | omega | (simp; done) | (simp; omega)) _ | with_reducible refine Below.drew ?_ | with_reducible exact Below.refl _ _ | with_reducible refine below_two ?_ (by with_reducible assumption)), i + 1, by go_num, by omega, A⟩
                    · obtain rfl : i = na := by omega
                      have hlt : ¬ (i : Int) < (i : Int) := by omega
                      have HRR : Aside0 (R = true) := ⟨by rw [← hF.out, ← HNA.out, Exs.drop_len]; rfl⟩
                      go_wp2
                      go_ret
                      exact ⟨ret_bool HRR.out.symm, hB⟩
                · have hz' : (num != 0) = true := by simpa using hz
                  have k1b : ((k : Int) != 1) = true := by simpa using k1i
                  have HRR : Aside0 (R = false) := ⟨by rw [HR.out, HL.out]; simp [hz, k1]⟩
                  go_enter Tryd.func106, Tryd.ntmps106
                  go_wp2_with (first | (go_at_call 105; (with_reducible refine (cn _ (by repeat (first | with_reducible assumption | with_reducible refine below_set ?_ (by omega) _ | with_reducible refine Below.alloc ?_ (by first | omega | (simp; done) | (simp; omega)) _ | with_reducible refine Below.drew ?_ | with_reducible exact Below.refl _ _ | with_reducible refine below_two ?_ (by with_reducible assumption)))).mono ?_); rintro e w' ⟨rfl, rfl⟩) | (go_at_call 104; (with_reducible refine (cr _).mono ?_); rintro e w' ⟨rfl, rfl⟩))
                  go_ret
                  exact ⟨ret_bool HRR.out.symm, by repeat (first | with_reducible assumption | with_reducible refine below_set ?_ (by omega) _ | with_reducible refine Below.alloc ?_ (by first | omega | (simp; done) | (simp; omega)) _ | with_reducible refine Below.drew ?_ | with_reducible exact Below.refl _ _ | with_reducible refine below_two ?_ (by with_reducible assumption))⟩
          · have hl' : ¬ (na : Int) = (pk : Int) := by omega
            have hl : (na == pk) = false := beq_eq_false_iff_ne.2 hl0
            have HRR : Aside0 (R = false) := ⟨by rw [HR.out, HL.out]; simp [hl]⟩
            go_enter Tryd.func106, Tryd.ntmps106
            go_wp2_with (first | (go_at_call 105; (with_reducible refine (cn _ (by repeat (first | with_reducible assumption | with_reducible refine below_set ?_ (by omega) _ | with_reducible refine Below.alloc ?_ (by first | omega | (simp; done) | (simp; omega)) _ | with_reducible refine Below.drew ?_ | with_reducible exact Below.refl _ _ | with_reducible refine below_two ?_ (by with_reducible assumption)))).mono ?_); rintro e w' ⟨rfl, rfl⟩) | (go_at_call 104; (with_reducible refine (cr _).mono ?_); rintro e w' ⟨rfl, rfl⟩))
            go_ret
            exact ⟨ret_bool HRR.out.symm, by repeat (first | with_reducible assumption | with_reducible refine below_set ?_ (by omega) _ | with_reducible refine Below.alloc ?_ (by first | omega | (simp; done) | (simp; omega)) _ | with_reducible refine Below.drew ?_ | with_reducible exact Below.refl _ _ | with_reducible refine below_two ?_ (by with_reducible assumption))⟩
        · have e1' : (op.toList == [45]) = false := beq_eq_false_iff_ne.2 e1
          by_cases e2 : op.toList = [33]
          · have e2' : (op.toList == [33]) = true := beq_iff_eq.2 e2
            have hbo : bo = true := by rw [← HOP.out, opE, if_pos h6, ← toList_data, e2]; rfl
            have HK : Aside0 (k = 6) := ⟨h6⟩
            have k1 : k ≠ 1 := by omega
            have k1i : ¬ (k : Int) = 1 := by omega
            clear h6
            subst hbo
            by_cases hl0 : na = pk
            · subst hl0
              have hl : (na == na) = true := beq_self_eq_true _
              cases bn with
              | false =>
                have HRR : Aside0 (R = false) := ⟨by rw [HR.out, HL.out]; simp⟩
                go_enter Tryd.func106, Tryd.ntmps106
                go_wp2_with (first | (go_at_call 105; (with_reducible refine (cn _ (by repeat (first | with_reducible assumption | with_reducible refine below_set ?_ (by omega) _ | with_reducible refine Below.alloc ?_ (by first | omega | (simp; done) | (simp; omega)) _ | with_reducible refine Below.drew ?_ | with_reducible exact Below.refl _ _ | with_reducible refine below_two ?_ (by with_reducible assumption)))).mono ?_); rintro e w' ⟨rfl, rfl⟩) | (go_at_call 104; (with_reducible refine (cr _).mono ?_); rintro e w' ⟨rfl, rfl⟩))
                go_ret
                exact ⟨ret_bool HRR.out.symm, by repeat (first | with_reducible assumption | with_reducible refine below_set ?_ (by omega) _ | with_reducible refine Below.alloc ?_ (by first | omega | (simp; done) | (simp; omega)) _ | with_reducible refine Below.drew ?_ | with_reducible exact Below.refl _ _ | with_reducible refine below_two ?_ (by with_reducible assumption))⟩
              | true =>
                by_cases h0 : num < 0
                · have h0' : ¬ 0 ≤ num := by omega
                  have HRR : Aside0 (R = false) := ⟨by rw [HR.out, HL.out]; simp [h0']⟩
                  go_enter Tryd.func106, Tryd.ntmps106
                  go_wp2_with (first | (go_at_call 105; (with_reducible refine (cn _ (by repeat (first | with_reducible assumption | with_reducible refine below_set ?_ (by omega) _ | with_reducible refine Below.alloc ?_ (by first | omega | (simp; done) | (simp; omega)) _ | with_reducible refine Below.drew ?_ | with_reducible exact Below.refl _ _ | with_reducible refine below_two ?_ (by with_reducible assumption)))).mono ?_); rintro e w' ⟨rfl, rfl⟩) | (go_at_call 104; (with_reducible refine (cr _).mono ?_); rintro e w' ⟨rfl, rfl⟩))
                  go_ret
                  exact ⟨ret_bool HRR.out.symm, by repeat (first | with_reducible assumption | with_reducible refine below_set ?_ (by omega) _ | with_reducible refine Below.alloc ?_ (by first | omega | (simp; done) | (simp; omega)) _ | with_reducible refine Below.drew ?_ | with_reducible exact Below.refl _ _ | with_reducible refine below_two ?_ (by with_reducible assumption))⟩
                · have h0' : 0 ≤ num := by omega
                  by_cases hz : num = 0
                  · subst hz
                    have HRL : Aside0 (fEs args = R) := ⟨by rw [HR.out, HL.out]; simp  [hl]⟩
                    go_enter Tryd.func106, Tryd.ntmps106
                    go_wp2_with (first | (go_at_call 105; (with_reducible refine (cn _ (by repeat (first | with_reducible assumption | with_reducible refine below_set ?_ (by omega) _ | with_reducible refine Below.alloc ?_ (by first | omega | (simp; done) | (simp; omega)) _ | with_reducible refine Below.drew ?_ | with_reducible exact Below.refl _ _ | with_reducible refine below_two ?_ (by with_reducible assumption)))).mono ?_); rintro e w' ⟨rfl, rfl⟩) | (go_at_call 104; (with_reducible refine (cr _).mono ?_); rintro e w' ⟨rfl, rfl⟩))
                    go_loopg [76] na (fun g v wr => Below w.heap.size w wr ∧ ∃ i : Nat, v = .int .i64 i ∧ i + g = na ∧ Aside0 (fEs (args.drop i) = R))
                    case atStart => exact ⟨by repeat (first | with_reducible assumption | with_reducible refine below_set ?_ (by omega) _ | with_reducible refine Below.alloc ?_ (by first | omega | (simp; done) | (simp; omega)) _ | with_reducible refine Below.drew ?_ | with_reducible exact Below.refl _ _ | with_reducible refine below_two ?_ (by with_reducible assumption)), 0, rfl, by omega, ⟨by rw [← HRL.out]; cases args <;> rfl⟩⟩
                    case round =>
                      obtain ⟨hB, i, rfl, hig, hF⟩ := hrel
                      have hBs := hB.size
                      clear cn cr d0 d1 d2 d3
                      by_cases hi : i < na
                      · have hlt : (i : Int) < (na : Int) := by omega
                        obtain ⟨q, rfl⟩ : ∃ q, gk = q + 1 := ⟨gk - 1, by omega⟩
                        obtain ⟨y, hy⟩ := Exs.get_lt (l := args) (j := i) (by rw [HNA.out]; exact hi)
                        have hyw := Exs.get_wt hy
                        have hst := fEs_step hF.out hy
                        obtain ⟨y0, y1, y2, y3, y4, y5⟩ := (HLE.out.1.below hB (Nat.le_refl _)).at hy
                        obtain ⟨vy, y5, hvy⟩ := y5
                        have hvs : ∃ ao c, vy = .slice ao y.args.len c := by obtain ⟨ao, c, _, _, e, _⟩ := hvy; exact ⟨ao, c, e⟩
                        obtain ⟨aoy, cap, rfl⟩ := hvs
                        have hao : ao = some ⟨b, o, none⟩ := by rcases HLE.out.2.lead with e | e; (omega); exact e
                        have cy : ∀ W, Below wr.heap.size wr W → Calls Tryd.prog 106 #[y.v (.slice aoy y.args.len cap)] W (IsY y.ok W) := fun W hW => HIH.out y _ P W (by have := HSZ.out.2; omega) (by have := HSZ.out.1; omega) (hvy.below hW (Nat.le_refl _)) ((HW.out.below hB).below hW)
                        have HST : Aside0 ((y.ok = false → R = false) ∧ (y.ok = true → fEs (args.drop (i + 1)) = R)) := ⟨hst⟩
                        obtain ⟨yk, yn, ym, yp, ya⟩ := y
                        simp only [Ex.v] at cy y1 y2 y3 y4
                        subst hao
                        obtain ⟨bk, hbk⟩ : ∃ p, Ex.ok ⟨yk, yn, ym, yp, ya⟩ = p := ⟨_, rfl⟩
                        rw [hbk] at cy HST
                        clear hst hyw hy hvy hbk y0
                        cases bk with
                        | false =>
                          have A : Aside0 (R = false) := ⟨HST.out.1 rfl⟩
                          clear HST
                          go_wp2_with (go_at_call 106; (with_reducible refine (cy _ (by repeat (first | with_reducible assumption | with_reducible refine below_set ?_ (by omega) _ | with_reducible refine Below.alloc ?_ (by first | omega | (simp; done) | (simp; omega)) _ | with_reducible refine Below.drew ?_ | with_reducible exact Below.refl _ _ | with_reducible refine below_two ?_ (by with_reducible assumption)))).mono ?_); rintro e w1 ⟨rfl, hB1⟩)
                          go_ret
                          exact ⟨ret_bool A.out.symm, by repeat (first | with_reducible assumption | with_reducible refine below_set ?_ (by omega) _ | with_reducible refine Below.alloc ?_ (by first | omega | (simp; done) | (simp; omega)) _ | with_reducible refine Below.drew ?_ | with_reducible exact Below.refl _ _ | with_reducible refine below_two ?_ (by with_reducible assumption))⟩
                        | true =>
                          have A : Aside0 (fEs (args.drop (i + 1)) = R) := ⟨HST.out.2 rfl⟩
                          clear HST
                          go_wp2_with (go_at_call 106; (with_reducible refine (cy _ (by repeat (first | with_reducible assumption | with_reducible refine below_set ?_ (by omega) _ | with_reducible refine Below.alloc ?_ (by first | omega | (simp; done) | (simp; omega)) _ | with_reducible refine Below.drew ?_ | with_reducible exact Below.refl _ _ | with_reducible refine below_two ?_ (by with_reducible assumption)))).mono ?_); rintro e w1 ⟨rfl, hB1⟩)
                          go_roundg q
                          case measure => omega
                          case rel => exact ⟨by repeat (first | with_reducible assumption | with_reducible refine below_set ?_ (by omega) _ | with_reducible refine Below.alloc ?_ (by first | omega | (simp; done) | (simp; omega)) _ | with_reducible refine Below.drew ?_ | with_reducible exact Below.refl _ _ | with_reducible refine below_two ?_ (by with_reducible assumption)), i + 1, by go_num, by omega, A⟩
                      · obtain rfl : i = na := by omega
                        have hlt : ¬ (i : Int) < (i : Int) := by omega
                        have HRR : Aside0 (R = true) := ⟨by rw [← hF.out, ← HNA.out, Exs.drop_len]; rfl⟩
                        go_wp2
                        go_ret
                        exact ⟨ret_bool HRR.out.symm, hB⟩
                  · have hz' : (num != 0) = true := by simpa using hz
                    have k1b : ((k : Int) != 1) = true := by simpa using k1i
                    have HRR : Aside0 (R = false) := ⟨by rw [HR.out, HL.out]; simp [hz, k1]⟩
                    go_enter Tryd.func106, Tryd.ntmps106
                    go_wp2_with (first | (go_at_call 105; (with_reducible refine (cn _ (by repeat (first | with_reducible assumption | with_reducible refine below_set ?_ (by omega) _ | with_reducible refine Below.alloc ?_ (by first | omega | (simp; done) | (simp; omega)) _ | with_reducible refine Below.drew ?_ | with_reducible exact Below.refl _ _ | with_reducible refine below_two ?_ (by with_reducible assumption)))).mono ?_); rintro e w' ⟨rfl, rfl⟩) | (go_at_call 104; (with_reducible refine (cr _).mono ?_); rintro e w' ⟨rfl, rfl⟩))
                    go_ret
                    exact ⟨ret_bool HRR.out.symm, by repeat (first | with_reducible assumption | with_reducible refine below_set ?_ (by omega) _ | with_reducible refine Below.alloc ?_ (by first | omega | (simp; done) | (simp; omega)) _ | with_reducible refine Below.drew ?_ | with_reducible exact Below.refl _ _ | with_reducible refine below_two ?_ (by with_reducible assumption))⟩
            · have hl' : ¬ (na : Int) = (pk : Int) := by omega
              have hl : (na == pk) = false := beq_eq_false_iff_ne.2 hl0
              have HRR : Aside0 (R = false) := ⟨by rw [HR.out, HL.out]; simp [hl]⟩
              go_enter Tryd.func106, Tryd.ntmps106
              go_wp2_with (first | (go_at_call 105; (with_reducible refine (cn _ (by repeat (first | with_reducible assumption | with_reducible refine below_set ?_ (by omega) _ | with_reducible refine Below.alloc ?_ (by first | omega | (simp; done) | (simp; omega)) _ | with_reducible refine Below.drew ?_ | with_reducible exact Below.refl _ _ | with_reducible refine below_two ?_ (by with_reducible assumption)))).mono ?_); rintro e w' ⟨rfl, rfl⟩) | (go_at_call 104; (with_reducible refine (cr _).mono ?_); rintro e w' ⟨rfl, rfl⟩))
              go_ret
              exact ⟨ret_bool HRR.out.symm, by repeat (first | with_reducible assumption | with_reducible refine below_set ?_ (by omega) _ | with_reducible refine Below.alloc ?_ (by first | omega | (simp; done) | (simp; omega)) _ | with_reducible refine Below.drew ?_ | with_reducible exact Below.refl _ _ | with_reducible refine below_two ?_ (by with_reducible assumption))⟩
          · have e2' : (op.toList == [33]) = false := beq_eq_false_iff_ne.2 e2
            have hbo : bo = false := by rw [← HOP.out, opE, if_pos h6, ← toList_data]; simp [e1, e2]
            have HK : Aside0 (k = 6) := ⟨h6⟩
            clear h6
            subst hbo
            have HRR : Aside0 (R = false) := ⟨by rw [HR.out, HL.out]; simp⟩
            go_enter Tryd.func106, Tryd.ntmps106
            go_wp2_with (first | (go_at_call 105; (with_reducible refine (cn _ (by repeat (first | with_reducible assumption | with_reducible refine below_set ?_ (by omega) _ | with_reducible refine Below.alloc ?_ (by first | omega | (simp; done) | (simp; omega)) _ | with_reducible refine Below.drew ?_ | with_reducible exact Below.refl _ _ | with_reducible refine below_two ?_ (by with_reducible assumption)))).mono ?_); rintro e w' ⟨rfl, rfl⟩) | (go_at_call 104; (with_reducible refine (cr _).mono ?_); rintro e w' ⟨rfl, rfl⟩))
            go_ret
            exact ⟨ret_bool HRR.out.symm, by repeat (first | with_reducible assumption | with_reducible refine below_set ?_ (by omega) _ | with_reducible refine Below.alloc ?_ (by first | omega | (simp; done) | (simp; omega)) _ | with_reducible refine Below.drew ?_ | with_reducible exact Below.refl _ _ | with_reducible refine below_two ?_ (by with_reducible assumption))⟩
      · have h6' : ((k : Int) == 6) = false := beq_eq_false_iff_ne.2 (by omega)
        by_cases h7 : k = 7
        · have h7' : ((k : Int) == 7) = true := beq_iff_eq.2 (by omega)
          have hbo : bo = decide (0 ≤ rankP op.data.toList) := by rw [← HOP.out, opE, if_neg h6, if_pos h7]
          have k1 : k ≠ 1 := by omega
          have k1i : ¬ (k : Int) = 1 := by omega
          have HK : Aside0 (k = 7) := ⟨h7⟩
          clear h7
          generalize rankP op.data.toList = rr at hbo cr
          by_cases hr : 0 ≤ rr
          · have hbo2 : bo = true := by rw [hbo]; exact decide_eq_true hr
            clear hbo
            subst hbo2
            by_cases hl0 : na = pk
            · subst hl0
              have hl : (na == na) = true := beq_self_eq_true _
              cases bn with
              | false =>
                have HRR : Aside0 (R = false) := ⟨by rw [HR.out, HL.out]; simp⟩
                go_enter Tryd.func106, Tryd.ntmps106
                go_wp2_with (first | (go_at_call 105; (with_reducible refine (cn _ (by repeat (first | with_reducible assumption | with_reducible refine below_set ?_ (by omega) _ | with_reducible refine Below.alloc ?_ (by first | omega | (simp; done) | (simp; omega)) _ | with_reducible refine Below.drew ?_ | with_reducible exact Below.refl _ _ | with_reducible refine below_two ?_ (by with_reducible assumption)))).mono ?_); rintro e w' ⟨rfl, rfl⟩) | (go_at_call 104; (with_reducible refine (cr _).mono ?_); rintro e w' ⟨rfl, rfl⟩))
                go_ret
                exact ⟨ret_bool HRR.out.symm, by repeat (first | with_reducible assumption | with_reducible refine below_set ?_ (by omega) _ | with_reducible refine Below.alloc ?_ (by first | omega | (simp; done) | (simp; omega)) _ | with_reducible refine Below.drew ?_ | with_reducible exact Below.refl _ _ | with_reducible refine below_two ?_ (by with_reducible assumption))⟩
              | true =>
                by_cases h0 : num < 0
                · have h0' : ¬ 0 ≤ num := by omega
                  have HRR : Aside0 (R = false) := ⟨by rw [HR.out, HL.out]; simp [h0']⟩
                  go_enter Tryd.func106, Tryd.ntmps106
                  go_wp2_with (first | (go_at_call 105; (with_reducible refine (cn _ (by repeat (first | with_reducible assumption | with_reducible refine below_set ?_ (by omega) _ | with_reducible refine Below.alloc ?_ (by first | omega | (simp; done) | (simp; omega)) _ | with_reducible refine Below.drew ?_ | with_reducible exact Below.refl _ _ | with_reducible refine below_two ?_ (by with_reducible assumption)))).mono ?_); rintro e w' ⟨rfl, rfl⟩) | (go_at_call 104; (with_reducible refine (cr _).mono ?_); rintro e w' ⟨rfl, rfl⟩))
                  go_ret
                  exact ⟨ret_bool HRR.out.symm, by repeat (first | with_reducible assumption | with_reducible refine below_set ?_ (by omega) _ | with_reducible refine Below.alloc ?_ (by first | omega | (simp; done) | (simp; omega)) _ | with_reducible refine Below.drew ?_ | with_reducible exact Below.refl _ _ | with_reducible refine below_two ?_ (by with_reducible assumption))⟩
                · have h0' : 0 ≤ num := by omega
                  by_cases hz : num = 0
                  · subst hz
                    have HRL : Aside0 (fEs args = R) := ⟨by rw [HR.out, HL.out]; simp  [hl]⟩
                    go_enter Tryd.func106, Tryd.ntmps106
                    go_wp2_with (first | (go_at_call 105; (with_reducible refine (cn _ (by repeat (first | with_reducible assumption | with_reducible refine below_set ?_ (by omega) _ | with_reducible refine Below.alloc ?_ (by first | omega | (simp; done) | (simp; omega)) _ | with_reducible refine Below.drew ?_ | with_reducible exact Below.refl _ _ | with_reducible refine below_two ?_ (by with_reducible assumption)))).mono ?_); rintro e w' ⟨rfl, rfl⟩) | (go_at_call 104; (with_reducible refine (cr _).mono ?_); rintro e w' ⟨rfl, rfl⟩))
                    go_loopg [76] na (fun g v wr => Below w.heap.size w wr ∧ ∃ i : Nat, v = .int .i64 i ∧ i + g = na ∧ Aside0 (fEs (args.drop i) = R))
                    case atStart => exact ⟨by repeat (first | with_reducible assumption | with_reducible refine below_set ?_ (by omega) _ | with_reducible refine Below.alloc ?_ (by first | omega | (simp; done) | (simp; omega)) _ | with_reducible refine Below.drew ?_ | with_reducible exact Below.refl _ _ | with_reducible refine below_two ?_ (by with_reducible assumption)), 0, rfl, by omega, ⟨by rw [← HRL.out]; cases args <;> rfl⟩⟩
                    case round =>
                      obtain ⟨hB, i, rfl, hig, hF⟩ := hrel
                      have hBs := hB.size
                      clear cn cr d0 d1 d2 d3
                      by_cases hi : i < na
                      · have hlt : (i : Int) < (na : Int) := by omega
                        obtain ⟨q, rfl⟩ : ∃ q, gk = q + 1 := ⟨gk - 1, by omega⟩
                        obtain ⟨y, hy⟩ := Exs.get_lt (l := args) (j := i) (by rw [HNA.out]; exact hi)
                        have hyw := Exs.get_wt hy
                        have hst := fEs_step hF.out hy
                        obtain ⟨y0, y1, y2, y3, y4, y5⟩ := (HLE.out.1.below hB (Nat.le_refl _)).at hy
                        obtain ⟨vy, y5, hvy⟩ := y5
                        have hvs : ∃ ao c, vy = .slice ao y.args.len c := by obtain ⟨ao, c, _, _, e, _⟩ := hvy; exact ⟨ao, c, e⟩
                        obtain ⟨aoy, cap, rfl⟩ := hvs
                        have hao : ao = some ⟨b, o, none⟩ := by rcases HLE.out.2.lead with e | e; (omega); exact e
                        have cy : ∀ W, Below wr.heap.size wr W → Calls Tryd.prog 106 #[y.v (.slice aoy y.args.len cap)] W (IsY y.ok W) := fun W hW => HIH.out y _ P W (by have := HSZ.out.2; omega) (by have := HSZ.out.1; omega) (hvy.below hW (Nat.le_refl _)) ((HW.out.below hB).below hW)
                        have HST : Aside0 ((y.ok = false → R = false) ∧ (y.ok = true → fEs (args.drop (i + 1)) = R)) := ⟨hst⟩
                        obtain ⟨yk, yn, ym, yp, ya⟩ := y
                        simp only [Ex.v] at cy y1 y2 y3 y4
                        subst hao
                        obtain ⟨bk, hbk⟩ : ∃ p, Ex.ok ⟨yk, yn, ym, yp, ya⟩ = p := ⟨_, rfl⟩
                        rw [hbk] at cy HST
                        clear hst hyw hy hvy hbk y0
                        cases bk with
                        | false =>
                          have A : Aside0 (R = false) := ⟨HST.out.1 rfl⟩
                          clear HST
                          go_wp2_with (go_at_call 106; (with_reducible refine (cy _ (by repeat (first | with_reducible assumption | with_reducible refine below_set ?_ (by omega) _ | with_reducible refine Below.alloc ?_ (by first | omega | (simp; done) | (simp; omega)) _ | with_reducible refine Below.drew ?_ | with_reducible exact Below.refl _ _ | with_reducible refine below_two ?_ (by with_reducible assumption)))).mono ?_); rintro e w1 ⟨rfl, hB1⟩)
                          go_ret
                          exact ⟨ret_bool A.out.symm, by repeat (first | with_reducible assumption | with_reducible refine below_set ?_ (by omega) _ | with_reducible refine Below.alloc ?_ (by first | omega | (simp; done) | (simp; omega)) _ | with_reducible refine Below.drew ?_ | with_reducible exact Below.refl _ _ | with_reducible refine below_two ?_ (by with_reducible assumption))⟩
                        | true =>
                          have A : Aside0 (fEs (args.drop (i + 1)) = R) := ⟨HST.out.2 rfl⟩
                          clear HST
                          go_wp2_with (go_at_call 106; (with_reducible refine (cy _ (by repeat (first | with_reducible assumption | with_reducible refine below_set ?_ (by omega) _ | with_reducible refine Below.alloc ?_ (by first | omega | (simp; done) | (simp; omega)) _ | with_reducible refine Below.drew ?_ | with_reducible exact Below.refl _ _ | with_reducible refine below_two ?_ (by with_reducible assumption)))).mono ?_); rintro e w1 ⟨rfl, hB1⟩)
                          go_roundg q
                          case measure => omega
                          case rel => exact ⟨by repeat (first | with_reducible assumption | with_reducible refine below_set ?_ (by omega) _ | with_reducible refine Below.alloc ?_ (by first | omega | (simp; done) | (simp; omega)) _ | with_reducible refine Below.drew ?_ | with_reducible exact Below.refl _ _ | with_reducible refine below_two ?_ (by with_reducible assumption)), i + 1, by go_num, by omega, A⟩
                      · obtain rfl : i = na := by omega
                        have hlt : ¬ (i : Int) < (i : Int) := by omega
                        have HRR : Aside0 (R = true) := ⟨by rw [← hF.out, ← HNA.out, Exs.drop_len]; rfl⟩
                        go_wp2
                        go_ret
                        exact ⟨ret_bool HRR.out.symm, hB⟩
                  · have hz' : (num != 0) = true := by simpa using hz
                    have k1b : ((k : Int) != 1) = true := by simpa using k1i
                    have HRR : Aside0 (R = false) := ⟨by rw [HR.out, HL.out]; simp [hz, k1]⟩
                    go_enter Tryd.func106, Tryd.ntmps106
                    go_wp2_with (first | (go_at_call 105; (with_reducible refine (cn _ (by repeat (first | with_reducible assumption | with_reducible refine below_set ?_ (by omega) _ | with_reducible refine Below.alloc ?_ (by first | omega | (simp; done) | (simp; omega)) _ | with_reducible refine Below.drew ?_ | with_reducible exact Below.refl _ _ | with_reducible refine below_two ?_ (by with_reducible assumption)))).mono ?_); rintro e w' ⟨rfl, rfl⟩) | (go_at_call 104; (with_reducible refine (cr _).mono ?_); rintro e w' ⟨rfl, rfl⟩))
                    go_ret
                    exact ⟨ret_bool HRR.out.symm, by repeat (first | with_reducible assumption | with_reducible refine below_set ?_ (by omega) _ | with_reducible refine Below.alloc ?_ (by first | omega | (simp; done) | (simp; omega)) _ | with_reducible refine Below.drew ?_ | with_reducible exact Below.refl _ _ | with_reducible refine below_two ?_ (by with_reducible assumption))⟩
            · have hl' : ¬ (na : Int) = (pk : Int) := by omega
              have hl : (na == pk) = false := beq_eq_false_iff_ne.2 hl0
              have HRR : Aside0 (R = false) := ⟨by rw [HR.out, HL.out]; simp [hl]⟩
              go_enter Tryd.func106, Tryd.ntmps106
              go_wp2_with (first | (go_at_call 105; (with_reducible refine (cn _ (by repeat (first | with_reducible assumption | with_reducible refine below_set ?_ (by omega) _ | with_reducible refine Below.alloc ?_ (by first | omega | (simp; done) | (simp; omega)) _ | with_reducible refine Below.drew ?_ | with_reducible exact Below.refl _ _ | with_reducible refine below_two ?_ (by with_reducible assumption)))).mono ?_); rintro e w' ⟨rfl, rfl⟩) | (go_at_call 104; (with_reducible refine (cr _).mono ?_); rintro e w' ⟨rfl, rfl⟩))
              go_ret
              exact ⟨ret_bool HRR.out.symm, by repeat (first | with_reducible assumption | with_reducible refine below_set ?_ (by omega) _ | with_reducible refine Below.alloc ?_ (by first | omega | (simp; done) | (simp; omega)) _ | with_reducible refine Below.drew ?_ | with_reducible exact Below.refl _ _ | with_reducible refine below_two ?_ (by with_reducible assumption))⟩
          · have hbo2 : bo = false := by rw [hbo]; exact decide_eq_false hr
            clear hbo
            subst hbo2
            have HRR : Aside0 (R = false) := ⟨by rw [HR.out, HL.out]; simp⟩
            go_enter Tryd.func106, Tryd.ntmps106
            go_wp2_with (first | (go_at_call 105; (with_reducible refine (cn _ (by repeat (first | with_reducible assumption | with_reducible refine below_set ?_ (by omega) _ | with_reducible refine Below.alloc ?_ (by first | omega | (simp; done) | (simp; omega)) _ | with_reducible refine Below.drew ?_ | with_reducible exact Below.refl _ _ | with_reducible refine below_two ?_ (by with_reducible assumption)))).mono ?_); rintro e w' ⟨rfl, rfl⟩) | (go_at_call 104; (with_reducible refine (cr _).mono ?_); rintro e w' ⟨rfl, rfl⟩))
            go_ret
            exact ⟨ret_bool HRR.out.symm, by repeat (first | with_reducible assumption | with_reducible refine below_set ?_ (by omega) _ | with_reducible refine Below.alloc ?_ (by first | omega | (simp; done) | (simp; omega)) _ | with_reducible refine Below.drew ?_ | with_reducible exact Below.refl _ _ | with_reducible refine below_two ?_ (by with_reducible assumption))⟩
        · have h7' : ((k : Int) == 7) = false := beq_eq_false_iff_ne.2 (by omega)
          have hbo : bo = op.data.toList.isEmpty := by rw [← HOP.out, opE, if_neg h6, if_neg h7]
          rw [← toList_data] at hbo
          by_cases hr : op.toList = []
          · have hbo2 : bo = true := by rw [hbo, hr]; rfl
            clear hbo
            subst hbo2
            by_cases k1 : k = 1
            · subst k1
              simp only [Nat.one_mul, Nat.reduceAdd] at d0 d1 d2 d3
              clear h6' h7'
              by_cases hl0 : na = pk
              · subst hl0
                have hl : (na == na) = true := beq_self_eq_true _
                cases bn with
                | false =>
                  have HRR : Aside0 (R = false) := ⟨by rw [HR.out, HL.out]; simp⟩
                  go_enter Tryd.func106, Tryd.ntmps106
                  go_wp2_with (first | (go_at_call 105; (with_reducible refine (cn _ (by repeat (first | with_reducible assumption | with_reducible refine below_set ?_ (by omega) _ | with_reducible refine Below.alloc ?_ (by first | omega | (simp; done) | (simp; omega)) _ | with_reducible refine Below.drew ?_ | with_reducible exact Below.refl _ _ | with_reducible refine below_two ?_ (by with_reducible assumption)))).mono ?_); rintro e w' ⟨rfl, rfl⟩) | (go_at_call 104; (with_reducible refine (cr _).mono ?_); rintro e w' ⟨rfl, rfl⟩))
                  go_ret
                  exact ⟨ret_bool HRR.out.symm, by repeat (first | with_reducible assumption | with_reducible refine below_set ?_ (by omega) _ | with_reducible refine Below.alloc ?_ (by first | omega | (simp; done) | (simp; omega)) _ | with_reducible refine Below.drew ?_ | with_reducible exact Below.refl _ _ | with_reducible refine below_two ?_ (by with_reducible assumption))⟩
                | true =>
                  by_cases h0 : num < 0
                  · have h0' : ¬ 0 ≤ num := by omega
                    have HRR : Aside0 (R = false) := ⟨by rw [HR.out, HL.out]; simp [h0']⟩
                    go_enter Tryd.func106, Tryd.ntmps106
                    go_wp2_with (first | (go_at_call 105; (with_reducible refine (cn _ (by repeat (first | with_reducible assumption | with_reducible refine below_set ?_ (by omega) _ | with_reducible refine Below.alloc ?_ (by first | omega | (simp; done) | (simp; omega)) _ | with_reducible refine Below.drew ?_ | with_reducible exact Below.refl _ _ | with_reducible refine below_two ?_ (by with_reducible assumption)))).mono ?_); rintro e w' ⟨rfl, rfl⟩) | (go_at_call 104; (with_reducible refine (cr _).mono ?_); rintro e w' ⟨rfl, rfl⟩))
                    go_ret
                    exact ⟨ret_bool HRR.out.symm, by repeat (first | with_reducible assumption | with_reducible refine below_set ?_ (by omega) _ | with_reducible refine Below.alloc ?_ (by first | omega | (simp; done) | (simp; omega)) _ | with_reducible refine Below.drew ?_ | with_reducible exact Below.refl _ _ | with_reducible refine below_two ?_ (by with_reducible assumption))⟩
                  · have h0' : 0 ≤ num := by omega
                    by_cases hz : num = 0
                    · subst hz
                      have HRL : Aside0 (fEs args = R) := ⟨by rw [HR.out, HL.out]; simp  [hl]⟩
                      go_enter Tryd.func106, Tryd.ntmps106
                      go_wp2_with (first | (go_at_call 105; (with_reducible refine (cn _ (by repeat (first | with_reducible assumption | with_reducible refine below_set ?_ (by omega) _ | with_reducible refine Below.alloc ?_ (by first | omega | (simp; done) | (simp; omega)) _ | with_reducible refine Below.drew ?_ | with_reducible exact Below.refl _ _ | with_reducible refine below_two ?_ (by with_reducible assumption)))).mono ?_); rintro e w' ⟨rfl, rfl⟩) | (go_at_call 104; (with_reducible refine (cr _).mono ?_); rintro e w' ⟨rfl, rfl⟩))
                      go_loopg [76] na (fun g v wr => Below w.heap.size w wr ∧ ∃ i : Nat, v = .int .i64 i ∧ i + g = na ∧ Aside0 (fEs (args.drop i) = R))
                      case atStart => exact ⟨by repeat (first | with_reducible assumption | with_reducible refine below_set ?_ (by omega) _ | with_reducible refine Below.alloc ?_ (by first | omega | (simp; done) | (simp; omega)) _ | with_reducible refine Below.drew ?_ | with_reducible exact Below.refl _ _ | with_reducible refine below_two ?_ (by with_reducible assumption)), 0, rfl, by omega, ⟨by rw [← HRL.out]; cases args <;> rfl⟩⟩
                      case round =>
                        obtain ⟨hB, i, rfl, hig, hF⟩ := hrel
                        have hBs := hB.size
                        clear cn cr d0 d1 d2 d3
                        by_cases hi : i < na
                        · have hlt : (i : Int) < (na : Int) := by omega
                          obtain ⟨q, rfl⟩ : ∃ q, gk = q + 1 := ⟨gk - 1, by omega⟩
                          obtain ⟨y, hy⟩ := Exs.get_lt (l := args) (j := i) (by rw [HNA.out]; exact hi)
                          have hyw := Exs.get_wt hy
                          have hst := fEs_step hF.out hy
                          obtain ⟨y0, y1, y2, y3, y4, y5⟩ := (HLE.out.1.below hB (Nat.le_refl _)).at hy
                          obtain ⟨vy, y5, hvy⟩ := y5
                          have hvs : ∃ ao c, vy = .slice ao y.args.len c := by obtain ⟨ao, c, _, _, e, _⟩ := hvy; exact ⟨ao, c, e⟩
                          obtain ⟨aoy, cap, rfl⟩ := hvs
                          have hao : ao = some ⟨b, o, none⟩ := by rcases HLE.out.2.lead with e | e; (omega); exact e
                          have cy : ∀ W, Below wr.heap.size wr W → Calls Tryd.prog 106 #[y.v (.slice aoy y.args.len cap)] W (IsY y.ok W) := fun W hW => HIH.out y _ P W (by have := HSZ.out.2; omega) (by have := HSZ.out.1; omega) (hvy.below hW (Nat.le_refl _)) ((HW.out.below hB).below hW)
                          have HST : Aside0 ((y.ok = false → R = false) ∧ (y.ok = true → fEs (args.drop (i + 1)) = R)) := ⟨hst⟩
                          obtain ⟨yk, yn, ym, yp, ya⟩ := y
                          simp only [Ex.v] at cy y1 y2 y3 y4
                          subst hao
                          obtain ⟨bk, hbk⟩ : ∃ p, Ex.ok ⟨yk, yn, ym, yp, ya⟩ = p := ⟨_, rfl⟩
                          rw [hbk] at cy HST
                          clear hst hyw hy hvy hbk y0
                          cases bk with
                          | false =>
                            have A : Aside0 (R = false) := ⟨HST.out.1 rfl⟩
                            clear HST
                            go_wp2_with (go_at_call 106; (with_reducible refine (cy _ (by repeat (first | with_reducible assumption | with_reducible refine below_set ?_ (by omega) _ | with_reducible refine Below.alloc ?_ (by first | omega | (simp; done) | (simp; omega)) _ | with_reducible refine Below.drew ?_ | with_reducible exact Below.refl _ _ | with_reducible refine below_two ?_ (by with_reducible assumption)))).mono ?_); rintro e w1 ⟨rfl, hB1⟩)
                            go_ret
                            exact ⟨ret_bool A.out.symm, by repeat (first | with_reducible assumption | with_reducible refine below_set ?_ (by omega) _ | with_reducible refine Below.alloc ?_ (by first | omega | (simp; done) | (simp; omega)) _ | with_reducible refine Below.drew ?_ | with_reducible exact Below.refl _ _ | with_reducible refine below_two ?_ (by with_reducible assumption))⟩
                          | true =>
                            have A : Aside0 (fEs (args.drop (i + 1)) = R) := ⟨HST.out.2 rfl⟩
                            clear HST
                            go_wp2_with (go_at_call 106; (with_reducible refine (cy _ (by repeat (first | with_reducible assumption | with_reducible refine below_set ?_ (by omega) _ | with_reducible refine Below.alloc ?_ (by first | omega | (simp; done) | (simp; omega)) _ | with_reducible refine Below.drew ?_ | with_reducible exact Below.refl _ _ | with_reducible refine below_two ?_ (by with_reducible assumption)))).mono ?_); rintro e w1 ⟨rfl, hB1⟩)
                            go_roundg q
                            case measure => omega
                            case rel => exact ⟨by repeat (first | with_reducible assumption | with_reducible refine below_set ?_ (by omega) _ | with_reducible refine Below.alloc ?_ (by first | omega | (simp; done) | (simp; omega)) _ | with_reducible refine Below.drew ?_ | with_reducible exact Below.refl _ _ | with_reducible refine below_two ?_ (by with_reducible assumption)), i + 1, by go_num, by omega, A⟩
                        · obtain rfl : i = na := by omega
                          have hlt : ¬ (i : Int) < (i : Int) := by omega
                          have HRR : Aside0 (R = true) := ⟨by rw [← hF.out, ← HNA.out, Exs.drop_len]; rfl⟩
                          go_wp2
                          go_ret
                          exact ⟨ret_bool HRR.out.symm, hB⟩
                    · have hz' : (num != 0) = true := by simpa using hz
                      have HRL : Aside0 (fEs args = R) := ⟨by rw [HR.out, HL.out]; simp  [hl, h0']⟩
                      go_enter Tryd.func106, Tryd.ntmps106
                      go_wp2_with (first | (go_at_call 105; (with_reducible refine (cn _ (by repeat (first | with_reducible assumption | with_reducible refine below_set ?_ (by omega) _ | with_reducible refine Below.alloc ?_ (by first | omega | (simp; done) | (simp; omega)) _ | with_reducible refine Below.drew ?_ | with_reducible exact Below.refl _ _ | with_reducible refine below_two ?_ (by with_reducible assumption)))).mono ?_); rintro e w' ⟨rfl, rfl⟩) | (go_at_call 104; (with_reducible refine (cr _).mono ?_); rintro e w' ⟨rfl, rfl⟩))
                      go_loopg [76] na (fun g v wr => Below w.heap.size w wr ∧ ∃ i : Nat, v = .int .i64 i ∧ i + g = na ∧ Aside0 (fEs (args.drop i) = R))
                      case atStart => exact ⟨by repeat (first | with_reducible assumption | with_reducible refine below_set ?_ (by omega) _ | with_reducible refine Below.alloc ?_ (by first | omega | (simp; done) | (simp; omega)) _ | with_reducible refine Below.drew ?_ | with_reducible exact Below.refl _ _ | with_reducible refine below_two ?_ (by with_reducible assumption)), 0, rfl, by omega, ⟨by rw [← HRL.out]; cases args <;> rfl⟩⟩
                      case round =>
                        obtain ⟨hB, i, rfl, hig, hF⟩ := hrel
                        have hBs := hB.size
                        clear cn cr d0 d1 d2 d3
                        by_cases hi : i < na
                        · have hlt : (i : Int) < (na : Int) := by omega
                          obtain ⟨q, rfl⟩ : ∃ q, gk = q + 1 := ⟨gk - 1, by omega⟩
                          obtain ⟨y, hy⟩ := Exs.get_lt (l := args) (j := i) (by rw [HNA.out]; exact hi)
                          have hyw := Exs.get_wt hy
                          have hst := fEs_step hF.out hy
                          obtain ⟨y0, y1, y2, y3, y4, y5⟩ := (HLE.out.1.below hB (Nat.le_refl _)).at hy
                          obtain ⟨vy, y5, hvy⟩ := y5
                          have hvs : ∃ ao c, vy = .slice ao y.args.len c := by obtain ⟨ao, c, _, _, e, _⟩ := hvy; exact ⟨ao, c, e⟩
                          obtain ⟨aoy, cap, rfl⟩ := hvs
                          have hao : ao = some ⟨b, o, none⟩ := by rcases HLE.out.2.lead with e | e; (omega); exact e
                          have cy : ∀ W, Below wr.heap.size wr W → Calls Tryd.prog 106 #[y.v (.slice aoy y.args.len cap)] W (IsY y.ok W) := fun W hW => HIH.out y _ P W (by have := HSZ.out.2; omega) (by have := HSZ.out.1; omega) (hvy.below hW (Nat.le_refl _)) ((HW.out.below hB).below hW)
                          have HST : Aside0 ((y.ok = false → R = false) ∧ (y.ok = true → fEs (args.drop (i + 1)) = R)) := ⟨hst⟩
                          obtain ⟨yk, yn, ym, yp, ya⟩ := y
                          simp only [Ex.v] at cy y1 y2 y3 y4
                          subst hao
                          obtain ⟨bk, hbk⟩ : ∃ p, Ex.ok ⟨yk, yn, ym, yp, ya⟩ = p := ⟨_, rfl⟩
                          rw [hbk] at cy HST
                          clear hst hyw hy hvy hbk y0
                          cases bk with
                          | false =>
                            have A : Aside0 (R = false) := ⟨HST.out.1 rfl⟩
                            clear HST
                            go_wp2_with (go_at_call 106; (with_reducible refine (cy _ (by repeat (first | with_reducible assumption | with_reducible refine below_set ?_ (by omega) _ | with_reducible refine Below.alloc ?_ (by first | omega | (simp; done) | (simp; omega)) _ | with_reducible refine Below.drew ?_ | with_reducible exact Below.refl _ _ | with_reducible refine below_two ?_ (by with_reducible assumption)))).mono ?_); rintro e w1 ⟨rfl, hB1⟩)
                            go_ret
                            exact ⟨ret_bool A.out.symm, by repeat (first | with_reducible assumption | with_reducible refine below_set ?_ (by omega) _ | with_reducible refine Below.alloc ?_ (by first | omega | (simp; done) | (simp; omega)) _ | with_reducible refine Below.drew ?_ | with_reducible exact Below.refl _ _ | with_reducible refine below_two ?_ (by with_reducible assumption))⟩
                          | true =>
                            have A : Aside0 (fEs (args.drop (i + 1)) = R) := ⟨HST.out.2 rfl⟩
                            clear HST
                            go_wp2_with (go_at_call 106; (with_reducible refine (cy _ (by repeat (first | with_reducible assumption | with_reducible refine below_set ?_ (by omega) _ | with_reducible refine Below.alloc ?_ (by first | omega | (simp; done) | (simp; omega)) _ | with_reducible refine Below.drew ?_ | with_reducible exact Below.refl _ _ | with_reducible refine below_two ?_ (by with_reducible assumption)))).mono ?_); rintro e w1 ⟨rfl, hB1⟩)
                            go_roundg q
                            case measure => omega
                            case rel => exact ⟨by repeat (first | with_reducible assumption | with_reducible refine below_set ?_ (by omega) _ | with_reducible refine Below.alloc ?_ (by first | omega | (simp; done) | (simp; omega)) _ | with_reducible refine Below.drew ?_ | with_reducible exact Below.refl _ _ | with_reducible refine below_two ?_ (by with_reducible assumption)), i + 1, by go_num, by omega, A⟩
                        · obtain rfl : i = na := by omega
                          have hlt : ¬ (i : Int) < (i : Int) := by omega
                          have HRR : Aside0 (R = true) := ⟨by rw [← hF.out, ← HNA.out, Exs.drop_len]; rfl⟩
                          go_wp2
                          go_ret
                          exact ⟨ret_bool HRR.out.symm, hB⟩
              · have hl' : ¬ (na : Int) = (pk : Int) := by omega
                have hl : (na == pk) = false := beq_eq_false_iff_ne.2 hl0
                have HRR : Aside0 (R = false) := ⟨by rw [HR.out, HL.out]; simp [hl]⟩
                go_enter Tryd.func106, Tryd.ntmps106
                go_wp2_with (first | (go_at_call 105; (with_reducible refine (cn _ (by repeat (first | with_reducible assumption | with_reducible refine below_set ?_ (by omega) _ | with_reducible refine Below.alloc ?_ (by first | omega | (simp; done) | (simp; omega)) _ | with_reducible refine Below.drew ?_ | with_reducible exact Below.refl _ _ | with_reducible refine below_two ?_ (by with_reducible assumption)))).mono ?_); rintro e w' ⟨rfl, rfl⟩) | (go_at_call 104; (with_reducible refine (cr _).mono ?_); rintro e w' ⟨rfl, rfl⟩))
                go_ret
                exact ⟨ret_bool HRR.out.symm, by repeat (first | with_reducible assumption | with_reducible refine below_set ?_ (by omega) _ | with_reducible refine Below.alloc ?_ (by first | omega | (simp; done) | (simp; omega)) _ | with_reducible refine Below.drew ?_ | with_reducible exact Below.refl _ _ | with_reducible refine below_two ?_ (by with_reducible assumption))⟩
            · have k1i : ¬ (k : Int) = 1 := by omega
              by_cases hl0 : na = pk
              · subst hl0
                have hl : (na == na) = true := beq_self_eq_true _
                cases bn with
                | false =>
                  have HRR : Aside0 (R = false) := ⟨by rw [HR.out, HL.out]; simp⟩
                  go_enter Tryd.func106, Tryd.ntmps106
                  go_wp2_with (first | (go_at_call 105; (with_reducible refine (cn _ (by repeat (first | with_reducible assumption | with_reducible refine below_set ?_ (by omega) _ | with_reducible refine Below.alloc ?_ (by first | omega | (simp; done) | (simp; omega)) _ | with_reducible refine Below.drew ?_ | with_reducible exact Below.refl _ _ | with_reducible refine below_two ?_ (by with_reducible assumption)))).mono ?_); rintro e w' ⟨rfl, rfl⟩) | (go_at_call 104; (with_reducible refine (cr _).mono ?_); rintro e w' ⟨rfl, rfl⟩))
                  go_ret
                  exact ⟨ret_bool HRR.out.symm, by repeat (first | with_reducible assumption | with_reducible refine below_set ?_ (by omega) _ | with_reducible refine Below.alloc ?_ (by first | omega | (simp; done) | (simp; omega)) _ | with_reducible refine Below.drew ?_ | with_reducible exact Below.refl _ _ | with_reducible refine below_two ?_ (by with_reducible assumption))⟩
                | true =>
                  by_cases h0 : num < 0
                  · have h0' : ¬ 0 ≤ num := by omega
                    have HRR : Aside0 (R = false) := ⟨by rw [HR.out, HL.out]; simp [h0']⟩
                    go_enter Tryd.func106, Tryd.ntmps106
                    go_wp2_with (first | (go_at_call 105; (with_reducible refine (cn _ (by repeat (first | with_reducible assumption | with_reducible refine below_set ?_ (by omega) _ | with_reducible refine Below.alloc ?_ (by first | omega | (simp; done) | (simp; omega)) _ | with_reducible refine Below.drew ?_ | with_reducible exact Below.refl _ _ | with_reducible refine below_two ?_ (by with_reducible assumption)))).mono ?_); rintro e w' ⟨rfl, rfl⟩) | (go_at_call 104; (with_reducible refine (cr _).mono ?_); rintro e w' ⟨rfl, rfl⟩))
                    go_ret
                    exact ⟨ret_bool HRR.out.symm, by repeat (first | with_reducible assumption | with_reducible refine below_set ?_ (by omega) _ | with_reducible refine Below.alloc ?_ (by first | omega | (simp; done) | (simp; omega)) _ | with_reducible refine Below.drew ?_ | with_reducible exact Below.refl _ _ | with_reducible refine below_two ?_ (by with_reducible assumption))⟩
                  · have h0' : 0 ≤ num := by omega
                    by_cases hz : num = 0
                    · subst hz
                      have HRL : Aside0 (fEs args = R) := ⟨by rw [HR.out, HL.out]; simp  [hl]⟩
                      go_enter Tryd.func106, Tryd.ntmps106
                      go_wp2_with (first | (go_at_call 105; (with_reducible refine (cn _ (by repeat (first | with_reducible assumption | with_reducible refine below_set ?_ (by omega) _ | with_reducible refine Below.alloc ?_ (by first | omega | (simp; done) | (simp; omega)) _ | with_reducible refine Below.drew ?_ | with_reducible exact Below.refl _ _ | with_reducible refine below_two ?_ (by with_reducible assumption)))).mono ?_); rintro e w' ⟨rfl, rfl⟩) | (go_at_call 104; (with_reducible refine (cr _).mono ?_); rintro e w' ⟨rfl, rfl⟩))
                      go_loopg [76] na (fun g v wr => Below w.heap.size w wr ∧ ∃ i : Nat, v = .int .i64 i ∧ i + g = na ∧ Aside0 (fEs (args.drop i) = R))
                      case atStart => exact ⟨by repeat (first | with_reducible assumption | with_reducible refine below_set ?_ (by omega) _ | with_reducible refine Below.alloc ?_ (by first | omega | (simp; done) | (simp; omega)) _ | with_reducible refine Below.drew ?_ | with_reducible exact Below.refl _ _ | with_reducible refine below_two ?_ (by with_reducible assumption)), 0, rfl, by omega, ⟨by rw [← HRL.out]; cases args <;> rfl⟩⟩
                      case round =>
                        obtain ⟨hB, i, rfl, hig, hF⟩ := hrel
                        have hBs := hB.size
                        clear cn cr d0 d1 d2 d3
                        by_cases hi : i < na
                        · have hlt : (i : Int) < (na : Int) := by omega
                          obtain ⟨q, rfl⟩ : ∃ q, gk = q + 1 := ⟨gk - 1, by omega⟩
                          obtain ⟨y, hy⟩ := Exs.get_lt (l := args) (j := i) (by rw [HNA.out]; exact hi)
                          have hyw := Exs.get_wt hy
                          have hst := fEs_step hF.out hy
                          obtain ⟨y0, y1, y2, y3, y4, y5⟩ := (HLE.out.1.below hB (Nat.le_refl _)).at hy
                          obtain ⟨vy, y5, hvy⟩ := y5
                          have hvs : ∃ ao c, vy = .slice ao y.args.len c := by obtain ⟨ao, c, _, _, e, _⟩ := hvy; exact ⟨ao, c, e⟩
                          obtain ⟨aoy, cap, rfl⟩ := hvs
                          have hao : ao = some ⟨b, o, none⟩ := by rcases HLE.out.2.lead with e | e; (omega); exact e
                          have cy : ∀ W, Below wr.heap.size wr W → Calls Tryd.prog 106 #[y.v (.slice aoy y.args.len cap)] W (IsY y.ok W) := fun W hW => HIH.out y _ P W (by have := HSZ.out.2; omega) (by have := HSZ.out.1; omega) (hvy.below hW (Nat.le_refl _)) ((HW.out.below hB).below hW)
                          have HST : Aside0 ((y.ok = false → R = false) ∧ (y.ok = true → fEs (args.drop (i + 1)) = R)) := ⟨hst⟩
                          obtain ⟨yk, yn, ym, yp, ya⟩ := y
                          simp only [Ex.v] at cy y1 y2 y3 y4
                          subst hao
                          obtain ⟨bk, hbk⟩ : ∃ p, Ex.ok ⟨yk, yn, ym, yp, ya⟩ = p := ⟨_, rfl⟩
                          rw [hbk] at cy HST
                          clear hst hyw hy hvy hbk y0
                          cases bk with
                          | false =>
                            have A : Aside0 (R = false) := ⟨HST.out.1 rfl⟩
                            clear HST
                            go_wp2_with (go_at_call 106; (with_reducible refine (cy _ (by repeat (first | with_reducible assumption | with_reducible refine below_set ?_ (by omega) _ | with_reducible refine Below.alloc ?_ (by first | omega | (simp; done) | (simp; omega)) _ | with_reducible refine Below.drew ?_ | with_reducible exact Below.refl _ _ | with_reducible refine below_two ?_ (by with_reducible assumption)))).mono ?_); rintro e w1 ⟨rfl, hB1⟩)
                            go_ret
                            exact ⟨ret_bool A.out.symm, by repeat (first | with_reducible assumption | with_reducible refine below_set ?_ (by omega) _ | with_reducible refine Below.alloc ?_ (by first | omega | (simp; done) | (simp; omega)) _ | with_reducible refine Below.drew ?_ | with_reducible exact Below.refl _ _ | with_reducible refine below_two ?_ (by with_reducible assumption))⟩
                          | true =>
                            have A : Aside0 (fEs (args.drop (i + 1)) = R) := ⟨HST.out.2 rfl⟩
                            clear HST
                            go_wp2_with (go_at_call 106; (with_reducible refine (cy _ (by repeat (first | with_reducible assumption | with_reducible refine below_set ?_ (by omega) _ | with_reducible refine Below.alloc ?_ (by first | omega | (simp; done) | (simp; omega)) _ | with_reducible refine Below.drew ?_ | with_reducible exact Below.refl _ _ | with_reducible refine below_two ?_ (by with_reducible assumption)))).mono ?_); rintro e w1 ⟨rfl, hB1⟩)
                            go_roundg q
                            case measure => omega
                            case rel => exact ⟨by repeat (first | with_reducible assumption | with_reducible refine below_set ?_ (by omega) _ | with_reducible refine Below.alloc ?_ (by first | omega | (simp; done) | (simp; omega)) _ | with_reducible refine Below.drew ?_ | with_reducible exact Below.refl _ _ | with_reducible refine below_two ?_ (by with_reducible assumption)), i + 1, by go_num, by omega, A⟩
                        · obtain rfl : i = na := by omega
                          have hlt : ¬ (i : Int) < (i : Int) := by omega
                          have HRR : Aside0 (R = true) := ⟨by rw [← hF.out, ← HNA.out, Exs.drop_len]; rfl⟩
                          go_wp2
                          go_ret
                          exact ⟨ret_bool HRR.out.symm, hB⟩
                    · have hz' : (num != 0) = true := by simpa using hz
                      have k1b : ((k : Int) != 1) = true := by simpa using k1i
                      have HRR : Aside0 (R = false) := ⟨by rw [HR.out, HL.out]; simp [hz, k1]⟩
                      go_enter Tryd.func106, Tryd.ntmps106
                      go_wp2_with (first | (go_at_call 105; (with_reducible refine (cn _ (by repeat (first | with_reducible assumption | with_reducible refine below_set ?_ (by omega) _ | with_reducible refine Below.alloc ?_ (by first | omega | (simp; done) | (simp; omega)) _ | with_reducible refine Below.drew ?_ | with_reducible exact Below.refl _ _ | with_reducible refine below_two ?_ (by with_reducible assumption)))).mono ?_); rintro e w' ⟨rfl, rfl⟩) | (go_at_call 104; (with_reducible refine (cr _).mono ?_); rintro e w' ⟨rfl, rfl⟩))
                      go_ret
                      exact ⟨ret_bool HRR.out.symm, by repeat (first | with_reducible assumption | with_reducible refine below_set ?_ (by omega) _ | with_reducible refine Below.alloc ?_ (by first | omega | (simp; done) | (simp; omega)) _ | with_reducible refine Below.drew ?_ | with_reducible exact Below.refl _ _ | with_reducible refine below_two ?_ (by with_reducible assumption))⟩
              · have hl' : ¬ (na : Int) = (pk : Int) := by omega
                have hl : (na == pk) = false := beq_eq_false_iff_ne.2 hl0
                have HRR : Aside0 (R = false) := ⟨by rw [HR.out, HL.out]; simp [hl]⟩
                go_enter Tryd.func106, Tryd.ntmps106
                go_wp2_with (first | (go_at_call 105; (with_reducible refine (cn _ (by repeat (first | with_reducible assumption | with_reducible refine below_set ?_ (by omega) _ | with_reducible refine Below.alloc ?_ (by first | omega | (simp; done) | (simp; omega)) _ | with_reducible refine Below.drew ?_ | with_reducible exact Below.refl _ _ | with_reducible refine below_two ?_ (by with_reducible assumption)))).mono ?_); rintro e w' ⟨rfl, rfl⟩) | (go_at_call 104; (with_reducible refine (cr _).mono ?_); rintro e w' ⟨rfl, rfl⟩))
                go_ret
                exact ⟨ret_bool HRR.out.symm, by repeat (first | with_reducible assumption | with_reducible refine below_set ?_ (by omega) _ | with_reducible refine Below.alloc ?_ (by first | omega | (simp; done) | (simp; omega)) _ | with_reducible refine Below.drew ?_ | with_reducible exact Below.refl _ _ | with_reducible refine below_two ?_ (by with_reducible assumption))⟩
          · have hr' : op.toList.isEmpty = false := by simpa using hr
            have hbo2 : bo = false := by rw [hbo]; exact hr'
            clear hbo
            subst hbo2
            have HRR : Aside0 (R = false) := ⟨by rw [HR.out, HL.out]; simp⟩
            go_enter Tryd.func106, Tryd.ntmps106
            go_wp2_with (first | (go_at_call 105; (with_reducible refine (cn _ (by repeat (first | with_reducible assumption | with_reducible refine below_set ?_ (by omega) _ | with_reducible refine Below.alloc ?_ (by first | omega | (simp; done) | (simp; omega)) _ | with_reducible refine Below.drew ?_ | with_reducible exact Below.refl _ _ | with_reducible refine below_two ?_ (by with_reducible assumption)))).mono ?_); rintro e w' ⟨rfl, rfl⟩) | (go_at_call 104; (with_reducible refine (cr _).mono ?_); rintro e w' ⟨rfl, rfl⟩))
            go_ret
            exact ⟨ret_bool HRR.out.symm, by repeat (first | with_reducible assumption | with_reducible refine below_set ?_ (by omega) _ | with_reducible refine Below.alloc ?_ (by first | omega | (simp; done) | (simp; omega)) _ | with_reducible refine Below.drew ?_ | with_reducible exact Below.refl _ _ | with_reducible refine below_two ?_ (by with_reducible assumption))⟩
end Go.Proofs.YthkmdmobeadigaaDoor.lg
