/- OracleDraws' function, walked: whatever the three lists, it answers true; nothing that was there turns. -/
import Derived.Test.YtabdkfmfenpkjaaDrawsB
namespace Go.Proofs.Ytabdkfmfenpkjaa.draws
open Go.RowKit
set_option linter.unusedVariables false
/-- At the loop over the asks: i and j numbers are taken. -/
structure Dq (w wq : World) (p1 g1 p2 g2 : Nat) (l1 l2 : List Int) (i j : Nat) : Prop where
  below : Below w.heap.size w wq
  d1 : Dr wq p1 g1 (l1.drop i)
  d2 : Dr wq p2 g2 (l2.drop j)
theorem Dq.take1 {w wq : World} {p1 g1 p2 g2 : Nat} {l1 l2 : List Int} {i j : Nat} (h : Dq w wq p1 g1 p2 g2 l1 l2 i j) (hp : w.heap.size ≤ p1) (h1 : p2 ≠ p1) (h2 : g2 ≠ p1) {v : Value}
    (d : Dr (wq.setCell ⟨p1, 0, none⟩ v) p1 g1 (l1.drop (i + 1))) : Dq w (wq.setCell ⟨p1, 0, none⟩ v) p1 g1 p2 g2 l1 l2 (i + 1) j :=
  ⟨h.below.setCell hp _, d, h.d2.of (Below.heap_setCell _ _ _ _ h1) (.inr (Below.heap_setCell _ _ _ _ h2))⟩
theorem Dq.take2 {w wq : World} {p1 g1 p2 g2 : Nat} {l1 l2 : List Int} {i j : Nat} (h : Dq w wq p1 g1 p2 g2 l1 l2 i j) (hp : w.heap.size ≤ p2) (h1 : p1 ≠ p2) (h2 : l1 = [] ∨ g1 ≠ p2) {v : Value}
    (d : Dr (wq.setCell ⟨p2, 0, none⟩ v) p2 g2 (l2.drop (j + 1))) : Dq w (wq.setCell ⟨p2, 0, none⟩ v) p1 g1 p2 g2 l1 l2 i (j + 1) :=
  ⟨h.below.setCell hp _, h.d1.of (Below.heap_setCell _ _ _ _ h1) (h2.imp (fun e => by rw [e, List.drop_nil]) (fun e => Below.heap_setCell _ _ _ _ e)), d⟩
set_option maxHeartbeats 8000000 in
set_option maxRecDepth 100000 in
theorem walk (w : World) (ao1 ao2 ao3 : Option Addr) (l1 l2 l3 : List Int) (c1 b1 o1 c2 b2 o2 c3 b3 o3 : Nat) (h1 : Sli w ao1 l1 c1 b1 o1) (h2 : Sli w ao2 l2 c2 b2 o2)
    (h3 : l3 = [] ∨ ao3 = some ⟨b3, o3, none⟩) (h3c : ∀ j v, l3[j]? = some v → w.cell? ⟨b3, o3 + j, none⟩ = some (.int .i64 v)) (m1 : l1.length * 8 ≤ 140737488351232) (m2 : l2.length * 8 ≤ 140737488351232) (m3 : l3.length * 8 ≤ 140737488351232) :
   Calls Try.prog 3 #[.slice ao1 l1.length c1, .slice ao2 l2.length c2, .slice ao3 l3.length c3] w fun e w' => e = .returned (.bool true) ∧ Below w.heap.size w w' := by
  go_enter Try.func3, Try.ntmps3
  go_wp2_with (first
    | (at_builtin; (refine wpList_append rfl (.tmp 22) (.tmp 23) rfl w.heap.size 0 _ [] ao1 l1 c1 b1 o1 rfl rfl (World.ownsRow_made w #[] 0 (Nat.le_refl _) (by unfold maxLen; omega) rfl) (h1.below ((Below.refl _ _).alloc (Nat.le_refl _) _) (Nat.le_refl _)) (by unfold maxLen; omega) (by omega) (by simp) ?_; intro v1 w1 own1 gr1 _; have bel1 : Below w.heap.size w w1 := ((Below.refl _ _).alloc (Nat.le_refl _) (.cells #[] 24)).grown gr1 (by simp) (fun k hk => by cases hk; exact Nat.le_refl _)))
    | (at_builtin; (refine wpList_append rfl (.tmp 25) (.tmp 26) rfl w.heap.size (0 + l1.length) v1 ([] ++ us l1) (some ⟨w1.heap.size, 0, none⟩) [77] 1 w1.heap.size 0 rfl rfl (own1.alloc _) (sli77 w1) (by unfold maxLen; simp; omega) (by simp; omega) (by have := bel1.size; simp; omega) ?_; intro v2 w2 own2 gr2 _; obtain ⟨gA, cA, rfl, hgA, hcA, rowA, bel2⟩ := phase2 bel1.size bel1 own1 own2 gr2; clear own1 own2 gr1 gr2))
    | (at_builtin; (refine wpList_append rfl (.tmp 32) (.tmp 33) rfl w2.heap.size 0 _ [] ao2 l2 c2 b2 o2 rfl rfl (World.ownsRow_made w2 #[] 0 (Nat.le_refl _) (by unfold maxLen; omega) rfl) (h2.below (bel2.alloc bel2.size _) (Nat.le_refl _)) (by unfold maxLen; omega) (by omega) (by simp) ?_; intro v3 w3 own3 gr3 nil3; obtain ⟨gB, cB, rfl, hgB, hcB, rowB, rowA3, bel3⟩ := phase3 bel2.size bel2 rowA own3 gr3 nil3; clear own3 gr3 nil3 bel1; have hltA := rowA.lt; have hltB := rowB.lt))
    | (go_at_call 6; (with_reducible refine (new_walk w3 (some ⟨gA, 0, none⟩) l1 cA gA 0 (rowA3.sli (by omega)) (by unfold maxLen; omega) (by omega)).mono ?_); rintro e w4 ⟨p1, g1, rfl, bel4, hp1, hp1', hg1, hg1', dr1⟩)
    | (go_at_call 6; (with_reducible refine (new_walk w4 (some ⟨gB, 0, none⟩) l2 cB gB 0 ((Row.sli (r := []) (by simpa using rowB) hcB).below bel4 (Nat.le_refl _)) (by unfold maxLen; omega) (by omega)).mono ?_); rintro e w5 ⟨p2, g2, rfl, bel5, hp2, hp2', hg2, hg2', dr2⟩; have rowA5 := (rowA3.below bel4).below bel5; have rowB5 := (rowB.below bel4).below bel5; have c77 : w5.cell? ⟨gA, l1.length, none⟩ = some (.int .u64 77) := rowA5.cell l1.length 77 (by simp)))
  clear c77 rowA rowB rowA3
  have hne1 : gA ≠ gB := by omega
  go_loopg [55] l1.length (fun g s wr => ∃ k : Nat, s = .int .i64 k ∧ k + g = l1.length ∧ Lp w5 wr gA l1 k)
  case atStart => exact ⟨0, rfl, by omega, Lp.start rowA5⟩
  case round =>
    obtain ⟨k, rfl, hkg, hL⟩ := hrel
    by_cases hk : k < l1.length
    · have hd : decide ((k : Int) < (l1.length : Int)) = true := decide_eq_true (by omega)
      obtain ⟨g, rfl⟩ : ∃ g, gk = g + 1 := ⟨gk - 1, by omega⟩
      obtain ⟨x, hx⟩ : ∃ x, l1[k]? = some x := ⟨_, List.getElem?_eq_getElem hk⟩
      have e1 : wr.cell? ⟨gA, k, none⟩ = some (.int .u64 x) := hL.cell k x (Nat.le_refl _) hx
      have e2 : wr.cell? ⟨b1, o1 + k, none⟩ = some (.int .u64 x) := (h1.below (hL.below (bel3.trans ((bel4.trans (bel5.mono bel4.size)).mono bel3.size)) hgA) (Nat.le_refl _)).cell k x hx
      have e3 := hL.fr k
      have ha : ao1 = some ⟨b1, o1, none⟩ := by rcases h1.to with e | e; (subst e; simp at hx); exact e
      subst ha
      go_wp2
      go_quiet (fail)
      go_wp2
      go_roundg g
      case measure => omega
      case rel => exact ⟨k + 1, by go_num, by omega, Lp.step (by first | exact hL.drewN _ | exact hL.drew | exact hL) _⟩
    · have hd : decide ((k : Int) < (l1.length : Int)) = false := decide_eq_false (by omega)
      have bel5w : Below w.heap.size w w5 := bel3.trans ((bel4.trans (bel5.mono bel4.size)).mono bel3.size)
      have rowB6 : Row wr gB l2 := rowB5.of (hL.keep gB (fun e => hne1 e.symm)) (Nat.le_of_eq hL.size.symm)
      go_wp2
      go_loopg [78] l2.length (fun g s wq => ∃ k : Nat, s = .int .i64 k ∧ k + g = l2.length ∧ Lp wr wq gB l2 k)
      case atStart => exact ⟨0, rfl, by omega, Lp.start (r := []) (by simpa using rowB6)⟩
      case round =>
        obtain ⟨m, rfl, hmg, hM⟩ := hrel
        by_cases hm : m < l2.length
        · have hd : decide ((m : Int) < (l2.length : Int)) = true := decide_eq_true (by omega)
          obtain ⟨g, rfl⟩ : ∃ g, gk = g + 1 := ⟨gk - 1, by omega⟩
          obtain ⟨x, hx⟩ : ∃ x, l2[m]? = some x := ⟨_, List.getElem?_eq_getElem hm⟩
          have belW := hM.below (hL.below bel5w hgA) (Nat.le_trans bel2.size hgB)
          have e1 := hM.cell m x (Nat.le_refl _) hx
          have e2 := (h2.below belW (Nat.le_refl _)).cell m x hx
          have e3 := hM.fr m
          have ha : ao2 = some ⟨b2, o2, none⟩ := by rcases h2.to with e | e; (subst e; simp at hx); exact e
          subst ha
          clear belW
          go_wp2
          go_quiet (fail)
          go_wp2
          go_roundg g
          case measure => omega
          case rel => exact ⟨m + 1, by go_num, by omega, Lp.step (by first | exact hM.drewN _ | exact hM.drew | exact hM) _⟩
        · have hd : decide ((m : Int) < (l2.length : Int)) = false := decide_eq_false (by omega)
          go_wp2
          have hg2' : l2 = [] ∨ g2 < w5.heap.size := hg2'
          have D0 : Dq w wr p1 g1 p2 g2 l1 l2 0 0 := by
            have s4 := bel4.size
            refine ⟨hM.below (hL.below bel5w hgA) (Nat.le_trans bel2.size hgB), ?_, ?_⟩
            · rw [List.drop_zero]
              refine ((dr1.of (bel5.block _ hp1') (hg1'.imp id (fun h => bel5.block _ h))).of (hL.keep _ (by omega)) (hg1'.imp id (fun h => hL.keep _ (by omega)))).of (hM.keep _ (by omega)) (hg1'.imp id (fun h => hM.keep _ (by omega)))
            · rw [List.drop_zero]
              exact (dr2.of (hL.keep _ (by omega)) (.inr (hL.keep _ (by omega)))).of (hM.keep _ (by omega)) (.inr (hM.keep _ (by omega)))
          have P1 : w.heap.size ≤ p1 := Nat.le_trans bel3.size hp1
          have P2 : w.heap.size ≤ p2 := by have := bel4.size; have := bel3.size; omega
          have P3 : p2 ≠ p1 := by omega
          have P4 : g2 ≠ p1 := by omega
          have P5 : l1 = [] ∨ g1 ≠ p2 := hg1'.imp id (fun h => by omega)
          clear hM hL rowA5 rowB5 rowB6 bel2 bel3 bel4 bel5 bel5w dr1 dr2 hgA hgB hcA hcB hltA hltB hp1 hp1' hg1 hg1' hp2 hp2' hg2 hg2' hd hne1 hkg hmg hk hm
          go_wp2
          go_loopg [14, 15, 101] l3.length (fun g s14 s15 s101 wq => ∃ k i j : Nat, s101 = .int .i64 k ∧ s14 = .int .i64 i ∧ s15 = .int .i64 j ∧ k + g = l3.length ∧ i ≤ l1.length ∧ j ≤ l2.length ∧ Dq w wq p1 g1 p2 g2 l1 l2 i j)
          case atStart => exact ⟨0, 0, 0, rfl, rfl, rfl, by omega, by omega, by omega, D0⟩
          case round =>
            obtain ⟨k, i, j, rfl, rfl, rfl, hkg, hi1, hj2, hQ⟩ := hrel
            clear D0
            by_cases hk : k < l3.length
            · have hd : decide ((k : Int) < (l3.length : Int)) = true := decide_eq_true (by omega)
              obtain ⟨g, rfl⟩ : ∃ g, gk = g + 1 := ⟨gk - 1, by omega⟩
              obtain ⟨x, hx⟩ : ∃ x, l3[k]? = some x := ⟨_, List.getElem?_eq_getElem hk⟩
              have e3 : wr.cell? ⟨b3, o3 + k, none⟩ = some (.int .i64 x) := (hQ.below.cell (p := ⟨b3, o3 + k, none⟩) (World.block_lt_of_cell? _ _ (h3c k x hx))).trans (h3c k x hx)
              have ha : ao3 = some ⟨b3, o3, none⟩ := by rcases h3 with e | e; (subst e; simp at hx); exact e
              subst ha
              clear hx
              by_cases q0 : x = 0
              · subst q0
                by_cases hi : i < l1.length
                · obtain ⟨y, hy⟩ : ∃ y, l1[i]? = some y := ⟨_, List.getElem?_eq_getElem hi⟩
                  have hdr : l1.drop i = y :: l1.drop (i + 1) := by rw [List.drop_eq_getElem_cons hi, (List.getElem?_eq_some_iff.1 hy).2]
                  have ec := (h1.below hQ.below (Nat.le_refl _)).cell i y hy
                  have ha : ao1 = some ⟨b1, o1, none⟩ := by rcases h1.to with e | e; (subst e; simp at hy); exact e
                  subst ha
                  have c7 := take_cons wr p1 g1 y (l1.drop (i + 1)) (hdr ▸ hQ.d1)
                  have hdi : decide ((i : Int) < (l1.length : Int)) = true := decide_eq_true (by omega)
                  clear hdr hy
                  go_wp2_with (go_at_call 7; (with_reducible refine c7.mono ?_); rintro e w' ⟨rfl, v, rfl, drn⟩)
                  go_roundg g
                  case measure => omega
                  case rel => exact ⟨k + 1, (i + 1),  j, by go_num, by go_num, by go_num, by omega, by omega, by omega, hQ.take1 (by omega) (by omega) (by omega) drn⟩
                · obtain rfl : i = l1.length := by omega
                  have c7 := take_nil wr p1 g1 (by have := hQ.d1; rw [List.drop_length] at this; exact this)
                  have hdi : decide ((l1.length : Int) < (l1.length : Int)) = false := decide_eq_false (by omega)
                  go_wp2_with (go_at_call 7; (with_reducible refine c7.mono ?_); rintro e w' ⟨rfl, rfl⟩)
                  go_roundg g
                  case measure => omega
                  case rel => exact ⟨k + 1, l1.length, j, by go_num, by go_num, by go_num, by omega, by omega, by omega, hQ⟩
              by_cases q1 : x = 1
              · subst q1
                by_cases hi : j < l2.length
                · obtain ⟨y, hy⟩ : ∃ y, l2[j]? = some y := ⟨_, List.getElem?_eq_getElem hi⟩
                  have hdr : l2.drop j = y :: l2.drop (j + 1) := by rw [List.drop_eq_getElem_cons hi, (List.getElem?_eq_some_iff.1 hy).2]
                  have ec := (h2.below hQ.below (Nat.le_refl _)).cell j y hy
                  have ha : ao2 = some ⟨b2, o2, none⟩ := by rcases h2.to with e | e; (subst e; simp at hy); exact e
                  subst ha
                  have c7 := take_cons wr p2 g2 y (l2.drop (j + 1)) (hdr ▸ hQ.d2)
                  have hdi : decide ((j : Int) < (l2.length : Int)) = true := decide_eq_true (by omega)
                  clear hdr hy
                  go_wp2_with (go_at_call 7; (with_reducible refine c7.mono ?_); rintro e w' ⟨rfl, v, rfl, drn⟩)
                  go_roundg g
                  case measure => omega
                  case rel => exact ⟨k + 1, i,  (j + 1), by go_num, by go_num, by go_num, by omega, by omega, by omega, hQ.take2 (by omega) (by omega) (by omega) drn⟩
                · obtain rfl : j = l2.length := by omega
                  have c7 := take_nil wr p2 g2 (by have := hQ.d2; rw [List.drop_length] at this; exact this)
                  have hdi : decide ((l2.length : Int) < (l2.length : Int)) = false := decide_eq_false (by omega)
                  go_wp2_with (go_at_call 7; (with_reducible refine c7.mono ?_); rintro e w' ⟨rfl, rfl⟩)
                  go_roundg g
                  case measure => omega
                  case rel => exact ⟨k + 1, i, l2.length, by go_num, by go_num, by go_num, by omega, by omega, by omega, hQ⟩
              by_cases q2 : x = 2
              · subst q2
                have c8 := left_walk wr p1 g1 _ hQ.d1
                rw [List.length_drop] at c8
                have hsub : ((l1.length - i : Nat) : Int) = (l1.length : Int) - (i : Int) := by omega
                rw [hsub] at c8
                clear hsub
                go_wp2_with (go_at_call 8; (with_reducible refine c8.mono ?_); rintro e w' ⟨rfl, rfl⟩)
                go_roundg g
                case measure => omega
                case rel => exact ⟨k + 1, i, j, by go_num, by go_num, by go_num, by omega, by omega, by omega, hQ⟩
              by_cases q3 : x = 3
              · subst q3
                have c8 := left_walk wr p2 g2 _ hQ.d2
                rw [List.length_drop] at c8
                have hsub : ((l2.length - j : Nat) : Int) = (l2.length : Int) - (j : Int) := by omega
                rw [hsub] at c8
                clear hsub
                go_wp2_with (go_at_call 8; (with_reducible refine c8.mono ?_); rintro e w' ⟨rfl, rfl⟩)
                go_roundg g
                case measure => omega
                case rel => exact ⟨k + 1, i, j, by go_num, by go_num, by go_num, by omega, by omega, by omega, hQ⟩
              have z0 : (x == (0 : Int)) = false := by simpa using q0
              have z1 : (x == (1 : Int)) = false := by simpa using q1
              have z2 : (x == (2 : Int)) = false := by simpa using q2
              have z3 : (x == (3 : Int)) = false := by simpa using q3
              go_wp2
              go_roundg g
              case measure => omega
              case rel => exact ⟨k + 1, i, j, by go_num, by go_num, by go_num, by omega, by omega, by omega, hQ⟩
            · have hd : decide ((k : Int) < (l3.length : Int)) = false := decide_eq_false (by omega)
              have c8 := left_walk wr p1 g1 _ hQ.d1
              have c8' := left_walk wr p2 g2 _ hQ.d2
              rw [List.length_drop] at c8 c8'
              rw [show ((l1.length - i : Nat) : Int) = (l1.length : Int) - (i : Int) by omega] at c8
              rw [show ((l2.length - j : Nat) : Int) = (l2.length : Int) - (j : Int) by omega] at c8'
              go_wp2_with (first | (go_at_call 8; (with_reducible refine c8.mono ?_); rintro e w' ⟨rfl, rfl⟩) | (go_at_call 8; (with_reducible refine c8'.mono ?_); rintro e w' ⟨rfl, rfl⟩))
              go_ret
              exact ⟨by simp, hQ.below⟩
end Go.Proofs.Ytabdkfmfenpkjaa.draws
