/- OracleHashes' function, walked: whatever the two lists and the asks, it answers true; nothing that was there turns. -/
import Derived.Test.YtabdkfmfenpkjaaDoorHsHand
import Derived.Deep.RegionHeld3
namespace Go.Proofs.YtabdkfmfenpkjaaDoor.ov
open Go.RowKit Go.Maps Go.Proofs.YtabdkfmfenpkjaaDoorW.PrintWords
set_option linter.unusedVariables false
/-- What is asked: of which oracle, under which seed, which key. -/
structure Ask where
  m : Int
  seed : Int
  key : ByteArray
structure Sas (w : World) (ao : Option Addr) (l : List Ask) (b o : Nat) : Prop where
  lead : l = [] ∨ ao = some ⟨b, o, none⟩
  c0 : ∀ (j : Nat) (x : Ask), l[j]? = some x → w.cell? ⟨b, o + j * 3, none⟩ = some (.int .i64 x.m)
  c1 : ∀ (j : Nat) (x : Ask), l[j]? = some x → w.cell? ⟨b, o + j * 3 + 1, none⟩ = some (.int .u64 x.seed)
  c2 : ∀ (j : Nat) (x : Ask), l[j]? = some x → w.cell? ⟨b, o + j * 3 + 2, none⟩ = some (.string x.key)
theorem cell_below {B : Nat} {w w' : World} {a : Addr} {v : Value} (h : w.cell? a = some v) (k : Below B w w') (hB : w.heap.size ≤ B) : w'.cell? a = some v :=
  (k.cell (p := a) (Nat.lt_of_lt_of_le (World.block_lt_of_cell? _ _ h) hB)).trans h
theorem Sas.below {B : Nat} {w w' : World} {ao : Option Addr} {l : List Ask} {b o : Nat} (h : Sas w ao l b o) (k : Below B w w') (hB : w.heap.size ≤ B) : Sas w' ao l b o :=
  ⟨h.lead, fun j x hj => cell_below (h.c0 j x hj) k hB, fun j x hj => cell_below (h.c1 j x hj) k hB, fun j x hj => cell_below (h.c2 j x hj) k hB⟩
theorem handed_ok (w : World) (ao : Option Addr) (l : List Ov) (c b o : Nat) (hs : Sov w ao l c b o) (hwf : ∀ (j : Nat) (x : Ov), l[j]? = some x → (Lit.int .u64 x.2).wf = true) (h63 : l.length * 24 ≤ 140737488351232) (hn : ncode l = 0) :
    Calls Tryd.prog 10 #[.slice ao l.length c] w fun e w' => ∃ p, e = .returned (.tuple #[.pointer (some ⟨p, 0, none⟩), .int .i64 0, .bool true]) ∧ Below w.heap.size w w' ∧ ∃ m, Orc w' p m l :=
  (handed_walk w ao l c b o hs hwf h63).mono fun e w' ⟨v, he, hb, _, hg⟩ => by
    obtain ⟨p, m, rfl, hO⟩ := hg hn
    rw [hn] at he
    exact ⟨p, he, hb, m, hO⟩
theorem handed_bad (w : World) (ao : Option Addr) (l : List Ov) (c b o : Nat) (hs : Sov w ao l c b o) (hwf : ∀ (j : Nat) (x : Ov), l[j]? = some x → (Lit.int .u64 x.2).wf = true) (h63 : l.length * 24 ≤ 140737488351232) (hn : ncode l ≠ 0) :
    Calls Tryd.prog 10 #[.slice ao l.length c] w fun e w' => e = .returned (.tuple #[.pointer none, .int .i64 (ncode l), .bool true]) ∧ Below w.heap.size w w' :=
  (handed_walk w ao l c b o hs hwf h63).mono fun e w' ⟨v, he, hb, hbad, _⟩ => by
    rw [hbad hn] at he
    exact ⟨he, hb⟩
theorem refnew_ok (w : World) (ao : Option Addr) (l : List Ov) (c b o : Nat) (hs : Sov w ao l c b o) (h63 : l.length < 1000000000000000) (hn : ncode l = 0) :
    Calls Tryd.prog 11 #[.slice ao l.length c] w fun e w' => ∃ p, e = .returned (.tuple #[.pointer (some ⟨p, 0, none⟩), .int .i64 0]) ∧ Below w.heap.size w w' ∧ Rfo w' p l :=
  (refnew_walk w ao l c b o hs h63).mono fun e w' ⟨v, he, hb, _, hg⟩ => by
    obtain ⟨p, rfl, hO⟩ := hg hn
    rw [hn] at he
    exact ⟨p, he, hb, hO⟩
theorem refnew_bad (w : World) (ao : Option Addr) (l : List Ov) (c b o : Nat) (hs : Sov w ao l c b o) (h63 : l.length < 1000000000000000) (hn : ncode l ≠ 0) :
    Calls Tryd.prog 11 #[.slice ao l.length c] w fun e w' => e = .returned (.tuple #[.pointer none, .int .i64 (ncode l)]) ∧ Below w.heap.size w w' :=
  (refnew_walk w ao l c b o hs h63).mono fun e w' ⟨v, he, hb, hbad, _⟩ => by
    rw [hbad hn] at he
    exact ⟨he, hb⟩
/-- The ask's copy stands. -/
theorem keepS {za w' : World} {z : Nat} {m sd : Int} {key : ByteArray} (c0 : za.cell? ⟨z, 0, none⟩ = some (.int .i64 m)) (c1 : za.cell? ⟨z, 1, none⟩ = some (.int .u64 sd)) (c2 : za.cell? ⟨z, 2, none⟩ = some (.string key)) (h : Below za.heap.size za w') :
    Below za.heap.size za w' ∧ w'.cell? ⟨z, 0, none⟩ = some (.int .i64 m) ∧ w'.cell? ⟨z, 1, none⟩ = some (.int .u64 sd) ∧ w'.cell? ⟨z, 2, none⟩ = some (.string key) :=
  ⟨h, cell_below c0 h (Nat.le_refl _), cell_below c1 h (Nat.le_refl _), cell_below c2 h (Nat.le_refl _)⟩
theorem below_next {za wq w' : World} (h : Below za.heap.size za wq) (k : Below wq.heap.size wq w') : Below za.heap.size za w' := h.trans (k.mono h.size)
set_option maxHeartbeats 16000000 in
set_option maxRecDepth 100000 in
theorem hashes_11 (w : World) (ao1 ao2 ao3 : Option Addr) (l1 l2 : List Ov) (l3 : List Ask) (c1 b1 o1 c2 b2 o2 c3 b3 o3 : Nat) (hs1 : Sov w ao1 l1 c1 b1 o1) (hs2 : Sov w ao2 l2 c2 b2 o2) (hs3 : Sas w ao3 l3 b3 o3)
    (hw1 : ∀ (j : Nat) (x : Ov), l1[j]? = some x → (Lit.int .u64 x.2).wf = true) (hw2 : ∀ (j : Nat) (x : Ov), l2[j]? = some x → (Lit.int .u64 x.2).wf = true) (hw3 : ∀ (j : Nat) (x : Ask), l3[j]? = some x → ref.In64 x.seed ∧ x.key.size < 9223372036854775807)
    (m1 : l1.length * 24 ≤ 140737488351232) (m2 : l2.length * 24 ≤ 140737488351232) (m3 : l3.length * 32 ≤ 140737488351232) (hn1 : ncode l1 = 0) (hn2 : ncode l2 = 0)
    (g0 : w.cell? ⟨0, 0, none⟩ = some (.int .u64 13234230157428861123)) (g1 : w.cell? ⟨0, 1, none⟩ = some (.int .u64 11329751410908088055)) :
    Calls Tryd.prog 6 #[.slice ao1 l1.length c1, .slice ao2 l2.length c2, .slice ao3 l3.length c3] w fun e w' => e = .returned (.bool true) ∧ Below w.heap.size w w' := by
  go_enter Tryd.func6, Tryd.ntmps6
  go_wp2_with (first
    | (go_at_call 10; (with_reducible refine (handed_ok w ao1 l1 c1 b1 o1 hs1 hw1 m1 hn1).mono ?_); rintro e w1 ⟨p1, rfl, hbx, m1', orc1⟩; have belw1 : Below w.heap.size w w1 := hbx; have szw1 := hbx)
    | (go_at_call 11; (with_reducible refine (refnew_ok w1 ao1 l1 c1 b1 o1 (hs1.below belw1 (Nat.le_refl _)) (by omega) hn1).mono ?_); rintro e w2 ⟨r1, rfl, hbx, rfo1⟩; have belw2 : Below w.heap.size w w2 := below_next belw1 hbx; have szw2 := hbx)
    | (go_at_call 10; (with_reducible refine (handed_ok w2 ao2 l2 c2 b2 o2 (hs2.below belw2 (Nat.le_refl _)) hw2 m2 hn2).mono ?_); rintro e w3 ⟨p2, rfl, hbx, m2', orc2⟩; have belw3 : Below w.heap.size w w3 := below_next belw2 hbx; have szw3 := hbx)
    | (go_at_call 11; (with_reducible refine (refnew_ok w3 ao2 l2 c2 b2 o2 (hs2.below belw3 (Nat.le_refl _)) (by omega) hn2).mono ?_); rintro e w4 ⟨r2, rfl, hbx, rfo2⟩; have belw4 : Below w.heap.size w w4 := below_next belw3 hbx; have szw4 := hbx))
  have O1 : Orc w4 p1 m1' l1 := ((orc1.below szw2 (Nat.le_refl _)).below szw3 (Nat.le_refl _)).below szw4 (Nat.le_refl _)
  have R1 : Rfo w4 r1 l1 := (rfo1.below szw3 (Nat.le_refl _)).below szw4 (Nat.le_refl _)
  clear orc1 rfo1
  have O2 : Orc w4 p2 m2' l2 := orc2.below szw4 (Nat.le_refl _)
  have R2 : Rfo w4 r2 l2 := rfo2
  clear orc2 rfo2
  clear szw1 szw2 szw3 szw4 belw1 belw2 belw3
  go_loopg [73] l3.length (fun gg v wr => ∃ k : Nat, v = .int .i64 k ∧ k + gg = l3.length ∧ Below w4.heap.size w4 wr)
  case atStart => exact ⟨0, rfl, by omega, Below.refl _ _⟩
  case round =>
    obtain ⟨k, rfl, hkg, hB⟩ := hrel
    by_cases hk : k < l3.length
    · have hlt : (k : Int) < (l3.length : Int) := by omega
      obtain ⟨gg, rfl⟩ : ∃ g, gk = g + 1 := ⟨gk - 1, by omega⟩
      obtain ⟨x, hx⟩ : ∃ x, l3[k]? = some x := ⟨_, List.getElem?_eq_getElem hk⟩
      have hBw := below_next belw4 hB
      have hS := hs3.below hBw (Nat.le_refl _)
      have e0 := hS.c0 k x hx
      have e1 := hS.c1 k x hx
      have e2 := hS.c2 k x hx
      obtain ⟨hsd, hky⟩ := hw3 k x hx
      have ha : ao3 = some ⟨b3, o3, none⟩ := by rcases hs3.lead with e | e; (subst e; simp at hx); exact e
      subst ha
      clear hx hS
      obtain ⟨M, sd, key⟩ := x
      simp only at e0 e1 e2 hsd hky
      have hBza : Below w4.heap.size w4 (wr.alloc (.cells #[.int .i64 M, .int .u64 sd, .string key] 38)) := hB.alloc hB.size _
      have z0 : (wr.alloc (.cells #[.int .i64 M, .int .u64 sd, .string key] 38)).cell? ⟨wr.heap.size, 0, none⟩ = some (.int .i64 M) := by simp
      have z1 : (wr.alloc (.cells #[.int .i64 M, .int .u64 sd, .string key] 38)).cell? ⟨wr.heap.size, 1, none⟩ = some (.int .u64 sd) := by simp
      have z2 : (wr.alloc (.cells #[.int .i64 M, .int .u64 sd, .string key] 38)).cell? ⟨wr.heap.size, 2, none⟩ = some (.string key) := by simp
      obtain ⟨H1, hH1⟩ : ∃ H, hval l1 sd key = H := ⟨_, rfl⟩
      have q121 : ∀ za wq, Below w4.heap.size w4 za → Below za.heap.size za wq → Calls Tryd.prog 12 #[.pointer (some ⟨p1, 0, none⟩), .int .u64 sd, .string key] wq fun e w' => e = .returned (.int .u64 H1) ∧ Below wq.heap.size wq w' := fun za wq hz hq => by
        have hw := below_next belw4 (below_next hz hq)
        have := hash_walk wq p1 m1' l1 sd key (O1.below (below_next hz hq) (Nat.le_refl _)) hky (cell_below g0 hw (Nat.le_refl _)) (cell_below g1 hw (Nat.le_refl _))
        rw [hH1] at this
        exact this
      have q131 : ∀ za wq, Below w4.heap.size w4 za → Below za.heap.size za wq → Calls Tryd.prog 13 #[.pointer (some ⟨r1, 0, none⟩), .int .u64 sd, .string key] wq fun e w' => e = .returned (.int .u64 H1) ∧ Below wq.heap.size wq w' := fun za wq hz hq => by
        have := refhash_walk wq r1 l1 sd key (R1.below (below_next hz hq) (Nat.le_refl _)) hsd hky (by omega)
        rw [hH1] at this
        exact this
      clear hH1
      obtain ⟨H2, hH2⟩ : ∃ H, hval l2 sd key = H := ⟨_, rfl⟩
      have q122 : ∀ za wq, Below w4.heap.size w4 za → Below za.heap.size za wq → Calls Tryd.prog 12 #[.pointer (some ⟨p2, 0, none⟩), .int .u64 sd, .string key] wq fun e w' => e = .returned (.int .u64 H2) ∧ Below wq.heap.size wq w' := fun za wq hz hq => by
        have hw := below_next belw4 (below_next hz hq)
        have := hash_walk wq p2 m2' l2 sd key (O2.below (below_next hz hq) (Nat.le_refl _)) hky (cell_below g0 hw (Nat.le_refl _)) (cell_below g1 hw (Nat.le_refl _))
        rw [hH2] at this
        exact this
      have q132 : ∀ za wq, Below w4.heap.size w4 za → Below za.heap.size za wq → Calls Tryd.prog 13 #[.pointer (some ⟨r2, 0, none⟩), .int .u64 sd, .string key] wq fun e w' => e = .returned (.int .u64 H2) ∧ Below wq.heap.size wq w' := fun za wq hz hq => by
        have := refhash_walk wq r2 l2 sd key (R2.below (below_next hz hq) (Nat.le_refl _)) hsd hky (by omega)
        rw [hH2] at this
        exact this
      clear hH2
      clear hsd hky hBw
      by_cases q1 : M = 0
      · subst q1
        go_wp2
        generalize wr.alloc (.cells #[.int .i64 0, .int .u64 sd, .string key] 38) = wz at hBza z0 z1 z2 ⊢
        have hBz := hBza
        have y0 := z0
        have y1 := z1
        have y2 := z2
        obtain ⟨za, hza⟩ : ∃ za, wz = za := ⟨_, rfl⟩
        subst hza
        have c12 := fun wq h => q121 wz wq hBz h
        have c13 := fun wq h => q131 wz wq hBz h
        have hz0 : Below wz.heap.size wz wz := Below.refl _ _
        have hz1 : Below wz.heap.size wz wz.drew := (Below.refl _ _).drew
        go_region_held3 (fun w' => Below wz.heap.size wz w' ∧ w'.cell? ⟨wr.heap.size, 0, none⟩ = some (.int .i64 0) ∧ w'.cell? ⟨wr.heap.size, 1, none⟩ = some (.int .u64 sd) ∧ w'.cell? ⟨wr.heap.size, 2, none⟩ = some (.string key))
          (first | with_reducible exact keepS y0 y1 y2 (by with_reducible assumption))
          (first
          | (go_at_call 12; (with_reducible refine (c12 _ (by with_reducible assumption)).mono ?_); rintro e wa ⟨rfl, hba⟩; have hwa := below_next (by with_reducible assumption) hba; obtain ⟨_, xa0, xa1, xa2⟩ := keepS y0 y1 y2 hwa)
          | (go_at_call 13; (with_reducible refine (c13 _ (by with_reducible assumption)).mono ?_); rintro e wb ⟨rfl, hbb⟩; have hwb := below_next (by with_reducible assumption) hbb; obtain ⟨_, xb0, xb1, xb2⟩ := keepS y0 y1 y2 hwb))
        all_goals go_wp2
        all_goals go_quiet (fail)
        all_goals go_wp2
        all_goals go_roundg gg
        all_goals first | omega | exact ⟨k + 1, by go_num, by omega, below_drewN (below_next hBz (by with_reducible assumption)) _⟩
      by_cases q2 : M = 1
      · subst q2
        go_wp2
        go_quiet (fail)
        go_wp2
        have hBz := below_drewN hBza nq
        have y0 : ((wr.alloc (.cells #[.int .i64 1, .int .u64 sd, .string key] 38)).drewN nq).cell? ⟨wr.heap.size, 0, none⟩ = some (.int .i64 1) := z0
        have y1 : ((wr.alloc (.cells #[.int .i64 1, .int .u64 sd, .string key] 38)).drewN nq).cell? ⟨wr.heap.size, 1, none⟩ = some (.int .u64 sd) := z1
        have y2 : ((wr.alloc (.cells #[.int .i64 1, .int .u64 sd, .string key] 38)).drewN nq).cell? ⟨wr.heap.size, 2, none⟩ = some (.string key) := z2
        generalize (wr.alloc (.cells #[.int .i64 1, .int .u64 sd, .string key] 38)).drewN nq = wz at hBz y0 y1 y2 ⊢
        obtain ⟨za, hza⟩ : ∃ za, wz = za := ⟨_, rfl⟩
        subst hza
        have c12 := fun wq h => q122 wz wq hBz h
        have c13 := fun wq h => q132 wz wq hBz h
        have hz0 : Below wz.heap.size wz wz := Below.refl _ _
        have hz1 : Below wz.heap.size wz wz.drew := (Below.refl _ _).drew
        go_region_held3 (fun w' => Below wz.heap.size wz w' ∧ w'.cell? ⟨wr.heap.size, 0, none⟩ = some (.int .i64 1) ∧ w'.cell? ⟨wr.heap.size, 1, none⟩ = some (.int .u64 sd) ∧ w'.cell? ⟨wr.heap.size, 2, none⟩ = some (.string key))
          (first | with_reducible exact keepS y0 y1 y2 (by with_reducible assumption))
          (first
          | (go_at_call 12; (with_reducible refine (c12 _ (by with_reducible assumption)).mono ?_); rintro e wa ⟨rfl, hba⟩; have hwa := below_next (by with_reducible assumption) hba; obtain ⟨_, xa0, xa1, xa2⟩ := keepS y0 y1 y2 hwa)
          | (go_at_call 13; (with_reducible refine (c13 _ (by with_reducible assumption)).mono ?_); rintro e wb ⟨rfl, hbb⟩; have hwb := below_next (by with_reducible assumption) hbb; obtain ⟨_, xb0, xb1, xb2⟩ := keepS y0 y1 y2 hwb))
        all_goals go_wp2
        all_goals go_roundg gg
        all_goals first | omega | exact ⟨k + 1, by go_num, by omega, below_next hBz (by with_reducible assumption)⟩
      have n0 : (M == (0 : Int)) = false := by simpa using q1
      have n1 : (M == (1 : Int)) = false := by simpa using q2
      go_wp2
      go_quiet (fail)
      go_wp2
      go_quiet (fail)
      go_wp2
      go_roundg gg
      case measure => omega
      case rel => exact ⟨k + 1, by go_num, by omega, below_drewN hBza _⟩
    · have hlt : ¬ (k : Int) < (l3.length : Int) := by omega
      go_wp2
      go_ret
      exact ⟨rfl, below_next belw4 hB⟩
set_option maxHeartbeats 16000000 in
set_option maxRecDepth 100000 in
theorem hashes_10 (w : World) (ao1 ao2 ao3 : Option Addr) (l1 l2 : List Ov) (l3 : List Ask) (c1 b1 o1 c2 b2 o2 c3 b3 o3 : Nat) (hs1 : Sov w ao1 l1 c1 b1 o1) (hs2 : Sov w ao2 l2 c2 b2 o2) (hs3 : Sas w ao3 l3 b3 o3)
    (hw1 : ∀ (j : Nat) (x : Ov), l1[j]? = some x → (Lit.int .u64 x.2).wf = true) (hw2 : ∀ (j : Nat) (x : Ov), l2[j]? = some x → (Lit.int .u64 x.2).wf = true) (hw3 : ∀ (j : Nat) (x : Ask), l3[j]? = some x → ref.In64 x.seed ∧ x.key.size < 9223372036854775807)
    (m1 : l1.length * 24 ≤ 140737488351232) (m2 : l2.length * 24 ≤ 140737488351232) (m3 : l3.length * 32 ≤ 140737488351232) (hn1 : ncode l1 = 0) (hn2 : ncode l2 ≠ 0)
    (g0 : w.cell? ⟨0, 0, none⟩ = some (.int .u64 13234230157428861123)) (g1 : w.cell? ⟨0, 1, none⟩ = some (.int .u64 11329751410908088055)) :
    Calls Tryd.prog 6 #[.slice ao1 l1.length c1, .slice ao2 l2.length c2, .slice ao3 l3.length c3] w fun e w' => e = .returned (.bool true) ∧ Below w.heap.size w w' := by
  obtain ⟨nc2, hnc2⟩ : ∃ nc, ncode l2 = nc := ⟨_, rfl⟩
  go_enter Tryd.func6, Tryd.ntmps6
  go_wp2_with (first
    | (go_at_call 10; (with_reducible refine (handed_ok w ao1 l1 c1 b1 o1 hs1 hw1 m1 hn1).mono ?_); rintro e w1 ⟨p1, rfl, hbx, m1', orc1⟩; have belw1 : Below w.heap.size w w1 := hbx; have szw1 := hbx)
    | (go_at_call 11; (with_reducible refine (refnew_ok w1 ao1 l1 c1 b1 o1 (hs1.below belw1 (Nat.le_refl _)) (by omega) hn1).mono ?_); rintro e w2 ⟨r1, rfl, hbx, rfo1⟩; have belw2 : Below w.heap.size w w2 := below_next belw1 hbx; have szw2 := hbx)
    | (go_at_call 10; (with_reducible refine (handed_bad w2 ao2 l2 c2 b2 o2 (hs2.below belw2 (Nat.le_refl _)) hw2 m2 hn2).mono ?_); rewrite [hnc2]; rintro e w3 ⟨rfl, hbx⟩; have belw3 : Below w.heap.size w w3 := below_next belw2 hbx; have szw3 := hbx)
    | (go_at_call 11; (with_reducible refine (refnew_bad w3 ao2 l2 c2 b2 o2 (hs2.below belw3 (Nat.le_refl _)) (by omega) hn2).mono ?_); rewrite [hnc2]; rintro e w4 ⟨rfl, hbx⟩; have belw4 : Below w.heap.size w w4 := below_next belw3 hbx; have szw4 := hbx))
  have O1 : Orc w4 p1 m1' l1 := ((orc1.below szw2 (Nat.le_refl _)).below szw3 (Nat.le_refl _)).below szw4 (Nat.le_refl _)
  have R1 : Rfo w4 r1 l1 := (rfo1.below szw3 (Nat.le_refl _)).below szw4 (Nat.le_refl _)
  clear orc1 rfo1
  clear szw1 szw2 szw3 szw4 belw1 belw2 belw3
  go_loopg [73] l3.length (fun gg v wr => ∃ k : Nat, v = .int .i64 k ∧ k + gg = l3.length ∧ Below w4.heap.size w4 wr)
  case atStart => exact ⟨0, rfl, by omega, Below.refl _ _⟩
  case round =>
    obtain ⟨k, rfl, hkg, hB⟩ := hrel
    by_cases hk : k < l3.length
    · have hlt : (k : Int) < (l3.length : Int) := by omega
      obtain ⟨gg, rfl⟩ : ∃ g, gk = g + 1 := ⟨gk - 1, by omega⟩
      obtain ⟨x, hx⟩ : ∃ x, l3[k]? = some x := ⟨_, List.getElem?_eq_getElem hk⟩
      have hBw := below_next belw4 hB
      have hS := hs3.below hBw (Nat.le_refl _)
      have e0 := hS.c0 k x hx
      have e1 := hS.c1 k x hx
      have e2 := hS.c2 k x hx
      obtain ⟨hsd, hky⟩ := hw3 k x hx
      have ha : ao3 = some ⟨b3, o3, none⟩ := by rcases hs3.lead with e | e; (subst e; simp at hx); exact e
      subst ha
      clear hx hS
      obtain ⟨M, sd, key⟩ := x
      simp only at e0 e1 e2 hsd hky
      have hBza : Below w4.heap.size w4 (wr.alloc (.cells #[.int .i64 M, .int .u64 sd, .string key] 38)) := hB.alloc hB.size _
      have z0 : (wr.alloc (.cells #[.int .i64 M, .int .u64 sd, .string key] 38)).cell? ⟨wr.heap.size, 0, none⟩ = some (.int .i64 M) := by simp
      have z1 : (wr.alloc (.cells #[.int .i64 M, .int .u64 sd, .string key] 38)).cell? ⟨wr.heap.size, 1, none⟩ = some (.int .u64 sd) := by simp
      have z2 : (wr.alloc (.cells #[.int .i64 M, .int .u64 sd, .string key] 38)).cell? ⟨wr.heap.size, 2, none⟩ = some (.string key) := by simp
      obtain ⟨H1, hH1⟩ : ∃ H, hval l1 sd key = H := ⟨_, rfl⟩
      have q121 : ∀ za wq, Below w4.heap.size w4 za → Below za.heap.size za wq → Calls Tryd.prog 12 #[.pointer (some ⟨p1, 0, none⟩), .int .u64 sd, .string key] wq fun e w' => e = .returned (.int .u64 H1) ∧ Below wq.heap.size wq w' := fun za wq hz hq => by
        have hw := below_next belw4 (below_next hz hq)
        have := hash_walk wq p1 m1' l1 sd key (O1.below (below_next hz hq) (Nat.le_refl _)) hky (cell_below g0 hw (Nat.le_refl _)) (cell_below g1 hw (Nat.le_refl _))
        rw [hH1] at this
        exact this
      have q131 : ∀ za wq, Below w4.heap.size w4 za → Below za.heap.size za wq → Calls Tryd.prog 13 #[.pointer (some ⟨r1, 0, none⟩), .int .u64 sd, .string key] wq fun e w' => e = .returned (.int .u64 H1) ∧ Below wq.heap.size wq w' := fun za wq hz hq => by
        have := refhash_walk wq r1 l1 sd key (R1.below (below_next hz hq) (Nat.le_refl _)) hsd hky (by omega)
        rw [hH1] at this
        exact this
      clear hH1
      clear hsd hky hBw
      by_cases q1 : M = 0
      · subst q1
        go_wp2
        generalize wr.alloc (.cells #[.int .i64 0, .int .u64 sd, .string key] 38) = wz at hBza z0 z1 z2 ⊢
        have hBz := hBza
        have y0 := z0
        have y1 := z1
        have y2 := z2
        obtain ⟨za, hza⟩ : ∃ za, wz = za := ⟨_, rfl⟩
        subst hza
        have c12 := fun wq h => q121 wz wq hBz h
        have c13 := fun wq h => q131 wz wq hBz h
        have hz0 : Below wz.heap.size wz wz := Below.refl _ _
        have hz1 : Below wz.heap.size wz wz.drew := (Below.refl _ _).drew
        go_region_held3 (fun w' => Below wz.heap.size wz w' ∧ w'.cell? ⟨wr.heap.size, 0, none⟩ = some (.int .i64 0) ∧ w'.cell? ⟨wr.heap.size, 1, none⟩ = some (.int .u64 sd) ∧ w'.cell? ⟨wr.heap.size, 2, none⟩ = some (.string key))
          (first | with_reducible exact keepS y0 y1 y2 (by with_reducible assumption))
          (first
          | (go_at_call 12; (with_reducible refine (c12 _ (by with_reducible assumption)).mono ?_); rintro e wa ⟨rfl, hba⟩; have hwa := below_next (by with_reducible assumption) hba; obtain ⟨_, xa0, xa1, xa2⟩ := keepS y0 y1 y2 hwa)
          | (go_at_call 13; (with_reducible refine (c13 _ (by with_reducible assumption)).mono ?_); rintro e wb ⟨rfl, hbb⟩; have hwb := below_next (by with_reducible assumption) hbb; obtain ⟨_, xb0, xb1, xb2⟩ := keepS y0 y1 y2 hwb))
        all_goals go_wp2
        all_goals go_quiet (fail)
        all_goals go_wp2
        all_goals go_roundg gg
        all_goals first | omega | exact ⟨k + 1, by go_num, by omega, below_drewN (below_next hBz (by with_reducible assumption)) _⟩
      by_cases q2 : M = 1
      · subst q2
        go_wp2
        go_quiet (fail)
        go_wp2
        go_quiet (fail)
        go_wp2
        go_roundg gg
        case measure => omega
        case rel => exact ⟨k + 1, by go_num, by omega, below_drewN hBza _⟩
      have n0 : (M == (0 : Int)) = false := by simpa using q1
      have n1 : (M == (1 : Int)) = false := by simpa using q2
      go_wp2
      go_quiet (fail)
      go_wp2
      go_quiet (fail)
      go_wp2
      go_roundg gg
      case measure => omega
      case rel => exact ⟨k + 1, by go_num, by omega, below_drewN hBza _⟩
    · have hlt : ¬ (k : Int) < (l3.length : Int) := by omega
      go_wp2
      go_ret
      exact ⟨rfl, below_next belw4 hB⟩
set_option maxHeartbeats 16000000 in
set_option maxRecDepth 100000 in
theorem hashes_01 (w : World) (ao1 ao2 ao3 : Option Addr) (l1 l2 : List Ov) (l3 : List Ask) (c1 b1 o1 c2 b2 o2 c3 b3 o3 : Nat) (hs1 : Sov w ao1 l1 c1 b1 o1) (hs2 : Sov w ao2 l2 c2 b2 o2) (hs3 : Sas w ao3 l3 b3 o3)
    (hw1 : ∀ (j : Nat) (x : Ov), l1[j]? = some x → (Lit.int .u64 x.2).wf = true) (hw2 : ∀ (j : Nat) (x : Ov), l2[j]? = some x → (Lit.int .u64 x.2).wf = true) (hw3 : ∀ (j : Nat) (x : Ask), l3[j]? = some x → ref.In64 x.seed ∧ x.key.size < 9223372036854775807)
    (m1 : l1.length * 24 ≤ 140737488351232) (m2 : l2.length * 24 ≤ 140737488351232) (m3 : l3.length * 32 ≤ 140737488351232) (hn1 : ncode l1 ≠ 0) (hn2 : ncode l2 = 0)
    (g0 : w.cell? ⟨0, 0, none⟩ = some (.int .u64 13234230157428861123)) (g1 : w.cell? ⟨0, 1, none⟩ = some (.int .u64 11329751410908088055)) :
    Calls Tryd.prog 6 #[.slice ao1 l1.length c1, .slice ao2 l2.length c2, .slice ao3 l3.length c3] w fun e w' => e = .returned (.bool true) ∧ Below w.heap.size w w' := by
  obtain ⟨nc1, hnc1⟩ : ∃ nc, ncode l1 = nc := ⟨_, rfl⟩
  go_enter Tryd.func6, Tryd.ntmps6
  go_wp2_with (first
    | (go_at_call 10; (with_reducible refine (handed_bad w ao1 l1 c1 b1 o1 hs1 hw1 m1 hn1).mono ?_); rewrite [hnc1]; rintro e w1 ⟨rfl, hbx⟩; have belw1 : Below w.heap.size w w1 := hbx; have szw1 := hbx)
    | (go_at_call 11; (with_reducible refine (refnew_bad w1 ao1 l1 c1 b1 o1 (hs1.below belw1 (Nat.le_refl _)) (by omega) hn1).mono ?_); rewrite [hnc1]; rintro e w2 ⟨rfl, hbx⟩; have belw2 : Below w.heap.size w w2 := below_next belw1 hbx; have szw2 := hbx)
    | (go_at_call 10; (with_reducible refine (handed_ok w2 ao2 l2 c2 b2 o2 (hs2.below belw2 (Nat.le_refl _)) hw2 m2 hn2).mono ?_); rintro e w3 ⟨p2, rfl, hbx, m2', orc2⟩; have belw3 : Below w.heap.size w w3 := below_next belw2 hbx; have szw3 := hbx)
    | (go_at_call 11; (with_reducible refine (refnew_ok w3 ao2 l2 c2 b2 o2 (hs2.below belw3 (Nat.le_refl _)) (by omega) hn2).mono ?_); rintro e w4 ⟨r2, rfl, hbx, rfo2⟩; have belw4 : Below w.heap.size w w4 := below_next belw3 hbx; have szw4 := hbx))
  have O2 : Orc w4 p2 m2' l2 := orc2.below szw4 (Nat.le_refl _)
  have R2 : Rfo w4 r2 l2 := rfo2
  clear orc2 rfo2
  clear szw1 szw2 szw3 szw4 belw1 belw2 belw3
  go_loopg [73] l3.length (fun gg v wr => ∃ k : Nat, v = .int .i64 k ∧ k + gg = l3.length ∧ Below w4.heap.size w4 wr)
  case atStart => exact ⟨0, rfl, by omega, Below.refl _ _⟩
  case round =>
    obtain ⟨k, rfl, hkg, hB⟩ := hrel
    by_cases hk : k < l3.length
    · have hlt : (k : Int) < (l3.length : Int) := by omega
      obtain ⟨gg, rfl⟩ : ∃ g, gk = g + 1 := ⟨gk - 1, by omega⟩
      obtain ⟨x, hx⟩ : ∃ x, l3[k]? = some x := ⟨_, List.getElem?_eq_getElem hk⟩
      have hBw := below_next belw4 hB
      have hS := hs3.below hBw (Nat.le_refl _)
      have e0 := hS.c0 k x hx
      have e1 := hS.c1 k x hx
      have e2 := hS.c2 k x hx
      obtain ⟨hsd, hky⟩ := hw3 k x hx
      have ha : ao3 = some ⟨b3, o3, none⟩ := by rcases hs3.lead with e | e; (subst e; simp at hx); exact e
      subst ha
      clear hx hS
      obtain ⟨M, sd, key⟩ := x
      simp only at e0 e1 e2 hsd hky
      have hBza : Below w4.heap.size w4 (wr.alloc (.cells #[.int .i64 M, .int .u64 sd, .string key] 38)) := hB.alloc hB.size _
      have z0 : (wr.alloc (.cells #[.int .i64 M, .int .u64 sd, .string key] 38)).cell? ⟨wr.heap.size, 0, none⟩ = some (.int .i64 M) := by simp
      have z1 : (wr.alloc (.cells #[.int .i64 M, .int .u64 sd, .string key] 38)).cell? ⟨wr.heap.size, 1, none⟩ = some (.int .u64 sd) := by simp
      have z2 : (wr.alloc (.cells #[.int .i64 M, .int .u64 sd, .string key] 38)).cell? ⟨wr.heap.size, 2, none⟩ = some (.string key) := by simp
      obtain ⟨H2, hH2⟩ : ∃ H, hval l2 sd key = H := ⟨_, rfl⟩
      have q122 : ∀ za wq, Below w4.heap.size w4 za → Below za.heap.size za wq → Calls Tryd.prog 12 #[.pointer (some ⟨p2, 0, none⟩), .int .u64 sd, .string key] wq fun e w' => e = .returned (.int .u64 H2) ∧ Below wq.heap.size wq w' := fun za wq hz hq => by
        have hw := below_next belw4 (below_next hz hq)
        have := hash_walk wq p2 m2' l2 sd key (O2.below (below_next hz hq) (Nat.le_refl _)) hky (cell_below g0 hw (Nat.le_refl _)) (cell_below g1 hw (Nat.le_refl _))
        rw [hH2] at this
        exact this
      have q132 : ∀ za wq, Below w4.heap.size w4 za → Below za.heap.size za wq → Calls Tryd.prog 13 #[.pointer (some ⟨r2, 0, none⟩), .int .u64 sd, .string key] wq fun e w' => e = .returned (.int .u64 H2) ∧ Below wq.heap.size wq w' := fun za wq hz hq => by
        have := refhash_walk wq r2 l2 sd key (R2.below (below_next hz hq) (Nat.le_refl _)) hsd hky (by omega)
        rw [hH2] at this
        exact this
      clear hH2
      clear hsd hky hBw
      by_cases q1 : M = 0
      · subst q1
        go_wp2
        go_quiet (fail)
        go_wp2
        go_quiet (fail)
        go_wp2
        go_roundg gg
        case measure => omega
        case rel => exact ⟨k + 1, by go_num, by omega, below_drewN hBza _⟩
      by_cases q2 : M = 1
      · subst q2
        go_wp2
        go_quiet (fail)
        go_wp2
        have hBz := below_drewN hBza nq
        have y0 : ((wr.alloc (.cells #[.int .i64 1, .int .u64 sd, .string key] 38)).drewN nq).cell? ⟨wr.heap.size, 0, none⟩ = some (.int .i64 1) := z0
        have y1 : ((wr.alloc (.cells #[.int .i64 1, .int .u64 sd, .string key] 38)).drewN nq).cell? ⟨wr.heap.size, 1, none⟩ = some (.int .u64 sd) := z1
        have y2 : ((wr.alloc (.cells #[.int .i64 1, .int .u64 sd, .string key] 38)).drewN nq).cell? ⟨wr.heap.size, 2, none⟩ = some (.string key) := z2
        generalize (wr.alloc (.cells #[.int .i64 1, .int .u64 sd, .string key] 38)).drewN nq = wz at hBz y0 y1 y2 ⊢
        obtain ⟨za, hza⟩ : ∃ za, wz = za := ⟨_, rfl⟩
        subst hza
        have c12 := fun wq h => q122 wz wq hBz h
        have c13 := fun wq h => q132 wz wq hBz h
        have hz0 : Below wz.heap.size wz wz := Below.refl _ _
        have hz1 : Below wz.heap.size wz wz.drew := (Below.refl _ _).drew
        go_region_held3 (fun w' => Below wz.heap.size wz w' ∧ w'.cell? ⟨wr.heap.size, 0, none⟩ = some (.int .i64 1) ∧ w'.cell? ⟨wr.heap.size, 1, none⟩ = some (.int .u64 sd) ∧ w'.cell? ⟨wr.heap.size, 2, none⟩ = some (.string key))
          (first | with_reducible exact keepS y0 y1 y2 (by with_reducible assumption))
          (first
          | (go_at_call 12; (with_reducible refine (c12 _ (by with_reducible assumption)).mono ?_); rintro e wa ⟨rfl, hba⟩; have hwa := below_next (by with_reducible assumption) hba; obtain ⟨_, xa0, xa1, xa2⟩ := keepS y0 y1 y2 hwa)
          | (go_at_call 13; (with_reducible refine (c13 _ (by with_reducible assumption)).mono ?_); rintro e wb ⟨rfl, hbb⟩; have hwb := below_next (by with_reducible assumption) hbb; obtain ⟨_, xb0, xb1, xb2⟩ := keepS y0 y1 y2 hwb))
        all_goals go_wp2
        all_goals go_roundg gg
        all_goals first | omega | exact ⟨k + 1, by go_num, by omega, below_next hBz (by with_reducible assumption)⟩
      have n0 : (M == (0 : Int)) = false := by simpa using q1
      have n1 : (M == (1 : Int)) = false := by simpa using q2
      go_wp2
      go_quiet (fail)
      go_wp2
      go_quiet (fail)
      go_wp2
      go_roundg gg
      case measure => omega
      case rel => exact ⟨k + 1, by go_num, by omega, below_drewN hBza _⟩
    · have hlt : ¬ (k : Int) < (l3.length : Int) := by omega
      go_wp2
      go_ret
      exact ⟨rfl, below_next belw4 hB⟩
set_option maxHeartbeats 16000000 in
set_option maxRecDepth 100000 in
theorem hashes_00 (w : World) (ao1 ao2 ao3 : Option Addr) (l1 l2 : List Ov) (l3 : List Ask) (c1 b1 o1 c2 b2 o2 c3 b3 o3 : Nat) (hs1 : Sov w ao1 l1 c1 b1 o1) (hs2 : Sov w ao2 l2 c2 b2 o2) (hs3 : Sas w ao3 l3 b3 o3)
    (hw1 : ∀ (j : Nat) (x : Ov), l1[j]? = some x → (Lit.int .u64 x.2).wf = true) (hw2 : ∀ (j : Nat) (x : Ov), l2[j]? = some x → (Lit.int .u64 x.2).wf = true) (hw3 : ∀ (j : Nat) (x : Ask), l3[j]? = some x → ref.In64 x.seed ∧ x.key.size < 9223372036854775807)
    (m1 : l1.length * 24 ≤ 140737488351232) (m2 : l2.length * 24 ≤ 140737488351232) (m3 : l3.length * 32 ≤ 140737488351232) (hn1 : ncode l1 ≠ 0) (hn2 : ncode l2 ≠ 0)
    (g0 : w.cell? ⟨0, 0, none⟩ = some (.int .u64 13234230157428861123)) (g1 : w.cell? ⟨0, 1, none⟩ = some (.int .u64 11329751410908088055)) :
    Calls Tryd.prog 6 #[.slice ao1 l1.length c1, .slice ao2 l2.length c2, .slice ao3 l3.length c3] w fun e w' => e = .returned (.bool true) ∧ Below w.heap.size w w' := by
  obtain ⟨nc1, hnc1⟩ : ∃ nc, ncode l1 = nc := ⟨_, rfl⟩
  obtain ⟨nc2, hnc2⟩ : ∃ nc, ncode l2 = nc := ⟨_, rfl⟩
  go_enter Tryd.func6, Tryd.ntmps6
  go_wp2_with (first
    | (go_at_call 10; (with_reducible refine (handed_bad w ao1 l1 c1 b1 o1 hs1 hw1 m1 hn1).mono ?_); rewrite [hnc1]; rintro e w1 ⟨rfl, hbx⟩; have belw1 : Below w.heap.size w w1 := hbx; have szw1 := hbx)
    | (go_at_call 11; (with_reducible refine (refnew_bad w1 ao1 l1 c1 b1 o1 (hs1.below belw1 (Nat.le_refl _)) (by omega) hn1).mono ?_); rewrite [hnc1]; rintro e w2 ⟨rfl, hbx⟩; have belw2 : Below w.heap.size w w2 := below_next belw1 hbx; have szw2 := hbx)
    | (go_at_call 10; (with_reducible refine (handed_bad w2 ao2 l2 c2 b2 o2 (hs2.below belw2 (Nat.le_refl _)) hw2 m2 hn2).mono ?_); rewrite [hnc2]; rintro e w3 ⟨rfl, hbx⟩; have belw3 : Below w.heap.size w w3 := below_next belw2 hbx; have szw3 := hbx)
    | (go_at_call 11; (with_reducible refine (refnew_bad w3 ao2 l2 c2 b2 o2 (hs2.below belw3 (Nat.le_refl _)) (by omega) hn2).mono ?_); rewrite [hnc2]; rintro e w4 ⟨rfl, hbx⟩; have belw4 : Below w.heap.size w w4 := below_next belw3 hbx; have szw4 := hbx))
  clear szw1 szw2 szw3 szw4 belw1 belw2 belw3
  go_loopg [73] l3.length (fun gg v wr => ∃ k : Nat, v = .int .i64 k ∧ k + gg = l3.length ∧ Below w4.heap.size w4 wr)
  case atStart => exact ⟨0, rfl, by omega, Below.refl _ _⟩
  case round =>
    obtain ⟨k, rfl, hkg, hB⟩ := hrel
    by_cases hk : k < l3.length
    · have hlt : (k : Int) < (l3.length : Int) := by omega
      obtain ⟨gg, rfl⟩ : ∃ g, gk = g + 1 := ⟨gk - 1, by omega⟩
      obtain ⟨x, hx⟩ : ∃ x, l3[k]? = some x := ⟨_, List.getElem?_eq_getElem hk⟩
      have hBw := below_next belw4 hB
      have hS := hs3.below hBw (Nat.le_refl _)
      have e0 := hS.c0 k x hx
      have e1 := hS.c1 k x hx
      have e2 := hS.c2 k x hx
      obtain ⟨hsd, hky⟩ := hw3 k x hx
      have ha : ao3 = some ⟨b3, o3, none⟩ := by rcases hs3.lead with e | e; (subst e; simp at hx); exact e
      subst ha
      clear hx hS
      obtain ⟨M, sd, key⟩ := x
      simp only at e0 e1 e2 hsd hky
      have hBza : Below w4.heap.size w4 (wr.alloc (.cells #[.int .i64 M, .int .u64 sd, .string key] 38)) := hB.alloc hB.size _
      have z0 : (wr.alloc (.cells #[.int .i64 M, .int .u64 sd, .string key] 38)).cell? ⟨wr.heap.size, 0, none⟩ = some (.int .i64 M) := by simp
      have z1 : (wr.alloc (.cells #[.int .i64 M, .int .u64 sd, .string key] 38)).cell? ⟨wr.heap.size, 1, none⟩ = some (.int .u64 sd) := by simp
      have z2 : (wr.alloc (.cells #[.int .i64 M, .int .u64 sd, .string key] 38)).cell? ⟨wr.heap.size, 2, none⟩ = some (.string key) := by simp
      clear hsd hky hBw
      by_cases q1 : M = 0
      · subst q1
        go_wp2
        go_quiet (fail)
        go_wp2
        go_quiet (fail)
        go_wp2
        go_roundg gg
        case measure => omega
        case rel => exact ⟨k + 1, by go_num, by omega, below_drewN hBza _⟩
      by_cases q2 : M = 1
      · subst q2
        go_wp2
        go_quiet (fail)
        go_wp2
        go_quiet (fail)
        go_wp2
        go_roundg gg
        case measure => omega
        case rel => exact ⟨k + 1, by go_num, by omega, below_drewN hBza _⟩
      have n0 : (M == (0 : Int)) = false := by simpa using q1
      have n1 : (M == (1 : Int)) = false := by simpa using q2
      go_wp2
      go_quiet (fail)
      go_wp2
      go_quiet (fail)
      go_wp2
      go_roundg gg
      case measure => omega
      case rel => exact ⟨k + 1, by go_num, by omega, below_drewN hBza _⟩
    · have hlt : ¬ (k : Int) < (l3.length : Int) := by omega
      go_wp2
      go_ret
      exact ⟨rfl, below_next belw4 hB⟩
end Go.Proofs.YtabdkfmfenpkjaaDoor.ov
