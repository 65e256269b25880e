/- The marks behind a copy's lists: are they all there? Walked. -/
import Derived.Test.YthkmdmobeadigaaDoorXc
namespace Go.Proofs.YthkmdmobeadigaaDoor.lg
open Go.RowKit
set_option linter.unusedVariables false
set_option linter.unusedSimpArgs false
theorem row_at {w : World} {base E n : Nat} {v : Value} {px : List Value} (h : OwnA w base E 1 v n px) : ∃ ao c g o, v = .slice ao n c ∧ (n = 0 ∨ ao = some ⟨g, o, none⟩) ∧ n ≤ c ∧ px.length = n ∧ ∀ (j : Nat) (u : Value), px[j]? = some u → w.cell? ⟨g, o + j, none⟩ = some u := by
  obtain ⟨ao, c, g, o, e, hs⟩ := h.sv
  exact ⟨ao, c, g, o, e, hs.lead, hs.cap, by have := hs.len; omega, hs.cells⟩
set_option maxHeartbeats 4000000 in
set_option maxRecDepth 100000 in
theorem kept_walk (w : World) (G : Nat → Prop) (base kb N : Nat) (h : KO G w base kb N) (hN : N ≤ 20000000) : Calls Tryd.prog 12 #[.pointer (some ⟨kb, 0, none⟩)] w (IsB true w) := by
  obtain ⟨v1, n1, p1, k1, o1, m1, q1⟩ := h.x
  obtain ⟨v2, n2, p2, k2, o2, m2, q2⟩ := h.s
  obtain ⟨v3, n3, p3, k3, o3, m3, q3⟩ := h.m
  obtain ⟨a1, c1, g1, b1, rfl, l1, e1, s1, r1⟩ := row_at o1
  obtain ⟨a2, c2, g2, b2, rfl, l2, e2, s2, r2⟩ := row_at o2
  obtain ⟨a3, c3, g3, b3, rfl, l3, e3, s3, r3⟩ := row_at o3
  have H1 : Aside0 ((n1 = 0 ∨ a1 = some ⟨g1, b1, none⟩) ∧ p1.length = n1 ∧ (∀ (j : Nat) (u : Value), p1[j]? = some u → w.cell? ⟨g1, b1 + j, none⟩ = some u) ∧ ∀ u ∈ p1, Mark G 45 (.int .i64 (-99)) w u) := ⟨l1, s1, r1, m1⟩
  have H2 : Aside0 ((n2 = 0 ∨ a2 = some ⟨g2, b2, none⟩) ∧ p2.length = n2 ∧ (∀ (j : Nat) (u : Value), p2[j]? = some u → w.cell? ⟨g2, b2 + j, none⟩ = some u) ∧ ∀ u ∈ p2, Mark G 52 (.int .i64 (-99)) w u) := ⟨l2, s2, r2, m2⟩
  have H3 : Aside0 ((n3 = 0 ∨ a3 = some ⟨g3, b3, none⟩) ∧ p3.length = n3 ∧ (∀ (j : Nat) (u : Value), p3[j]? = some u → w.cell? ⟨g3, b3 + j, none⟩ = some u) ∧ ∀ u ∈ p3, Mark G 9 (.string ⟨#[98, 101, 104, 105, 110, 100]⟩) w u) := ⟨l3, s3, r3, m3⟩
  have hn1 : n1 ≤ 20000000 := by omega
  have hn2 : n2 ≤ 20000000 := by omega
  have hn3 : n3 ≤ 20000000 := by omega
  clear l1 l2 l3 s1 s2 s3 r1 r2 r3 m1 m2 m3 o1 o2 o3 e1 e2 e3 q1 q2 q3 h hN
  go_enter Tryd.func12, Tryd.ntmps12
  go_wp2
  go_loopg [14] n1 (fun g v wr => w = wr ∧ ∃ i : Nat, v = .int .i64 i ∧ i + g = n1)
  case atStart => exact ⟨rfl, 0, rfl, by omega⟩
  case round =>
    obtain ⟨rfl, i, rfl, hig⟩ := hrel
    by_cases hi : i < n1
    · have hlt : (i : Int) < (n1 : Int) := by omega
      obtain ⟨q, rfl⟩ : ∃ q, gk = q + 1 := ⟨gk - 1, by omega⟩
      obtain ⟨u, hu⟩ : ∃ u, p1[i]? = some u := ⟨_, List.getElem?_eq_getElem (by rw [H1.out.2.1]; exact hi)⟩
      have hc := H1.out.2.2.1 i u hu
      obtain ⟨gu, ou, rfl, -, -, hcu⟩ := H1.out.2.2.2 u (List.mem_of_getElem? hu)
      have ha : a1 = some ⟨g1, b1, none⟩ := by rcases H1.out.1 with e | e; (omega); exact e
      subst ha
      clear hu
      go_wp2
      go_roundg q
      case measure => omega
      case rel => exact ⟨rfl, i + 1, by go_num, by omega⟩
    · obtain rfl : i = n1 := by omega
      have hlt : ¬ (i : Int) < (i : Int) := by omega
      go_wp2
      go_loopg [29] n2 (fun g v wr => w = wr ∧ ∃ i : Nat, v = .int .i64 i ∧ i + g = n2)
      case atStart => exact ⟨rfl, 0, rfl, by omega⟩
      case round =>
        obtain ⟨rfl, i, rfl, hig⟩ := hrel
        by_cases hi : i < n2
        · have hlt : (i : Int) < (n2 : Int) := by omega
          obtain ⟨q, rfl⟩ : ∃ q, gk = q + 1 := ⟨gk - 1, by omega⟩
          obtain ⟨u, hu⟩ : ∃ u, p2[i]? = some u := ⟨_, List.getElem?_eq_getElem (by rw [H2.out.2.1]; exact hi)⟩
          have hc := H2.out.2.2.1 i u hu
          obtain ⟨gu, ou, rfl, -, -, hcu⟩ := H2.out.2.2.2 u (List.mem_of_getElem? hu)
          have ha : a2 = some ⟨g2, b2, none⟩ := by rcases H2.out.1 with e | e; (omega); exact e
          subst ha
          clear hu
          go_wp2
          go_roundg q
          case measure => omega
          case rel => exact ⟨rfl, i + 1, by go_num, by omega⟩
        · obtain rfl : i = n2 := by omega
          have hlt : ¬ (i : Int) < (i : Int) := by omega
          go_wp2
          go_loopg [44] n3 (fun g v wr => w = wr ∧ ∃ i : Nat, v = .int .i64 i ∧ i + g = n3)
          case atStart => exact ⟨rfl, 0, rfl, by omega⟩
          case round =>
            obtain ⟨rfl, i, rfl, hig⟩ := hrel
            by_cases hi : i < n3
            · have hlt : (i : Int) < (n3 : Int) := by omega
              obtain ⟨q, rfl⟩ : ∃ q, gk = q + 1 := ⟨gk - 1, by omega⟩
              obtain ⟨u, hu⟩ : ∃ u, p3[i]? = some u := ⟨_, List.getElem?_eq_getElem (by rw [H3.out.2.1]; exact hi)⟩
              have hc := H3.out.2.2.1 i u hu
              obtain ⟨gu, ou, rfl, -, -, hcu⟩ := H3.out.2.2.2 u (List.mem_of_getElem? hu)
              have ha : a3 = some ⟨g3, b3, none⟩ := by rcases H3.out.1 with e | e; (omega); exact e
              subst ha
              clear hu
              go_wp2
              go_roundg q
              case measure => omega
              case rel => exact ⟨rfl, i + 1, by go_num, by omega⟩
            · obtain rfl : i = n3 := by omega
              have hlt : ¬ (i : Int) < (i : Int) := by omega
              go_wp2
              go_ret
              exact ⟨rfl, rfl⟩
end Go.Proofs.YthkmdmobeadigaaDoor.lg
