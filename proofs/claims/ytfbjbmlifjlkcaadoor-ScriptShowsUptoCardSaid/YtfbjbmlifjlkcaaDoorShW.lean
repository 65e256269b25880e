/- ScriptShows' function, walked: whatever the answer, it answers true; nothing that was there turns. -/
import Derived.Test.YtfbjbmlifjlkcaaDoorShR
namespace Go.Proofs.YtfbjbmlifjlkcaaDoor.sh
open Go.RowKit
set_option linter.unusedVariables false
theorem keep7 {za w' : World} {b : Nat} {x0 x1 x2 x3 x4 x5 x6 : Value} (c0 : za.cell? ⟨b, 0, none⟩ = some x0) (c1 : za.cell? ⟨b, 1, none⟩ = some x1) (c2 : za.cell? ⟨b, 2, none⟩ = some x2) (c3 : za.cell? ⟨b, 3, none⟩ = some x3) (c4 : za.cell? ⟨b, 4, none⟩ = some x4) (c5 : za.cell? ⟨b, 5, none⟩ = some x5) (c6 : za.cell? ⟨b, 6, none⟩ = some x6) (h : Below za.heap.size za w') :
    Below za.heap.size za w' ∧ w'.cell? ⟨b, 0, none⟩ = some x0 ∧ w'.cell? ⟨b, 1, none⟩ = some x1 ∧ w'.cell? ⟨b, 2, none⟩ = some x2 ∧ w'.cell? ⟨b, 3, none⟩ = some x3 ∧ w'.cell? ⟨b, 4, none⟩ = some x4 ∧ w'.cell? ⟨b, 5, none⟩ = some x5 ∧ w'.cell? ⟨b, 6, none⟩ = some x6 :=
  ⟨h, cell_below c0 h (Nat.le_refl _), cell_below c1 h (Nat.le_refl _), cell_below c2 h (Nat.le_refl _), cell_below c3 h (Nat.le_refl _), cell_below c4 h (Nat.le_refl _), cell_below c5 h (Nat.le_refl _), cell_below c6 h (Nat.le_refl _)⟩
set_option maxHeartbeats 8000000 in
set_option maxRecDepth 100000 in
theorem law_walk (a : Ans) (w : World) (hb : Base w) (he : In64 a.err) (hn : In64 a.n) (ho : In64 a.off) (hk : a.key.size ≤ 2000000) (hm : a.elem.size ≤ 2000000) : Calls Tryd.prog 3 #[a.v] w fun e w' => e = .returned (.bool true) ∧ Below w.heap.size w w' := by
  obtain ⟨R, hR⟩ : ∃ R, B (showL a) = R := ⟨_, rfl⟩
  have q4 : ∀ wq, Below w.heap.size w wq → Calls Tryd.prog 4 #[a.v] wq fun e w' => e = .returned (.string R) ∧ Below wq.heap.size wq w' := fun wq h => hR ▸ show_walk a wq (hb.below h) he hn ho hk hm
  have q5 : ∀ wq, Below w.heap.size w wq → Calls Tryd.prog 5 #[a.v] wq fun e w' => e = .returned (.string R) ∧ Below wq.heap.size wq w' := fun wq h => hR ▸ ref_walk a wq (hb.below h) he hn ho hk hm
  clear hR he hn ho hk hm
  obtain ⟨op, err, n, off, yes, key, elem⟩ := a
  simp only [Ans.v] at q4 q5 ⊢
  have belz : Below w.heap.size w (w.alloc (.cells #[.int .i64 op, .int .i64 err, .int .i64 n, .int .i64 off, .bool yes, .string key, .string elem] 24)) := (Below.refl _ _).alloc (Nat.le_refl _) _
  obtain ⟨k0, k1, k2, k3, k4, k5, k6⟩ := box_cells (Below.refl (w.alloc (.cells #[.int .i64 op, .int .i64 err, .int .i64 n, .int .i64 off, .bool yes, .string key, .string elem] 24)).heap.size (w.alloc (.cells #[.int .i64 op, .int .i64 err, .int .i64 n, .int .i64 off, .bool yes, .string key, .string elem] 24)))
  go_enter Tryd.func3, Tryd.ntmps3
  go_wp2
  generalize w.alloc (.cells #[.int .i64 op, .int .i64 err, .int .i64 n, .int .i64 off, .bool yes, .string key, .string elem] 24) = wz at belz k0 k1 k2 k3 k4 k5 k6 ⊢
  have hz0 : Below wz.heap.size wz wz := Below.refl _ _
  have hz1 : Below wz.heap.size wz wz.drew := (Below.refl _ _).drew
  have c4 := fun wq (h : Below wz.heap.size wz wq) => q4 wq (below_next belz h)
  have c5 := fun wq (h : Below wz.heap.size wz wq) => q5 wq (below_next belz h)
  clear q4 q5
  go_region_held3 (fun w' => Below wz.heap.size wz w' ∧ w'.cell? ⟨w.heap.size, 0, none⟩ = some (.int .i64 op) ∧ w'.cell? ⟨w.heap.size, 1, none⟩ = some (.int .i64 err) ∧ w'.cell? ⟨w.heap.size, 2, none⟩ = some (.int .i64 n) ∧ w'.cell? ⟨w.heap.size, 3, none⟩ = some (.int .i64 off) ∧ w'.cell? ⟨w.heap.size, 4, none⟩ = some (.bool yes) ∧ w'.cell? ⟨w.heap.size, 5, none⟩ = some (.string key) ∧ w'.cell? ⟨w.heap.size, 6, none⟩ = some (.string elem))
    (first | with_reducible exact keep7 k0 k1 k2 k3 k4 k5 k6 (by with_reducible assumption))
    (first
    | (go_at_call 4; (with_reducible refine (c4 _ (by with_reducible assumption)).mono ?_); rintro e wa ⟨rfl, ba⟩; have ha := below_next (by with_reducible assumption) ba)
    | (go_at_call 5; (with_reducible refine (c5 _ (by with_reducible assumption)).mono ?_); rintro e wb ⟨rfl, bb⟩; have hbb := below_next (by with_reducible assumption) bb))
  all_goals go_wp2
  all_goals go_ret
  all_goals exact ⟨by simp, below_next belz (by with_reducible assumption)⟩
end Go.Proofs.YtfbjbmlifjlkcaaDoor.sh
