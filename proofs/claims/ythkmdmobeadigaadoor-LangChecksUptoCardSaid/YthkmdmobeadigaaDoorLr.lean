/- The list of parts as it is read. No walk here. -/
import Derived.Test.YthkmdmobeadigaaDoorLq
namespace Go.Proofs.YthkmdmobeadigaaDoor.lg
open Go.RowKit
set_option linter.unusedVariables false
set_option linter.unusedSimpArgs false
def Part.wt : Part → Nat
  | .pe x _ _ => x.wt
  | .ps x _ _ => x.wt
theorem allE_wt (n : Nat) : ∀ (l : Exs) (d : Nat) (b : Bool), l.wt ≤ n → allE (fun p => p.wt ≤ n) l d b
  | .nil, _, _, _ => trivial
  | .cons k u m o a r, d, b, h => by
    simp only [Exs.wt] at h
    exact ⟨⟨by show Ex.wt _ ≤ n; unfold Ex.wt; simp only; omega, allE_wt n a _ _ (by omega)⟩, allE_wt n r _ _ (by omega)⟩
theorem allS_wt (n : Nat) : ∀ (l : Sts) (d : Nat) (b : Bool), l.wt ≤ n → allS (fun p => p.wt ≤ n) l d b
  | .nil, _, _, _ => trivial
  | .cons k u x v e s f r, d, b, h => by
    simp only [Sts.wt] at h
    exact ⟨⟨by show St.wt _ ≤ n; unfold St.wt; simp only; omega, allE_wt n e _ _ (by omega), allS_wt n s _ _ (by omega), allS_wt n f _ _ (by omega)⟩, allS_wt n r _ _ (by omega)⟩
/-- v holds the parts L. -/
def PL (w : World) (v : Value) (L : List Fp) : Prop := ∃ xs, SV w 15 v L.length xs ∧ FC (fun _ => True) w xs L
theorem FC.below {w w' : World} {xs : List Value} {L : List Fp} {k : Nat} (h : FC (fun _ => True) w xs L) (hb : Below k w w') (hk : w.heap.size ≤ k) : FC (fun _ => True) w' xs L := fun i f hf => by
  obtain ⟨ve, vb, vf, va, ⟨h1, h2, h3, h4⟩, h5⟩ := h i f hf
  exact ⟨ve, vb, vf, va, ⟨h1.below hb hk, h2.below hb hk, h3.below hb hk, h4.below hb hk⟩, h5⟩
theorem PL.below {w w' : World} {v : Value} {L : List Fp} {k : Nat} (h : PL w v L) (hb : Below k w w') (hk : w.heap.size ≤ k) : PL w' v L := by
  obtain ⟨xs, h1, h2⟩ := h
  exact ⟨xs, h1.below hb hk, h2.below hb hk⟩
/-- One part, cell by cell. -/
def FAt (w : World) (g o : Nat) (f : Fp) : Prop := ∃ a1 c1 a2 c2 a3 c3 a4 c4,
  (w.cell? ⟨g, o, none⟩ = some (.int .i64 f.s.kind) ∧ w.cell? ⟨g, o + 1, none⟩ = some (.string f.s.name) ∧ w.cell? ⟨g, o + 2, none⟩ = some (.string f.s.key) ∧ w.cell? ⟨g, o + 3, none⟩ = some (.string f.s.val) ∧
   w.cell? ⟨g, o + 4, none⟩ = some (.slice a1 f.s.exprs.len c1) ∧ w.cell? ⟨g, o + 5, none⟩ = some (.slice a2 f.s.body.len c2) ∧ w.cell? ⟨g, o + 6, none⟩ = some (.slice a3 f.s.els.len c3)) ∧
  (w.cell? ⟨g, o + 7, none⟩ = some (.int .i64 f.x.kind) ∧ w.cell? ⟨g, o + 8, none⟩ = some (.int .i64 f.x.num) ∧ w.cell? ⟨g, o + 9, none⟩ = some (.string f.x.name) ∧ w.cell? ⟨g, o + 10, none⟩ = some (.string f.x.op) ∧ w.cell? ⟨g, o + 11, none⟩ = some (.slice a4 f.x.args.len c4)) ∧
  (w.cell? ⟨g, o + 12, none⟩ = some (.bool f.is) ∧ w.cell? ⟨g, o + 13, none⟩ = some (.int .i64 (f.d : Int)) ∧ w.cell? ⟨g, o + 14, none⟩ = some (.bool f.b))
/-- The parts: where they lie. -/
theorem PL.at {w : World} {v : Value} {L : List Fp} (h : PL w v L) : ∃ ao c g o, v = .slice ao L.length c ∧ L.length ≤ c ∧ (L.length = 0 ∨ ao = some ⟨g, o, none⟩) ∧ ∀ (i : Nat) (f : Fp), L[i]? = some f → FAt w g (o + i * 15) f := by
  obtain ⟨xs, ⟨ao, c, g, o, rfl, h1⟩, h2⟩ := h
  refine ⟨ao, c, g, o, rfl, h1.cap, h1.lead, fun i f hf => ?_⟩
  obtain ⟨ve, vb, vf, va, ⟨k1, k2, k3, k4⟩, h5⟩ := h2 i f hf
  obtain ⟨s1, r1, b1, o1, rfl, d1, l1⟩ := k1
  obtain ⟨s2, r2, b2, o2, rfl, d2, l2⟩ := k2
  obtain ⟨s3, r3, b3, o3, rfl, d3, l3⟩ := k3
  obtain ⟨s4, r4, b4, o4, rfl, d4, l4⟩ := k4
  have hx : ∀ t u, t < 15 → (Fp.cells f (.slice s1 f.s.exprs.len r1) (.slice s2 f.s.body.len r2) (.slice s3 f.s.els.len r3) (.slice s4 f.x.args.len r4))[t]? = some u → w.cell? ⟨g, o + i * 15 + t, none⟩ = some u := fun t u ht hu => by
    rw [Nat.add_assoc]
    exact h1.cells _ _ ((h5 t ht).trans hu)
  exact ⟨s1, r1, s2, r2, s3, r3, s4, r4, ⟨hx 0 _ (by decide) rfl, hx 1 _ (by decide) rfl, hx 2 _ (by decide) rfl, hx 3 _ (by decide) rfl, hx 4 _ (by decide) rfl, hx 5 _ (by decide) rfl, hx 6 _ (by decide) rfl⟩, ⟨hx 7 _ (by decide) rfl, hx 8 _ (by decide) rfl, hx 9 _ (by decide) rfl, hx 10 _ (by decide) rfl, hx 11 _ (by decide) rfl⟩, hx 12 _ (by decide) rfl, hx 13 _ (by decide) rfl, hx 14 _ (by decide) rfl⟩
end Go.Proofs.YthkmdmobeadigaaDoor.lg
