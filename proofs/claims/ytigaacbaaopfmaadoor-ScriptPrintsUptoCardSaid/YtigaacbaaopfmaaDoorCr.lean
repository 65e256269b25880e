/- A script whose lists lie apart: rows of numbers of their own, the commands' cells. No walk here. -/
import Derived.Test.YtigaacbaaopfmaaDoorPv
import Derived.Test.YtigaacbaaopfmaaDoorWm
set_option linter.unusedSimpArgs false
namespace Go.Proofs.YtigaacbaaopfmaaDoor.sh
open Go.RowKit
set_option linter.unusedVariables false
def upd {α : Type} (V : Nat → α) (k : Nat) (v : α) : Nat → α := fun j => if j = k then v else V j
theorem upd_same {α : Type} (V : Nat → α) (k : Nat) (v : α) : upd V k v k = v := by simp [upd]
theorem upd_other {α : Type} (V : Nat → α) {k j : Nat} (v : α) (h : j ≠ k) : upd V k v j = V j := by simp [upd, h]
/-- The first N lists own their rows; no two share one. -/
structure Rws (w : World) (base N : Nat) (V : Nat → Value) (X : Nat → List Int) : Prop where
  own : ∀ k, k < N → OwnA w base 3 1 (V k) (X k).length (iv (X k))
  sep : ∀ k l, k < N → l < N → k ≠ l → rowOf (V k) = none ∨ rowOf (V k) ≠ rowOf (V l)
section
variable {w w' : World} {base N : Nat} {V : Nat → Value} {X : Nat → List Int}
theorem Rws.zero (w : World) (base : Nat) (V : Nat → Value) (X : Nat → List Int) : Rws w base 0 V X := ⟨fun k h => by omega, fun k l h => by omega⟩
theorem Rws.keep (h : Rws w base N V X) (hk : ∀ k g, k < N → rowOf (V k) = some g → w'.heap[g]? = w.heap[g]?) : Rws w' base N V X :=
  ⟨fun k hlt => (h.own k hlt).keep fun g hg => hk k g hlt hg, h.sep⟩
theorem Rws.below {k : Nat} (h : Rws w base N V X) (hb : Below k w w') (hk : w.heap.size ≤ k) : Rws w' base N V X :=
  h.keep fun j g hj hg => hb.block g (by have := ((h.own j hj).lt g hg).2; omega)
/-- A block of another type is written. -/
theorem Rws.set {p i E : Nat} {u : Value} (h : Rws w base N V X) (hp : ∃ cs fr, w.heap[p]? = some (.cells cs E fr)) (hE : E ≠ 3) : Rws (w.setCell ⟨p, i, none⟩ u) base N V X :=
  h.keep fun j g hj hg => heap_setCell_other w ⟨p, i, none⟩ g u (fun e => by
    obtain ⟨c1, f1, h1⟩ := (h.own j hj).type g hg
    obtain ⟨c2, f2, h2⟩ := hp
    rw [e] at h1
    rw [h1] at h2
    simp only [Option.some.injEq, Obj.cells.injEq] at h2
    exact hE h2.2.1.symm)
theorem Rws.mono {b : Nat} (h : Rws w base N V X) (hb : b ≤ base) : Rws w b N V X := ⟨fun k hk => (h.own k hk).mono hb, h.sep⟩
/-- One list more, in a new row. -/
theorem Rws.snoc {v : Value} (h : Rws w base N V X) (hb : Below w.heap.size w w') (ho : OwnA w' base 3 1 v (X N).length (iv (X N))) (hn : rowOf v = none ∨ ∃ g, rowOf v = some g ∧ w.heap.size ≤ g) : Rws w' base (N + 1) (upd V N v) X := by
  have h' := h.below hb (Nat.le_refl _)
  refine ⟨fun k hk => ?_, fun k l hk hl hne => ?_⟩
  · by_cases e : k = N
    · subst e; rw [upd_same]; exact ho
    · rw [upd_other _ _ e]; exact h'.own k (by omega)
  · by_cases e : k = N
    · subst e
      rw [upd_same, upd_other _ _ (Ne.symm hne)]
      rcases hn with hn | ⟨g, hn, hg⟩
      · exact .inl hn
      · right
        intro q
        rw [hn] at q
        have := ((h.own l (by omega)).lt g q.symm).2
        omega
    · rw [upd_other _ _ e]
      by_cases e2 : l = N
      · subst e2
        rw [upd_same]
        cases hv : rowOf (V k) with
        | none => exact .inl rfl
        | some g =>
          right
          intro q
          have := ((h.own k (by omega)).lt g hv).2
          rcases hn with hn | ⟨g2, hn, hg⟩
          · rw [hn] at q; cases q
          · rw [hn] at q
            simp only [Option.some.injEq] at q
            omega
      · rw [upd_other _ _ e2]; exact h'.sep k l (by omega) (by omega) hne
/-- A list is put in place of an old one: in its row or in a new one. -/
theorem Rws.put {k : Nat} {v : Value} {x : List Int} (h : Rws w base N V X) (hk : k < N) (hg : w.grownBy w' (rowOf (V k))) (ho : OwnA w' base 3 1 v x.length (iv x)) (hn : rowOf v = rowOf (V k) ∨ ∃ g, rowOf v = some g ∧ w.heap.size ≤ g) : Rws w' base N (upd V k v) (upd X k x) := by
  refine ⟨fun j hj => ?_, fun i j hi hj hne => ?_⟩
  · by_cases e : j = k
    · subst e; rw [upd_same, upd_same]; exact ho
    · rw [upd_other _ _ e, upd_other _ _ e]
      exact (h.own j hj).kept hg (h.sep j k hj hk e)
  · have far : ∀ j, j < N → j ≠ k → rowOf (V j) = none ∨ rowOf (V j) ≠ rowOf v := fun j hj e => by
      rcases hn with hn | ⟨g, hn, hg2⟩
      · rw [hn]; exact h.sep j k hj hk e
      · cases hv : rowOf (V j) with
        | none => exact .inl rfl
        | some g2 =>
          right
          have := ((h.own j hj).lt g2 hv).2
          rw [hn]
          simp only [ne_eq, Option.some.injEq]
          omega
    by_cases e : i = k
    · subst e
      rw [upd_same, upd_other _ _ (Ne.symm hne)]
      rcases far j hj (Ne.symm hne) with h1 | h1
      · cases hv : rowOf v with
        | none => exact .inl rfl
        | some g => right; rw [h1]; exact fun q => by cases q
      · exact .inr (Ne.symm h1)
    · rw [upd_other _ _ e]
      by_cases e2 : j = k
      · subst e2; rw [upd_same]; exact far i hi e
      · rw [upd_other _ _ e2]; exact h.sep i j hi hj hne
end
/-- The commands' cells, their lists' values by V: of command i number 2 i and 2 i + 1. -/
def CmX (cs : List Value) (cmds : List Cm) (V : Nat → Value) : Prop := cs.length = cmds.length * 9 ∧ ∀ (i : Nat) (c : Cm), cmds[i]? = some c → ∀ t, t < 9 → cs[i * 9 + t]? = (cmC c (V (2 * i)) (V (2 * i + 1)))[t]?
/-- The lists of the commands. -/
def lstX (cmds : List Cm) (k : Nat) : List Int := match cmds[k / 2]? with
  | some c => if k % 2 = 0 then c.fields else c.hs
  | none => []
theorem lstX_f {cmds : List Cm} {i : Nat} {c : Cm} (h : cmds[i]? = some c) : lstX cmds (2 * i) = c.fields := by
  unfold lstX
  rw [show 2 * i / 2 = i by omega, h]
  simp
theorem lstX_h {cmds : List Cm} {i : Nat} {c : Cm} (h : cmds[i]? = some c) : lstX cmds (2 * i + 1) = c.hs := by
  unfold lstX
  rw [show (2 * i + 1) / 2 = i by omega, h]
  simp [show (2 * i + 1) % 2 = 1 by omega]
theorem CmX.setF {cs : List Value} {cmds : List Cm} {V : Nat → Value} {i : Nat} (h : CmX cs cmds V) (hi : i < cmds.length) (v : Value) : CmX (cs.set (i * 9 + 2) v) cmds (upd V (2 * i) v) := by
  refine ⟨by rw [List.length_set]; exact h.1, fun j c hc t ht => ?_⟩
  have hk := h.2 j c hc t ht
  have hl := h.1
  rw [List.getElem?_set]
  by_cases e : j = i
  · subst e
    rw [upd_same, upd_other _ _ (show 2 * j + 1 ≠ 2 * j by omega)]
    by_cases e2 : t = 2
    · subst e2
      simp [cmC]; omega
    · rw [if_neg (by omega), hk]
      match t, ht, e2 with
      | 0, _, _ | 1, _, _ | 3, _, _ | 4, _, _ | 5, _, _ | 6, _, _ | 7, _, _ | 8, _, _ => rfl
  · rw [if_neg (by omega), hk, upd_other _ _ (by omega), upd_other _ _ (by omega)]
theorem CmX.setH {cs : List Value} {cmds : List Cm} {V : Nat → Value} {i : Nat} (h : CmX cs cmds V) (hi : i < cmds.length) (v : Value) : CmX (cs.set (i * 9 + 3) v) cmds (upd V (2 * i + 1) v) := by
  refine ⟨by rw [List.length_set]; exact h.1, fun j c hc t ht => ?_⟩
  have hk := h.2 j c hc t ht
  have hl := h.1
  rw [List.getElem?_set]
  by_cases e : j = i
  · subst e
    rw [upd_same, upd_other _ _ (show 2 * j ≠ 2 * j + 1 by omega)]
    by_cases e2 : t = 3
    · subst e2
      simp [cmC]; omega
    · rw [if_neg (by omega), hk]
      match t, ht, e2 with
      | 0, _, _ | 1, _, _ | 2, _, _ | 4, _, _ | 5, _, _ | 6, _, _ | 7, _, _ | 8, _, _ => rfl
  · rw [if_neg (by omega), hk, upd_other _ _ (by omega), upd_other _ _ (by omega)]
/-- A store into one element of a row. -/
theorem OwnB.store {w : World} {base : Nat} {e : TypeId} {size n : Nat} {xs : List Value} {g o cap : Nat} {cur : Array Value} {fz : Nat × Nat} (h : OwnB w base e size n xs g o cap cur fz) (j : Nat) (hj : j < xs.length) (hx : xs.length ≤ cap * size) (u : Value) : OwnB (w.setCell ⟨g, o + j, none⟩ u) base e size n (xs.set j u) g o cap (cur.setIfInBounds (o + j) u) fz := by
  refine ⟨h.bs, ?_, h.hn, h.hc, by rw [Array.size_setIfInBounds]; exact h.fit, fun k v hv => ?_, h.free⟩
  · have hb := h.blk
    have hfz := fz
    show (w.heap.modify g _)[g]? = _
    rw [Array.getElem?_modify, if_pos rfl, hb]
    rfl
  · rw [List.getElem?_set] at hv
    by_cases e2 : j = k
    · subst e2
      rw [if_pos rfl, if_pos hj] at hv
      rw [Array.getElem?_setIfInBounds_self_of_lt (by have := h.fit; omega)]
      exact hv
    · rw [if_neg e2] at hv
      rw [Array.getElem?_setIfInBounds_ne (by omega)]
      exact h.cells k v hv
theorem OwnB.cell {w : World} {base : Nat} {e : TypeId} {size n : Nat} {xs : List Value} {g o cap : Nat} {cur : Array Value} {fz : Nat × Nat} (h : OwnB w base e size n xs g o cap cur fz) {j : Nat} {u : Value} (hj : xs[j]? = some u) (hx : xs.length ≤ cap * size) : w.cell? ⟨g, o + j, none⟩ = some u ∧ w.frozen? ⟨g, o + j, none⟩ = false := by
  have hlt := (List.getElem?_eq_some_iff.1 hj).1
  refine ⟨by unfold World.cell?; rw [h.blk]; exact h.cells j u hj, ?_⟩
  have := h.free (o + j) (by omega) (by omega)
  obtain ⟨lo, hi⟩ := fz
  simp only [World.frozen?, h.blk, Bool.and_eq_false_iff, decide_eq_false_iff_not]
  simp only at this
  omega
theorem OwnB.keep {w w' : World} {base : Nat} {e : TypeId} {size n : Nat} {xs : List Value} {g o cap : Nat} {cur : Array Value} {fz : Nat × Nat} (h : OwnB w base e size n xs g o cap cur fz) (hk : w'.heap[g]? = w.heap[g]?) : OwnB w' base e size n xs g o cap cur fz :=
  ⟨h.bs, hk.trans h.blk, h.hn, h.hc, h.fit, h.cells, h.free⟩
/-- A script with lists of its own, apart. -/
def ScS (w : World) (base : Nat) (vo vc : Value) (s : Sc) : Prop := ∃ cs V, OwnA w base 34 2 vo s.over.length (ovC s.over) ∧ OwnA w base 37 9 vc s.cmds.length cs ∧ CmX cs s.cmds V ∧ Rws w base (2 * s.cmds.length) V (lstX s.cmds)
theorem ScS.scv {w : World} {base : Nat} {vo vc : Value} {s : Sc} (h : ScS w base vo vc s) : ScV w (.agg #[.int .i64 s.limit, vo, vc]) s := by
  obtain ⟨cs, V, h1, h2, h3, h4⟩ := h
  refine ⟨vo, vc, cs, rfl, h1.sv, h2.sv, fun i c hc => ?_⟩
  have hi := (List.getElem?_eq_some_iff.1 hc).1
  have e1 := (h4.own (2 * i) (by omega)).sv
  have e2 := (h4.own (2 * i + 1) (by omega)).sv
  rw [lstX_f hc] at e1
  rw [lstX_h hc] at e2
  exact ⟨_, _, e1, e2, h3.2 i c hc⟩
theorem grown_none_below {w w' : World} (h : w.grownBy w' none) : Below w.heap.size w w' := (Below.refl _ w).grown h (Nat.le_refl _) (fun k hk => by cases hk)
end Go.Proofs.YtigaacbaaopfmaaDoor.sh
