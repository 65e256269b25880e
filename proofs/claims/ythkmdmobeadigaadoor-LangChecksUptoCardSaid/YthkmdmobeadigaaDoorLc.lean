/- Cells of lists of expressions and of statements, one behind the other. No walk here. -/
import Derived.Test.YthkmdmobeadigaaDoorLk
namespace Go.Proofs.YthkmdmobeadigaaDoor.lg
open Go.RowKit
set_option linter.unusedVariables false
def Ex.cells (x : Ex) (va : Value) : List Value := [.int .i64 x.kind, .int .i64 x.num, .string x.name, .string x.op, va]
def St.cells (x : St) (ve vb vf : Value) : List Value := [.int .i64 x.kind, .string x.name, .string x.key, .string x.val, ve, vb, vf]
/-- The cells xs hold the list l, whose lists lie in w. -/
def EC (P : Nat → Prop) (w : World) : List Value → Exs → Prop
  | xs, .nil => xs = []
  | xs, .cons k n m p a r => ∃ va ys, xs = Ex.cells ⟨k, n, m, p, a⟩ va ++ ys ∧ HE P w va a ∧ EC P w ys r
def SC (P : Nat → Prop) (w : World) : List Value → Sts → Prop
  | xs, .nil => xs = []
  | xs, .cons k n x v e b f r => ∃ ve vb vf ys, xs = St.cells ⟨k, n, x, v, e, b, f⟩ ve vb vf ++ ys ∧ HE P w ve e ∧ HS P w vb b ∧ HS P w vf f ∧ SC P w ys r
theorem HE.one {P : Nat → Prop} {w : World} {v : Value} {l : Exs} (h : HE P w v l) : v.oneCell' = true := by
  obtain ⟨_, _, _, _, rfl, _⟩ := h; rfl
theorem HS.one {P : Nat → Prop} {w : World} {v : Value} {l : Sts} (h : HS P w v l) : v.oneCell' = true := by
  obtain ⟨_, _, _, _, rfl, _⟩ := h; rfl
theorem EC.len {P : Nat → Prop} {w : World} : ∀ {l : Exs} {xs : List Value}, EC P w xs l → xs.length = l.len * 5
  | .nil, _, h => by simp only [EC] at h; subst h; rfl
  | .cons k n m p a r, _, h => by
    obtain ⟨va, ys, rfl, _, h2⟩ := h
    have := EC.len h2
    simp only [Ex.cells, List.length_append, List.length_cons, List.length_nil, Exs.len]; omega
theorem SC.len {P : Nat → Prop} {w : World} : ∀ {l : Sts} {xs : List Value}, SC P w xs l → xs.length = l.len * 7
  | .nil, _, h => by simp only [SC] at h; subst h; rfl
  | .cons k n x v e b f r, _, h => by
    obtain ⟨ve, vb, vf, ys, rfl, _, _, _, h2⟩ := h
    have := SC.len h2
    simp only [St.cells, List.length_append, List.length_cons, List.length_nil, Sts.len]; omega
theorem Ex.one {P : Nat → Prop} {w : World} {x : Ex} {va : Value} (h : HE P w va x.args) : ∀ u ∈ x.cells va, u.oneCell' = true := by
  intro u hu
  simp only [Ex.cells, List.mem_cons, List.not_mem_nil, or_false] at hu
  rcases hu with rfl | rfl | rfl | rfl | rfl
  all_goals first | rfl | exact h.one
theorem St.one {P : Nat → Prop} {w : World} {x : St} {ve vb vf : Value} (h1 : HE P w ve x.exprs) (h2 : HS P w vb x.body) (h3 : HS P w vf x.els) : ∀ u ∈ x.cells ve vb vf, u.oneCell' = true := by
  intro u hu
  simp only [St.cells, List.mem_cons, List.not_mem_nil, or_false] at hu
  rcases hu with rfl | rfl | rfl | rfl | rfl | rfl | rfl
  all_goals first | rfl | exact h1.one | exact h2.one | exact h3.one
theorem EC.snoc {P : Nat → Prop} {w : World} {va : Value} : ∀ {l : Exs} {i : Nat} {x : Ex} {xs : List Value}, EC P w xs (l.take i) → l.get i = some x → HE P w va x.args → EC P w (xs ++ x.cells va) (l.take (i + 1))
  | .nil, _, _, _, _, h, _ => by cases h
  | .cons k n m p a r, 0, x, xs, h, hx, hv => by
    simp only [Exs.get, Option.some.injEq] at hx
    subst hx
    simp only [Exs.take, EC] at h
    subst h
    exact ⟨va, [], by simp, hv, by cases r <;> rfl⟩
  | .cons k n m p a r, i + 1, x, xs, h, hx, hv => by
    obtain ⟨vb, ys, rfl, h1, h2⟩ := h
    exact ⟨vb, ys ++ x.cells va, by simp [List.append_assoc], h1, EC.snoc (l := r) h2 hx hv⟩
theorem SC.snoc {P : Nat → Prop} {w : World} {ve vb vf : Value} : ∀ {l : Sts} {i : Nat} {x : St} {xs : List Value}, SC P w xs (l.take i) → l.get i = some x → HE P w ve x.exprs → HS P w vb x.body → HS P w vf x.els → SC P w (xs ++ x.cells ve vb vf) (l.take (i + 1))
  | .nil, _, _, _, _, h, _, _, _ => by cases h
  | .cons k n m p a r s q, 0, x, xs, h, hx, h1, h2, h3 => by
    simp only [Sts.get, Option.some.injEq] at hx
    subst hx
    simp only [Sts.take, SC] at h
    subst h
    exact ⟨ve, vb, vf, [], by simp, h1, h2, h3, by cases q <;> rfl⟩
  | .cons k n m p a r s q, i + 1, x, xs, h, hx, h1, h2, h3 => by
    obtain ⟨ue, ub, uf, ys, rfl, g1, g2, g3, g4⟩ := h
    exact ⟨ue, ub, uf, ys ++ x.cells ve vb vf, by simp [List.append_assoc], g1, g2, g3, SC.snoc (l := q) g4 hx h1 h2 h3⟩
theorem EC.to {P P' : Nat → Prop} {w w' : World} (hk : ∀ b, P b → w'.heap[b]? = w.heap[b]?) (hP : ∀ b, P b → P' b) : ∀ {l : Exs} {xs : List Value}, EC P w xs l → EC P' w' xs l
  | .nil, _, h => h
  | .cons k n m p a r, _, ⟨va, ys, h0, h1, h2⟩ => ⟨va, ys, h0, h1.to hk hP, EC.to hk hP h2⟩
theorem SC.to {P P' : Nat → Prop} {w w' : World} (hk : ∀ b, P b → w'.heap[b]? = w.heap[b]?) (hP : ∀ b, P b → P' b) : ∀ {l : Sts} {xs : List Value}, SC P w xs l → SC P' w' xs l
  | .nil, _, h => h
  | .cons k n x v e b f r, _, ⟨ve, vb, vf, ys, h0, h1, h2, h3, h4⟩ => ⟨ve, vb, vf, ys, h0, h1.to hk hP, h2.to hk hP, h3.to hk hP, SC.to hk hP h4⟩
theorem at_off {w : World} {g o k : Nat} {pa pb : List Value} (h : ∀ (j : Nat) (u : Value), (pa ++ pb)[j]? = some u → w.cell? ⟨g, o + j, none⟩ = some u) (hk : pa.length = k) : ∀ (j : Nat) (u : Value), pb[j]? = some u → w.cell? ⟨g, o + k + j, none⟩ = some u := by
  intro j u hu
  rw [Nat.add_assoc]
  refine h (k + j) u ?_
  rw [List.getElem?_append_right (by omega), hk, Nat.add_sub_cancel_left]
  exact hu
/-- Cells that lie there hold the list. -/
theorem EC.lies {P : Nat → Prop} {w : World} {g : Nat} (hg : P g) : ∀ {l : Exs} {o : Nat} {xs : List Value}, EC P w xs l → (∀ (j : Nat) (u : Value), xs[j]? = some u → w.cell? ⟨g, o + j, none⟩ = some u) → LEs P w g o l
  | .nil, _, _, _, _ => trivial
  | .cons k n m p a r, o, _, h, hc => by
    obtain ⟨va, ys, rfl, ⟨ao, c, b', o', rfl, h2, h3⟩, h4⟩ := h
    exact ⟨hg, ⟨hc 0 _ rfl, hc 1 _ rfl, hc 2 _ rfl, hc 3 _ rfl⟩, ⟨ao, c, b', o', hc 4 _ rfl, h2, h3⟩, EC.lies hg h4 (at_off hc rfl)⟩
theorem SC.lies {P : Nat → Prop} {w : World} {g : Nat} (hg : P g) : ∀ {l : Sts} {o : Nat} {xs : List Value}, SC P w xs l → (∀ (j : Nat) (u : Value), xs[j]? = some u → w.cell? ⟨g, o + j, none⟩ = some u) → LSs P w g o l
  | .nil, _, _, _, _ => trivial
  | .cons k n x v e b f r, o, _, h, hc => by
    obtain ⟨ve, vb, vf, ys, rfl, ⟨ao, c, b', o', rfl, h2, h3⟩, ⟨ao2, c2, b2, o2, rfl, i2, i3⟩, ⟨ao3, c3, b3, o3, rfl, j2, j3⟩, h4⟩ := h
    exact ⟨hg, ⟨hc 0 _ rfl, hc 1 _ rfl, hc 2 _ rfl, hc 3 _ rfl⟩, ⟨ao, c, b', o', hc 4 _ rfl, h2, h3⟩, ⟨ao2, c2, b2, o2, hc 5 _ rfl, i2, i3⟩, ⟨ao3, c3, b3, o3, hc 6 _ rfl, j2, j3⟩, SC.lies hg h4 (at_off hc rfl)⟩
end Go.Proofs.YthkmdmobeadigaaDoor.lg
