/- The list of a program's parts, as it grows. No walk here. -/
import Derived.Test.YthkmdmobeadigaaDoorLc
import Derived.Test.YthkmdmobeadigaaDoorLp
namespace Go.Proofs.YthkmdmobeadigaaDoor.lg
open Go.RowKit
set_option linter.unusedVariables false
/-- A part as it is laid: a statement and an expression, one of them zero. -/
structure Fp where
  s : St
  x : Ex
  is : Bool
  d : Nat
  b : Bool
def zeroS : St := ⟨0, ⟨#[]⟩, ⟨#[]⟩, ⟨#[]⟩, .nil, .nil, .nil⟩
def zeroX : Ex := ⟨0, 0, ⟨#[]⟩, ⟨#[]⟩, .nil⟩
def Fp.ofE (x : Ex) (d : Nat) (b : Bool) : Fp := ⟨zeroS, x, false, d, b⟩
def Fp.ofS (s : St) (d : Nat) (b : Bool) : Fp := ⟨s, zeroX, true, d, b⟩
def Fp.part (f : Fp) : Part := if f.is then .ps f.s f.d f.b else .pe f.x f.d f.b
def Fp.kids (Q : Part → Prop) (f : Fp) : Prop := allE Q f.x.args (f.d + 1) f.b ∧ allE Q f.s.exprs (f.d + 1) f.b ∧ allS Q f.s.body (f.d + 1) (inner f.s.kind f.b) ∧ allS Q f.s.els (f.d + 1) (inner f.s.kind f.b)
/-- How many expressions; statements, and what is in them. -/
def Exs.cnt : Exs → Nat
  | .nil => 0
  | .cons _ _ _ _ a r => 1 + a.cnt + r.cnt
def Sts.cnt : Sts → Nat
  | .nil => 0
  | .cons _ _ _ _ e b f r => 1 + e.cnt + b.cnt + f.cnt + r.cnt
theorem Exs.cnt_wt : ∀ l : Exs, l.cnt ≤ l.wt
  | .nil => Nat.le_refl _
  | .cons k n m o a r => by
    have := Exs.cnt_wt a
    have := Exs.cnt_wt r
    simp only [Exs.cnt, Exs.wt]; omega
theorem Sts.cnt_wt : ∀ l : Sts, l.cnt ≤ l.wt
  | .nil => Nat.le_refl _
  | .cons k n x v e b f r => by
    have := Exs.cnt_wt e
    have := Sts.cnt_wt b
    have := Sts.cnt_wt f
    have := Sts.cnt_wt r
    simp only [Sts.cnt, Sts.wt]; omega
theorem Exs.len_cnt : ∀ l : Exs, l.len ≤ l.cnt
  | .nil => Nat.le_refl _
  | .cons k n m o a r => by
    have := Exs.len_cnt r
    simp only [Exs.cnt, Exs.len]; omega
theorem Sts.len_cnt : ∀ l : Sts, l.len ≤ l.cnt
  | .nil => Nat.le_refl _
  | .cons k n x v e b f r => by
    have := Sts.len_cnt r
    simp only [Sts.cnt, Sts.len]; omega
def Fp.kc (f : Fp) : Nat := f.x.args.cnt + f.s.exprs.cnt + f.s.body.cnt + f.s.els.cnt
def kcs : List Fp → Nat
  | [] => 0
  | f :: r => f.kc + kcs r
theorem kcs_append : ∀ (a b : List Fp), kcs (a ++ b) = kcs a + kcs b
  | [], b => by simp [kcs]
  | f :: a, b => by simp only [List.cons_append, kcs, kcs_append a b]; omega
theorem Exs.cnt_on (x : Ex) (r : Exs) : (x.on r).cnt = 1 + x.args.cnt + r.cnt := rfl
theorem Sts.cnt_on (x : St) (r : Sts) : (x.on r).cnt = 1 + x.exprs.cnt + x.body.cnt + x.els.cnt + r.cnt := rfl
/-- The list L, whose parts from k on have not been opened, and what is still to come (R, so many c), tell of all of s. -/
structure Inv (s : Sts) (L : List Fp) (k : Nat) (R : (Part → Prop) → Prop) (c : Nat) : Prop where
  all : ∀ Q : Part → Prop, ((∀ f ∈ L, Q f.part) ∧ (∀ f ∈ L.drop k, f.kids Q) ∧ R Q) ↔ allS Q s 1 false
  cnt : L.length + kcs (L.drop k) + c = s.cnt
  le : k ≤ L.length
  deep : ∀ (j : Nat) (f : Fp), L[j]? = some f → f.d ≤ j + 1
theorem Inv.start (s : Sts) : Inv s [] 0 (fun Q => allS Q s 1 false) s.cnt := ⟨fun Q => by simp, by simp [kcs], Nat.le_refl _, fun j f h => by simp at h⟩
theorem Inv.push {s : Sts} {L : List Fp} {k : Nat} {R R' : (Part → Prop) → Prop} {c c' : Nat} (h : Inv s L k R c) (f : Fp) (hR : ∀ Q, R Q ↔ (Q f.part ∧ f.kids Q) ∧ R' Q) (hc : c = 1 + f.kc + c') (hd : f.d ≤ L.length + 1) : Inv s (L ++ [f]) k R' c' := by
  have hk := h.le
  have hdr : (L ++ [f]).drop k = L.drop k ++ [f] := by rw [List.drop_append_of_le_length hk]
  refine ⟨fun Q => ?_, ?_, by simp; omega, fun j g hg => ?_⟩
  · rw [← h.all Q, hdr, hR Q]
    simp only [List.mem_append, List.mem_singleton]
    constructor
    · rintro ⟨h1, h2, h3⟩
      exact ⟨fun g hg => h1 g (.inl hg), fun g hg => h2 g (.inl hg), ⟨h1 f (.inr rfl), h2 f (.inr rfl)⟩, h3⟩
    · rintro ⟨h1, h2, ⟨h3, h4⟩, h5⟩
      refine ⟨fun g hg => ?_, fun g hg => ?_, h5⟩
      · rcases hg with hg | rfl
        · exact h1 g hg
        · exact h3
      · rcases hg with hg | rfl
        · exact h2 g hg
        · exact h4
  · have := h.cnt
    rw [hdr, kcs_append, List.length_append]
    simp only [kcs, List.length_cons, List.length_nil]
    omega
  · by_cases hj : j < L.length
    · rw [List.getElem?_append_left hj] at hg
      exact h.deep j g hg
    · rw [List.getElem?_append_right (by omega)] at hg
      have : j - L.length = 0 := by
        rcases Nat.eq_zero_or_pos (j - L.length) with e | e
        · exact e
        · rw [List.getElem?_eq_none (by simp; omega)] at hg; cases hg
      rw [this] at hg
      simp at hg
      subst hg
      omega
theorem Inv.pop {s : Sts} {L : List Fp} {k c : Nat} {R : (Part → Prop) → Prop} {f : Fp} (h : Inv s L k R c) (hf : L[k]? = some f) : Inv s L (k + 1) (fun Q => f.kids Q ∧ R Q) (f.kc + c) := by
  have hlt := (List.getElem?_eq_some_iff.1 hf).1
  have hd : L.drop k = f :: L.drop (k + 1) := by rw [List.drop_eq_getElem_cons hlt, (List.getElem?_eq_some_iff.1 hf).2]
  refine ⟨fun Q => ?_, ?_, by omega, h.deep⟩
  · rw [← h.all Q, hd]
    simp only [List.mem_cons, forall_eq_or_imp]
    constructor
    · rintro ⟨h1, h2, h3, h4⟩; exact ⟨h1, ⟨h3, h2⟩, h4⟩
    · rintro ⟨h1, ⟨h2, h3⟩, h4⟩; exact ⟨h1, h3, h2, h4⟩
  · have := h.cnt
    rw [hd] at this
    simp only [kcs] at this
    omega
theorem Inv.to {s : Sts} {L : List Fp} {k c c' : Nat} {R R' : (Part → Prop) → Prop} (h : Inv s L k R c) (hR : ∀ Q, R Q ↔ R' Q) (hc : c = c') : Inv s L k R' c' := ⟨fun Q => by rw [← h.all Q, hR Q], hc ▸ h.cnt, h.le, h.deep⟩
theorem Inv.len {s : Sts} {L : List Fp} {k c : Nat} {R : (Part → Prop) → Prop} (h : Inv s L k R c) : L.length + c ≤ s.cnt := by have := h.cnt; omega
/-- One more expression; one more statement. -/
theorem Inv.pushE {s : Sts} {L : List Fp} {k c : Nat} {R : (Part → Prop) → Prop} {l : Exs} {i d : Nat} {b : Bool} {y : Ex} (h : Inv s L k (fun Q => allE Q (l.drop i) d b ∧ R Q) ((l.drop i).cnt + c)) (hy : l.get i = some y) (hd : d ≤ L.length + 1) : Inv s (L ++ [Fp.ofE y d b]) k (fun Q => allE Q (l.drop (i + 1)) d b ∧ R Q) ((l.drop (i + 1)).cnt + c) := by
  refine h.push (Fp.ofE y d b) (fun Q => ?_) ?_ hd
  · rw [Exs.drop_get hy, allE_on]
    simp only [Fp.part, Fp.ofE, Fp.kids, Part.kids, zeroS, allE, allS, Bool.false_eq_true, if_false, and_true]
    exact and_assoc
  · rw [Exs.drop_get hy, Exs.cnt_on]
    simp only [Fp.kc, Fp.ofE, zeroS, Exs.cnt, Sts.cnt]
    omega
theorem Inv.pushS {s : Sts} {L : List Fp} {k c : Nat} {R : (Part → Prop) → Prop} {l : Sts} {i d : Nat} {b : Bool} {y : St} (h : Inv s L k (fun Q => allS Q (l.drop i) d b ∧ R Q) ((l.drop i).cnt + c)) (hy : l.get i = some y) (hd : d ≤ L.length + 1) : Inv s (L ++ [Fp.ofS y d b]) k (fun Q => allS Q (l.drop (i + 1)) d b ∧ R Q) ((l.drop (i + 1)).cnt + c) := by
  refine h.push (Fp.ofS y d b) (fun Q => ?_) ?_ hd
  · rw [Sts.drop_get hy, allS_on]
    simp only [Fp.part, Fp.ofS, Fp.kids, Part.kids, zeroX, allE, if_true, true_and]
    exact and_assoc
  · rw [Sts.drop_get hy, Sts.cnt_on]
    simp only [Fp.kc, Fp.ofS, zeroX, Exs.cnt]
    omega
theorem Inv.done {s : Sts} {L : List Fp} {c : Nat} {R : (Part → Prop) → Prop} (h : Inv s L L.length R c) (hR : ∀ Q, R Q) (Q : Part → Prop) : (∀ p ∈ L.map Fp.part, Q p) ↔ allS Q s 1 false := by
  rw [← h.all Q]
  simp [hR Q]
/-- The cells of one part. -/
def Fp.cells (f : Fp) (ve vb vf va : Value) : List Value := [.int .i64 f.s.kind, .string f.s.name, .string f.s.key, .string f.s.val, ve, vb, vf, .int .i64 f.x.kind, .int .i64 f.x.num, .string f.x.name, .string f.x.op, va, .bool f.is, .int .i64 (f.d : Int), .bool f.b]
def FL (P : Nat → Prop) (w : World) (f : Fp) (ve vb vf va : Value) : Prop := HE P w ve f.s.exprs ∧ HS P w vb f.s.body ∧ HS P w vf f.s.els ∧ HE P w va f.x.args
/-- The cells xs hold the parts L. -/
def FC (P : Nat → Prop) (w : World) (xs : List Value) (L : List Fp) : Prop := ∀ (i : Nat) (f : Fp), L[i]? = some f → ∃ ve vb vf va, FL P w f ve vb vf va ∧ ∀ t, t < 15 → xs[i * 15 + t]? = (f.cells ve vb vf va)[t]?
theorem FC.nil (P : Nat → Prop) (w : World) : FC P w [] [] := fun i f h => by simp at h
theorem FC.snoc {P : Nat → Prop} {w : World} {xs : List Value} {L : List Fp} {f : Fp} {ve vb vf va : Value} (h : FC P w xs L) (hl : xs.length = L.length * 15) (hf : FL P w f ve vb vf va) : FC P w (xs ++ f.cells ve vb vf va) (L ++ [f]) := by
  intro i g hg
  by_cases hi : i < L.length
  · rw [List.getElem?_append_left hi] at hg
    obtain ⟨a, b, c, d, h1, h2⟩ := h i g hg
    exact ⟨a, b, c, d, h1, fun t ht => by rw [List.getElem?_append_left (by omega)]; exact h2 t ht⟩
  · have hlt := (List.getElem?_eq_some_iff.1 hg).1
    simp at hlt
    obtain rfl : i = L.length := by omega
    rw [List.getElem?_append_right (Nat.le_refl _), Nat.sub_self] at hg
    simp at hg
    subst hg
    exact ⟨ve, vb, vf, va, hf, fun t ht => by rw [List.getElem?_append_right (by omega), show L.length * 15 + t - xs.length = t by omega]⟩
theorem HE.none (P : Nat → Prop) (w : World) : HE P w (.slice none 0 0) .nil := ⟨_, 0, 0, 0, rfl, ⟨.inl rfl, fun _ => rfl, Nat.le_refl _⟩, trivial⟩
theorem HS.none (P : Nat → Prop) (w : World) : HS P w (.slice none 0 0) .nil := ⟨_, 0, 0, 0, rfl, ⟨.inl rfl, fun _ => rfl, Nat.le_refl _⟩, trivial⟩
theorem FL.ofE {P : Nat → Prop} {w : World} {x : Ex} {d : Nat} {b : Bool} {va : Value} (h : HE P w va x.args) : FL P w (Fp.ofE x d b) (.slice none 0 0) (.slice none 0 0) (.slice none 0 0) va := ⟨HE.none P w, HS.none P w, HS.none P w, h⟩
theorem FL.ofS {P : Nat → Prop} {w : World} {x : St} {d : Nat} {b : Bool} {ve vb vf : Value} (h1 : HE P w ve x.exprs) (h2 : HS P w vb x.body) (h3 : HS P w vf x.els) : FL P w (Fp.ofS x d b) ve vb vf (.slice none 0 0) := ⟨h1, h2, h3, HE.none P w⟩
theorem FL.one {P : Nat → Prop} {w : World} {f : Fp} {ve vb vf va : Value} (h : FL P w f ve vb vf va) : ∀ u ∈ f.cells ve vb vf va, u.oneCell' = true := by
  intro u hu
  simp only [Fp.cells, List.mem_cons, List.not_mem_nil, or_false] at hu
  rcases hu with rfl | rfl | rfl | rfl | rfl | rfl | rfl | rfl | rfl | rfl | rfl | rfl | rfl | rfl | rfl
  all_goals first | rfl | exact h.1.one | exact h.2.1.one | exact h.2.2.1.one | exact h.2.2.2.one
theorem Inv.endE {s : Sts} {L : List Fp} {k c n : Nat} {R : (Part → Prop) → Prop} {l : Exs} {d : Nat} {b : Bool} (h : Inv s L k (fun Q => allE Q (l.drop n) d b ∧ R Q) ((l.drop n).cnt + c)) (hn : l.len = n) : Inv s L k R c := by
  subst hn
  exact h.to (fun Q => by rw [Exs.drop_len]; simp [allE]) (by rw [Exs.drop_len]; simp [Exs.cnt])
theorem Inv.endS {s : Sts} {L : List Fp} {k c n : Nat} {R : (Part → Prop) → Prop} {l : Sts} {d : Nat} {b : Bool} (h : Inv s L k (fun Q => allS Q (l.drop n) d b ∧ R Q) ((l.drop n).cnt + c)) (hn : l.len = n) : Inv s L k R c := by
  subst hn
  exact h.to (fun Q => by rw [Sts.drop_len]; simp [allS]) (by rw [Sts.drop_len]; simp [Sts.cnt])
theorem Inv.begE {s : Sts} {L : List Fp} {k c : Nat} {R : (Part → Prop) → Prop} {l : Exs} {d : Nat} {b : Bool} (h : Inv s L k (fun Q => allE Q l d b ∧ R Q) (l.cnt + c)) : Inv s L k (fun Q => allE Q (l.drop 0) d b ∧ R Q) ((l.drop 0).cnt + c) := by
  have e : l.drop 0 = l := by cases l <;> rfl
  rw [e]; exact h
theorem Inv.begS {s : Sts} {L : List Fp} {k c : Nat} {R : (Part → Prop) → Prop} {l : Sts} {d : Nat} {b : Bool} (h : Inv s L k (fun Q => allS Q l d b ∧ R Q) (l.cnt + c)) : Inv s L k (fun Q => allS Q (l.drop 0) d b ∧ R Q) ((l.drop 0).cnt + c) := by
  have e : l.drop 0 = l := by cases l <;> rfl
  rw [e]; exact h
/-- The parts in memory. -/
structure PJ (W1 : World) (P : Nat → Prop) (v : Value) (L : List Fp) (xs : List Value) (wr : World) : Prop where
  own : OwnA wr W1.heap.size 71 15 v L.length xs
  fc : FC P W1 xs L
  bel : Below W1.heap.size W1 wr
/-- With the box of the part that is being opened. -/
def PB (W1 : World) (P : Nat → Prop) (p : Nat) (bx : Array Value) (v : Value) (L : List Fp) (wr : World) : Prop := ∃ xs, PJ W1 P v L xs wr ∧ wr.heap[p]? = some (.cells bx 71 (0, 0)) ∧ rowOf v ≠ some p ∧ W1.heap.size ≤ p
theorem PJ.below {W1 : World} {P : Nat → Prop} {v : Value} {L : List Fp} {xs : List Value} {wr w2 : World} (h : PJ W1 P v L xs wr) (hb : Below wr.heap.size wr w2) : PJ W1 P v L xs w2 := ⟨h.own.below hb (Nat.le_refl _), h.fc, h.bel.trans (hb.mono h.bel.size)⟩
theorem PJ.box {W1 : World} {P : Nat → Prop} {v : Value} {L : List Fp} {xs : List Value} {wr : World} (h : PJ W1 P v L xs wr) (bx : Array Value) : PB W1 P wr.heap.size bx v L (wr.alloc (.cells bx 71)) :=
  ⟨xs, h.below ((Below.refl _ _).alloc (Nat.le_refl _) _), heap_alloc_new wr _, fun e => by have := (h.own.lt _ e).2; omega, h.bel.size⟩
theorem PB.below {W1 : World} {P : Nat → Prop} {p : Nat} {bx : Array Value} {v : Value} {L : List Fp} {wr w2 : World} (h : PB W1 P p bx v L wr) (hb : Below wr.heap.size wr w2) : PB W1 P p bx v L w2 := by
  obtain ⟨xs, h1, h2, h3, h4⟩ := h
  exact ⟨xs, h1.below hb, (hb.block p (Array.getElem?_eq_some_iff.1 h2).1).trans h2, h3, h4⟩
theorem PJ.app {W1 : World} {P : Nat → Prop} {v v2 : Value} {L : List Fp} {xs : List Value} {wr w4 : World} {f : Fp} {ve vb vf va : Value} (h : PJ W1 P v L xs wr) (hf : FL P W1 f ve vb vf va)
    (ho : OwnA w4 W1.heap.size 71 15 v2 (L.length + 1) (xs ++ f.cells ve vb vf va)) (hg : (wr.alloc (.cells (f.cells ve vb vf va).toArray 71)).grownBy w4 (rowOf v)) : PJ W1 P v2 (L ++ [f]) (xs ++ f.cells ve vb vf va) w4 := by
  have hs := h.bel.size
  exact ⟨by rw [List.length_append]; exact ho, h.fc.snoc h.own.1 hf, Below.grown (h.bel.alloc hs _) hg (by simp; omega) (fun k hk => (h.own.lt k hk).1)⟩
theorem PB.app {W1 : World} {P : Nat → Prop} {p : Nat} {bx : Array Value} {v v2 : Value} {L : List Fp} {xs : List Value} {wr w4 : World} {f : Fp} {ve vb vf va : Value} (h : PJ W1 P v L xs wr) (hp : wr.heap[p]? = some (.cells bx 71 (0, 0))) (hr : rowOf v ≠ some p) (hk : W1.heap.size ≤ p) (hf : FL P W1 f ve vb vf va)
    (ho : OwnA w4 W1.heap.size 71 15 v2 (L.length + 1) (xs ++ f.cells ve vb vf va)) (hg : (wr.alloc (.cells (f.cells ve vb vf va).toArray 71)).grownBy w4 (rowOf v)) (ha : rowOf v2 = rowOf v ∨ rowOf v2 = some (wr.alloc (.cells (f.cells ve vb vf va).toArray 71)).heap.size) : PB W1 P p bx v2 (L ++ [f]) w4 := by
  have hlt := (Array.getElem?_eq_some_iff.1 hp).1
  refine ⟨_, h.app hf ho hg, ?_, ?_, hk⟩
  · exact (hg.block p (by simp; omega) (fun e => hr e.symm)).trans ((((Below.refl wr.heap.size wr).alloc (Nat.le_refl _) (.cells (f.cells ve vb vf va).toArray 71)).block p hlt).trans hp)
  · rcases ha with e | e
    · rw [e]; exact hr
    · rw [e]; intro q; have := Option.some.inj q; simp at this; omega
theorem cells15 {w : World} {p : Nat} {a0 a1 a2 a3 a4 a5 a6 a7 a8 a9 a10 a11 a12 a13 a14 : Value} {t : TypeId} (h : w.heap[p]? = some (.cells #[a0, a1, a2, a3, a4, a5, a6, a7, a8, a9, a10, a11, a12, a13, a14] t (0, 0))) : w.cell? ⟨p, 0, none⟩ = some a0 ∧ w.cell? ⟨p, 4, none⟩ = some a4 ∧ w.cell? ⟨p, 5, none⟩ = some a5 ∧ w.cell? ⟨p, 6, none⟩ = some a6 ∧ w.cell? ⟨p, 11, none⟩ = some a11 ∧ w.cell? ⟨p, 13, none⟩ = some a13 ∧ w.cell? ⟨p, 14, none⟩ = some a14 := by
  refine ⟨?_, ?_, ?_, ?_, ?_, ?_, ?_⟩
  all_goals (unfold World.cell?; rw [h]; rfl)
end Go.Proofs.YthkmdmobeadigaaDoor.lg
