/- A list that a copy grows, its box beside it: what stays, step by step. No walk here. -/
import Derived.Test.YthkmdmobeadigaaDoorLc
namespace Go.Proofs.YthkmdmobeadigaaDoor.lg
open Go.RowKit
set_option linter.unusedVariables false
/-- A word about blocks of P stays where these stay. -/
def Stays (K : (Nat → Prop) → World → Prop) : Prop := ∀ (P P' : Nat → Prop) (w w' : World), (∀ b, P b → w'.heap[b]? = w.heap[b]?) → (∀ b, P b → P' b) → K P w → K P' w'
theorem stays_EC (xs : List Value) (l : Exs) : Stays (fun P w => EC P w xs l) := fun P P' w w' h1 h2 h => h.to h1 h2
theorem stays_SC (xs : List Value) (l : Sts) : Stays (fun P w => SC P w xs l) := fun P P' w w' h1 h2 h => h.to h1 h2
theorem stays_HE (v : Value) (l : Exs) : Stays (fun P w => HE P w v l) := fun P P' w w' h1 h2 h => h.to h1 h2
theorem stays_HS (v : Value) (l : Sts) : Stays (fun P w => HS P w v l) := fun P P' w w' h1 h2 h => h.to h1 h2
theorem Stays.and {K K' : (Nat → Prop) → World → Prop} (h : Stays K) (h' : Stays K') : Stays (fun P w => K P w ∧ K' P w) := fun P P' w w' h1 h2 ⟨a, b⟩ => ⟨h P P' w w' h1 h2 a, h' P P' w w' h1 h2 b⟩
/-- Between two rounds: the list vo grows; K tells of its cells. -/
structure TJ (K : (Nat → Prop) → World → Prop) (T sz base kb N : Nat) (G : Nat → Prop) (vo : Value) (n : Nat) (xs : List Value) (w w' : World) : Prop where
  own : OwnA w' w.heap.size T sz vo n xs
  kept : K (fun b => w.heap.size ≤ b ∧ Dt w' b ∧ rowOf vo ≠ some b) w'
  ko : KO (fun b => G b ∧ rowOf vo ≠ some b) w' base kb N
  chg : Chg w w'
  bel : Below base w w'
  bs : base ≤ w.heap.size
/-- Within a round: the box lies in block p. -/
structure BJ (K : (Nat → Prop) → World → Prop) (T sz p base kb N : Nat) (G : Nat → Prop) (vo : Value) (n : Nat) (xs : List Value) (w w' : World) (bx : Array Value) : Prop where
  own : OwnA w' w.heap.size T sz vo n xs
  kept : K (fun b => w.heap.size ≤ b ∧ Dt w' b ∧ rowOf vo ≠ some b ∧ b ≠ p) w'
  ko : KO (fun b => G b ∧ rowOf vo ≠ some b ∧ b ≠ p) w' base kb N
  box : w'.heap[p]? = some (.cells bx T (0, 0))
  chg : Chg w w'
  bel : Below base w w'
  bs : base ≤ w.heap.size
  sp : w.heap.size ≤ p
  row : rowOf vo ≠ some p
theorem Dt.of {w : World} {b T : Nat} (h : Typ w b T) (hT : T = 45 ∨ T = 52) : Dt w b := by
  rcases hT with rfl | rfl
  · exact .inl h
  · exact .inr (.inl h)
section
variable {K : (Nat → Prop) → World → Prop} {T sz p base kb N : Nat} {G : Nat → Prop} {vo : Value} {n : Nat} {xs : List Value} {w w' : World} {bx : Array Value}
theorem Dt.below {w w' : World} {b : Nat} (h : Dt w b) (k : Below w.heap.size w w') : Dt w' b := h.keep (k.block b h.lt)
theorem TJ.box (h : TJ K T sz base kb N G vo n xs w w') (hK : Stays K) (bx : Array Value) : BJ K T sz w'.heap.size base kb N G vo n xs w (w'.alloc (.cells bx T)) bx := by
  have hB : Below w'.heap.size w' (w'.alloc (.cells bx T)) := (Below.refl _ _).alloc (Nat.le_refl _) _
  have hsz := h.bel.size
  refine ⟨h.own.alloc _, hK _ _ _ _ (fun b hb => hB.block b hb.2.1.lt) (fun b hb => ⟨hb.1, hb.2.1.below hB, hb.2.2, Nat.ne_of_lt hb.2.1.lt⟩) h.kept, (h.ko.to (fun b hb hlt => ⟨hb.1, hb.2, Nat.ne_of_lt hlt⟩)).below hB, heap_alloc_new w' _, h.chg.below hB, h.bel.alloc (by have := h.bs; omega) _, h.bs, hsz, fun e => ?_⟩
  have := (h.own.lt _ e).2
  omega
theorem BJ.call {N' : Nat} {w2 : World} (h : BJ K T sz p base kb N G vo n xs w w' bx) (hK : Stays K) (hT : T = 45 ∨ T = 52) (hc : Chg w' w2) (hb : Below base w' w2) (hk : KO (fun b => G b ∧ rowOf vo ≠ some b ∧ b ≠ p) w2 base kb N') : BJ K T sz p base kb N' G vo n xs w w2 bx :=
  ⟨h.own.keep (fun g hg => hc g (Dt.of (h.own.type g hg) hT)), hK _ _ _ _ (fun b hb => hc b hb.2.1) (fun b hb => ⟨hb.1, hb.2.1.keep (hc b hb.2.1), hb.2.2⟩) h.kept, hk, (hc p (Dt.of ⟨_, _, h.box⟩ hT)).trans h.box, h.chg.trans hc, h.bel.trans hb, h.bs, h.sp, h.row⟩
theorem BJ.set (h : BJ K T sz p base kb N G vo n xs w w' bx) (hK : Stays K) (hT : T = 45 ∨ T = 52) (i : Nat) (u : Value) : BJ K T sz p base kb N G vo n xs w (w'.setCell ⟨p, i, none⟩ u) (bx.setIfInBounds i u) := by
  have ho := fun b (hne : b ≠ p) => heap_setCell_other w' ⟨p, i, none⟩ b u hne
  refine ⟨h.own.set h.row, hK _ _ _ _ (fun b hb => ho b hb.2.2.2) (fun b hb => ⟨hb.1, hb.2.1.keep (ho b hb.2.2.2), hb.2.2⟩) h.kept, ?_, heap_setCell_same w' p i bx T u h.box, fun b hb => ?_, below_set h.bel (by have := h.bs; have := h.sp; omega) u, h.bs, h.sp, h.row⟩
  · exact h.ko.but (E := T) (But.of_set w' p i u) (fun q hq => by cases hq; exact ⟨_, _, h.box⟩) (by rcases hT with e | e <;> simp [e]) (fun q hq hG => by cases hq; exact hG.2.2 rfl) (fun b hb _ => hb)
  · exact (ho b (by have := hb.lt; have := h.sp; omega)).trans (h.chg b hb)
theorem BJ.app {w4 : World} {v2 : Value} {news : List Value} (h : BJ K T sz p base kb N G vo n xs w w' bx) (hK : Stays K) (hT : T = 45 ∨ T = 52)
    (ho : OwnA w4 w.heap.size T sz v2 (n + 1) (xs ++ news)) (hg : (w'.alloc (.cells news.toArray T)).grownBy w4 (rowOf vo)) (hr : rowOf v2 = rowOf vo ∨ rowOf v2 = some (w'.alloc (.cells news.toArray T)).heap.size) : TJ K T sz base kb N G v2 (n + 1) (xs ++ news) w w4 := by
  have hB : Below w'.heap.size w' (w'.alloc (.cells news.toArray T)) := (Below.refl _ _).alloc (Nat.le_refl _) _
  have hsz := h.bel.size
  have hbs := h.bs
  have hold : ∀ b, b < w'.heap.size → rowOf vo ≠ some b → w4.heap[b]? = w'.heap[b]? := fun b hb hne => (hg.block b (by have := hB.size; omega) (fun e => hne e.symm)).trans (hB.block b hb)
  have hne2 : ∀ b, b < w'.heap.size → rowOf vo ≠ some b → rowOf v2 ≠ some b := fun b hb hne => by
    rcases hr with e | e
    · rw [e]; exact hne
    · rw [e]; intro q; have := Option.some.inj q; have := hB.size; omega
  refine ⟨ho, hK _ _ _ _ (fun b hb => hold b hb.2.1.lt hb.2.2.1) (fun b hb => ⟨hb.1, hb.2.1.keep (hold b hb.2.1.lt hb.2.2.1), hne2 b hb.2.1.lt hb.2.2.1⟩) h.kept, ?_, fun b hb => ?_, ?_, hbs⟩
  · have h1 := (h.ko.to (G' := fun b => (G b ∧ rowOf vo ≠ some b) ∧ b < w'.heap.size) (fun b hb hlt => ⟨⟨hb.1, hb.2.1⟩, hlt⟩)).below hB
    exact h1.but (E := T) (But.of_grown hg) (fun q hq => ((h.own.alloc _).type q hq)) (by rcases hT with e | e <;> simp [e]) (fun q hq hG => hG.1.2 hq) (fun b hb _ => ⟨hb.1.1, hne2 b hb.2 hb.1.2⟩)
  · have hlt := hb.lt
    exact (hold b (by omega) (fun e => by have := (h.own.lt b e).1; omega)).trans (h.chg b hb)
  · exact Below.grown (h.bel.alloc (by omega) _) hg (by have := hB.size; omega) (fun k hk => by have := (h.own.lt k hk).1; omega)
theorem TJ.app {w4 : World} {v2 : Value} {news : List Value} (h : TJ K T sz base kb N G vo n xs w w') (hK : Stays K) (hT : T = 45 ∨ T = 52)
    (ho : OwnA w4 w.heap.size T sz v2 (n + 1) (xs ++ news)) (hg : (w'.alloc (.cells news.toArray T)).grownBy w4 (rowOf vo)) (hr : rowOf v2 = rowOf vo ∨ rowOf v2 = some (w'.alloc (.cells news.toArray T)).heap.size) : TJ K T sz base kb N G v2 (n + 1) (xs ++ news) w w4 := by
  have hB : Below w'.heap.size w' (w'.alloc (.cells news.toArray T)) := (Below.refl _ _).alloc (Nat.le_refl _) _
  have hsz := h.bel.size
  have hbs := h.bs
  have hold : ∀ b, b < w'.heap.size → rowOf vo ≠ some b → w4.heap[b]? = w'.heap[b]? := fun b hb hne => (hg.block b (by have := hB.size; omega) (fun e => hne e.symm)).trans (hB.block b hb)
  have hne2 : ∀ b, b < w'.heap.size → rowOf vo ≠ some b → rowOf v2 ≠ some b := fun b hb hne => by
    rcases hr with e | e
    · rw [e]; exact hne
    · rw [e]; intro q; have := Option.some.inj q; have := hB.size; omega
  refine ⟨ho, hK _ _ _ _ (fun b hb => hold b hb.2.1.lt hb.2.2) (fun b hb => ⟨hb.1, hb.2.1.keep (hold b hb.2.1.lt hb.2.2), hne2 b hb.2.1.lt hb.2.2⟩) h.kept, ?_, fun b hb => ?_, ?_, hbs⟩
  · have h1 := (h.ko.to (G' := fun b => (G b ∧ rowOf vo ≠ some b) ∧ b < w'.heap.size) (fun b hb hlt => ⟨hb, hlt⟩)).below hB
    exact h1.but (E := T) (But.of_grown hg) (fun q hq => ((h.own.alloc _).type q hq)) (by rcases hT with e | e <;> simp [e]) (fun q hq hG => hG.1.2 hq) (fun b hb _ => ⟨hb.1.1, hne2 b hb.2 hb.1.2⟩)
  · have hlt := hb.lt
    exact (hold b (by omega) (fun e => by have := (h.own.lt b e).1; omega)).trans (h.chg b hb)
  · exact Below.grown (h.bel.alloc (by omega) _) hg (by have := hB.size; omega) (fun k hk => by have := (h.own.lt k hk).1; omega)
theorem TJ.imp {K' : (Nat → Prop) → World → Prop} (h : TJ K T sz base kb N G vo n xs w w') (hi : ∀ P w, K P w → K' P w) : TJ K' T sz base kb N G vo n xs w w' := ⟨h.own, hi _ _ h.kept, h.ko, h.chg, h.bel, h.bs⟩
theorem BJ.and {K' : (Nat → Prop) → World → Prop} (h : BJ K T sz p base kb N G vo n xs w w' bx) (hk : K' (fun b => w.heap.size ≤ b ∧ Dt w' b ∧ rowOf vo ≠ some b ∧ b ≠ p) w') : BJ (fun P w => K P w ∧ K' P w) T sz p base kb N G vo n xs w w' bx := ⟨h.own, ⟨h.kept, hk⟩, h.ko, h.box, h.chg, h.bel, h.bs, h.sp, h.row⟩
/-- A block that the call has made is none of the own ones. -/
theorem BJ.fresh {w2 : World} (h : BJ K T sz p base kb N G vo n xs w w' bx) {b : Nat} (hb : w'.heap.size ≤ b) (hd : Dt w2 b) : w.heap.size ≤ b ∧ Dt w2 b ∧ rowOf vo ≠ some b ∧ b ≠ p := by
  have h1 := h.bel.size
  have h2 := (Array.getElem?_eq_some_iff.1 h.box).1
  refine ⟨by omega, hd, fun e => ?_, by omega⟩
  have := (h.own.lt b e).2
  omega
theorem BJ.lt (h : BJ K T sz p base kb N G vo n xs w w' bx) : p < w'.heap.size := (Array.getElem?_eq_some_iff.1 h.box).1
end
/-- An append of new elements, just boxed, to a slice that owns its room. -/
theorem wpList_newA {w W : World} {ops : Array Oper} {rest : List Oper} {o' : Oper} {a : Act} {Q : Exit → Act → World → Prop} {T E size bytes : Nat} {z : Value} (hgd : o'.guard = none) (s x : Operand)
    (ho : o'.op = .call { callee := .builtin .append, args := #[s, x], argTypes := #[T, T] }) (hT : Tryd.prog.underlying T = some (.slice E))
    (hE : (Tryd.prog.info? E).map (fun i => (i.zero, i.size, i.bytes)) = some (some z, size, bytes)) (hzs : z.cells.size = size) (hsz : 0 < size)
    (base n : Nat) (v : Value) (xs : List Value) (m c : Nat) (news : List Value) (hl : news.length = m * size) (hc : m ≤ c) (hown : OwnA w base E size v n xs) (hsv : a.eval s = v) (hx : a.eval x = .slice (some ⟨w.heap.size, 0, none⟩) m c)
    (h1 : ∀ u ∈ news, u.oneCell' = true) (h63 : n + m ≤ maxLen) (hby : (n + m) * bytes ≤ 140737488355328) (hbase : base ≤ w.heap.size) (hW : W = w.alloc (.cells news.toArray E))
    (h : ∀ v' w', OwnA w' base E size v' (n + m) (xs ++ news) → (w.alloc (.cells news.toArray E)).grownBy w' (rowOf v) → (rowOf v' = rowOf v ∨ rowOf v' = some (w.alloc (.cells news.toArray E)).heap.size) → wpList Tryd.prog ops Q rest (a.put o'.dst v') w') : wpList Tryd.prog ops Q (o' :: rest) a W := by
  subst hW
  refine wpList_append_sv hgd s x ho hT hE hzs hsz base n v xs hsv (hown.alloc _) _ m news hx ⟨_, c, w.heap.size, 0, rfl, hl, .inr rfl, (fun e => by cases e), hc, fun j u hj => ?_⟩ h1 h63 hby (by simp; omega) h
  rw [Nat.zero_add]
  unfold World.cell?
  rw [heap_alloc_new]
  simpa using hj
end Go.Proofs.YthkmdmobeadigaaDoor.lg
