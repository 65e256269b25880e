/- What a copy leaves behind: marks behind each list, pointers to them; what it does not touch. No walk here. -/
import Derived.Test.YthkmdmobeadigaaDoorLb
namespace Go.Proofs.YthkmdmobeadigaaDoor.lg
open Go.RowKit
set_option linter.unusedVariables false
/-- A block of this type of cells. -/
def Typ (w : World) (b : Nat) (e : TypeId) : Prop := ∃ cur fr, w.heap[b]? = some (.cells cur e fr)
theorem Typ.lt {w : World} {b : Nat} {e : TypeId} (h : Typ w b e) : b < w.heap.size := by
  obtain ⟨_, _, h⟩ := h
  exact (Array.getElem?_eq_some_iff.1 h).1
theorem Typ.keep {w w' : World} {b : Nat} {e : TypeId} (h : Typ w b e) (hk : w'.heap[b]? = w.heap[b]?) : Typ w' b e := by
  obtain ⟨c, f, h⟩ := h
  exact ⟨c, f, hk.trans h⟩
theorem Typ.ne {w : World} {b c : Nat} {e f : TypeId} (h : Typ w b e) (k : Typ w c f) (hn : e ≠ f) : b ≠ c := by
  rintro rfl
  obtain ⟨_, _, h⟩ := h
  obtain ⟨_, _, k⟩ := k
  rw [h] at k
  simp only [Option.some.injEq, Obj.cells.injEq] at k
  exact hn k.2.1
theorem Typ.of_own {w : World} {base E size n : Nat} {v : Value} {xs : List Value} (h : OwnA w base E size v n xs) {g : Nat} (hg : rowOf v = some g) : Typ w g E := h.type g hg
/-- A block of a program's lists. -/
def Dt (w : World) (b : Nat) : Prop := Typ w b 45 ∨ Typ w b 52 ∨ Typ w b 9 ∨ Typ w b 25
theorem Dt.lt {w : World} {b : Nat} (h : Dt w b) : b < w.heap.size := by
  rcases h with h | h | h | h <;> exact h.lt
theorem Dt.keep {w w' : World} {b : Nat} (h : Dt w b) (hk : w'.heap[b]? = w.heap[b]?) : Dt w' b := by
  rcases h with h | h | h | h
  · exact .inl (h.keep hk)
  · exact .inr (.inl (h.keep hk))
  · exact .inr (.inr (.inl (h.keep hk)))
  · exact .inr (.inr (.inr (h.keep hk)))
/-- The lists that were there are as they were. -/
def Chg (w w' : World) : Prop := ∀ b, Dt w b → w'.heap[b]? = w.heap[b]?
theorem Chg.refl (w : World) : Chg w w := fun _ _ => rfl
theorem Chg.trans {w w1 w2 : World} (h : Chg w w1) (k : Chg w1 w2) : Chg w w2 := fun b hb => (k b (hb.keep (h b hb))).trans (h b hb)
theorem Chg.below {w w1 w2 : World} (h : Chg w w1) (k : Below w1.heap.size w1 w2) : Chg w w2 := fun b hb => (k.block b ((hb.keep (h b hb)).lt)).trans (h b hb)
/-- All blocks but one are as they were. -/
def But (p : Option Nat) (w w' : World) : Prop := ∀ b, b < w.heap.size → p ≠ some b → w'.heap[b]? = w.heap[b]?
theorem But.of_grown {p : Option Nat} {w w' : World} (h : w.grownBy w' p) : But p w w' := fun b hb hp => h.block b hb (fun e => hp e.symm)
theorem But.of_below {w w' : World} (h : Below w.heap.size w w') : But none w w' := fun b hb _ => h.block b hb
theorem But.of_set (w : World) (p i : Nat) (u : Value) : But (some p) w (w.setCell ⟨p, i, none⟩ u) := fun b _ hp => heap_setCell_other w ⟨p, i, none⟩ b u (fun e => hp (by rw [e]))
/-- A pointer to a mark. -/
def Mark (G : Nat → Prop) (T : TypeId) (m : Value) (w : World) (u : Value) : Prop := ∃ g o, u = .pointer (some ⟨g, o, none⟩) ∧ G g ∧ Typ w g T ∧ w.cell? ⟨g, o, none⟩ = some m
theorem Mark.keep {G G' : Nat → Prop} {T : TypeId} {m : Value} {w w' : World} {u : Value} (h : Mark G T m w u) (hk : ∀ b, G b → Typ w b T → w'.heap[b]? = w.heap[b]?) (hG : ∀ b, G b → b < w.heap.size → G' b) : Mark G' T m w' u := by
  obtain ⟨g, o, rfl, h1, h2, h3⟩ := h
  exact ⟨g, o, rfl, hG g h1 h2.lt, h2.keep (hk g h1 h2), cell_kept (hk g h1 h2) h3⟩
/-- One of the three lists of pointers: in cell i of block kb. -/
def KR (G : Nat → Prop) (w : World) (base kb i : Nat) (PT T : TypeId) (m : Value) (N : Nat) : Prop :=
  ∃ v n px, w.cell? ⟨kb, i, none⟩ = some v ∧ OwnA w base PT 1 v n px ∧ (∀ u ∈ px, Mark G T m w u) ∧ n ≤ N
theorem KR.but {G G' : Nat → Prop} {w w' : World} {base kb i N : Nat} {PT T E : TypeId} {m : Value} {p : Option Nat} (h : KR G w base kb i PT T m N) (hb : But p w w') (hk : p ≠ some kb) (hP : ∀ q, p = some q → Typ w q E) (hE : E ≠ PT) (hG : ∀ q, p = some q → E ≠ T ∨ ¬ G q) (hGG : ∀ b, G b → b < w.heap.size → G' b) : KR G' w' base kb i PT T m N := by
  obtain ⟨v, n, px, h1, h2, h3, h4⟩ := h
  refine ⟨v, n, px, cell_kept (hb kb (World.block_lt_of_cell? _ _ h1) hk) h1, h2.keep (fun g hg => hb g (h2.lt g hg).2 (fun e => (hP g e).ne (h2.type g hg) hE rfl)), fun u hu => (h3 u hu).keep (fun b hb1 hb2 => hb b hb2.lt (fun e => ?_)) hGG, h4⟩
  rcases hG b e with hh | hh
  · exact (hP b e).ne hb2 hh rfl
  · exact hh hb1
theorem KR.below {G : Nat → Prop} {w w' : World} {base kb i N : Nat} {PT T : TypeId} {m : Value} (h : KR G w base kb i PT T m N) (hb : Below w.heap.size w w') : KR G w' base kb i PT T m N := by
  obtain ⟨v, n, px, h1, h2, h3, h4⟩ := h
  exact ⟨v, n, px, cell_below h1 hb (Nat.le_refl _), h2.below hb (Nat.le_refl _), fun u hu => (h3 u hu).keep (fun b _ h => hb.block b h.lt) (fun b h _ => h), h4⟩
theorem KR.more {G : Nat → Prop} {w : World} {base kb i N M : Nat} {PT T : TypeId} {m : Value} (h : KR G w base kb i PT T m N) (hM : N ≤ M) : KR G w base kb i PT T m M := by
  obtain ⟨v, n, px, h1, h2, h3, h4⟩ := h
  exact ⟨v, n, px, h1, h2, h3, by omega⟩
theorem KR.to {G G' : Nat → Prop} {w : World} {base kb i N : Nat} {PT T : TypeId} {m : Value} (h : KR G w base kb i PT T m N) (hG : ∀ b, G b → b < w.heap.size → G' b) : KR G' w base kb i PT T m N := by
  obtain ⟨v, n, px, h1, h2, h3, h4⟩ := h
  exact ⟨v, n, px, h1, h2, fun u hu => (h3 u hu).keep (fun _ _ _ => rfl) hG, h4⟩
theorem cell_set_other (w : World) (kb i j : Nat) (u : Value) (h : i ≠ j) : (w.setCell ⟨kb, j, none⟩ u).cell? ⟨kb, i, none⟩ = w.cell? ⟨kb, i, none⟩ := by
  exact World.cell?_setCell_other _ _ _ _ (fun e => h (Addr.mk.inj e).2.1.symm)
/-- The cell of another list is stored. -/
theorem KR.set {G : Nat → Prop} {w : World} {base kb i j N : Nat} {PT T K : TypeId} {m : Value} {u : Value} (h : KR G w base kb i PT T m N) (hk : Typ w kb K) (h1 : K ≠ PT) (h2 : K ≠ T) (hij : i ≠ j) : KR G (w.setCell ⟨kb, j, none⟩ u) base kb i PT T m N := by
  obtain ⟨v, n, px, a1, a2, a3, a4⟩ := h
  have hb := But.of_set w kb j u
  refine ⟨v, n, px, ?_, a2.keep (fun g hg => hb g (a2.lt g hg).2 (fun e => (Typ.ne hk (a2.type g hg) h1) (Option.some.inj e))), fun u hu => (a3 u hu).keep (fun b _ hb2 => hb b hb2.lt (fun e => (Typ.ne hk hb2 h2) (Option.some.inj e))) (fun b h _ => h), a4⟩
  exact (cell_set_other w kb i j u hij).trans a1
/-- All three. -/
structure KO (G : Nat → Prop) (w : World) (base kb N : Nat) : Prop where
  bs : base ≤ kb
  blk : Bx w kb 3 31
  x : KR G w base kb 0 74 45 (.int .i64 (-99)) N
  s : KR G w base kb 1 75 52 (.int .i64 (-99)) N
  m : KR G w base kb 2 58 9 (.string ⟨#[98, 101, 104, 105, 110, 100]⟩) N
theorem Bx.typ {w : World} {g n : Nat} {t : TypeId} (h : Bx w g n t) : Typ w g t := by
  obtain ⟨cs, h, _⟩ := h
  exact ⟨cs, _, h⟩
theorem KO.below {G : Nat → Prop} {w w' : World} {base kb N : Nat} (h : KO G w base kb N) (hb : Below w.heap.size w w') : KO G w' base kb N :=
  ⟨h.bs, h.blk.below hb, h.x.below hb, h.s.below hb, h.m.below hb⟩
theorem KO.more {G : Nat → Prop} {w : World} {base kb N M : Nat} (h : KO G w base kb N) (hM : N ≤ M) : KO G w base kb M :=
  ⟨h.bs, h.blk, h.x.more hM, h.s.more hM, h.m.more hM⟩
theorem KO.to {G G' : Nat → Prop} {w : World} {base kb N : Nat} (h : KO G w base kb N) (hG : ∀ b, G b → b < w.heap.size → G' b) : KO G' w base kb N :=
  ⟨h.bs, h.blk, h.x.to hG, h.s.to hG, h.m.to hG⟩
/-- A list of the program's own has grown, or a cell of it was stored. -/
theorem KO.but {G G' : Nat → Prop} {w w' : World} {base kb N : Nat} {E : TypeId} {p : Option Nat} (h : KO G w base kb N) (hb : But p w w') (hP : ∀ q, p = some q → Typ w q E) (hE : E = 45 ∨ E = 52 ∨ E = 9) (hG : ∀ q, p = some q → ¬ G q) (hGG : ∀ b, G b → b < w.heap.size → G' b) : KO G' w' base kb N := by
  have hk : p ≠ some kb := fun e => by
    have := (hP kb e).ne h.blk.typ (by rcases hE with rfl | rfl | rfl <;> decide)
    exact this rfl
  have hkb : w'.heap[kb]? = w.heap[kb]? := hb kb h.blk.typ.lt hk
  refine ⟨h.bs, ?_, h.x.but hb hk hP (by rcases hE with rfl | rfl | rfl <;> decide) (fun q e => .inr (hG q e)) hGG, h.s.but hb hk hP (by rcases hE with rfl | rfl | rfl <;> decide) (fun q e => .inr (hG q e)) hGG, h.m.but hb hk hP (by rcases hE with rfl | rfl | rfl <;> decide) (fun q e => .inr (hG q e)) hGG⟩
  obtain ⟨cs, b1, b2⟩ := h.blk
  exact ⟨cs, hkb.trans b1, b2⟩
theorem KO.set25 {G : Nat → Prop} {w : World} {base kb N q i : Nat} {u : Value} (h : KO G w base kb N) (hT : Typ w q 25) : KO G (w.setCell ⟨q, i, none⟩ u) base kb N := by
  have hb := But.of_set w q i u
  have hk : (some q : Option Nat) ≠ some kb := fun e => (hT.ne h.blk.typ (by decide)) (Option.some.inj e)
  have hkb : (w.setCell ⟨q, i, none⟩ u).heap[kb]? = w.heap[kb]? := hb kb h.blk.typ.lt hk
  refine ⟨h.bs, ?_, h.x.but hb hk (fun r e => by cases e; exact hT) (by decide) (fun _ _ => .inl (by decide)) (fun _ g _ => g), h.s.but hb hk (fun r e => by cases e; exact hT) (by decide) (fun _ _ => .inl (by decide)) (fun _ g _ => g), h.m.but hb hk (fun r e => by cases e; exact hT) (by decide) (fun _ _ => .inl (by decide)) (fun _ g _ => g)⟩
  obtain ⟨cs, b1, b2⟩ := h.blk
  exact ⟨cs, hkb.trans b1, b2⟩
/-- A pointer more: the list has grown to w1, its head has been stored. -/
theorem KO.pushX {G : Nat → Prop} {w w1 : World} {base kb N n : Nat} {v v' u : Value} {px : List Value} (h : KO G w base kb N) (h0 : w.cell? ⟨kb, 0, none⟩ = some v) (ho : OwnA w base 74 1 v n px) (hm : ∀ u ∈ px, Mark G 45 (.int .i64 (-99)) w u) (hn : n ≤ N) (hu : Mark G 45 (.int .i64 (-99)) w u)
    (ho' : OwnA w1 base 74 1 v' (n + 1) (px ++ [u])) (hg : w.grownBy w1 (rowOf v)) : KO G (w1.setCell ⟨kb, 0, none⟩ v') base kb (N + 1) ∧ Chg w (w1.setCell ⟨kb, 0, none⟩ v') ∧ (base ≤ w.heap.size → Below base w (w1.setCell ⟨kb, 0, none⟩ v')) := by
  have hb := But.of_grown hg
  have hT : ∀ q, rowOf v = some q → Typ w q 74 := fun q hq => ho.type q hq
  have hk : rowOf v ≠ some kb := fun e => ((hT kb e).ne h.blk.typ (by decide)) rfl
  have hkb : w1.heap[kb]? = w.heap[kb]? := hb kb h.blk.typ.lt hk
  have hkt : Typ w1 kb 31 := h.blk.typ.keep hkb
  have hs := But.of_set w1 kb 0 v'
  have hkeep : ∀ b T, Typ w b T → T ≠ 74 → T ≠ 31 → (w1.setCell ⟨kb, 0, none⟩ v').heap[b]? = w.heap[b]? := fun b T hb1 t1 t2 => by
    have e1 := hb b hb1.lt (fun e => ((hT b e).ne hb1 (Ne.symm t1)) rfl)
    exact (hs b (hb1.keep e1).lt (fun e => (hkt.ne (hb1.keep e1) (Ne.symm t2)) (Option.some.inj e))).trans e1
  refine ⟨⟨h.bs, ?_, ⟨v', n + 1, px ++ [u], ?_, ?_, ?_, by omega⟩, ((h.s.but hb hk hT (by decide) (fun q e => .inl (by decide)) (fun _ g _ => g)).set hkt (by decide) (by decide) (by decide)).more (by omega), ((h.m.but hb hk hT (by decide) (fun q e => .inl (by decide)) (fun _ g _ => g)).set hkt (by decide) (by decide) (by decide)).more (by omega)⟩, ?_, ?_⟩
  · obtain ⟨cs, b1, b2⟩ := h.blk
    exact Bx.set ⟨cs, hkb.trans b1, b2⟩ 0 v'
  · obtain ⟨cs, b1, b2⟩ := h.blk
    have b3 := heap_setCell_same w1 kb 0 cs _ v' (hkb.trans b1)
    unfold World.cell?
    rw [b3]
    simp [b2]
  · exact ho'.keep (fun g hg' => hs g (ho'.lt g hg').2 (fun e => (hkt.ne (ho'.type g hg') (by decide)) (Option.some.inj e)))
  · intro y hy
    rcases List.mem_append.1 hy with hy | hy
    · exact (hm y hy).keep (fun b _ ht => hkeep b _ ht (by decide) (by decide)) (fun _ g _ => g)
    · rw [List.mem_singleton.1 hy]
      exact hu.keep (fun b _ ht => hkeep b _ ht (by decide) (by decide)) (fun _ g _ => g)
  · intro b hd
    rcases hd with hd | hd | hd | hd <;> exact hkeep b _ hd (by decide) (by decide)
  · intro hbs
    exact below_set ((Below.refl _ w).grown hg hbs (fun k hk' => (ho.lt k hk').1)) h.bs _
theorem KO.pushS {G : Nat → Prop} {w w1 : World} {base kb N n : Nat} {v v' u : Value} {px : List Value} (h : KO G w base kb N) (h0 : w.cell? ⟨kb, 1, none⟩ = some v) (ho : OwnA w base 75 1 v n px) (hm : ∀ u ∈ px, Mark G 52 (.int .i64 (-99)) w u) (hn : n ≤ N) (hu : Mark G 52 (.int .i64 (-99)) w u)
    (ho' : OwnA w1 base 75 1 v' (n + 1) (px ++ [u])) (hg : w.grownBy w1 (rowOf v)) : KO G (w1.setCell ⟨kb, 1, none⟩ v') base kb (N + 1) ∧ Chg w (w1.setCell ⟨kb, 1, none⟩ v') ∧ (base ≤ w.heap.size → Below base w (w1.setCell ⟨kb, 1, none⟩ v')) := by
  have hb := But.of_grown hg
  have hT : ∀ q, rowOf v = some q → Typ w q 75 := fun q hq => ho.type q hq
  have hk : rowOf v ≠ some kb := fun e => ((hT kb e).ne h.blk.typ (by decide)) rfl
  have hkb : w1.heap[kb]? = w.heap[kb]? := hb kb h.blk.typ.lt hk
  have hkt : Typ w1 kb 31 := h.blk.typ.keep hkb
  have hs := But.of_set w1 kb 1 v'
  have hkeep : ∀ b T, Typ w b T → T ≠ 75 → T ≠ 31 → (w1.setCell ⟨kb, 1, none⟩ v').heap[b]? = w.heap[b]? := fun b T hb1 t1 t2 => by
    have e1 := hb b hb1.lt (fun e => ((hT b e).ne hb1 (Ne.symm t1)) rfl)
    exact (hs b (hb1.keep e1).lt (fun e => (hkt.ne (hb1.keep e1) (Ne.symm t2)) (Option.some.inj e))).trans e1
  refine ⟨⟨h.bs, ?_, ((h.x.but hb hk hT (by decide) (fun q e => .inl (by decide)) (fun _ g _ => g)).set hkt (by decide) (by decide) (by decide)).more (by omega), ⟨v', n + 1, px ++ [u], ?_, ?_, ?_, by omega⟩, ((h.m.but hb hk hT (by decide) (fun q e => .inl (by decide)) (fun _ g _ => g)).set hkt (by decide) (by decide) (by decide)).more (by omega)⟩, ?_, ?_⟩
  · obtain ⟨cs, b1, b2⟩ := h.blk
    exact Bx.set ⟨cs, hkb.trans b1, b2⟩ 1 v'
  · obtain ⟨cs, b1, b2⟩ := h.blk
    have b3 := heap_setCell_same w1 kb 1 cs _ v' (hkb.trans b1)
    unfold World.cell?
    rw [b3]
    simp [b2]
  · exact ho'.keep (fun g hg' => hs g (ho'.lt g hg').2 (fun e => (hkt.ne (ho'.type g hg') (by decide)) (Option.some.inj e)))
  · intro y hy
    rcases List.mem_append.1 hy with hy | hy
    · exact (hm y hy).keep (fun b _ ht => hkeep b _ ht (by decide) (by decide)) (fun _ g _ => g)
    · rw [List.mem_singleton.1 hy]
      exact hu.keep (fun b _ ht => hkeep b _ ht (by decide) (by decide)) (fun _ g _ => g)
  · intro b hd
    rcases hd with hd | hd | hd | hd <;> exact hkeep b _ hd (by decide) (by decide)
  · intro hbs
    exact below_set ((Below.refl _ w).grown hg hbs (fun k hk' => (ho.lt k hk').1)) h.bs _
theorem KO.pushM {G : Nat → Prop} {w w1 : World} {base kb N n : Nat} {v v' u : Value} {px : List Value} (h : KO G w base kb N) (h0 : w.cell? ⟨kb, 2, none⟩ = some v) (ho : OwnA w base 58 1 v n px) (hm : ∀ u ∈ px, Mark G 9 (.string ⟨#[98, 101, 104, 105, 110, 100]⟩) w u) (hn : n ≤ N) (hu : Mark G 9 (.string ⟨#[98, 101, 104, 105, 110, 100]⟩) w u)
    (ho' : OwnA w1 base 58 1 v' (n + 1) (px ++ [u])) (hg : w.grownBy w1 (rowOf v)) : KO G (w1.setCell ⟨kb, 2, none⟩ v') base kb (N + 1) ∧ Chg w (w1.setCell ⟨kb, 2, none⟩ v') ∧ (base ≤ w.heap.size → Below base w (w1.setCell ⟨kb, 2, none⟩ v')) := by
  have hb := But.of_grown hg
  have hT : ∀ q, rowOf v = some q → Typ w q 58 := fun q hq => ho.type q hq
  have hk : rowOf v ≠ some kb := fun e => ((hT kb e).ne h.blk.typ (by decide)) rfl
  have hkb : w1.heap[kb]? = w.heap[kb]? := hb kb h.blk.typ.lt hk
  have hkt : Typ w1 kb 31 := h.blk.typ.keep hkb
  have hs := But.of_set w1 kb 2 v'
  have hkeep : ∀ b T, Typ w b T → T ≠ 58 → T ≠ 31 → (w1.setCell ⟨kb, 2, none⟩ v').heap[b]? = w.heap[b]? := fun b T hb1 t1 t2 => by
    have e1 := hb b hb1.lt (fun e => ((hT b e).ne hb1 (Ne.symm t1)) rfl)
    exact (hs b (hb1.keep e1).lt (fun e => (hkt.ne (hb1.keep e1) (Ne.symm t2)) (Option.some.inj e))).trans e1
  refine ⟨⟨h.bs, ?_, ((h.x.but hb hk hT (by decide) (fun q e => .inl (by decide)) (fun _ g _ => g)).set hkt (by decide) (by decide) (by decide)).more (by omega), ((h.s.but hb hk hT (by decide) (fun q e => .inl (by decide)) (fun _ g _ => g)).set hkt (by decide) (by decide) (by decide)).more (by omega), ⟨v', n + 1, px ++ [u], ?_, ?_, ?_, by omega⟩⟩, ?_, ?_⟩
  · obtain ⟨cs, b1, b2⟩ := h.blk
    exact Bx.set ⟨cs, hkb.trans b1, b2⟩ 2 v'
  · obtain ⟨cs, b1, b2⟩ := h.blk
    have b3 := heap_setCell_same w1 kb 2 cs _ v' (hkb.trans b1)
    unfold World.cell?
    rw [b3]
    simp [b2]
  · exact ho'.keep (fun g hg' => hs g (ho'.lt g hg').2 (fun e => (hkt.ne (ho'.type g hg') (by decide)) (Option.some.inj e)))
  · intro y hy
    rcases List.mem_append.1 hy with hy | hy
    · exact (hm y hy).keep (fun b _ ht => hkeep b _ ht (by decide) (by decide)) (fun _ g _ => g)
    · rw [List.mem_singleton.1 hy]
      exact hu.keep (fun b _ ht => hkeep b _ ht (by decide) (by decide)) (fun _ g _ => g)
  · intro b hd
    rcases hd with hd | hd | hd | hd <;> exact hkeep b _ hd (by decide) (by decide)
  · intro hbs
    exact below_set ((Below.refl _ w).grown hg hbs (fun k hk' => (ho.lt k hk').1)) h.bs _
end Go.Proofs.YthkmdmobeadigaaDoor.lg
