/- Words for walks: blocks, slices that lie there, slices that own their room, append to them, regions that draw their order. No walk here. -/
import Derived.Test.YthkmdmobeadigaaDoorLa
import Derived.OneCell
import Derived.OwnWalk
import Derived.Laws.OwnMore
import Derived.Laws.AppendOwn
import Derived.Deep.OwnRows
import Derived.Deep.CutBlock
import Derived.Laws.Tables
import Derived.Deep.DeepCutAuto
import Derived.Lib.Hide
import Derived.Laws.StructEq
import Derived.Lib.FrozenHead2
import Derived.Lib.ConvBytes
import Derived.Deep.RegionHeld
import Derived.Deep.RegionLaw
import Derived.Deep.Draws
import Derived.Deep.LoopGhost
import Derived.Deep.QuietTactic
import Derived.BigQuiet
import Derived.Maps.AppendAt
namespace Go.Proofs.YthkmdmobeadigaaDoor.lg
open Go.RowKit
set_option linter.unusedVariables false
/-- A text of these bytes. -/
def B (l : List UInt8) : ByteArray := ⟨l.toArray⟩
theorem B_size (l : List UInt8) : (B l).size = l.length := by simp [B, ByteArray.size]
theorem B_add (a b : List UInt8) : B a ++ B b = B (a ++ b) := by unfold B; rw [ByteArray.mk_append_mk]
theorem B_toList (l : List UInt8) : (B l).toList = l := by unfold B; exact ByteArray.toList_mk l
theorem B_of (s : ByteArray) : B s.data.toList = s := by cases s; simp [B]
theorem below_drewN {B : Nat} {a w : World} (h : Below B a w) (n : Nat) : Below B a (w.drewN n) := ⟨h.os, h.tape, h.output, h.size, h.block⟩
theorem below_next {za wq w' : World} (h : Below za.heap.size za wq) (k : Below wq.heap.size wq w') : Below za.heap.size za w' := h.trans (k.mono h.size)
theorem bcell {W w1 : World} (hb : Below W.heap.size W w1) : (∀ b o, b < W.heap.size → w1.cell? ⟨b, o, none⟩ = W.cell? ⟨b, o, none⟩) ∧ (∀ b o, b < W.heap.size → w1.frozen? ⟨b, o, none⟩ = W.frozen? ⟨b, o, none⟩) :=
  ⟨fun b o h => hb.cell (p := ⟨b, o, none⟩) h, fun b o h => hb.frozen (p := ⟨b, o, none⟩) h⟩
/-- Two worlds apart by new blocks and by stores into the new one. -/
theorem below_two {w W w1 : World} (h : Below w.heap.size w W) (k : Below W.heap.size W w1) : Below w.heap.size w w1 := h.trans (k.mono h.size)
theorem results_cell_tmp {P : Program} {fn : Func} {p q : Tmp} {ty : TypeId} (h : fn.results = #[.cell p ty, .tmp q]) (tmps : Array Value) (w : World) (g : Nat) (t : TypeId) (cs : Array Value) (fr : Nat × Nat) (d : TypeDesc) (v : Value)
    (hp : tmps.getD p undef = .pointer (some ⟨g, 0, none⟩)) (hv : tmps.getD q undef = v) (hg : w.heap[g]? = some (.cells cs t fr))
    (hu : P.underlying ty = some d) (hd : (match d with | .struct _ | .array _ _ => true | _ => false) = true) (hi : (P.info? ty).map (·.size) = some cs.size) :
    (results fn tmps).run P w = .ok (.tuple #[.agg cs, v]) w := by
  have hp' : tmps[p]?.getD undef = .pointer (some ⟨g, 0, none⟩) := by simpa using hp
  have hv' : tmps[q]?.getD undef = v := by simpa using hv
  simp [results, h, hp', hv', asAddr, run_loadVar_row w g t ty cs fr d hg hu hd hi]
theorem below_set {B b i : Nat} {a w : World} (h : Below B a w) (hp : B ≤ b) (u : Value) : Below B a (w.setCell ⟨b, i, none⟩ u) := h.setCell hp u
/-- A block of n cells of this type. -/
def Bx (w : World) (g n : Nat) (t : TypeId) : Prop := ∃ cs, w.heap[g]? = some (.cells cs t (0, 0)) ∧ cs.size = n
theorem Bx.new (w : World) (cs : Array Value) (t : TypeId) (n : Nat) (h : cs.size = n) : Bx (w.alloc (.cells cs t)) w.heap.size n t := ⟨cs, heap_alloc_new w _, h⟩
theorem Bx.old {w : World} {g n : Nat} {t : TypeId} (h : Bx w g n t) (o : Obj) : Bx (w.alloc o) g n t := by
  obtain ⟨cs, h1, h2⟩ := h
  have hl : g < w.heap.size := by
    rcases Nat.lt_or_ge g w.heap.size with h | h
    · exact h
    · rw [Array.getElem?_eq_none h] at h1; cases h1
  exact ⟨cs, ((Below.refl w.heap.size w).alloc (Nat.le_refl _) o |>.block g hl).trans h1, h2⟩
theorem Bx.below {w w' : World} {g n : Nat} {t : TypeId} (h : Bx w g n t) (k : Below w.heap.size w w') : Bx w' g n t := by
  obtain ⟨cs, h1, h2⟩ := h
  have hl : g < w.heap.size := by
    rcases Nat.lt_or_ge g w.heap.size with h | h
    · exact h
    · rw [Array.getElem?_eq_none h] at h1; cases h1
  exact ⟨cs, (k.block g hl).trans h1, h2⟩
theorem Bx.set {w : World} {g n : Nat} {t : TypeId} (h : Bx w g n t) (i : Nat) (v : Value) : Bx (w.setCell ⟨g, i, none⟩ v) g n t := by
  obtain ⟨cs, h1, h2⟩ := h
  exact ⟨_, heap_setCell_same w g i cs t v h1, by simpa using h2⟩
theorem Bx.full7 {w : World} {g : Nat} {t : TypeId} (h : Bx w g 7 t) (a0 a1 a2 a3 a4 a5 a6 : Value) :
    (((((((w.setCell ⟨g, 0, none⟩ a0).setCell ⟨g, 1, none⟩ a1).setCell ⟨g, 2, none⟩ a2).setCell ⟨g, 3, none⟩ a3).setCell ⟨g, 4, none⟩ a4).setCell ⟨g, 5, none⟩ a5).setCell ⟨g, 6, none⟩ a6).heap[g]? = some (.cells #[a0, a1, a2, a3, a4, a5, a6] t (0, 0)) := by
  obtain ⟨⟨l⟩, h1, h2⟩ := h
  match l, h2, h1 with
  | [x0, x1, x2, x3, x4, x5, x6], _, h1 =>
    have e0 : (w.setCell ⟨g, 0, none⟩ a0).heap[g]? = some (.cells #[a0, x1, x2, x3, x4, x5, x6] t (0, 0)) := heap_setCell_same w g 0 #[x0, x1, x2, x3, x4, x5, x6] t a0 h1
    have e1 : ((w.setCell ⟨g, 0, none⟩ a0).setCell ⟨g, 1, none⟩ a1).heap[g]? = some (.cells #[a0, a1, x2, x3, x4, x5, x6] t (0, 0)) := heap_setCell_same (w.setCell ⟨g, 0, none⟩ a0) g 1 #[a0, x1, x2, x3, x4, x5, x6] t a1 e0
    have e2 : (((w.setCell ⟨g, 0, none⟩ a0).setCell ⟨g, 1, none⟩ a1).setCell ⟨g, 2, none⟩ a2).heap[g]? = some (.cells #[a0, a1, a2, x3, x4, x5, x6] t (0, 0)) := heap_setCell_same ((w.setCell ⟨g, 0, none⟩ a0).setCell ⟨g, 1, none⟩ a1) g 2 #[a0, a1, x2, x3, x4, x5, x6] t a2 e1
    have e3 : ((((w.setCell ⟨g, 0, none⟩ a0).setCell ⟨g, 1, none⟩ a1).setCell ⟨g, 2, none⟩ a2).setCell ⟨g, 3, none⟩ a3).heap[g]? = some (.cells #[a0, a1, a2, a3, x4, x5, x6] t (0, 0)) := heap_setCell_same (((w.setCell ⟨g, 0, none⟩ a0).setCell ⟨g, 1, none⟩ a1).setCell ⟨g, 2, none⟩ a2) g 3 #[a0, a1, a2, x3, x4, x5, x6] t a3 e2
    have e4 : (((((w.setCell ⟨g, 0, none⟩ a0).setCell ⟨g, 1, none⟩ a1).setCell ⟨g, 2, none⟩ a2).setCell ⟨g, 3, none⟩ a3).setCell ⟨g, 4, none⟩ a4).heap[g]? = some (.cells #[a0, a1, a2, a3, a4, x5, x6] t (0, 0)) := heap_setCell_same ((((w.setCell ⟨g, 0, none⟩ a0).setCell ⟨g, 1, none⟩ a1).setCell ⟨g, 2, none⟩ a2).setCell ⟨g, 3, none⟩ a3) g 4 #[a0, a1, a2, a3, x4, x5, x6] t a4 e3
    have e5 : ((((((w.setCell ⟨g, 0, none⟩ a0).setCell ⟨g, 1, none⟩ a1).setCell ⟨g, 2, none⟩ a2).setCell ⟨g, 3, none⟩ a3).setCell ⟨g, 4, none⟩ a4).setCell ⟨g, 5, none⟩ a5).heap[g]? = some (.cells #[a0, a1, a2, a3, a4, a5, x6] t (0, 0)) := heap_setCell_same (((((w.setCell ⟨g, 0, none⟩ a0).setCell ⟨g, 1, none⟩ a1).setCell ⟨g, 2, none⟩ a2).setCell ⟨g, 3, none⟩ a3).setCell ⟨g, 4, none⟩ a4) g 5 #[a0, a1, a2, a3, a4, x5, x6] t a5 e4
    have e6 : (((((((w.setCell ⟨g, 0, none⟩ a0).setCell ⟨g, 1, none⟩ a1).setCell ⟨g, 2, none⟩ a2).setCell ⟨g, 3, none⟩ a3).setCell ⟨g, 4, none⟩ a4).setCell ⟨g, 5, none⟩ a5).setCell ⟨g, 6, none⟩ a6).heap[g]? = some (.cells #[a0, a1, a2, a3, a4, a5, a6] t (0, 0)) := heap_setCell_same ((((((w.setCell ⟨g, 0, none⟩ a0).setCell ⟨g, 1, none⟩ a1).setCell ⟨g, 2, none⟩ a2).setCell ⟨g, 3, none⟩ a3).setCell ⟨g, 4, none⟩ a4).setCell ⟨g, 5, none⟩ a5) g 6 #[a0, a1, a2, a3, a4, a5, x6] t a6 e5
    exact e6
theorem Bx.setO {w : World} {g n k : Nat} {t : TypeId} (h : Bx w g n t) (i : Nat) (v : Value) (hk : g ≠ k) : Bx (w.setCell ⟨k, i, none⟩ v) g n t := by
  obtain ⟨cs, h1, h2⟩ := h
  exact ⟨cs, (heap_setCell_other w ⟨k, i, none⟩ g v hk).trans h1, h2⟩
theorem Bx.drew {w : World} {g n : Nat} {t : TypeId} (h : Bx w g n t) : Bx w.drew g n t := h
theorem alsize (w : World) (o : Obj) : (w.alloc o).heap.size = w.heap.size + 1 := by simp
theorem Bx.full3 {w : World} {g : Nat} {t : TypeId} (h : Bx w g 3 t) (a0 a1 a2 : Value) :
    (((w.setCell ⟨g, 0, none⟩ a0).setCell ⟨g, 1, none⟩ a1).setCell ⟨g, 2, none⟩ a2).heap[g]? = some (.cells #[a0, a1, a2] t (0, 0)) := by
  obtain ⟨⟨l⟩, h1, h2⟩ := h
  match l, h2, h1 with
  | [x0, x1, x2], _, h1 =>
    have e0 : (w.setCell ⟨g, 0, none⟩ a0).heap[g]? = some (.cells #[a0, x1, x2] t (0, 0)) := heap_setCell_same w g 0 #[x0, x1, x2] t a0 h1
    have e1 : ((w.setCell ⟨g, 0, none⟩ a0).setCell ⟨g, 1, none⟩ a1).heap[g]? = some (.cells #[a0, a1, x2] t (0, 0)) := heap_setCell_same (w.setCell ⟨g, 0, none⟩ a0) g 1 #[a0, x1, x2] t a1 e0
    have e2 : (((w.setCell ⟨g, 0, none⟩ a0).setCell ⟨g, 1, none⟩ a1).setCell ⟨g, 2, none⟩ a2).heap[g]? = some (.cells #[a0, a1, a2] t (0, 0)) := heap_setCell_same ((w.setCell ⟨g, 0, none⟩ a0).setCell ⟨g, 1, none⟩ a1) g 2 #[a0, a1, x2] t a2 e1
    exact e2
theorem Bx.belowp {w w' : World} {g n p : Nat} {t : TypeId} (h : Bx w g n t) (k : Below p w w') (hp : g < p) : Bx w' g n t := by
  obtain ⟨cs, h1, h2⟩ := h
  exact ⟨cs, (k.block g hp).trans h1, h2⟩
theorem Bx.lt {w : World} {g n : Nat} {t : TypeId} (h : Bx w g n t) : g < w.heap.size := by
  obtain ⟨cs, h1, h2⟩ := h
  exact (Array.getElem?_eq_some_iff.1 h1).1
theorem Bx.full4 {w : World} {g : Nat} {t : TypeId} (h : Bx w g 4 t) (a0 a1 a2 a3 : Value) :
    (((((w.setCell ⟨g, 0, none⟩ a0).setCell ⟨g, 1, none⟩ a1).setCell ⟨g, 2, none⟩ a2).setCell ⟨g, 3, none⟩ a3)).heap[g]? = some (.cells #[a0, a1, a2, a3] t (0, 0)) := by
  obtain ⟨⟨l⟩, h1, h2⟩ := h
  match l, h2, h1 with
  | [x0, x1, x2, x3], _, h1 =>
    have e0 : (w.setCell ⟨g, 0, none⟩ a0).heap[g]? = some (.cells #[a0, x1, x2, x3] t (0, 0)) := heap_setCell_same w g 0 #[x0, x1, x2, x3] t a0 h1
    have e1 : ((w.setCell ⟨g, 0, none⟩ a0).setCell ⟨g, 1, none⟩ a1).heap[g]? = some (.cells #[a0, a1, x2, x3] t (0, 0)) := heap_setCell_same (w.setCell ⟨g, 0, none⟩ a0) g 1 #[a0, x1, x2, x3] t a1 e0
    have e2 : (((w.setCell ⟨g, 0, none⟩ a0).setCell ⟨g, 1, none⟩ a1).setCell ⟨g, 2, none⟩ a2).heap[g]? = some (.cells #[a0, a1, a2, x3] t (0, 0)) := heap_setCell_same ((w.setCell ⟨g, 0, none⟩ a0).setCell ⟨g, 1, none⟩ a1) g 2 #[a0, a1, x2, x3] t a2 e1
    have e3 : ((((w.setCell ⟨g, 0, none⟩ a0).setCell ⟨g, 1, none⟩ a1).setCell ⟨g, 2, none⟩ a2).setCell ⟨g, 3, none⟩ a3).heap[g]? = some (.cells #[a0, a1, a2, a3] t (0, 0)) := heap_setCell_same (((w.setCell ⟨g, 0, none⟩ a0).setCell ⟨g, 1, none⟩ a1).setCell ⟨g, 2, none⟩ a2) g 3 #[a0, a1, a2, x3] t a3 e2
    exact e3
/-- A slice of n elements of so many cells leads to these cells. -/
structure SW (w : World) (size : Nat) (ao : Option Addr) (n c g o : Nat) (xs : List Value) : Prop where
  len : xs.length = n * size
  lead : n = 0 ∨ ao = some ⟨g, o, none⟩
  bare : ao = none → c = 0
  cap : n ≤ c
  cells : ∀ (j : Nat) (u : Value), xs[j]? = some u → w.cell? ⟨g, o + j, none⟩ = some u
def SV (w : World) (size : Nat) (v : Value) (n : Nat) (xs : List Value) : Prop := ∃ ao c g o, v = .slice ao n c ∧ SW w size ao n c g o xs
theorem SW.below {w w' : World} {size n c g o k : Nat} {ao : Option Addr} {xs : List Value} (h : SW w size ao n c g o xs) (hb : Below k w w') (hk : w.heap.size ≤ k) : SW w' size ao n c g o xs :=
  ⟨h.len, h.lead, h.bare, h.cap, fun j u hu => cell_below (h.cells j u hu) hb hk⟩
theorem SV.below {w w' : World} {size n k : Nat} {v : Value} {xs : List Value} (h : SV w size v n xs) (hb : Below k w w') (hk : w.heap.size ≤ k) : SV w' size v n xs := by
  obtain ⟨ao, c, g, o, h1, h2⟩ := h
  exact ⟨ao, c, g, o, h1, h2.below hb hk⟩
theorem own_sv {w : World} {base E size n : Nat} {v : Value} {xs : List Value} (h : w.ownsRow base E size v n xs) : SV w size v n xs := by
  rcases h.2 with ⟨h1, h2⟩ | ⟨g, cap, cur, h1, h2, h3, h4, h5, h6, h7⟩
  · subst h2
    have hx : xs = [] := List.eq_nil_of_length_eq_zero (by have := h.1; omega)
    subst hx
    exact ⟨none, 0, 0, 0, h1, by simp, .inl rfl, fun _ => rfl, Nat.le_refl _, fun j u hu => by simp at hu⟩
  · refine ⟨_, cap, g, 0, h1, h.1, .inr rfl, (fun e => by cases e), h4, fun j u hu => ?_⟩
    rw [← h7, List.getElem?_take] at hu
    split at hu
    · rw [Nat.zero_add]
      unfold World.cell?
      rw [h3]
      simpa using hu
    · cases hu
theorem eqi {d t : Nat} {k : IntKind} (x y : Int) (W : World) (ht : Tryd.prog.underlying t = some (.int k)) : (Op.equalIn (d + 1) t (.int k x) (.int k y)).run Tryd.prog W = .ok (x == y) W := by
  simp [Op.equalIn, run_underlying ht]
theorem eqs {d t : Nat} (x y : ByteArray) (W : World) (ht : Tryd.prog.underlying t = some .string) : (Op.equalIn (d + 1) t (.string x) (.string y)).run Tryd.prog W = .ok (x == y) W := by
  simp [Op.equalIn, run_underlying ht]
theorem eqf1 {d : Nat} {xs ys : Array Value} {f : Field} {fs : List Field} {a b : Value} {r s : Bool} {w : World} (hn : f.name ≠ "_") (ha : (part f.type xs f.offset).run Tryd.prog w = .ok a w) (hb : (part f.type ys f.offset).run Tryd.prog w = .ok b w) (he : (Op.equalIn d f.type a b).run Tryd.prog w = .ok r w) (hr : (Op.eqFields d xs ys fs).run Tryd.prog w = .ok s w) :
    (Op.eqFields d xs ys (f :: fs)).run Tryd.prog w = .ok (r && s) w := by
  rw [Op.eqFields]
  simp only [if_pos hn, Sem.run_bind, ha, hb, he, Result.andThen_ok]
  cases r
  · simp
  · simpa using hr
theorem eqf0 {d : Nat} {xs ys : Array Value} {w : World} : (Op.eqFields d xs ys []).run Tryd.prog w = .ok true w := by simp [Op.eqFields]
theorem bself (s : ByteArray) : (s == s) = true := by rw [beq_toListBytes]; simp
/-- The slice v of n elements owns the cells xs and its spare room. -/
structure OwnB (w : World) (base : Nat) (e : TypeId) (size : Nat) (n : Nat) (xs : List Value) (g o cap : Nat) (cur : Array Value) (fz : Nat × Nat) : Prop where
  bs : base ≤ g
  blk : w.heap[g]? = some (.cells cur e fz)
  hn : n ≤ cap
  hc : cap ≤ maxLen
  fit : o + cap * size ≤ cur.size
  cells : ∀ (j : Nat) (u : Value), xs[j]? = some u → cur[o + j]? = some u
  free : ∀ j, o ≤ j → j < o + cap * size → ¬ (fz.1 ≤ j ∧ j < fz.2)
/-- A slice without room owns nothing. -/
def OwnA (w : World) (base : Nat) (e : TypeId) (size : Nat) (v : Value) (n : Nat) (xs : List Value) : Prop :=
  xs.length = n * size ∧ ((∃ ao, v = .slice ao 0 0 ∧ n = 0) ∨ ∃ g o cap cur fz, v = .slice (some ⟨g, o, none⟩) n cap ∧ 0 < cap ∧ OwnB w base e size n xs g o cap cur fz)
/-- The block in which a slice has room. -/
def rowOf : Value → Option Nat
  | .slice (some a) _ c => if c = 0 then none else some a.block
  | _ => none
theorem rowOf_zero (ao : Option Addr) (n : Nat) : rowOf (.slice ao n 0) = none := by cases ao <;> simp [rowOf]
theorem rowOf_pos (a : Addr) (n c : Nat) (h : 0 < c) : rowOf (.slice (some a) n c) = some a.block := by simp [rowOf]; omega
section
variable {w w' : World} {base : Nat} {e : TypeId} {size : Nat} {v : Value} {n : Nat} {xs : List Value}
theorem OwnA.of (h : w.ownsRow base e size v n xs) : OwnA w base e size v n xs := by
  refine ⟨h.1, ?_⟩
  rcases h.2 with h1 | ⟨g, cap, cur, h1, h2, h3, h4, h5, h6, h7⟩
  · exact .inl ⟨none, h1⟩
  · by_cases hc : cap = 0
    · subst hc
      obtain rfl : n = 0 := by omega
      exact .inl ⟨_, h1, rfl⟩
    · refine .inr ⟨g, 0, cap, cur, (0, 0), h1, by omega, h2, h3, h4, h5, by omega, fun j u hu => ?_, fun j _ _ => by simp⟩
      rw [← h7, List.getElem?_take] at hu
      split at hu
      · rw [Nat.zero_add]; simpa using hu
      · cases hu
theorem OwnA.bare (w : World) (base : Nat) (e : TypeId) (size : Nat) (ao : Option Addr) : OwnA w base e size (.slice ao 0 0) 0 [] := ⟨by simp, .inl ⟨ao, rfl, rfl⟩⟩
theorem OwnA.lt (h : OwnA w base e size v n xs) : ∀ k, rowOf v = some k → base ≤ k ∧ k < w.heap.size := by
  intro k hk
  rcases h.2 with ⟨ao, rfl, _⟩ | ⟨g, o, cap, cur, fz, rfl, hc, hb⟩
  · rw [rowOf_zero] at hk; cases hk
  · rw [rowOf_pos _ _ _ hc] at hk
    simp only [Option.some.injEq] at hk
    subst hk
    exact ⟨hb.bs, (Array.getElem?_eq_some_iff.1 hb.blk).1⟩
theorem OwnA.type (h : OwnA w base e size v n xs) : ∀ g, rowOf v = some g → ∃ cur fr, w.heap[g]? = some (.cells cur e fr) := by
  intro k hk
  rcases h.2 with ⟨ao, rfl, _⟩ | ⟨g, o, cap, cur, fz, rfl, hc, hb⟩
  · rw [rowOf_zero] at hk; cases hk
  · rw [rowOf_pos _ _ _ hc] at hk
    simp only [Option.some.injEq] at hk
    subst hk
    exact ⟨_, _, hb.blk⟩
theorem OwnA.slice (h : OwnA w base e size v n xs) : ∃ ao c, v = .slice ao n c := by
  rcases h.2 with ⟨ao, rfl, rfl⟩ | ⟨g', o, cap, cur, fz, rfl, _, hb⟩
  · exact ⟨ao, 0, rfl⟩
  · exact ⟨_, cap, rfl⟩
theorem OwnA.mono {b : Nat} (h : OwnA w base e size v n xs) (hb : b ≤ base) : OwnA w b e size v n xs := by
  refine ⟨h.1, ?_⟩
  rcases h.2 with h1 | ⟨g, o, cap, cur, fz, h1, hc, h2⟩
  · exact .inl h1
  · exact .inr ⟨g, o, cap, cur, fz, h1, hc, by have := h2.bs; omega, h2.blk, h2.hn, h2.hc, h2.fit, h2.cells, h2.free⟩
/-- Its block is as it was. -/
theorem OwnA.keep (h : OwnA w base e size v n xs) (hk : ∀ g, rowOf v = some g → w'.heap[g]? = w.heap[g]?) : OwnA w' base e size v n xs := by
  refine ⟨h.1, ?_⟩
  rcases h.2 with h1 | ⟨g, o, cap, cur, fz, rfl, hc, h2⟩
  · exact .inl h1
  · exact .inr ⟨g, o, cap, cur, fz, rfl, hc, h2.bs, (hk g (rowOf_pos _ _ _ hc)).trans h2.blk, h2.hn, h2.hc, h2.fit, h2.cells, h2.free⟩
theorem OwnA.below {k : Nat} (h : OwnA w base e size v n xs) (hb : Below k w w') (hk : w.heap.size ≤ k) : OwnA w' base e size v n xs :=
  h.keep fun g hg => hb.block g (by have := (h.lt g hg).2; omega)
theorem OwnA.kept {row : Option Nat} (h : OwnA w base e size v n xs) (hg : w.grownBy w' row) (hne : rowOf v = none ∨ rowOf v ≠ row) : OwnA w' base e size v n xs :=
  h.keep fun g hv => hg.block g (h.lt g hv).2 (fun e => by
    rcases hne with h0 | h0
    · rw [h0] at hv; cases hv
    · exact h0 (hv.trans e))
theorem OwnA.alloc (h : OwnA w base e size v n xs) (o : Obj) : OwnA (w.alloc o) base e size v n xs :=
  h.below ((Below.refl _ w).alloc (Nat.le_refl _) o) (Nat.le_refl _)
theorem OwnA.set {p i : Nat} {u : Value} (h : OwnA w base e size v n xs) (hp : rowOf v ≠ some p) : OwnA (w.setCell ⟨p, i, none⟩ u) base e size v n xs :=
  h.keep fun g hg => heap_setCell_other w ⟨p, i, none⟩ g u (fun e => hp (by rw [hg, e]))
theorem OwnA.other {E' base' n' size' : Nat} {v' : Value} {xs' : List Value} (h : OwnA w base e size v n xs) (h' : OwnA w base' E' size' v' n' xs') (hE : e ≠ E') : rowOf v = none ∨ rowOf v ≠ rowOf v' := by
  cases hv : rowOf v with
  | none => exact .inl rfl
  | some g =>
    refine .inr (fun q => ?_)
    obtain ⟨c1, f1, h1⟩ := h.type g hv
    obtain ⟨c2, f2, h2⟩ := h'.type g q.symm
    rw [h1] at h2
    simp only [Option.some.injEq, Obj.cells.injEq] at h2
    exact hE h2.2.1
theorem OwnA.sv (h : OwnA w base e size v n xs) : SV w size v n xs := by
  rcases h.2 with ⟨ao, rfl, rfl⟩ | ⟨g, o, cap, cur, fz, rfl, _, hb⟩
  · have hx : xs = [] := List.eq_nil_of_length_eq_zero (by have := h.1; omega)
    subst hx
    exact ⟨ao, 0, 0, 0, rfl, by simp, .inl rfl, fun _ => rfl, Nat.le_refl _, fun j u hu => by simp at hu⟩
  · refine ⟨_, cap, g, o, rfl, h.1, .inr rfl, (fun e => by cases e), hb.hn, fun j u hu => ?_⟩
    unfold World.cell?
    rw [hb.blk]
    exact hb.cells j u hu
end
/-- Cells stored one behind the other where nothing is frozen. -/
theorem run_storeCells_free (P : Program) (g o : Nat) (t : TypeId) (fz : Nat × Nat) : ∀ (vs : List Value) (i : Nat) (cur : Array Value) (w : World), w.heap[g]? = some (.cells cur t fz) → (∀ j, o + i ≤ j → j < o + i + vs.length → ¬ (fz.1 ≤ j ∧ j < fz.2)) → o + i + vs.length ≤ cur.size → (∀ v ∈ vs, v.oneCell' = true) →
    (storeCells ⟨g, o, none⟩ vs i).run P w = .ok () (w.setRow g (cur.toList.take (o + i) ++ vs ++ cur.toList.drop (o + i + vs.length)).toArray)
  | [], i, cur, w, hg, _, _, _ => by
    simp only [storeCells, List.append_nil, List.length_nil, Nat.add_zero, List.take_append_drop, Array.toArray_toList]
    rw [setRow_self w g cur t fz hg]
    rfl
  | v :: rest, i, cur, w, hg, hfz, hl, h1 => by
    have hi : o + i < cur.size := by simp at hl; omega
    have hadd : (⟨g, o, none⟩ : Addr).add i = ⟨g, o + i, none⟩ := by unfold Addr.add; split <;> simp_all
    have hcell : w.cell? ⟨g, o + i, none⟩ = some cur[o + i] := by simp [World.cell?, hg, hi]
    have hfro : w.frozen? ⟨g, o + i, none⟩ = false := by
      have := hfz (o + i) (Nat.le_refl _) (by simp)
      obtain ⟨lo, hi'⟩ := fz
      simp only [World.frozen?, hg, Bool.and_eq_false_iff, decide_eq_false_iff_not]
      simp only at this
      omega
    have hst : (store ((⟨g, o, none⟩ : Addr).add i) v).run P w = .ok () (w.setRow g (cur.setIfInBounds (o + i) v)) := by
      rw [hadd, run_store P w _ v _ (h1 v (by simp)), hcell]
      simp [hfro, setCell_eq_setRow w g (o + i) cur t fz v hg]
    have ih := run_storeCells_free P g o t fz rest (i + 1) (cur.setIfInBounds (o + i) v) (w.setRow g (cur.setIfInBounds (o + i) v)) (setRow_heap w g cur _ t _ hg) (fun j h1 h2 => hfz j (by omega) (by simp; omega)) (by simp at hl ⊢; omega) (fun x hx => h1 x (by simp [hx]))
    simp only [storeCells, Sem.run_bind, hst, Result.andThen_ok, ih, setRow_setRow]
    congr 3
    have e := list_seg_step cur.toList (o + i) v rest (by simp at hl ⊢; omega)
    simpa [Array.toList_setIfInBounds, Nat.add_assoc] using e
theorem seg_at_lt {l news : List Value} {k j : Nat} (hk : k + news.length ≤ l.length) (hj : j < k) : (l.take k ++ news ++ l.drop (k + news.length))[j]? = l[j]? := by
  rw [List.append_assoc, List.getElem?_append_left (by simp; omega), List.getElem?_take, if_pos hj]
theorem seg_at_new {l news : List Value} {k j : Nat} (hk : k + news.length ≤ l.length) (hj : j < news.length) : (l.take k ++ news ++ l.drop (k + news.length))[k + j]? = news[j]? := by
  have hl : (l.take k).length = k := by simp; omega
  rw [List.append_assoc, List.getElem?_append_right (by rw [hl]; omega), hl, Nat.add_sub_cancel_left, List.getElem?_append_left hj]
section
variable {P : Program} (w : World)
theorem run_append_roomA (t ty e : TypeId) (i : TypeInfo) (ht : P.underlying t = some (.slice e)) (hi : P.info? e = some i)
    (g o sLen sCap : Nat) (cur : Array Value) (fz : Nat × Nat) (hg : w.heap[g]? = some (.cells cur e fz))
    (a : Addr) (m c : Nat) (news : List Value) (hl : news.length = m * i.size) (hnews : ∀ j u, news[j]? = some u → w.cell? (a.add j) = some u) (h1 : ∀ u ∈ news, u.oneCell' = true)
    (hfz : ∀ j, o + sLen * i.size ≤ j → j < o + sLen * i.size + news.length → ¬ (fz.1 ≤ j ∧ j < fz.2))
    (hroom : sLen + m ≤ sCap) (hfit : o + sLen * i.size + news.length ≤ cur.size) :
    (Builtin.append_ #[t, t] ty #[.slice (some ⟨g, o, none⟩) sLen sCap, .slice (some a) m c]).run P w =
      .ok (.slice (some ⟨g, o, none⟩) (sLen + m) sCap) (w.setRow g (cur.toList.take (o + sLen * i.size) ++ news ++ cur.toList.drop (o + sLen * i.size + news.length)).toArray) := by
  have hf := run_firstCells_some (P := P) w i.size m a m c news hl hnews
  have hst := run_storeCells_free P g o e fz news (sLen * i.size) cur w hg hfz hfit h1
  have hst2 := run_storeCells_free P g (o + sLen * i.size) e fz news 0 cur w hg (by simpa using hfz) (by simpa using hfit) h1
  simp only [Nat.add_zero] at hst2
  have hadd : (⟨g, o, none⟩ : Addr).add (sLen * i.size) = ⟨g, o + sLen * i.size, none⟩ := by unfold Addr.add; split <;> simp_all
  simp [Builtin.append_, run_underlying ht, sizeOf, typeInfo, hi, Builtin.lenOf, hroom, hf, hadd, hst2]
theorem run_append_anyA (base : Nat) (t ty e : TypeId) (i : TypeInfo) (z : Value) (size bytes : Nat) (ht : P.underlying t = some (.slice e)) (hi : P.info? e = some i) (hz : i.zero = some z)
    (hsize : i.size = size) (hby : i.bytes = bytes) (hzs : z.cells.size = size) (hsz : 0 < size)
    (v : Value) (n : Nat) (xs : List Value) (hown : OwnA w base e size v n xs)
    (a : Addr) (m c : Nat) (news : List Value) (hl : news.length = m * size) (hnews : ∀ j u, news[j]? = some u → w.cell? (a.add j) = some u) (h1 : ∀ u ∈ news, u.oneCell' = true)
    (h63 : n + m ≤ maxLen) (hbytes : (n + m) * bytes ≤ 140737488355328) (hbase : base ≤ w.heap.size) :
    ∃ v' w', (Builtin.append_ #[t, t] ty #[v, .slice (some a) m c]).run P w = .ok v' w' ∧ OwnA w' base e size v' (n + m) (xs ++ news) ∧ w.grownBy w' (rowOf v) ∧ (rowOf v' = rowOf v ∨ rowOf v' = some w.heap.size) := by
  rcases hown.2 with ⟨ao, rfl, rfl⟩ | ⟨g, o, cap, cur, fz, rfl, hcp, hb⟩
  · have hxs : xs = [] := List.eq_nil_of_length_eq_zero (by have := hown.1; omega)
    subst hxs
    by_cases hm : m = 0
    · subst hm
      have hn : news = [] := List.eq_nil_of_length_eq_zero (by omega)
      subst hn
      refine ⟨.slice ao 0 0, w, ?_, by simpa using hown, ⟨rfl, rfl, rfl, Nat.le_refl _, fun _ _ _ => rfl⟩, .inl rfl⟩
      have hf := run_firstCells_some (P := P) w i.size 0 a 0 c [] (by simp) (by simp)
      have hf2 := run_firstCells_some (P := P) w size 0 a 0 c [] (by simp) (by simp)
      cases ao with
      | none => simp [Builtin.append_, run_underlying ht, sizeOf, typeInfo, hi, Builtin.lenOf, hf]
      | some b => simp [Builtin.append_, run_underlying ht, sizeOf, typeInfo, hi, Builtin.lenOf, hf, storeCells]
    · cases ao with
      | none =>
        obtain ⟨v', w', r1, r2, r3, _, r5⟩ := run_append_own_at (P := P) w base t ty e i z size bytes ht hi hz hsize hby hzs hsz (.slice none 0 0) 0 [] ⟨hown.1, .inl ⟨rfl, rfl⟩⟩ a m c news hl hnews h1 h63 hbytes hbase
        refine ⟨v', w', r1, .of r2, r3, ?_⟩
        rcases r2.2 with ⟨rfl, h0⟩ | ⟨g, cap, cur, rfl, q⟩
        · omega
        · right
          have hgc : 0 < cap := by have := q.2.2.1; omega
          rw [rowOf_pos _ _ _ hgc]
          rcases r5 with r5 | r5
          · simp [Value.ownBlock] at r5
          · simpa [Value.ownBlock] using r5
      | some b =>
        subst hsize
        subst hby
        have hsmall : 0 + m ≤ 9223372036854775807 := by simp only [maxLen] at h63; omega
        have hr := run_append_grow (P := P) w t ty e i z ht hi hz b 0 0 [] (by simp) (by simp) a m c news hl hnews (by omega) (by omega) (growslice_fits (by omega) hbytes)
        have hge := grownCap_ge w (0 + m) 0 e
        have hcm2 : grownCap w (0 + m) 0 e ≤ maxLen := grownCap_le_maxLen w (0 + m) 0 e h63
        refine ⟨_, _, hr, ⟨by rw [List.nil_append, hl, Nat.zero_add], .inr ⟨w.heap.size, 0, _, _, (0, 0), rfl, by omega, hbase, heap_alloc_new w.drew _, hge, hcm2, ?_, ?_, fun j _ _ => by simp⟩⟩, ⟨rfl, rfl, rfl, by simp, fun k hk _ => heap_alloc_old w.drew _ hk⟩, .inr (rowOf_pos _ _ _ (by omega))⟩
        · simp only [Array.size_append, List.size_toArray, size_zeroCells, hzs, hl, List.length_nil]
          have := Nat.mul_le_mul_right i.size hge
          simp only [Nat.zero_add] at this ⊢
          rw [Nat.sub_mul]
          omega
        · intro j u hu
          rw [List.nil_append] at hu
          rw [Nat.zero_add, Array.getElem?_append_left (by
            have := (List.getElem?_eq_some_iff.1 hu).1
            simpa using this)]
          simpa using hu
  · subst hsize
    subst hby
    have hsmall : n + m ≤ 9223372036854775807 := by simp only [maxLen] at h63; omega
    have hlen : (xs ++ news).length = (n + m) * i.size := by rw [List.length_append, hown.1, hl, Nat.add_mul]
    have hxl := hown.1
    by_cases hroom : n + m ≤ cap
    · have hmul : (n + m) * i.size ≤ cap * i.size := Nat.mul_le_mul_right _ hroom
      rw [Nat.add_mul] at hmul
      have hfit : o + n * i.size + news.length ≤ cur.size := by have := hb.fit; omega
      have hr := run_append_roomA (P := P) w t ty e i ht hi g o n cap cur fz hb.blk a m c news hl hnews h1 (fun j k1 k2 => hb.free j (by omega) (by omega)) hroom hfit
      refine ⟨_, _, hr, ⟨hlen, .inr ⟨g, o, cap, _, fz, rfl, hcp, hb.bs, setRow_heap w g cur _ e _ hb.blk, hroom, hb.hc, ?_, ?_, ?_⟩⟩, ⟨rfl, rfl, rfl, by simp, fun k _ hk => setRow_other w g k _ (fun e => hk (by rw [rowOf_pos _ _ _ hcp, e]))⟩, .inl (by rw [rowOf_pos _ _ _ hcp, rowOf_pos _ _ _ hcp])⟩
      · simp only [List.size_toArray, List.length_append, List.length_take, List.length_drop, Array.length_toList]
        have := hb.fit
        omega
      · intro j u hu
        rw [List.getElem?_toArray]
        by_cases hj : j < xs.length
        · rw [List.getElem?_append_left hj] at hu
          rw [seg_at_lt (by simpa using hfit) (by omega)]
          have := hb.cells j u hu
          simpa using this
        · rw [List.getElem?_append_right (by omega)] at hu
          have hjn : j - xs.length < news.length := (List.getElem?_eq_some_iff.1 hu).1
          rw [show o + j = o + n * i.size + (j - xs.length) by omega, seg_at_new (by simpa using hfit) hjn]
          exact hu
      · intro j k1 k2
        exact hb.free j k1 k2
    · have holds : ∀ j u, xs[j]? = some u → w.cell? ((⟨g, o, none⟩ : Addr).add j) = some u := fun j u hu => by
        have hadd : (⟨g, o, none⟩ : Addr).add j = ⟨g, o + j, none⟩ := by unfold Addr.add; split <;> simp_all
        rw [hadd]
        unfold World.cell?
        rw [hb.blk]
        exact hb.cells j u hu
      have hr := run_append_grow (P := P) w t ty e i z ht hi hz ⟨g, o, none⟩ n cap xs hown.1 holds a m c news hl hnews (by omega) (by omega) (growslice_fits (by omega) hbytes)
      have hge := grownCap_ge w (n + m) cap e
      have hcm2 : grownCap w (n + m) cap e ≤ maxLen := grownCap_le_maxLen w (n + m) cap e h63
      refine ⟨_, _, hr, ⟨hlen, .inr ⟨w.heap.size, 0, _, _, (0, 0), rfl, by omega, hbase, heap_alloc_new w.drew _, hge, hcm2, ?_, ?_, fun j _ _ => by simp⟩⟩, ⟨rfl, rfl, rfl, by simp, fun k hk _ => heap_alloc_old w.drew _ hk⟩, .inr (rowOf_pos _ _ _ (by omega))⟩
      · simp only [Array.size_append, List.size_toArray, size_zeroCells, hzs, hown.1, hl]
        have := Nat.mul_le_mul_right i.size hge
        rw [Nat.add_mul] at this
        rw [Nat.sub_mul, Nat.add_mul]
        omega
      · intro j u hu
        rw [Nat.zero_add, Array.getElem?_append_left (by
          have := (List.getElem?_eq_some_iff.1 hu).1
          simpa using this)]
        simpa using hu
/-- append of nothing that is nil. -/
theorem run_append_nilA (base : Nat) (t ty e : TypeId) (i : TypeInfo) (size : Nat) (ht : P.underlying t = some (.slice e)) (hi : P.info? e = some i)
    (v : Value) (n : Nat) (xs : List Value) (hown : OwnA w base e size v n xs) (c : Nat) : (Builtin.append_ #[t, t] ty #[v, .slice none 0 c]).run P w = .ok v w := by
  rcases hown.2 with ⟨ao, rfl, rfl⟩ | ⟨g, o, cap, cur, fz, rfl, _, hb⟩
  · cases ao <;> simp [Builtin.append_, run_underlying ht, sizeOf, typeInfo, hi, Builtin.lenOf, Builtin.firstCells, storeCells]
  · have := hb.hn
    simp [Builtin.append_, run_underlying ht, sizeOf, typeInfo, hi, Builtin.lenOf, Builtin.firstCells, this, storeCells]
/-- append of a slice that lies there. -/
theorem run_append_svA (base : Nat) (t ty e : TypeId) (i : TypeInfo) (z : Value) (size bytes : Nat) (ht : P.underlying t = some (.slice e)) (hi : P.info? e = some i) (hz : i.zero = some z)
    (hsize : i.size = size) (hby : i.bytes = bytes) (hzs : z.cells.size = size) (hsz : 0 < size)
    (v : Value) (n : Nat) (xs : List Value) (hown : OwnA w base e size v n xs)
    (x : Value) (m : Nat) (news : List Value) (hx : SV w size x m news) (h1 : ∀ u ∈ news, u.oneCell' = true)
    (h63 : n + m ≤ maxLen) (hbytes : (n + m) * bytes ≤ 140737488355328) (hbase : base ≤ w.heap.size) :
    ∃ v' w', (Builtin.append_ #[t, t] ty #[v, x]).run P w = .ok v' w' ∧ OwnA w' base e size v' (n + m) (xs ++ news) ∧ w.grownBy w' (rowOf v) ∧ (rowOf v' = rowOf v ∨ rowOf v' = some w.heap.size) := by
  obtain ⟨ao, c, g, o, rfl, hs⟩ := hx
  cases ao with
  | none =>
    have hc := hs.bare rfl
    subst hc
    have hm : m = 0 := by have := hs.cap; omega
    subst hm
    have hn : news = [] := List.eq_nil_of_length_eq_zero (by have := hs.len; omega)
    subst hn
    exact ⟨v, w, run_append_nilA w base t ty e i size ht hi v n xs hown 0, by simpa using hown, ⟨rfl, rfl, rfl, Nat.le_refl _, fun _ _ _ => rfl⟩, .inl rfl⟩
  | some ad =>
    refine run_append_anyA (P := P) w base t ty e i z size bytes ht hi hz hsize hby hzs hsz v n xs hown ad m c news hs.len (fun j u hu => ?_) h1 h63 hbytes hbase
    rcases hs.lead with rfl | h
    · have hn : news = [] := List.eq_nil_of_length_eq_zero (by have := hs.len; omega)
      subst hn
      simp at hu
    · simp only [Option.some.injEq] at h
      subst h
      have hadd : (⟨g, o, none⟩ : Addr).add j = ⟨g, o + j, none⟩ := by unfold Addr.add; split <;> simp_all
      rw [hadd]
      exact hs.cells j u hu
end
/-- The operation, for the walk. -/
theorem wpList_append_sv {ops : Array Oper} {rest : List Oper} {o : Oper} {a : Act} {w : World} {Q : Exit → Act → World → Prop} {T E size bytes : Nat} {z : Value} (hgd : o.guard = none) (s x : Operand)
    (ho : o.op = .call { callee := .builtin .append, args := #[s, x], argTypes := #[T, T] }) (hT : Tryd.prog.underlying T = some (.slice E))
    (hE : (Tryd.prog.info? E).map (fun i => (i.zero, i.size, i.bytes)) = some (some z, size, bytes)) (hzs : z.cells.size = size) (hsz : 0 < size)
    (base n : Nat) (v : Value) (xs : List Value) (hs : a.eval s = v) (hown : OwnA w base E size v n xs)
    (y : Value) (m : Nat) (news : List Value) (hx : a.eval x = y) (hy : SV w size y m news) (h1 : ∀ u ∈ news, u.oneCell' = true)
    (h63 : n + m ≤ maxLen) (hbytes : (n + m) * bytes ≤ 140737488355328) (hbase : base ≤ w.heap.size)
    (h : ∀ v' w', OwnA w' base E size v' (n + m) (xs ++ news) → w.grownBy w' (rowOf v) → (rowOf v' = rowOf v ∨ rowOf v' = some w.heap.size) → wpList Tryd.prog ops Q rest (a.put o.dst v') w') : wpList Tryd.prog ops Q (o :: rest) a w := by
  obtain ⟨i, hi, hz0, hz1, hz2⟩ := info_parts hE
  refine wpList_plain hgd fun K hK => ?_
  obtain ⟨v', w', hr, h2, h3, h4⟩ := run_append_svA (P := Tryd.prog) w base T o.type E i z size bytes hT hi hz0 hz1 hz2 hzs hsz v n xs hown y m news hy h1 h63 hbytes hbase
  unfold Oper.wp execOp
  simp only [ho, resolve, invoke, builtin, Sem.run_bind, Sem.run_pure, Result.andThen_ok, List.map_toArray, List.map_cons, List.map_nil, hs, hx, hr]
  exact hK _ _ (h v' w' h2 h3 h4)
/-- A step of a region that draws its order. -/
theorem step_append_sv {ops : Array Oper} {o : Oper} {a : Act} {w : World} {K : Act → World → Prop} {Q : Exit → Act → World → Prop} {E' : Prop} {T E size bytes : Nat} {z : Value} (hgd : o.guard = none) (s x : Operand)
    (ho : o.op = .call { callee := .builtin .append, args := #[s, x], argTypes := #[T, T] }) (hT : Tryd.prog.underlying T = some (.slice E))
    (hE : (Tryd.prog.info? E).map (fun i => (i.zero, i.size, i.bytes)) = some (some z, size, bytes)) (hzs : z.cells.size = size) (hsz : 0 < size)
    (base n : Nat) (v : Value) (xs : List Value) (hs : a.eval s = v) (hown : OwnA w base E size v n xs)
    (y : Value) (m : Nat) (news : List Value) (hx : a.eval x = y) (hy : SV w size y m news) (h1 : ∀ u ∈ news, u.oneCell' = true)
    (h63 : n + m ≤ maxLen) (hbytes : (n + m) * bytes ≤ 140737488355328) (hbase : base ≤ w.heap.size)
    (h : ∀ v' w', OwnA w' base E size v' (n + m) (xs ++ news) → w.grownBy w' (rowOf v) → (rowOf v' = rowOf v ∨ rowOf v' = some w.heap.size) → K (a.put o.dst v') w') :
    if Region.wanted o (yielded ops a.tmps) = true then Oper.wp Tryd.prog o a w K Q else E' := by
  have hw : Region.wanted o (yielded ops a.tmps) = true := by simp [Region.wanted, hgd]
  rw [if_pos hw]
  obtain ⟨i, hi, hz0, hz1, hz2⟩ := info_parts hE
  obtain ⟨v', w', hr, h2, h3, h4⟩ := run_append_svA (P := Tryd.prog) w base T o.type E i z size bytes hT hi hz0 hz1 hz2 hzs hsz v n xs hown y m news hy h1 h63 hbytes hbase
  unfold Oper.wp execOp
  simp only [ho, resolve, invoke, builtin, Sem.run_bind, Sem.run_pure, Result.andThen_ok, List.map_toArray, List.map_cons, List.map_nil, hs, hx, hr]
  exact h v' w' h2 h3 h4
/-- Bytes as cells. -/
def bv (l : List UInt8) : List Value := l.map fun b => Value.int .u8 b.toNat
theorem bv_append (a b : List UInt8) : bv (a ++ b) = bv a ++ bv b := by simp [bv]
theorem bv_len (a : List UInt8) : (bv a).length = a.length := by simp [bv]
theorem bv_one (l : List UInt8) : ∀ u ∈ bv l, u.oneCell' = true := by
  intro u hu
  obtain ⟨b, _, rfl⟩ := List.mem_map.1 hu
  rfl
/-- What '[]byte(s)' makes. -/
theorem conv_bytes (w : World) (s : ByteArray) (base : Nat) (hb : base ≤ w.heap.size) (hs : s.size ≤ 1000000000) :
    OwnA (Lib.bytesWorld w 5 s) base 5 1 (.slice (some ⟨w.heap.size, 0, none⟩) s.size (grownCap w s.size 0 5)) s.size (bv s.data.toList) ∧ Below w.heap.size w (Lib.bytesWorld w 5 s) := by
  have hsz : s.data.toList.length = s.size := by rw [Array.length_toList]; rfl
  have hge : s.size ≤ grownCap w s.size 0 5 := grownCap_ge w s.size 0 5
  have hcm : grownCap w s.size 0 5 ≤ maxLen := grownCap_le_maxLen w s.size 0 5 (by unfold maxLen; omega)
  have hcs : (Lib.bytesCells w 5 s).size = grownCap w s.size 0 5 := by
    unfold Lib.bytesCells
    simp only [Array.size_append, Array.size_map, Array.size_replicate]
    have : s.data.size = s.size := rfl
    omega
  by_cases h0 : grownCap w s.size 0 5 = 0
  · rw [h0]
    have hs0 : s.size = 0 := by omega
    refine ⟨⟨by rw [bv_len, hsz, Nat.mul_one], .inl ⟨_, by rw [hs0], hs0⟩⟩, ⟨rfl, rfl, rfl, by rw [Lib.bytesWorld_size]; omega, fun k hk => Lib.bytesWorld_at_old w 5 s k hk⟩⟩
  refine ⟨⟨by rw [bv_len, hsz, Nat.mul_one], .inr ⟨w.heap.size, 0, _, _, _, rfl, by omega, hb, Lib.bytesWorld_at_new w 5 s, hge, hcm, by rw [hcs]; omega, fun j u hu => ?_, fun j k1 k2 => by simp only [hcs]; omega⟩⟩, ?_⟩
  · rw [Nat.zero_add]
    unfold Lib.bytesCells
    have hj : j < s.data.size := by
      have := (List.getElem?_eq_some_iff.1 hu).1
      rw [bv_len] at this
      simpa using this
    rw [Array.getElem?_append_left (by simpa using hj), Array.getElem?_map]
    rw [bv, List.getElem?_map] at hu
    simpa using hu
  · exact ⟨rfl, rfl, rfl, by rw [Lib.bytesWorld_size]; omega, fun k hk => Lib.bytesWorld_at_old w 5 s k hk⟩
/-- A store into one element of a row. -/
theorem OwnB.store {w : World} {base : Nat} {e : TypeId} {size n : Nat} {xs : List Value} {g o cap : Nat} {cur : Array Value} {fz : Nat × Nat} (h : OwnB w base e size n xs g o cap cur fz) (j : Nat) (hj : j < xs.length) (hx : xs.length ≤ cap * size) (u : Value) : OwnB (w.setCell ⟨g, o + j, none⟩ u) base e size n (xs.set j u) g o cap (cur.setIfInBounds (o + j) u) fz := by
  refine ⟨h.bs, ?_, h.hn, h.hc, by rw [Array.size_setIfInBounds]; exact h.fit, fun k v hv => ?_, h.free⟩
  · have hb := h.blk
    have hfz := fz
    show (w.heap.modify g _)[g]? = _
    rw [Array.getElem?_modify, if_pos rfl, hb]
    rfl
  · rw [List.getElem?_set] at hv
    by_cases e2 : j = k
    · subst e2
      rw [if_pos rfl, if_pos hj] at hv
      rw [Array.getElem?_setIfInBounds_self_of_lt (by have := h.fit; omega)]
      exact hv
    · rw [if_neg e2] at hv
      rw [Array.getElem?_setIfInBounds_ne (by omega)]
      exact h.cells k v hv
theorem OwnB.cell {w : World} {base : Nat} {e : TypeId} {size n : Nat} {xs : List Value} {g o cap : Nat} {cur : Array Value} {fz : Nat × Nat} (h : OwnB w base e size n xs g o cap cur fz) {j : Nat} {u : Value} (hj : xs[j]? = some u) (hx : xs.length ≤ cap * size) : w.cell? ⟨g, o + j, none⟩ = some u ∧ w.frozen? ⟨g, o + j, none⟩ = false := by
  have hlt := (List.getElem?_eq_some_iff.1 hj).1
  refine ⟨by unfold World.cell?; rw [h.blk]; exact h.cells j u hj, ?_⟩
  have := h.free (o + j) (by omega) (by omega)
  obtain ⟨lo, hi⟩ := fz
  simp only [World.frozen?, h.blk, Bool.and_eq_false_iff, decide_eq_false_iff_not]
  simp only at this
  omega
theorem OwnB.keep {w w' : World} {base : Nat} {e : TypeId} {size n : Nat} {xs : List Value} {g o cap : Nat} {cur : Array Value} {fz : Nat × Nat} (h : OwnB w base e size n xs g o cap cur fz) (hk : w'.heap[g]? = w.heap[g]?) : OwnB w' base e size n xs g o cap cur fz :=
  ⟨h.bs, hk.trans h.blk, h.hn, h.hc, h.fit, h.cells, h.free⟩
theorem grown_none_below {w w' : World} (h : w.grownBy w' none) : Below w.heap.size w w' := (Below.refl _ w).grown h (Nat.le_refl _) (fun k hk => by cases hk)
theorem set_blk {w : World} {p i t : Nat} {cs : Array Value} {u : Value} (h : w.heap[p]? = some (.cells cs t (0, 0))) : (w.setCell ⟨p, i, none⟩ u).heap[p]? = some (.cells (cs.setIfInBounds i u) t (0, 0)) := heap_setCell_same w p i cs t u h
theorem round_new2 {w wr : World} {k p : Nat} (A : Obj) (hB : Below k w wr) (hk : k ≤ wr.heap.size) (hp : wr.heap.size = p) : ∀ wz, wr.alloc A = wz → wz.heap.size = p + 1 ∧ wz.heap[p]? = some A ∧ Below k w wz ∧ Below wr.heap.size wr wz := by
  rintro wz rfl
  subst hp
  exact ⟨by rw [alsize], heap_alloc_new wr A, hB.alloc hk A, (Below.refl _ wr).alloc (Nat.le_refl _) A⟩
theorem two_allocs (w : World) (A F : Obj) (k : Nat) (hk : w.heap.size = k) : ∀ W, (w.alloc A).alloc F = W →
    W.heap[k]? = some A ∧ W.heap[k + 1]? = some F ∧ W.heap.size = k + 2 ∧ Below k w W := by
  rintro W rfl
  subst hk
  refine ⟨?_, ?_, by simp only [alsize], ((Below.refl _ w).alloc (Nat.le_refl _) _).alloc (by simp) _⟩
  · rw [heap_alloc_old _ _ (by simp only [alsize]; omega)]; exact heap_alloc_new _ _
  · have := heap_alloc_new (w.alloc A) F; simp only [alsize] at this; exact this
theorem set_far {w : World} {b p i j : Nat} {u v : Value} (h : w.cell? ⟨b, i, none⟩ = some u) (hne : b ≠ p) : (w.setCell ⟨p, j, none⟩ v).cell? ⟨b, i, none⟩ = some u :=
  (World.cell?_of_block (w := w) (a := ⟨b, i, none⟩) (heap_setCell_other w ⟨p, j, none⟩ b v hne)).trans h
theorem setRow_below {w wx : World} {k : Nat} {cells : Array Value} (h : Below k w wx) : Below k w (wx.setRow k cells) := h.trans ⟨rfl, rfl, rfl, by simp, fun z hz => setRow_other wx k z _ (by omega)⟩
/-- An append of new elements, just boxed, to a row of the call's own. -/
theorem wpList_new {w W : World} {ops : Array Oper} {rest : List Oper} {o' : Oper} {a : Act} {Q : Exit → Act → World → Prop} {T E size bytes : Nat} {z : Value} (hgd : o'.guard = none) (s x : Operand)
    (ho : o'.op = .call { callee := .builtin .append, args := #[s, x], argTypes := #[T, T] }) (hT : Tryd.prog.underlying T = some (.slice E))
    (hE : (Tryd.prog.info? E).map (fun i => (i.zero, i.size, i.bytes)) = some (some z, size, bytes)) (hzs : z.cells.size = size) (hsz : 0 < size)
    (base n : Nat) (v : Value) (xs : List Value) (m c : Nat) (news : List Value) (hl : news.length = m * size) (hown : w.ownsRow base E size v n xs) (hsv : a.eval s = v) (hx : a.eval x = .slice (some ⟨w.heap.size, 0, none⟩) m c)
    (h1 : ∀ u ∈ news, u.oneCell' = true) (h63 : n + m ≤ maxLen) (hby : (n + m) * bytes ≤ 140737488355328) (hbase : base ≤ w.heap.size) (hW : W = w.alloc (.cells news.toArray E))
    (h : ∀ v' w', w'.ownsRow base E size v' (n + m) (xs ++ news) → (w.alloc (.cells news.toArray E)).grownBy w' v.ownBlock → wpList Tryd.prog ops Q rest (a.put o'.dst v') w') : wpList Tryd.prog ops Q (o' :: rest) a W := by
  subst hW
  obtain ⟨i, hi, hz0, hz1, hz2⟩ := info_parts hE
  refine wpList_append_own (P := Tryd.prog) _ hgd s x T ho base E i z size bytes hT hi hz0 hz1 hz2 hzs hsz v n xs hsv (hown.alloc _) ⟨w.heap.size, 0, none⟩ m c news hx hl (fun j u hj => ?_) h1 h63 hby (by simp; omega) (fun v' w' h2 h3 _ => h v' w' h2 h3)
  have hadd : (⟨w.heap.size, 0, none⟩ : Addr).add j = ⟨w.heap.size, j, none⟩ := by unfold Addr.add; split <;> simp_all
  rw [hadd]
  have hb : (w.alloc (.cells news.toArray E)).heap[w.heap.size]? = some (.cells news.toArray E) := Array.getElem?_push_size
  rw [cell_of_row _ _ _ _ _ _ hb]
  simpa using hj
theorem below_new {w wr w1 : World} {E size : Nat} {news : List Value} {v : Value} {n : Nat} {xs : List Value} {b : Nat} (hbw : b = w.heap.size) (hB : Below b w wr) (hown : wr.ownsRow b E size v n xs) (hg : (wr.alloc (.cells news.toArray E)).grownBy w1 v.ownBlock) : Below b w w1 := by
  have := hB.size
  refine Below.grown (hB.alloc (by omega) _) hg (by simp; omega) (fun k hk => (hown.lt k hk).1)
section
variable {P : Program} {ops : Array Oper} {Q : Exit → Act → World → Prop} {md : Region.Mode} {C0 C1 : World → Prop} {B : Nat}
/-- What is asked of the world: C0 always, C1 till step B has come up. -/
def SB (C0 C1 : World → Prop) (B : Nat) (listed : Array Bool) (w : World) : Prop := C0 w ∧ (listed.getD B true = false → C1 w)
def anyL (P : Program) (md : Region.Mode) (ops : Array Oper) (Q : Exit → Act → World → Prop) (C0 C1 : World → Prop) (B : Nat) : Nat → Array Bool → Act → World → Prop
  | 0, listed, a, w => Region.ready md ops listed = [] ∧ Q .normal a w
  | fuel + 1, listed, a, w => (Region.ready md ops listed = [] → Q .normal a w) ∧ ∀ i ∈ Region.ready md ops listed, wpOp P ops Q i (fun a' w' => SB C0 C1 B (listed.setIfInBounds i true) w' ∧ anyL P md ops Q C0 C1 B fuel (listed.setIfInBounds i true) a' w') a w
theorem any_of_L : ∀ (fuel : Nat) (listed : Array Bool) (a : Act) (w : World), anyL P md ops Q C0 C1 B fuel listed a w → wpAny P md ops Q fuel listed a w
  | 0, _, _, _, h => h
  | fuel + 1, _, _, _, h => ⟨h.1, fun i hi => wpOp_mono (fun a' w' h' => any_of_L fuel _ a' w' h'.2) (h.2 i hi)⟩
/-- Whatever has come up, what it waits for has. -/
def Shutd (md : Region.Mode) (ops : Array Oper) (listed : Array Bool) : Prop := listed.size = ops.size ∧ ∀ (j : Nat) (oj : Oper), ops[j]? = some oj → listed.getD j false = true → ∀ e ∈ oj.after, Region.binds md e = true → listed.getD e.on false = true
theorem Shutd.start : Shutd md ops (Array.replicate ops.size false) := ⟨by simp, fun j oj hj h => by
  have hlt := (Array.getElem?_eq_some_iff.1 hj).1
  simp [hlt] at h⟩
theorem Shutd.next {listed : Array Bool} {i : Nat} (h : Shutd md ops listed) (hi : i ∈ Region.ready md ops listed) : Shutd md ops (listed.setIfInBounds i true) := by
  obtain ⟨h0, o, ho, hall⟩ := mem_ready.1 hi
  refine ⟨by simpa using h.1, fun j oj hj hl e he hb => ?_⟩
  by_cases hij : i = j
  · subst hij
    obtain rfl := Option.some.inj (hj.symm.trans ho)
    exact getD_set_true (hall e he hb)
  · rw [getD_set_ne false hij] at hl
    exact getD_set_true (h.2 j oj hj hl e he hb)
/-- Does step B wait for step i, it may be through others? -/
def waits (md : Region.Mode) (ops : Array Oper) (i : Nat) : Nat → Nat → Bool
  | 0, _ => false
  | n + 1, B => match ops[B]? with
    | some o => o.after.any fun e => Region.binds md e && (e.on == i || waits md ops i n e.on)
    | none => false
theorem waits_listed {listed : Array Bool} {i : Nat} (h : Shutd md ops listed) : ∀ (n B : Nat), waits md ops i n B = true → listed.getD B false = true → listed.getD i false = true
  | 0, B, hw, _ => by cases hw
  | n + 1, B, hw, hB => by
    unfold waits at hw
    split at hw
    · next o ho =>
      obtain ⟨e, he, hb⟩ := Array.any_eq_true'.1 hw
      simp only [Bool.and_eq_true, Bool.or_eq_true, beq_iff_eq] at hb
      have h1 := h.2 B o ho hB e he hb.1
      rcases hb.2 with h2 | h2
      · rw [← h2]; exact h1
      · exact waits_listed h n e.on h2 h1
    · cases hw
theorem waits_some {i : Nat} : ∀ (n B : Nat), waits md ops i n B = true → B < ops.size
  | 0, B, hw => by cases hw
  | n + 1, B, hw => by
    unfold waits at hw
    split at hw
    · next o ho => exact (Array.getElem?_eq_some_iff.1 ho).1
    · cases hw
theorem unlisted {listed : Array Bool} {i n : Nat} (h : Shutd md ops listed) (hw : waits md ops i n B = true) (hi : listed.getD i true = false) : listed.getD B true = false := by
  have hlt : B < listed.size := by rw [h.1]; exact waits_some n B hw
  cases hB : listed.getD B true with
  | false => rfl
  | true =>
    have hB2 : listed.getD B false = true := by simp [hlt] at hB ⊢; exact hB
    have := waits_listed h n B hw hB2
    rcases Nat.lt_or_ge i listed.size with h' | h'
    · simp [h'] at this hi; rw [hi] at this; cases this
    · simp [Array.getElem?_eq_none h'] at hi
theorem anyL_first {S0 : World → Prop} {i : Nat} {oi : Oper} {v : Value} (hi : ops[i]? = some oi) (hsel : ∀ (j : Nat) (o : Oper) cs b, ops[j]? = some o → o.op ≠ .select cs b)
    (hQ : ∀ c a w, Q (.panic c) (a.put oi.dst v) w → Q (.panic c) a w) (hiB : i ≠ B)
    (h0 : ∀ listed w, Shutd md ops listed → listed.getD i true = false → SB C0 C1 B listed w → S0 w) :
    ∀ (fuel : Nat) (listed : Array Bool) (a : Act) (w : World), Shutd md ops listed →
      (∀ j oj, ops[j]? = some oj → j ≠ i → listed.getD j true = false → (∀ e ∈ oj.after, Region.binds md e = true → e.on ≠ i) → oi.apart ops oj = true) →
      i ∈ Region.ready md ops listed → YieldsIf P ops S0 oi v a → SB C0 C1 B listed w →
      anyL P md ops Q C0 C1 B fuel (listed.setIfInBounds i true) (a.put oi.dst v) w → anyL P md ops Q C0 C1 B (fuel + 1) listed a w := by
  have same : ∀ (listed : Array Bool) w, SB C0 C1 B (listed.setIfInBounds i true) w ↔ SB C0 C1 B listed w := fun listed w => by
    unfold SB; rw [getD_set_ne true hiB]
  intro fuel
  induction fuel with
  | zero =>
    intro listed a w hsh _ hr hy hS H
    refine ⟨fun h => (by rw [h] at hr; cases hr), fun j hj => ?_⟩
    by_cases hji : j = i
    · subst hji; exact hy.wpOp hi (h0 _ _ hsh (mem_ready.1 hr).1 hS) ⟨(same _ _).2 hS, H⟩
    · have := ready_mono hj hji
      rw [H.1] at this
      cases this
  | succ fuel ih =>
    intro listed a w hsh hfree hr hy hS H
    refine ⟨fun h => (by rw [h] at hr; cases hr), fun j hj => ?_⟩
    by_cases hji : j = i
    · subst hji; exact hy.wpOp hi (h0 _ _ hsh (mem_ready.1 hr).1 hS) ⟨(same _ _).2 hS, H⟩
    · have h1 := H.2 j (ready_mono hj hji)
      obtain ⟨hjun, oj, hoj, hall⟩ := mem_ready.1 hj
      have hnot : ∀ e ∈ oj.after, Region.binds md e = true → e.on ≠ i := fun e he hb heq => by
        have h1 := hall e he hb
        have h0 := (mem_ready.1 hr).1
        rw [heq] at h1
        rcases Nat.lt_or_ge i listed.size with h' | h'
        · simp [h'] at h0 h1; rw [h0] at h1; cases h1
        · simp [Array.getElem?_eq_none h'] at h1
      have h2 := wpOp_putIf hoj (hfree j oj hoj hji hjun hnot) (fun cs b => hsel i oi cs b hi) (fun cs b => hsel j oj cs b hoj) hQ hy h1
      have hfree' : ∀ k ok, ops[k]? = some ok → k ≠ i → (listed.setIfInBounds j true).getD k true = false →
          (∀ e ∈ ok.after, Region.binds md e = true → e.on ≠ i) → oi.apart ops ok = true := fun k ok hk hki hun hno => by
        refine hfree k ok hk hki ?_ hno
        by_cases hjk : j = k
        · subst hjk; exact hjun
        · rw [getD_set_ne true hjk] at hun; exact hun
      refine wpOp_mono (fun a' w' h3 => ?_) h2
      have e := Array.setIfInBounds_comm (xs := listed) true true hji
      obtain ⟨q1, q2, q3⟩ := h3
      rw [← e] at q2 q3
      exact ⟨(same _ _).1 q2, ih (listed.setIfInBounds j true) a' w' (hsh.next hj) hfree' (ready_mono hr (Ne.symm hji)) q1 ((same _ _).1 q2) q3⟩
/-- Step i, which reads what C0 tells, is taken first. -/
theorem anyL_take {i : Nat} {oi : Oper} {v : Value} {fuel : Nat} {listed : Array Bool} {a : Act} {w : World} (hi : ops[i]? = some oi)
    (hs : Region.noSelect ops = true) (hf : Region.free md ops listed i = true) (hr : (Region.ready md ops listed).contains i = true) (hiB : i ≠ B) (hsh : Shutd md ops listed)
    (hQ : ∀ c a w, Q (.panic c) (a.put oi.dst v) w → Q (.panic c) a w) (hy : YieldsIf P ops C0 oi v a) (hS : SB C0 C1 B listed w)
    (h : Shutd md ops (listed.setIfInBounds i true) → SB C0 C1 B (listed.setIfInBounds i true) w → anyL P md ops Q C0 C1 B fuel (listed.setIfInBounds i true) (a.put oi.dst v) w) : anyL P md ops Q C0 C1 B (fuel + 1) listed a w :=
  anyL_first hi (Region.noSelect_spec hs) hQ hiB (fun l w' _ _ h => h.1) fuel listed a w hsh (Region.free_spec hi hf) (by simpa using hr) hy hS (h (hsh.next (by simpa using hr)) (by unfold SB at hS ⊢; rw [getD_set_ne true hiB]; exact hS))
/-- Step i, which reads what C1 tells, is taken first: step B waits for it. -/
theorem anyL_take1 (n : Nat) {i : Nat} {oi : Oper} {v : Value} {fuel : Nat} {listed : Array Bool} {a : Act} {w : World} (hi : ops[i]? = some oi)
    (hs : Region.noSelect ops = true) (hf : Region.free md ops listed i = true) (hr : (Region.ready md ops listed).contains i = true) (hiB : i ≠ B) (hwt : waits md ops i n B = true) (hsh : Shutd md ops listed)
    (hQ : ∀ c a w, Q (.panic c) (a.put oi.dst v) w → Q (.panic c) a w) (hy : YieldsIf P ops C1 oi v a) (hS : SB C0 C1 B listed w)
    (h : Shutd md ops (listed.setIfInBounds i true) → SB C0 C1 B (listed.setIfInBounds i true) w → anyL P md ops Q C0 C1 B fuel (listed.setIfInBounds i true) (a.put oi.dst v) w) : anyL P md ops Q C0 C1 B (fuel + 1) listed a w :=
  anyL_first hi (Region.noSelect_spec hs) hQ hiB (fun l w' hl hu h => h.2 (unlisted hl hwt hu)) fuel listed a w hsh (Region.free_spec hi hf) (by simpa using hr) hy hS (h (hsh.next (by simpa using hr)) (by unfold SB at hS ⊢; rw [getD_set_ne true hiB]; exact hS))
/-- One step alone may come up. -/
theorem anyL_one {i : Nat} {o : Oper} {fuel : Nat} {listed : Array Bool} {a : Act} {w : World} (hr : Region.ready md ops listed = [i]) (ho : ops[i]? = some o) (hsh : Shutd md ops listed)
    (h : ∀ K' : Act → World → Prop, Shut (∀ a w, SB C0 C1 B (listed.setIfInBounds i true) w → (Shutd md ops (listed.setIfInBounds i true) → SB C0 C1 B (listed.setIfInBounds i true) w → anyL P md ops Q C0 C1 B fuel (listed.setIfInBounds i true) a w) → K' a w) → if Region.wanted o (yielded ops a.tmps) = true then Oper.wp P o a w K' Q else K' (a.put o.dst undef) w) : anyL P md ops Q C0 C1 B (fuel + 1) listed a w := by
  refine ⟨fun h0 => absurd (h0.symm.trans hr) (by simp), fun j hj => ?_⟩
  rw [hr] at hj
  obtain rfl : j = i := by simpa using hj
  exact wpOp_step ho (fun K' hK => h K' (fun a w hS hW => hK a w ⟨hS, hW (hsh.next (by rw [hr]; simp)) hS⟩))
theorem anyL_done {listed : Array Bool} {a : Act} {w : World} (hr : Region.ready md ops listed = []) (h : Q .normal a w) : ∀ fuel, anyL P md ops Q C0 C1 B fuel listed a w
  | 0 => ⟨hr, h⟩
  | _ + 1 => ⟨fun _ => h, by rw [hr]; simp⟩
/-- The beginning. -/
theorem wp_region_L {id : Nat} {a : Act} {w : World} (C0 C1 : World → Prop) (B : Nat) (hm : P.follows .mixedOrders = true) (h0 : C0 w.drew) (h1 : C1 w.drew)
    (h : Shutd .any ops (Array.replicate ops.size false) → SB C0 C1 B (Array.replicate ops.size false) w.drew → anyL P .any ops Q C0 C1 B ops.size (Array.replicate ops.size false) a w.drew) : (Code.region id ops true).wp P Q a w :=
  wp_region_any hm (any_of_L _ _ _ _ (h .start ⟨h0, fun _ => h1⟩))
theorem cell_alloc {w : World} {a : Addr} {u : Value} (o : Obj) (h : w.cell? a = some u) : (w.alloc o).cell? a = some u := by
  rw [World.cell?_alloc_some _ _ _ (by simp [h])]; exact h
end
end Go.Proofs.YthkmdmobeadigaaDoor.lg
