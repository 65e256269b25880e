/- Programs of maps as plain data: expressions and statements, lists and trees in one; how they lie in memory. No walk here. -/
import Derived.Test.YthkmdmobeadigaaDoorProg
import Derived.WalkKit
import Derived.Handy
import Derived.Below
import Derived.KernelRfl
namespace Go.Proofs.YthkmdmobeadigaaDoor.lg
open Go.RowKit
set_option linter.unusedVariables false
/-- What is kept aside of a walk. -/
structure Aside0 (p : Prop) : Prop where mk :: (out : p)
/-- A list of expressions. -/
inductive Exs
  | nil
  | cons (kind num : Int) (name op : ByteArray) (args rest : Exs)
/-- A list of statements. -/
inductive Sts
  | nil
  | cons (kind : Int) (name key val : ByteArray) (exprs : Exs) (body els rest : Sts)
/-- One expression; one statement. -/
structure Ex where
  kind : Int
  num : Int
  name : ByteArray
  op : ByteArray
  args : Exs
structure St where
  kind : Int
  name : ByteArray
  key : ByteArray
  val : ByteArray
  exprs : Exs
  body : Sts
  els : Sts
def Exs.len : Exs → Nat
  | .nil => 0
  | .cons _ _ _ _ _ r => r.len + 1
def Sts.len : Sts → Nat
  | .nil => 0
  | .cons _ _ _ _ _ _ _ r => r.len + 1
def Exs.get : Exs → Nat → Option Ex
  | .nil, _ => none
  | .cons k n m o a _, 0 => some ⟨k, n, m, o, a⟩
  | .cons _ _ _ _ _ r, j + 1 => r.get j
def Sts.get : Sts → Nat → Option St
  | .nil, _ => none
  | .cons k n x v e b f _, 0 => some ⟨k, n, x, v, e, b, f⟩
  | .cons _ _ _ _ _ _ _ r, j + 1 => r.get j
def Exs.drop : Exs → Nat → Exs
  | l, 0 => l
  | .nil, _ + 1 => .nil
  | .cons _ _ _ _ _ r, j + 1 => r.drop j
def Sts.drop : Sts → Nat → Sts
  | l, 0 => l
  | .nil, _ + 1 => .nil
  | .cons _ _ _ _ _ _ _ r, j + 1 => r.drop j
def Exs.take : Exs → Nat → Exs
  | _, 0 => .nil
  | .nil, _ + 1 => .nil
  | .cons k n m o a r, j + 1 => .cons k n m o a (r.take j)
def Sts.take : Sts → Nat → Sts
  | _, 0 => .nil
  | .nil, _ + 1 => .nil
  | .cons k n x v e b f r, j + 1 => .cons k n x v e b f (r.take j)
/-- One put in front. -/
def Ex.on (x : Ex) (r : Exs) : Exs := .cons x.kind x.num x.name x.op x.args r
def St.on (x : St) (r : Sts) : Sts := .cons x.kind x.name x.key x.val x.exprs x.body x.els r
/-- Nodes and bytes. -/
def Exs.wt : Exs → Nat
  | .nil => 0
  | .cons _ _ m o a r => 1 + m.size + o.size + a.wt + r.wt
def Sts.wt : Sts → Nat
  | .nil => 0
  | .cons _ n x v e b f r => 1 + n.size + x.size + v.size + e.wt + b.wt + f.wt + r.wt
def Ex.wt (x : Ex) : Nat := 1 + x.name.size + x.op.size + x.args.wt
def St.wt (x : St) : Nat := 1 + x.name.size + x.key.size + x.val.size + x.exprs.wt + x.body.wt + x.els.wt
def In64 (n : Int) : Prop := -9223372036854775808 ≤ n ∧ n ≤ 9223372036854775807
/-- The numbers are ints. -/
def Exs.Ok : Exs → Prop
  | .nil => True
  | .cons k n _ _ a r => In64 k ∧ In64 n ∧ a.Ok ∧ r.Ok
def Sts.Ok : Sts → Prop
  | .nil => True
  | .cons k _ _ _ e b f r => In64 k ∧ e.Ok ∧ b.Ok ∧ f.Ok ∧ r.Ok
theorem Exs.get_lt : ∀ {l : Exs} {j : Nat}, j < l.len → ∃ x, l.get j = some x
  | .cons k n m o a r, 0, _ => ⟨_, rfl⟩
  | .cons k n m o a r, j + 1, h => Exs.get_lt (l := r) (j := j) (by simp only [Exs.len] at h; omega)
theorem Exs.lt_get : ∀ {l : Exs} {j : Nat} {x : Ex}, l.get j = some x → j < l.len
  | .nil, _, _, h => by cases h
  | .cons k n m o a r, 0, _, _ => by simp only [Exs.len]; omega
  | .cons k n m o a r, j + 1, x, h => by have := Exs.lt_get (l := r) (j := j) (x := x) h; simp only [Exs.len]; omega
theorem Sts.get_lt : ∀ {l : Sts} {j : Nat}, j < l.len → ∃ x, l.get j = some x
  | .cons k n m o a b f r, 0, _ => ⟨_, rfl⟩
  | .cons k n m o a b f r, j + 1, h => Sts.get_lt (l := r) (j := j) (by simp only [Sts.len] at h; omega)
theorem Sts.lt_get : ∀ {l : Sts} {j : Nat} {x : St}, l.get j = some x → j < l.len
  | .nil, _, _, h => by cases h
  | .cons k n m o a b f r, 0, _, _ => by simp only [Sts.len]; omega
  | .cons k n m o a b f r, j + 1, x, h => by have := Sts.lt_get (l := r) (j := j) (x := x) h; simp only [Sts.len]; omega
theorem Exs.drop_get : ∀ {l : Exs} {j : Nat} {x : Ex}, l.get j = some x → l.drop j = x.on (l.drop (j + 1))
  | .nil, _, _, h => by cases h
  | .cons k n m o a r, 0, x, h => by simp only [Exs.get, Option.some.injEq] at h; subst h; cases r <;> rfl
  | .cons k n m o a r, j + 1, x, h => Exs.drop_get (l := r) (j := j) h
theorem Sts.drop_get : ∀ {l : Sts} {j : Nat} {x : St}, l.get j = some x → l.drop j = x.on (l.drop (j + 1))
  | .nil, _, _, h => by cases h
  | .cons k n m o a b f r, 0, x, h => by simp only [Sts.get, Option.some.injEq] at h; subst h; cases r <;> rfl
  | .cons k n m o a b f r, j + 1, x, h => Sts.drop_get (l := r) (j := j) h
theorem Exs.drop_len : ∀ (l : Exs), l.drop l.len = .nil
  | .nil => rfl
  | .cons k n m o a r => Exs.drop_len r
theorem Sts.drop_len : ∀ (l : Sts), l.drop l.len = .nil
  | .nil => rfl
  | .cons k n m o a b f r => Sts.drop_len r
theorem Exs.take_len : ∀ (l : Exs), l.take l.len = l
  | .nil => rfl
  | .cons k n m o a r => by simp only [Exs.len, Exs.take, Exs.take_len r]
theorem Sts.take_len : ∀ (l : Sts), l.take l.len = l
  | .nil => rfl
  | .cons k n m o a b f r => by simp only [Sts.len, Sts.take, Sts.take_len r]
theorem Exs.len_take : ∀ (l : Exs) (j : Nat), j ≤ l.len → (l.take j).len = j
  | .nil, 0, _ => rfl
  | .nil, j + 1, h => by simp only [Exs.len] at h; omega
  | .cons k n m o a r, 0, _ => rfl
  | .cons k n m o a r, j + 1, h => by simp only [Exs.take, Exs.len]; rw [Exs.len_take r j (by simp only [Exs.len] at h; omega)]
theorem Sts.len_take : ∀ (l : Sts) (j : Nat), j ≤ l.len → (l.take j).len = j
  | .nil, 0, _ => rfl
  | .nil, j + 1, h => by simp only [Sts.len] at h; omega
  | .cons k n m o a b f r, 0, _ => rfl
  | .cons k n m o a b f r, j + 1, h => by simp only [Sts.take, Sts.len]; rw [Sts.len_take r j (by simp only [Sts.len] at h; omega)]
theorem Exs.len_wt : ∀ (l : Exs), l.len ≤ l.wt
  | .nil => Nat.le_refl _
  | .cons k n m o a r => by have := Exs.len_wt r; simp only [Exs.len, Exs.wt]; omega
theorem Sts.len_wt : ∀ (l : Sts), l.len ≤ l.wt
  | .nil => Nat.le_refl _
  | .cons k n m o a b f r => by have := Sts.len_wt r; simp only [Sts.len, Sts.wt]; omega
theorem Exs.get_wt : ∀ {l : Exs} {j : Nat} {x : Ex}, l.get j = some x → x.wt ≤ l.wt
  | .nil, _, _, h => by cases h
  | .cons k n m o a r, 0, x, h => by simp only [Exs.get, Option.some.injEq] at h; subst h; simp only [Ex.wt, Exs.wt]; omega
  | .cons k n m o a r, j + 1, x, h => by have := Exs.get_wt (l := r) (j := j) h; simp only [Exs.wt]; omega
theorem Sts.get_wt : ∀ {l : Sts} {j : Nat} {x : St}, l.get j = some x → x.wt ≤ l.wt
  | .nil, _, _, h => by cases h
  | .cons k n m o a b f r, 0, x, h => by simp only [Sts.get, Option.some.injEq] at h; subst h; simp only [St.wt, Sts.wt]; omega
  | .cons k n m o a b f r, j + 1, x, h => by have := Sts.get_wt (l := r) (j := j) h; simp only [Sts.wt]; omega
theorem Ex.on_wt (x : Ex) (r : Exs) : (x.on r).wt = x.wt + r.wt := by simp only [Ex.on, Ex.wt, Exs.wt]
theorem St.on_wt (x : St) (r : Sts) : (x.on r).wt = x.wt + r.wt := by simp only [St.on, St.wt, Sts.wt]
structure Ex.Ok (x : Ex) : Prop where
  kind : In64 x.kind
  num : In64 x.num
  args : x.args.Ok
structure St.Ok (x : St) : Prop where
  kind : In64 x.kind
  exprs : x.exprs.Ok
  body : x.body.Ok
  els : x.els.Ok
theorem Exs.Ok.get : ∀ {l : Exs} {j : Nat} {x : Ex}, l.Ok → l.get j = some x → x.Ok
  | .nil, _, _, _, h => by cases h
  | .cons k n m o a r, 0, x, ok, h => by simp only [Exs.get, Option.some.injEq] at h; subst h; exact ⟨ok.1, ok.2.1, ok.2.2.1⟩
  | .cons k n m o a r, j + 1, x, ok, h => Exs.Ok.get (l := r) (j := j) ok.2.2.2 h
theorem Sts.Ok.get : ∀ {l : Sts} {j : Nat} {x : St}, l.Ok → l.get j = some x → x.Ok
  | .nil, _, _, _, h => by cases h
  | .cons k n m o a b f r, 0, x, ok, h => by simp only [Sts.get, Option.some.injEq] at h; subst h; exact ⟨ok.1, ok.2.1, ok.2.2.1, ok.2.2.2.1⟩
  | .cons k n m o a b f r, j + 1, x, ok, h => Sts.Ok.get (l := r) (j := j) ok.2.2.2.2 h
/-- A slice leads to its elements; nil has no capacity. -/
structure Hd (ao : Option Addr) (n c b o : Nat) : Prop where
  lead : n = 0 ∨ ao = some ⟨b, o, none⟩
  bare : ao = none → c = 0
  cap : n ≤ c
/-- The expressions l lie from ⟨b, o⟩ on, in blocks of P. -/
def LEs (P : Nat → Prop) (w : World) : Nat → Nat → Exs → Prop
  | _, _, .nil => True
  | b, o, .cons k n m p a r => P b ∧ (w.cell? ⟨b, o, none⟩ = some (.int .i64 k) ∧ w.cell? ⟨b, o + 1, none⟩ = some (.int .i64 n) ∧ w.cell? ⟨b, o + 2, none⟩ = some (.string m) ∧ w.cell? ⟨b, o + 3, none⟩ = some (.string p)) ∧
      (∃ ao c b' o', w.cell? ⟨b, o + 4, none⟩ = some (.slice ao a.len c) ∧ Hd ao a.len c b' o' ∧ LEs P w b' o' a) ∧ LEs P w b (o + 5) r
/-- The statements l lie from ⟨b, o⟩ on. -/
def LSs (P : Nat → Prop) (w : World) : Nat → Nat → Sts → Prop
  | _, _, .nil => True
  | b, o, .cons k n x v e s f r => P b ∧ (w.cell? ⟨b, o, none⟩ = some (.int .i64 k) ∧ w.cell? ⟨b, o + 1, none⟩ = some (.string n) ∧ w.cell? ⟨b, o + 2, none⟩ = some (.string x) ∧ w.cell? ⟨b, o + 3, none⟩ = some (.string v)) ∧
      (∃ ao c b' o', w.cell? ⟨b, o + 4, none⟩ = some (.slice ao e.len c) ∧ Hd ao e.len c b' o' ∧ LEs P w b' o' e) ∧
      (∃ ao c b' o', w.cell? ⟨b, o + 5, none⟩ = some (.slice ao s.len c) ∧ Hd ao s.len c b' o' ∧ LSs P w b' o' s) ∧
      (∃ ao c b' o', w.cell? ⟨b, o + 6, none⟩ = some (.slice ao f.len c) ∧ Hd ao f.len c b' o' ∧ LSs P w b' o' f) ∧ LSs P w b (o + 7) r
/-- A slice of expressions; of statements. -/
def HE (P : Nat → Prop) (w : World) (v : Value) (l : Exs) : Prop := ∃ ao c b o, v = .slice ao l.len c ∧ Hd ao l.len c b o ∧ LEs P w b o l
def HS (P : Nat → Prop) (w : World) (v : Value) (l : Sts) : Prop := ∃ ao c b o, v = .slice ao l.len c ∧ Hd ao l.len c b o ∧ LSs P w b o l
/-- What one expression's cells hold. -/
structure AtE (P : Nat → Prop) (w : World) (b o : Nat) (x : Ex) : Prop where
  here : P b
  kind : w.cell? ⟨b, o, none⟩ = some (.int .i64 x.kind)
  num : w.cell? ⟨b, o + 1, none⟩ = some (.int .i64 x.num)
  name : w.cell? ⟨b, o + 2, none⟩ = some (.string x.name)
  op : w.cell? ⟨b, o + 3, none⟩ = some (.string x.op)
  args : ∃ va, w.cell? ⟨b, o + 4, none⟩ = some va ∧ HE P w va x.args
structure AtS (P : Nat → Prop) (w : World) (b o : Nat) (x : St) : Prop where
  here : P b
  kind : w.cell? ⟨b, o, none⟩ = some (.int .i64 x.kind)
  name : w.cell? ⟨b, o + 1, none⟩ = some (.string x.name)
  key : w.cell? ⟨b, o + 2, none⟩ = some (.string x.key)
  val : w.cell? ⟨b, o + 3, none⟩ = some (.string x.val)
  exprs : ∃ ve, w.cell? ⟨b, o + 4, none⟩ = some ve ∧ HE P w ve x.exprs
  body : ∃ vb, w.cell? ⟨b, o + 5, none⟩ = some vb ∧ HS P w vb x.body
  els : ∃ vf, w.cell? ⟨b, o + 6, none⟩ = some vf ∧ HS P w vf x.els
theorem LEs.at {P : Nat → Prop} {w : World} : ∀ {l : Exs} {b o j : Nat} {x : Ex}, LEs P w b o l → l.get j = some x → AtE P w b (o + j * 5) x
  | .cons k n m p a r, b, o, 0, x, h, hx => by
    simp only [Exs.get, Option.some.injEq] at hx
    subst hx
    obtain ⟨hP, ⟨h0, h1, h2, h3⟩, ⟨ao, c, b', o', h4, h5, h6⟩, _⟩ := h
    simp only [Nat.zero_mul, Nat.add_zero]
    exact ⟨hP, h0, h1, h2, h3, _, h4, ao, c, b', o', rfl, h5, h6⟩
  | .cons k n m p a r, b, o, j + 1, x, h, hx => by
    have := LEs.at (l := r) (b := b) (o := o + 5) (j := j) (x := x) h.2.2.2 hx
    rwa [show o + 5 + j * 5 = o + (j + 1) * 5 by omega] at this
theorem LSs.at {P : Nat → Prop} {w : World} : ∀ {l : Sts} {b o j : Nat} {x : St}, LSs P w b o l → l.get j = some x → AtS P w b (o + j * 7) x
  | .cons k n x' v e s f r, b, o, 0, x, h, hx => by
    simp only [Sts.get, Option.some.injEq] at hx
    subst hx
    obtain ⟨hP, ⟨h0, h1, h2, h3⟩, ⟨ao, c, b', o', h4, h5, h6⟩, ⟨ao2, c2, b2, o2, i4, i5, i6⟩, ⟨ao3, c3, b3, o3, j4, j5, j6⟩, _⟩ := h
    simp only [Nat.zero_mul, Nat.add_zero]
    exact ⟨hP, h0, h1, h2, h3, ⟨_, h4, ao, c, b', o', rfl, h5, h6⟩, ⟨_, i4, ao2, c2, b2, o2, rfl, i5, i6⟩, ⟨_, j4, ao3, c3, b3, o3, rfl, j5, j6⟩⟩
  | .cons k n x' v e s f r, b, o, j + 1, x, h, hx => by
    have := LSs.at (l := r) (b := b) (o := o + 7) (j := j) (x := x) h.2.2.2.2.2 hx
    rwa [show o + 7 + j * 7 = o + (j + 1) * 7 by omega] at this
theorem cell_below {B : Nat} {w w' : World} {a : Addr} {v : Value} (h : w.cell? a = some v) (k : Below B w w') (hB : w.heap.size ≤ B) : w'.cell? a = some v :=
  (k.cell (p := a) (Nat.lt_of_lt_of_le (World.block_lt_of_cell? _ _ h) hB)).trans h
theorem LEs.below {P : Nat → Prop} {B : Nat} {w w' : World} (k : Below B w w') (hB : w.heap.size ≤ B) : ∀ {l : Exs} {b o : Nat}, LEs P w b o l → LEs P w' b o l
  | .nil, _, _, _ => trivial
  | .cons _ _ _ _ a r, b, o, ⟨hP, ⟨h0, h1, h2, h3⟩, ⟨ao, c, b', o', h5, h6, h7⟩, h8⟩ =>
    ⟨hP, ⟨cell_below h0 k hB, cell_below h1 k hB, cell_below h2 k hB, cell_below h3 k hB⟩, ⟨ao, c, b', o', cell_below h5 k hB, h6, LEs.below k hB h7⟩, LEs.below k hB h8⟩
theorem LSs.below {P : Nat → Prop} {B : Nat} {w w' : World} (k : Below B w w') (hB : w.heap.size ≤ B) : ∀ {l : Sts} {b o : Nat}, LSs P w b o l → LSs P w' b o l
  | .nil, _, _, _ => trivial
  | .cons _ _ _ _ e s f r, b, o, ⟨hP, ⟨h0, h1, h2, h3⟩, ⟨ao, c, b', o', h5, h6, h7⟩, ⟨ao2, c2, b2, o2, i5, i6, i7⟩, ⟨ao3, c3, b3, o3, j5, j6, j7⟩, h8⟩ =>
    ⟨hP, ⟨cell_below h0 k hB, cell_below h1 k hB, cell_below h2 k hB, cell_below h3 k hB⟩, ⟨ao, c, b', o', cell_below h5 k hB, h6, LEs.below k hB h7⟩, ⟨ao2, c2, b2, o2, cell_below i5 k hB, i6, LSs.below k hB i7⟩, ⟨ao3, c3, b3, o3, cell_below j5 k hB, j6, LSs.below k hB j7⟩, LSs.below k hB h8⟩
theorem HE.below {P : Nat → Prop} {B : Nat} {w w' : World} {v : Value} {l : Exs} (h : HE P w v l) (k : Below B w w') (hB : w.heap.size ≤ B) : HE P w' v l := by
  obtain ⟨ao, c, b, o, h1, h2, h3⟩ := h
  exact ⟨ao, c, b, o, h1, h2, h3.below k hB⟩
theorem HS.below {P : Nat → Prop} {B : Nat} {w w' : World} {v : Value} {l : Sts} (h : HS P w v l) (k : Below B w w') (hB : w.heap.size ≤ B) : HS P w' v l := by
  obtain ⟨ao, c, b, o, h1, h2, h3⟩ := h
  exact ⟨ao, c, b, o, h1, h2, h3.below k hB⟩
theorem cell_kept {w w' : World} {b o : Nat} {v : Value} (hk : w'.heap[b]? = w.heap[b]?) (h : w.cell? ⟨b, o, none⟩ = some v) : w'.cell? ⟨b, o, none⟩ = some v := by
  rw [← h]; unfold World.cell?; rw [hk]
/-- The blocks of P are as they were. -/
theorem LEs.to {P P' : Nat → Prop} {w w' : World} (hk : ∀ b, P b → w'.heap[b]? = w.heap[b]?) (hP : ∀ b, P b → P' b) : ∀ {l : Exs} {b o : Nat}, LEs P w b o l → LEs P' w' b o l
  | .nil, _, _, _ => trivial
  | .cons _ _ _ _ a r, b, o, ⟨h, ⟨h0, h1, h2, h3⟩, ⟨ao, c, b', o', h5, h6, h7⟩, h8⟩ =>
    ⟨hP b h, ⟨cell_kept (hk b h) h0, cell_kept (hk b h) h1, cell_kept (hk b h) h2, cell_kept (hk b h) h3⟩, ⟨ao, c, b', o', cell_kept (hk b h) h5, h6, LEs.to hk hP h7⟩, LEs.to hk hP h8⟩
theorem LSs.to {P P' : Nat → Prop} {w w' : World} (hk : ∀ b, P b → w'.heap[b]? = w.heap[b]?) (hP : ∀ b, P b → P' b) : ∀ {l : Sts} {b o : Nat}, LSs P w b o l → LSs P' w' b o l
  | .nil, _, _, _ => trivial
  | .cons _ _ _ _ e s f r, b, o, ⟨h, ⟨h0, h1, h2, h3⟩, ⟨ao, c, b', o', h5, h6, h7⟩, ⟨ao2, c2, b2, o2, i5, i6, i7⟩, ⟨ao3, c3, b3, o3, j5, j6, j7⟩, h8⟩ =>
    ⟨hP b h, ⟨cell_kept (hk b h) h0, cell_kept (hk b h) h1, cell_kept (hk b h) h2, cell_kept (hk b h) h3⟩, ⟨ao, c, b', o', cell_kept (hk b h) h5, h6, LEs.to hk hP h7⟩, ⟨ao2, c2, b2, o2, cell_kept (hk b h) i5, i6, LSs.to hk hP i7⟩, ⟨ao3, c3, b3, o3, cell_kept (hk b h) j5, j6, LSs.to hk hP j7⟩, LSs.to hk hP h8⟩
theorem HE.to {P P' : Nat → Prop} {w w' : World} {v : Value} {l : Exs} (h : HE P w v l) (hk : ∀ b, P b → w'.heap[b]? = w.heap[b]?) (hP : ∀ b, P b → P' b) : HE P' w' v l := by
  obtain ⟨ao, c, b, o, h1, h2, h3⟩ := h
  exact ⟨ao, c, b, o, h1, h2, h3.to hk hP⟩
theorem HS.to {P P' : Nat → Prop} {w w' : World} {v : Value} {l : Sts} (h : HS P w v l) (hk : ∀ b, P b → w'.heap[b]? = w.heap[b]?) (hP : ∀ b, P b → P' b) : HS P' w' v l := by
  obtain ⟨ao, c, b, o, h1, h2, h3⟩ := h
  exact ⟨ao, c, b, o, h1, h2, h3.to hk hP⟩
end Go.Proofs.YthkmdmobeadigaaDoor.lg
