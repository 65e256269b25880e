/- Scripts as plain data, how they lie in memory, what a text says: no walk here. -/
import Derived.Test.YtigaacbaaopfmaaDoorWs
namespace Go.Proofs.YtigaacbaaopfmaaDoor.sh
open Go.RowKit
set_option linter.unusedVariables false
/-- A line's fields. -/
structure Fld where
  n : List Int
  w : List Nat
  b : List (List UInt8)
/-- A command. -/
structure Cm where
  op : Int
  h : Int
  fields : List Int
  hs : List Int
  u : Nat
  v : Nat
  n : Int
  key : List UInt8
  elem : List UInt8
deriving DecidableEq
/-- A script. -/
structure Sc where
  limit : Int
  over : List (List UInt8 × Nat)
  cmds : List Cm
deriving DecidableEq
def F0 : Fld := ⟨[], [], []⟩
def S0 : Sc := ⟨0, [], []⟩
def takeF (fm : UInt8) (s : List UInt8) (f : Fld) : Fld :=
  if fm = 110 then ⟨f.n ++ [(numP s).1], f.w, f.b⟩ else if fm = 119 then ⟨f.n, f.w ++ [(wordP s).1], f.b⟩ else ⟨f.n, f.w, f.b ++ [(bytesV s).getD []]⟩
def takeE (fm : UInt8) (s : List UInt8) : Int :=
  if fm = 110 then (numP s).2 else if fm = 119 then (wordP s).2 else if (bytesV s).isSome then 0 else 160
def fieldsG (form : List UInt8) : Nat → Fld → List (List UInt8) → Fld × Int
  | _, f, [] => (f, 0)
  | i, f, s :: r => if takeE (form.getD i 110) s = 0 then fieldsG form (i + 1) (takeF (form.getD i 110) s f) r else (takeF (form.getD i 110) s f, takeE (form.getD i 110) s)
def fitsF (k : Nat) (n : Nat) : Bool := decide ((forms.getD k []).length ≤ n) && (decide (n = (forms.getD k []).length) || moreOf k)
def readF (k : Nat) (ws : List (List UInt8)) : Fld × Int := if fitsF k ws.length = true then fieldsG (forms.getD k []) 0 F0 ws else (F0, 160)
def cmdF (op : Int) (f : Fld) : Cm :=
  if op = 1 then ⟨1, 0, f.n.tail, [], f.w.headD 0, 0, f.n.headD 0, [], []⟩
  else if op = 10 then ⟨10, 0, [], f.n, 0, 0, 0, [], []⟩
  else ⟨op, f.n.headD 0, [], [], f.w.headD 0, f.w.getD 1 0, 0, f.b.headD [], f.b.getD 1 []⟩
/-- The lines of a script from one on: the script, the line of the fault, its number. -/
def parseG : Nat → Bool → Sc → List (List UInt8) → Sc × Nat × Int
  | i, begun, sc, [] => if begun then (sc, 0, 0) else (S0, i + 1, 160)
  | i, begun, sc, l :: r =>
    match wordsL l with
    | [] => parseG (i + 1) begun sc r
    | x :: ws =>
      if findP x < 0 ∨ (decide (findP x = 0) = begun) ∨ (findP x = 15 ∧ sc.cmds ≠ []) then (S0, i + 1, 160)
      else if (readF (findP x).toNat ws).2 = 0 then
        (if findP x = 0 then parseG (i + 1) true ⟨(readF (findP x).toNat ws).1.n.headD 0, sc.over, sc.cmds⟩ r
        else if findP x = 15 then parseG (i + 1) begun ⟨sc.limit, sc.over ++ [((readF (findP x).toNat ws).1.b.headD [], (readF (findP x).toNat ws).1.w.headD 0)], sc.cmds⟩ r
        else parseG (i + 1) begun ⟨sc.limit, sc.over, sc.cmds ++ [cmdF (findP x) (readF (findP x).toNat ws).1]⟩ r)
      else (S0, i + 1, (readF (findP x).toNat ws).2)
def parseP (t : List UInt8) : Sc × Nat × Int := if 1048576 < t.length then (S0, 0, 160) else parseG 0 false S0 (linesL t)
/-- Numbers as cells. -/
def iv (l : List Int) : List Value := l.map fun x => Value.int .i64 x
def uv (l : List Nat) : List Value := l.map fun (x : Nat) => Value.int .u64 (x : Int)
theorem iv_append (a b : List Int) : iv (a ++ b) = iv a ++ iv b := by simp [iv]
theorem uv_append (a b : List Nat) : uv (a ++ b) = uv a ++ uv b := by simp [uv]
theorem iv_len (a : List Int) : (iv a).length = a.length := by simp [iv]
theorem uv_len (a : List Nat) : (uv a).length = a.length := by simp [uv]
theorem ss_len (a : List (List UInt8)) : (ss a).length = a.length := by simp [ss]
/-- A slice of elements of one cell lies there, in a block of type E that is base or later. -/
def SL (w : World) (E base : Nat) (v : Value) (xs : List Value) : Prop :=
  (v = .slice none 0 0 ∧ xs = []) ∨ ∃ g o c cur fr, v = .slice (some ⟨g, o, none⟩) xs.length c ∧ xs.length ≤ c ∧ base ≤ g ∧ w.heap[g]? = some (.cells cur E fr) ∧ ∀ (j : Nat) (u : Value), xs[j]? = some u → cur[o + j]? = some u
theorem SL.nil (w : World) (E base : Nat) : SL w E base (.slice none 0 0) [] := .inl ⟨rfl, rfl⟩
theorem SL.of_own {w : World} {E base n : Nat} {v : Value} {xs : List Value} (h : w.ownsRow base E 1 v n xs) : SL w E base v xs := by
  have hl : xs.length = n := by have := h.1; omega
  rcases h.2 with ⟨h1, h2⟩ | ⟨g, cap, cur, h1, h2, h3, h4, h5, h6, h7⟩
  · exact .inl ⟨h1, List.eq_nil_of_length_eq_zero (by omega)⟩
  · refine .inr ⟨g, 0, cap, cur, (0, 0), by rw [hl]; exact h1, by omega, h2, h3, fun j u hu => ?_⟩
    rw [Nat.mul_one] at h7
    rw [← h7, List.getElem?_take] at hu
    split at hu
    · rw [Nat.zero_add]; simpa using hu
    · cases hu
theorem SL.below {w w' : World} {E base k : Nat} {v : Value} {xs : List Value} (h : SL w E base v xs) (hb : Below k w w') (hk : w.heap.size ≤ k) : SL w' E base v xs := by
  rcases h with h | ⟨g, o, c, cur, fr, h1, h2, h3, h4, h5⟩
  · exact .inl h
  · have hlt : g < w.heap.size := (Array.getElem?_eq_some_iff.1 h4).1
    exact .inr ⟨g, o, c, cur, fr, h1, h2, h3, (hb.block g (by omega)).trans h4, h5⟩
theorem SL.mono {w : World} {E base b : Nat} {v : Value} {xs : List Value} (h : SL w E base v xs) (hb : b ≤ base) : SL w E b v xs := by
  rcases h with h | ⟨g, o, c, cur, fr, h1, h2, h3, h4⟩
  · exact .inl h
  · exact .inr ⟨g, o, c, cur, fr, h1, h2, by omega, h4⟩
/-- The row that grew is of another type. -/
theorem SL.grown {w w' : World} {E E' base : Nat} {v : Value} {xs : List Value} {row : Option Nat} (h : SL w E base v xs) (hg : w.grownBy w' row) (hr : ∀ g, row = some g → ∃ cur fr, w.heap[g]? = some (.cells cur E' fr)) (hE : E ≠ E') : SL w' E base v xs := by
  rcases h with h | ⟨g, o, c, cur, fr, h1, h2, h3, h4, h5⟩
  · exact .inl h
  · have hlt : g < w.heap.size := (Array.getElem?_eq_some_iff.1 h4).1
    refine .inr ⟨g, o, c, cur, fr, h1, h2, h3, (hg.block g hlt (fun e => ?_)).trans h4, h5⟩
    obtain ⟨cur2, fr2, h6⟩ := hr g e.symm
    rw [h4] at h6
    simp only [Option.some.injEq, Obj.cells.injEq] at h6
    exact hE h6.2.1
theorem own_type {w : World} {E base n size : Nat} {v : Value} {xs : List Value} (h : w.ownsRow base E size v n xs) : ∀ g, v.ownBlock = some g → ∃ cur fr, w.heap[g]? = some (.cells cur E fr) := by
  intro g hg
  rcases h.2 with ⟨h1, h2⟩ | ⟨g', cap, cur, h1, h2, h3, h4⟩
  · subst h1; cases hg
  · subst h1
    simp only [Value.ownBlock, Option.some.injEq] at hg
    subst hg
    exact ⟨cur, _, h3⟩
/-- Two rows of other types: one grows, the other stays. -/
theorem own_other {w w' : World} {E E' base base' n size n' size' : Nat} {v v' : Value} {xs xs' : List Value} (h : w.ownsRow base E size v n xs) (h' : w.ownsRow base' E' size' v' n' xs') (hE : E ≠ E') (hg : w.grownBy w' v'.ownBlock) : w'.ownsRow base E size v n xs := by
  refine h.kept hg ?_
  cases hv : v.ownBlock with
  | none => exact .inl rfl
  | some g =>
    refine .inr (fun e => ?_)
    obtain ⟨cur, fr, h1⟩ := own_type h g hv
    obtain ⟨cur2, fr2, h2⟩ := own_type h' g e.symm
    rw [h1] at h2
    simp only [Option.some.injEq, Obj.cells.injEq] at h2
    exact hE h2.2.1
/-- A cell of a slice. -/
theorem SL.split {w : World} {E base : Nat} {v : Value} {xs : List Value} (h : SL w E base v xs) : ∃ ao c, v = .slice ao xs.length c ∧ xs.length ≤ c ∧ ((ao = none ∧ c = 0 ∧ xs = []) ∨ ∃ g o, ao = some ⟨g, o, none⟩ ∧ base ≤ g ∧ g < w.heap.size ∧ ∀ (j : Nat) (u : Value), xs[j]? = some u → w.cell? ⟨g, o + j, none⟩ = some u) := by
  rcases h with ⟨h1, h2⟩ | ⟨g, o, c, cur, fr, h1, h2, h3, h4, h5⟩
  · subst h2
    exact ⟨none, 0, h1, Nat.le_refl _, .inl ⟨rfl, rfl, rfl⟩⟩
  · refine ⟨_, c, h1, h2, .inr ⟨g, o, rfl, h3, (Array.getElem?_eq_some_iff.1 h4).1, fun j u hu => ?_⟩⟩
    unfold World.cell?
    rw [h4]
    exact h5 j u hu
/-- All but the first of a row of the call's own. -/
theorem SL.tail {w : World} {E base n g c : Nat} {x : Value} {xs : List Value} (h : SL w E base (.slice (some ⟨g, 0, none⟩) n c) (x :: xs)) : SL w E base (.slice (some (if c = 1 then ⟨g, 0, none⟩ else ⟨g, 1, none⟩)) xs.length (c - 1)) xs := by
  rcases h with ⟨h1, h2⟩ | ⟨g', o, c', cur, fr, h1, h2, h3, h4, h5⟩
  · cases h1
  · simp only [Value.slice.injEq, Option.some.injEq, Addr.mk.injEq, and_true] at h1
    obtain ⟨⟨rfl, rfl⟩, rfl, rfl⟩ := h1
    rw [List.length_cons] at h2
    by_cases hc : c = 1
    · subst hc
      have hx : xs = [] := List.eq_nil_of_length_eq_zero (by omega)
      subst hx
      exact .inr ⟨g, 0, 0, cur, fr, by simp, by simp, h3, h4, fun j u hu => by simp at hu⟩
    · rw [if_neg hc]
      exact .inr ⟨g, 1, c - 1, cur, fr, rfl, by omega, h3, h4, fun j u hu => by
        have := h5 (j + 1) u (by simpa using hu)
        rw [show 1 + j = 0 + (j + 1) by omega]; exact this⟩
/-- The cells of a command. -/
def cmC (c : Cm) (vf vh : Value) : List Value := [.int .i64 c.op, .int .i64 c.h, vf, vh, .int .u64 (c.u : Int), .int .u64 (c.v : Int), .int .i64 c.n, .string (B c.key), .string (B c.elem)]
/-- Commands, one behind the other, in cells. -/
def CmA (w : World) (base : Nat) : List Value → List Cm → Prop
  | xs, [] => xs = []
  | xs, c :: r => ∃ vf vh rest, xs = cmC c vf vh ++ rest ∧ SL w 3 base vf (iv c.fields) ∧ SL w 3 base vh (iv c.hs) ∧ CmA w base rest r
theorem CmA.stay {w w' : World} {base : Nat} (h : ∀ v xs, SL w 3 base v xs → SL w' 3 base v xs) : ∀ {cs : List Cm} {xs : List Value}, CmA w base xs cs → CmA w' base xs cs
  | [], xs, k => k
  | c :: r, xs, ⟨vf, vh, rest, h1, h2, h3, h4⟩ => ⟨vf, vh, rest, h1, h _ _ h2, h _ _ h3, CmA.stay h h4⟩
theorem CmA.more {w : World} {base : Nat} {c : Cm} {vf vh : Value} (hf : SL w 3 base vf (iv c.fields)) (hh : SL w 3 base vh (iv c.hs)) : ∀ {cs : List Cm} {xs : List Value}, CmA w base xs cs → CmA w base (xs ++ cmC c vf vh) (cs ++ [c])
  | [], xs, k => by
    obtain rfl : xs = [] := k
    exact ⟨vf, vh, [], by simp, hf, hh, rfl⟩
  | d :: r, xs, ⟨vf', vh', rest, h1, h2, h3, h4⟩ => ⟨vf', vh', rest ++ cmC c vf vh, by rw [h1, List.append_assoc], h2, h3, CmA.more hf hh h4⟩
theorem CmA.len {w : World} {base : Nat} : ∀ {cs : List Cm} {xs : List Value}, CmA w base xs cs → xs.length = cs.length * 9
  | [], xs, k => by obtain rfl : xs = [] := k; rfl
  | d :: r, xs, ⟨vf', vh', rest, h1, h2, h3, h4⟩ => by
    have := CmA.len h4
    subst h1
    rw [List.length_append, this, List.length_cons]
    simp [cmC]
    omega
theorem CmA.at {w : World} {base : Nat} : ∀ {cs : List Cm} {xs : List Value} {i : Nat} {c : Cm}, CmA w base xs cs → cs[i]? = some c → ∃ vf vh, SL w 3 base vf (iv c.fields) ∧ SL w 3 base vh (iv c.hs) ∧ ∀ t, t < 9 → xs[i * 9 + t]? = (cmC c vf vh)[t]?
  | [], xs, i, c, k, h => by simp at h
  | d :: r, xs, 0, c, ⟨vf', vh', rest, h1, h2, h3, h4⟩, h => by
    simp at h
    subst h
    refine ⟨vf', vh', h2, h3, fun t ht => ?_⟩
    rw [h1, Nat.zero_mul, Nat.zero_add, List.getElem?_append_left (by simp [cmC]; omega)]
  | d :: r, xs, i + 1, c, ⟨vf', vh', rest, h1, h2, h3, h4⟩, h => by
    obtain ⟨vf, vh, k1, k2, k3⟩ := CmA.at (i := i) h4 (by simpa using h)
    refine ⟨vf, vh, k1, k2, fun t ht => ?_⟩
    have hl : (cmC d vf' vh').length = 9 := rfl
    rw [h1, List.getElem?_append_right (by rw [hl]; omega), hl, show (i + 1) * 9 + t - 9 = i * 9 + t by omega]
    exact k3 t ht
/-- The overrides, in cells. -/
def ovC (l : List (List UInt8 × Nat)) : List Value := l.flatMap fun x => [Value.string (B x.1), Value.int .u64 (x.2 : Int)]
theorem ovC_append (a b : List (List UInt8 × Nat)) : ovC (a ++ b) = ovC a ++ ovC b := by simp [ovC]
theorem ovC_len (a : List (List UInt8 × Nat)) : (ovC a).length = a.length * 2 := by
  induction a with
  | nil => rfl
  | cons x r ih => rw [ovC, List.flatMap_cons, List.length_append, ← ovC, ih]; simp; omega
theorem ovC_at : ∀ (a : List (List UInt8 × Nat)) (i : Nat) (x : List UInt8 × Nat), a[i]? = some x → (ovC a)[i * 2]? = some (.string (B x.1)) ∧ (ovC a)[i * 2 + 1]? = some (.int .u64 (x.2 : Int))
  | [], i, x, h => by simp at h
  | y :: r, 0, x, h => by
    simp at h
    subst h
    exact ⟨rfl, rfl⟩
  | y :: r, i + 1, x, h => by
    obtain ⟨h1, h2⟩ := ovC_at r i x (by simpa using h)
    have e : ovC (y :: r) = [Value.string (B y.1), Value.int .u64 (y.2 : Int)] ++ ovC r := rfl
    have hl : ([Value.string (B y.1), Value.int .u64 (y.2 : Int)] : List Value).length = 2 := rfl
    rw [e, List.getElem?_append_right (by rw [hl]; omega), List.getElem?_append_right (by rw [hl]; omega), hl, show (i + 1) * 2 - 2 = i * 2 by omega, show (i + 1) * 2 + 1 - 2 = i * 2 + 1 by omega]
    exact ⟨h1, h2⟩
end Go.Proofs.YtigaacbaaopfmaaDoor.sh
