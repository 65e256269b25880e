/- What a program of maps must be, in plain lists and trees: formed, used as what it is, loops, depth; by recursion and by a list of its parts. No walk here. -/
import Derived.Test.YthkmdmobeadigaaDoorLa
namespace Go.Proofs.YthkmdmobeadigaaDoor.lg
open Go.RowKit
set_option linter.unusedVariables false
def letB (c : UInt8) : Bool := (97 ≤ c && c ≤ 122) || (65 ≤ c && c ≤ 90) || c == 95
def digB (c : UInt8) : Bool := 48 ≤ c && c ≤ 57
/-- The thirteen. -/
def wordsL : List (List UInt8) := [[109, 97, 112], [100, 101, 108, 101, 116, 101], [99, 108, 101, 97, 114], [112, 114, 105, 110, 116], [105, 102], [101, 108, 115, 101], [119, 104, 105, 108, 101], [102, 111, 114], [105, 110], [98, 114, 101, 97, 107], [99, 111, 110, 116, 105, 110, 117, 101], [104, 97, 115], [108, 101, 110]]
def wordB (s : List UInt8) : Bool := wordsL.any (fun w => w == s)
def nameB : List UInt8 → Bool
  | [] => false
  | c :: r => letB c && (c :: r).all (fun x => letB x || digB x) && !wordB (c :: r)
/-- A binary operator's rank, from 0 on; -1. -/
def rankP (s : List UInt8) : Int :=
  if s = [124, 124] then 0 else if s = [38, 38] then 1
  else if s = [61, 61] ∨ s = [33, 61] ∨ s = [60] ∨ s = [60, 61] ∨ s = [62] ∨ s = [62, 61] then 2
  else if s = [43] ∨ s = [45] then 3 else if s = [42] ∨ s = [47] ∨ s = [37] then 4 else -1
def namedB (s : List UInt8) (must : Bool) : Bool := if must then nameB s else s.isEmpty
/-- One expression, without its parts. -/
def locE (k n : Int) (name op : List UInt8) (na : Nat) : Bool :=
  if k = 1 then op.isEmpty && (na == 0) && name.isEmpty && decide (0 ≤ n)
  else if k = 2 ∨ k = 5 then op.isEmpty && (na == 0) && nameB name && decide (n = 0)
  else if k = 3 ∨ k = 4 then op.isEmpty && (na == 1) && nameB name && decide (n = 0)
  else if k = 6 then (op == [45] || op == [33]) && (na == 1) && name.isEmpty && decide (n = 0)
  else if k = 7 then decide (0 ≤ rankP op) && (na == 2) && name.isEmpty && decide (n = 0)
  else false
/-- One statement, without its parts. -/
def locS (k : Int) (name key val : List UInt8) (ne nb nf : Nat) : Bool :=
  if k = 1 ∨ k = 3 then (ne == 1) && (nb == 0) && (nf == 0) && key.isEmpty && val.isEmpty && nameB name
  else if k = 2 then (ne == 2) && (nb == 0) && (nf == 0) && key.isEmpty && val.isEmpty && nameB name
  else if k = 4 then (ne == 0) && (nb == 0) && (nf == 0) && key.isEmpty && val.isEmpty && nameB name
  else if k = 5 then (nb == 0) && (nf == 0) && key.isEmpty && val.isEmpty && name.isEmpty
  else if k = 6 then (ne == 1) && key.isEmpty && val.isEmpty && name.isEmpty
  else if k = 7 then (ne == 1) && key.isEmpty && val.isEmpty && name.isEmpty && (nf == 0)
  else if k = 8 then (ne == 0) && nameB key && nameB val && nameB name && (nf == 0)
  else if k = 9 ∨ k = 10 then (ne == 0) && (nb == 0) && (nf == 0) && key.isEmpty && val.isEmpty && name.isEmpty
  else false
def Ex.loc (x : Ex) : Bool := locE x.kind x.num x.name.data.toList x.op.data.toList x.args.len
def St.loc (x : St) : Bool := locS x.kind x.name.data.toList x.key.data.toList x.val.data.toList x.exprs.len x.body.len x.els.len
/-- All of them are formed. -/
def fEs : Exs → Bool
  | .nil => true
  | .cons k n m o a r => (Ex.loc ⟨k, n, m, o, a⟩ && fEs a) && fEs r
def fSs : Sts → Bool
  | .nil => true
  | .cons k n x v e b f r => (St.loc ⟨k, n, x, v, e, b, f⟩ && fEs e && fSs b && fSs f) && fSs r
def Ex.ok (x : Ex) : Bool := x.loc && fEs x.args
def St.ok (x : St) : Bool := x.loc && fEs x.exprs && fSs x.body && fSs x.els
theorem fEs_on (x : Ex) (r : Exs) : fEs (x.on r) = (x.ok && fEs r) := rfl
theorem fSs_on (x : St) (r : Sts) : fSs (x.on r) = (x.ok && fSs r) := rfl
/-- How deep. -/
def depE : Exs → Nat
  | .nil => 0
  | .cons _ _ _ _ a r => max (depE a + 1) (depE r)
def depS : Sts → Nat
  | .nil => 0
  | .cons _ _ _ _ e b f r => max (1 + max (depE e) (max (depS b) (depS f))) (depS r)
def Ex.dep (x : Ex) : Nat := depE x.args + 1
def St.dep (x : St) : Nat := 1 + max (depE x.exprs) (max (depS x.body) (depS x.els))
theorem depE_on (x : Ex) (r : Exs) : depE (x.on r) = max x.dep (depE r) := rfl
theorem depS_on (x : St) (r : Sts) : depS (x.on r) = max x.dep (depS r) := rfl
/-- A name is used as what it is not. -/
def badX (ms : List (List UInt8)) (k : Int) (m : List UInt8) : Bool :=
  if k = 2 then ms.contains m else if k = 3 ∨ k = 4 ∨ k = 5 then !ms.contains m else false
def badY (ms : List (List UInt8)) (k : Int) (n x v : List UInt8) : Bool :=
  if k = 1 then ms.contains n else if k = 8 then ms.contains x || ms.contains v || !ms.contains n
  else if k = 2 ∨ k = 3 ∨ k = 4 then !ms.contains n else false
def useE (ms : List (List UInt8)) : Exs → Bool
  | .nil => false
  | .cons k n m o a r => (badX ms k m.data.toList || useE ms a) || useE ms r
def useS (ms : List (List UInt8)) : Sts → Bool
  | .nil => false
  | .cons k n x v e b f r => (badY ms k n.data.toList x.data.toList v.data.toList || useE ms e || useS ms b || useS ms f) || useS ms r
def Ex.use (ms : List (List UInt8)) (x : Ex) : Bool := badX ms x.kind x.name.data.toList || useE ms x.args
def St.use (ms : List (List UInt8)) (x : St) : Bool := badY ms x.kind x.name.data.toList x.key.data.toList x.val.data.toList || useE ms x.exprs || useS ms x.body || useS ms x.els
theorem useE_on (ms : List (List UInt8)) (x : Ex) (r : Exs) : useE ms (x.on r) = (x.use ms || useE ms r) := rfl
theorem useS_on (ms : List (List UInt8)) (x : St) (r : Sts) : useS ms (x.on r) = (x.use ms || useS ms r) := rfl
/-- A break or a continue in no loop. -/
def inner (k : Int) (l : Bool) : Bool := l || decide (k = 7) || decide (k = 8)
def loopS : Sts → Bool → Bool
  | .nil, _ => false
  | .cons k _ _ _ _ b f r, l => (((decide (k = 9) || decide (k = 10)) && !l) || loopS b (inner k l) || loopS f (inner k l)) || loopS r l
def St.loop (x : St) (l : Bool) : Bool := ((decide (x.kind = 9) || decide (x.kind = 10)) && !l) || loopS x.body (inner x.kind l) || loopS x.els (inner x.kind l)
theorem loopS_on (x : St) (r : Sts) (l : Bool) : loopS (x.on r) l = (x.loop l || loopS r l) := rfl
/-- The maps' names: at most sixteen, names, no two alike; from the first ones on. -/
def namesG : List (List UInt8) → List (List UInt8) → Bool
  | _, [] => true
  | seen, m :: r => !seen.contains m && decide (seen.length < 16) && nameB m && namesG (seen ++ [m]) r
def namesR : List (List UInt8) → List (List UInt8) → Bool
  | _, [] => true
  | seen, m :: r => nameB m && !seen.contains m && namesR (seen ++ [m]) r
theorem namesG_eq : ∀ (l seen : List (List UInt8)), seen.length ≤ 16 → namesG seen l = (decide (seen.length + l.length ≤ 16) && namesR seen l)
  | [], seen, h => by simp [namesG, namesR, h]
  | m :: r, seen, h => by
    simp only [namesG, namesR, List.length_cons]
    by_cases h1 : seen.length < 16
    · rw [namesG_eq r (seen ++ [m]) (by simp; omega)]
      simp only [List.length_append, List.length_cons, List.length_nil]
      rw [show seen.length + (0 + 1) + r.length = seen.length + (r.length + 1) by omega]
      cases seen.contains m <;> cases nameB m <;> simp [h1]
    · have : ¬ seen.length + (r.length + 1) ≤ 16 := by omega
      simp [h1, this]
/-- Check's answer. -/
def checkP (ms : List (List UInt8)) (l : Sts) : Int :=
  if namesG [] ms = false then 234 else if fSs l = false then 231 else if useS ms l = true then 231 else if loopS l false = true then 232 else if 64 < depS l then 233 else 0
/-- A part, how deep it lies, and whether in a loop. -/
inductive Part
  | pe (x : Ex) (d : Nat) (b : Bool)
  | ps (x : St) (d : Nat) (b : Bool)
def allE (Q : Part → Prop) : Exs → Nat → Bool → Prop
  | .nil, _, _ => True
  | .cons k n m o a r, d, b => (Q (.pe ⟨k, n, m, o, a⟩ d b) ∧ allE Q a (d + 1) b) ∧ allE Q r d b
def allS (Q : Part → Prop) : Sts → Nat → Bool → Prop
  | .nil, _, _ => True
  | .cons k n x v e s f r, d, b => (Q (.ps ⟨k, n, x, v, e, s, f⟩ d b) ∧ allE Q e (d + 1) b ∧ allS Q s (d + 1) (inner k b) ∧ allS Q f (d + 1) (inner k b)) ∧ allS Q r d b
/-- A part's own parts. -/
def Part.kids (Q : Part → Prop) : Part → Prop
  | .pe x d b => allE Q x.args (d + 1) b
  | .ps x d b => allE Q x.exprs (d + 1) b ∧ allS Q x.body (d + 1) (inner x.kind b) ∧ allS Q x.els (d + 1) (inner x.kind b)
theorem allE_on (Q : Part → Prop) (x : Ex) (r : Exs) (d : Nat) (b : Bool) : allE Q (x.on r) d b ↔ (Q (.pe x d b) ∧ (Part.pe x d b).kids Q) ∧ allE Q r d b := Iff.rfl
theorem allS_on (Q : Part → Prop) (x : St) (r : Sts) (d : Nat) (b : Bool) : allS Q (x.on r) d b ↔ (Q (.ps x d b) ∧ (Part.ps x d b).kids Q) ∧ allS Q r d b := Iff.rfl
def Part.loc : Part → Bool
  | .pe x _ _ => x.loc
  | .ps x _ _ => x.loc
def Part.bad (ms : List (List UInt8)) : Part → Bool
  | .pe x _ _ => badX ms x.kind x.name.data.toList
  | .ps x _ _ => badY ms x.kind x.name.data.toList x.key.data.toList x.val.data.toList
def Part.out : Part → Bool
  | .pe _ _ _ => false
  | .ps x _ b => (decide (x.kind = 9) || decide (x.kind = 10)) && !b
def Part.deep : Part → Nat
  | .pe _ d _ => d
  | .ps _ d _ => d
theorem allE_loc : ∀ (l : Exs) (d : Nat) (b : Bool), allE (fun p => p.loc = true) l d b ↔ fEs l = true
  | .nil, _, _ => by simp [allE, fEs]
  | .cons k n m o a r, d, b => by simp only [allE, fEs, allE_loc a, allE_loc r, Bool.and_eq_true]; exact Iff.rfl
theorem allS_loc : ∀ (l : Sts) (d : Nat) (b : Bool), allS (fun p => p.loc = true) l d b ↔ fSs l = true
  | .nil, _, _ => by simp [allS, fSs]
  | .cons k n x v e s f r, d, b => by simp only [allS, fSs, allE_loc e, allS_loc s, allS_loc f, allS_loc r, Bool.and_eq_true, and_assoc]; exact Iff.rfl
theorem allE_bad (ms : List (List UInt8)) : ∀ (l : Exs) (d : Nat) (b : Bool), allE (fun p => p.bad ms = false) l d b ↔ useE ms l = false
  | .nil, _, _ => by simp [allE, useE]
  | .cons k n m o a r, d, b => by simp only [allE, useE, allE_bad ms a, allE_bad ms r, Bool.or_eq_false_iff]; exact Iff.rfl
theorem allS_bad (ms : List (List UInt8)) : ∀ (l : Sts) (d : Nat) (b : Bool), allS (fun p => p.bad ms = false) l d b ↔ useS ms l = false
  | .nil, _, _ => by simp [allS, useS]
  | .cons k n x v e s f r, d, b => by simp only [allS, useS, allE_bad ms e, allS_bad ms s, allS_bad ms f, allS_bad ms r, Bool.or_eq_false_iff, and_assoc]; exact Iff.rfl
theorem allE_out : ∀ (l : Exs) (d : Nat) (b : Bool), allE (fun p => p.out = false) l d b
  | .nil, _, _ => trivial
  | .cons k n m o a r, d, b => ⟨⟨rfl, allE_out a _ _⟩, allE_out r _ _⟩
theorem allS_out : ∀ (l : Sts) (d : Nat) (b : Bool), allS (fun p => p.out = false) l d b ↔ loopS l b = false
  | .nil, _, _ => by simp [allS, loopS]
  | .cons k n x v e s f r, d, b => by simp only [allS, loopS, iff_true_intro (allE_out e _ _), allS_out s, allS_out f, allS_out r, Bool.or_eq_false_iff, and_assoc, true_and]; exact Iff.rfl
theorem allE_deep (m : Nat) : ∀ (l : Exs) (d : Nat) (b : Bool), d ≤ m → (allE (fun p => p.deep ≤ m) l (d + 1) b ↔ d + depE l ≤ m)
  | .nil, d, _, h => by simp only [allE, depE, true_iff]; omega
  | .cons k n x o a r, d, b, h => by
    show (d + 1 ≤ m ∧ allE (fun p => p.deep ≤ m) a (d + 1 + 1) b) ∧ allE (fun p => p.deep ≤ m) r (d + 1) b ↔ d + max (depE a + 1) (depE r) ≤ m
    rw [allE_deep m r d b h]
    by_cases h1 : d + 1 ≤ m
    · rw [allE_deep m a (d + 1) b h1]; omega
    · omega
theorem allS_deep (m : Nat) : ∀ (l : Sts) (d : Nat) (b : Bool), d ≤ m → (allS (fun p => p.deep ≤ m) l (d + 1) b ↔ d + depS l ≤ m)
  | .nil, d, _, h => by simp only [allS, depS, true_iff]; omega
  | .cons k n x v e s f r, d, b, h => by
    show (d + 1 ≤ m ∧ allE (fun p => p.deep ≤ m) e (d + 1 + 1) b ∧ allS (fun p => p.deep ≤ m) s (d + 1 + 1) (inner k b) ∧ allS (fun p => p.deep ≤ m) f (d + 1 + 1) (inner k b)) ∧ allS (fun p => p.deep ≤ m) r (d + 1) b ↔ d + max (1 + max (depE e) (max (depS s) (depS f))) (depS r) ≤ m
    rw [allS_deep m r d b h]
    by_cases h1 : d + 1 ≤ m
    · rw [allE_deep m e (d + 1) b h1, allS_deep m s (d + 1) _ h1, allS_deep m f (d + 1) _ h1]; omega
    · omega
/-- What the document finds in the list of parts. -/
def checkR (ms : List (List UInt8)) (ps : List Part) : Int :=
  if 16 < ms.length ∨ namesR [] ms = false then 234 else if ps.all Part.loc = false then 231 else if ps.all (fun p => !p.bad ms) = false then 231 else if ps.all (fun p => !p.out) = false then 232 else if ps.all (fun p => decide (p.deep ≤ 64)) = false then 233 else 0
theorem check_same (ms : List (List UInt8)) (l : Sts) (ps : List Part) (h : ∀ Q : Part → Prop, (∀ p ∈ ps, Q p) ↔ allS Q l 1 false) : checkR ms ps = checkP ms l := by
  have h1 : ps.all Part.loc = fSs l := by
    rw [Bool.eq_iff_iff, List.all_eq_true, ← allS_loc l 1 false]; exact h _
  have h2 : ps.all (fun p => !p.bad ms) = !useS ms l := by
    rw [Bool.eq_iff_iff, List.all_eq_true, Bool.not_eq_true', ← allS_bad ms l 1 false, ← h]; simp
  have h3 : ps.all (fun p => !p.out) = !loopS l false := by
    rw [Bool.eq_iff_iff, List.all_eq_true, Bool.not_eq_true', ← allS_out l 1 false, ← h]; simp
  have h4 : ps.all (fun p => decide (p.deep ≤ 64)) = decide (depS l ≤ 64) := by
    rw [Bool.eq_iff_iff, List.all_eq_true, decide_eq_true_eq]
    have := allS_deep 64 l 0 false (by omega)
    rw [Nat.zero_add, Nat.zero_add] at this
    rw [← this, ← h]; simp
  unfold checkR checkP
  rw [h1, h2, h3, h4, namesG_eq ms [] (by simp)]
  simp only [List.length_nil, Nat.zero_add]
  by_cases h5 : ms.length ≤ 16 <;> cases namesR [] ms <;> simp [h5] <;> (try omega)
end Go.Proofs.YthkmdmobeadigaaDoor.lg
