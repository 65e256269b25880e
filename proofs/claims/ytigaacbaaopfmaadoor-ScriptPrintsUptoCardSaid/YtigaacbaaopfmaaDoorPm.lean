/- A script's text, in plain Lean: its lines, how long they are. -/
import Derived.Test.YtigaacbaaopfmaaDoorLw
set_option linter.unusedSimpArgs false
namespace Go.Proofs.YtigaacbaaopfmaaDoor.sh
open Go.RowKit
set_option linter.unusedVariables false
def limitL (x : Int) : List UInt8 := [108, 105, 109, 105, 116] ++ numL x ++ [10]
def hashL (x : List UInt8 × Nat) : List UInt8 := [104, 97, 115, 104] ++ bytL x.1 ++ wrdL x.2 ++ [10]
def cmdL (c : Cm) : List UInt8 := if nameL c.op = [] then [] else nameL c.op ++ lineL c ++ [10]
def hashesL (l : List (List UInt8 × Nat)) : List UInt8 := l.flatMap hashL
def cmdsL (l : List Cm) : List UInt8 := l.flatMap cmdL
/-- A script's text. -/
def printL (s : Sc) : List UInt8 := limitL s.limit ++ hashesL s.over ++ cmdsL s.cmds
def ovW (x : List UInt8 × Nat) : Nat := 3 + x.1.length
def cmW (c : Cm) : Nat := 10 + c.fields.length + c.hs.length + c.key.length + c.elem.length
def ovsW : List (List UInt8 × Nat) → Nat
  | [] => 0
  | x :: r => ovW x + ovsW r
def cmsW : List Cm → Nat
  | [] => 0
  | x :: r => cmW x + cmsW r
/-- Scripts that are not too great, of numbers that fit. -/
structure Sc.Ok (s : Sc) : Prop where
  lim : In64 s.limit
  wt : ovsW s.over + cmsW s.cmds ≤ 3000000
  ov : ∀ x ∈ s.over, x.2 < 18446744073709551616
  cm : ∀ c ∈ s.cmds, c.Fits
theorem ovsW_append (a b : List (List UInt8 × Nat)) : ovsW (a ++ b) = ovsW a + ovsW b := by
  induction a with
  | nil => simp [ovsW]
  | cons x r ih => simp [ovsW, ih]; omega
theorem cmsW_append (a b : List Cm) : cmsW (a ++ b) = cmsW a + cmsW b := by
  induction a with
  | nil => simp [cmsW]
  | cons x r ih => simp [cmsW, ih]; omega
theorem ovsW_take (a : List (List UInt8 × Nat)) (k : Nat) : ovsW (a.take k) ≤ ovsW a := by
  have := ovsW_append (a.take k) (a.drop k)
  rw [List.take_append_drop] at this
  omega
theorem cmsW_take (a : List Cm) (k : Nat) : cmsW (a.take k) ≤ cmsW a := by
  have := cmsW_append (a.take k) (a.drop k)
  rw [List.take_append_drop] at this
  omega
theorem ovsW_len (a : List (List UInt8 × Nat)) : a.length * 3 ≤ ovsW a := by
  induction a with
  | nil => simp [ovsW]
  | cons x r ih => simp only [ovsW, ovW, List.length_cons]; omega
theorem cmsW_len (a : List Cm) : a.length * 10 ≤ cmsW a := by
  induction a with
  | nil => simp [cmsW]
  | cons x r ih => simp only [cmsW, cmW, List.length_cons]; omega
theorem ovsW_at {a : List (List UInt8 × Nat)} {x : List UInt8 × Nat} (h : x ∈ a) : ovW x ≤ ovsW a := by
  induction a with
  | nil => cases h
  | cons y r ih =>
    rcases List.mem_cons.1 h with rfl | h
    · simp only [ovsW]; omega
    · have := ih h; simp only [ovsW]; omega
theorem numL_len {x : Int} (h : In64 x) : (numL x).length ≤ 101 := by
  have := itoa_len h.1 h.2
  simp only [numL, List.length_cons]; omega
theorem wrdL_len {x : Nat} (h : x < 18446744073709551616) : (wrdL x).length ≤ 19 := by
  have := wordL_len h
  simp only [wrdL, List.length_cons]; omega
theorem bytL_len (l : List UInt8) : (bytL l).length ≤ 2 + 2 * l.length := by
  unfold bytL bytesL
  split
  · simp
  · simp only [List.length_cons, hexL_length]; omega
theorem hashL_len {x : List UInt8 × Nat} (h : x.2 < 18446744073709551616) : (hashL x).length ≤ 120 * ovW x := by
  have e1 := bytL_len x.1
  have e2 := wrdL_len h
  simp only [hashL, ovW, List.length_append, List.length_cons, List.length_nil]
  omega
theorem lineL_len {c : Cm} (h : c.Fits) : (lineL c).length ≤ 300 + 101 * c.fields.length + 101 * c.hs.length + 2 * c.key.length + 2 * c.elem.length := by
  have e1 := numL_len h.h
  have e2 := numL_len h.n
  have e3 := wrdL_len h.u
  have e4 := wrdL_len h.v
  have e5 := bytL_len c.key
  have e6 := bytL_len c.elem
  have e7 := numsL_len h.fi
  have e8 := numsL_len h.hi
  unfold lineL
  repeat' split
  all_goals (try simp only [List.length_append, List.length_nil])
  all_goals omega
theorem cmdL_len {c : Cm} (h : c.Fits) : (cmdL c).length ≤ 120 * cmW c := by
  have e1 := lineL_len h
  have e2 := name_len c.op
  unfold cmdL cmW
  split
  · simp
  · simp only [List.length_append, List.length_cons, List.length_nil]; omega
theorem limitL_len {x : Int} (h : In64 x) : (limitL x).length ≤ 110 := by
  have := numL_len h
  simp only [limitL, List.length_append, List.length_cons, List.length_nil]; omega
theorem hashesL_len : ∀ {l : List (List UInt8 × Nat)}, (∀ x ∈ l, x.2 < 18446744073709551616) → (hashesL l).length ≤ 120 * ovsW l
  | [], _ => by simp [hashesL]
  | x :: r, h => by
    have e1 := hashL_len (h x (List.mem_cons_self ..))
    have e2 := hashesL_len (l := r) (fun y hy => h y (List.mem_cons_of_mem _ hy))
    unfold hashesL at e2 ⊢
    rw [List.flatMap_cons, List.length_append]
    simp only [ovsW]
    omega
theorem cmdsL_len : ∀ {l : List Cm}, (∀ x ∈ l, x.Fits) → (cmdsL l).length ≤ 120 * cmsW l
  | [], _ => by simp [cmdsL]
  | x :: r, h => by
    have e1 := cmdL_len (h x (List.mem_cons_self ..))
    have e2 := cmdsL_len (l := r) (fun y hy => h y (List.mem_cons_of_mem _ hy))
    unfold cmdsL at e2 ⊢
    rw [List.flatMap_cons, List.length_append]
    simp only [cmsW]
    omega
theorem hashesL_snoc (a : List (List UInt8 × Nat)) (x : List UInt8 × Nat) : hashesL (a ++ [x]) = hashesL a ++ hashL x := by simp [hashesL]
theorem cmdsL_snoc (a : List Cm) (x : Cm) : cmdsL (a ++ [x]) = cmdsL a ++ cmdL x := by simp [cmdsL]
theorem printL_len {s : Sc} (h : s.Ok) : (printL s).length ≤ 400000000 := by
  have e1 := limitL_len h.lim
  have e2 := hashesL_len h.ov
  have e3 := cmdsL_len h.cm
  have e4 := h.wt
  simp only [printL, List.length_append]; omega
/-- What is written when the first lines of each kind are. -/
def partO (s : Sc) (k : Nat) : List UInt8 := limitL s.limit ++ hashesL (s.over.take k)
def partC (s : Sc) (k : Nat) : List UInt8 := limitL s.limit ++ hashesL s.over ++ cmdsL (s.cmds.take k)
theorem partO_len {s : Sc} (h : s.Ok) (k : Nat) : (partO s k).length ≤ 400000000 := by
  have e1 := limitL_len h.lim
  have e2 := hashesL_len (l := s.over.take k) (fun x hx => h.ov x (List.mem_of_mem_take hx))
  have e3 := ovsW_take s.over k
  have e4 := h.wt
  simp only [partO, List.length_append]; omega
theorem partC_len {s : Sc} (h : s.Ok) (k : Nat) : (partC s k).length ≤ 400000000 := by
  have e1 := limitL_len h.lim
  have e2 := hashesL_len h.ov
  have e3 := cmdsL_len (l := s.cmds.take k) (fun x hx => h.cm x (List.mem_of_mem_take hx))
  have e5 := cmsW_take s.cmds k
  have e4 := h.wt
  simp only [partC, List.length_append]; omega
theorem partO_next {s : Sc} {k : Nat} {x : List UInt8 × Nat} (h : s.over[k]? = some x) : partO s (k + 1) = partO s k ++ hashL x := by
  unfold partO
  rw [take_next h, hashesL_snoc, List.append_assoc]
theorem partC_next {s : Sc} {k : Nat} {x : Cm} (h : s.cmds[k]? = some x) : partC s (k + 1) = partC s k ++ cmdL x := by
  unfold partC
  rw [take_next h, cmdsL_snoc, ← List.append_assoc]
theorem partO_zero (s : Sc) : partO s 0 = limitL s.limit := by simp [partO, hashesL]
theorem partO_all {s : Sc} {n : Nat} (h : s.over.length ≤ n) : partO s n = partC s 0 := by
  unfold partO partC
  rw [List.take_of_length_le h]
  simp [cmdsL]
theorem partC_all {s : Sc} {n : Nat} (h : s.cmds.length ≤ n) : partC s n = printL s := by
  unfold partC printL
  rw [List.take_of_length_le h]
end Go.Proofs.YtigaacbaaopfmaaDoor.sh
