/- An answer's line, by the program and by the document, walked. -/
import Derived.Test.YtigaacbaaopfmaaDoorNam
import Derived.Deep.RegionHeld3
import Derived.Lib.AppendIntMem
namespace Go.Proofs.YtigaacbaaopfmaaDoor.sh
open Go.RowKit
set_option linter.unusedVariables false
/-- An answer. -/
structure Ans where
  op : Int
  err : Int
  n : Int
  off : Int
  yes : Bool
  key : ByteArray
  elem : ByteArray
abbrev Ans.v (a : Ans) : Value := .agg #[.int .i64 a.op, .int .i64 a.err, .int .i64 a.n, .int .i64 a.off, .bool a.yes, .string a.key, .string a.elem]
def nameL (op : Int) : List UInt8 := if 1 ≤ op ∧ op ≤ 14 then names.getD op.toNat [] else []
theorem nameP_eq (op : Int) : nameP op = B (nameL op) := by
  unfold nameP nameL nm
  split <;> rfl
/-- What stands behind the name. -/
def tailL (a : Ans) : List UInt8 :=
  if a.err ≠ 0 then [32, 101, 114, 114, 111, 114] ++ (32 :: Lib.itoa a.err)
  else if a.op = 6 ∨ a.op = 10 then []
  else if a.op = 2 then (if a.yes then [32, 121, 101, 115] ++ (32 :: bytesP a.elem) else [32, 110, 111])
  else if a.op = 4 then (if a.yes then [32, 121, 101, 115] else [32, 110, 111])
  else if a.op = 3 then (if a.yes then [32, 110, 101, 119] else [32, 111, 108, 100])
  else if a.op = 9 then (if a.yes then [32, 112, 97, 105, 114] ++ (32 :: bytesP a.key) ++ (32 :: bytesP a.elem) else [32, 100, 111, 110, 101])
  else if a.op = 14 then (if a.n = 0 then [32, 102, 105, 110, 101] else [32, 114, 117, 108, 101] ++ (32 :: Lib.itoa a.n) ++ (32 :: Lib.itoa a.off))
  else 32 :: Lib.itoa a.n
/-- An answer's line. -/
def showL (a : Ans) : List UInt8 := if nameL a.op = [] then [] else nameL a.op ++ tailL a
def In64 (x : Int) : Prop := -9223372036854775808 ≤ x ∧ x ≤ 9223372036854775807
/-- What the calls may rely on. -/
structure Base (w : World) : Prop where
  tab : Tab w
  pow : Lib.TabIs Tryd.prog w "internal/strconv.uint64pow10" .u64 Lib.pow10Tab
theorem Base.below {w w' : World} (h : Base w) (k : Below w.heap.size w w') : Base w' := ⟨h.tab.below k, (Lib.tabBelow_of_tabIs h.pow) w' k⟩
theorem bytesP_len (s : ByteArray) (hs : s.size ≤ 3000000) : (bytesP s).length ≤ 6000000 := by
  unfold bytesP
  split
  · simp
  · rw [hexL_length]; show 2 * s.size ≤ _; omega
theorem keep2 {za w' : World} {b i j : Nat} {u v : Value} (c0 : za.cell? ⟨b, i, none⟩ = some u) (c1 : za.cell? ⟨b, j, none⟩ = some v) (h : Below za.heap.size za w') :
    Below za.heap.size za w' ∧ w'.cell? ⟨b, i, none⟩ = some u ∧ w'.cell? ⟨b, j, none⟩ = some v :=
  ⟨h, cell_below c0 h (Nat.le_refl _), cell_below c1 h (Nat.le_refl _)⟩
theorem name_empty {op : Int} (h : nameL op = []) : ¬ (1 ≤ op ∧ op ≤ 14) := by
  intro hc
  obtain ⟨i, rfl⟩ : ∃ i : Nat, op = i := ⟨op.toNat, by omega⟩
  have : ∀ i : Fin 15, 1 ≤ i.val → names.getD i.val [] ≠ [] := by decide
  unfold nameL at h
  rw [if_pos hc] at h
  exact this ⟨i, by omega⟩ (by show 1 ≤ i; omega) h
theorem name_len (op : Int) : (nameL op).length ≤ 20 := by
  unfold nameL
  split
  · next hc =>
    obtain ⟨i, rfl⟩ : ∃ i : Nat, op = i := ⟨op.toNat, by omega⟩
    have : ∀ i : Fin 15, (names.getD i.val []).length ≤ 20 := by decide
    exact this ⟨i, by omega⟩
  · simp
theorem show_num {w : World} (hb : Base w) (x : Int) (hx : In64 x) (r : ByteArray) (hr : showN x = r) : r.size ≤ 200 ∧ ∀ wq, Below w.heap.size w wq → Calls Tryd.prog 29 #[.int .i64 x] wq fun e w' => e = .returned (.string r) ∧ Below wq.heap.size wq w' := by
  subst hr
  refine ⟨?_, fun wq h => showNumber_walk wq x hx.1 hx.2 (hb.below h).pow⟩
  unfold showN
  rw [B_size]
  have := itoa_len hx.1 hx.2
  simp only [List.length_cons]
  omega
theorem show_byt {w : World} (s : ByteArray) (hs : s.size ≤ 3000000) (r : ByteArray) (hr : showB s = r) : r.size ≤ 7000000 ∧ ∀ wq, Below w.heap.size w wq → Calls Tryd.prog 30 #[.string s] wq fun e w' => e = .returned (.string r) ∧ Below wq.heap.size wq w' := by
  subst hr
  refine ⟨?_, fun wq h => showBytes_walk wq s hs⟩
  unfold showB
  rw [B_size]
  have := bytesP_len s hs
  simp only [List.length_cons]
  omega
theorem ref_num {w : World} (hb : Base w) (x : Int) (hx : In64 x) (r : ByteArray) (hr : B (Lib.itoa x) = r) : r.size ≤ 200 ∧ ∀ wq, Below w.heap.size w wq → Calls Tryd.prog 33 #[.int .i64 x] wq fun e w' => e = .returned (.string r) ∧ Below wq.heap.size wq w' := by
  subst hr
  refine ⟨?_, fun wq h => decimal_walk wq x hx.1 hx.2⟩
  rw [B_size]
  have := itoa_len hx.1 hx.2
  omega
theorem ref_byt {w : World} (s : ByteArray) (hs : s.size ≤ 3000000) (r : ByteArray) (hr : B (bytesP s) = r) : r.size ≤ 7000000 ∧ ∀ wq, Below w.heap.size w wq → Calls Tryd.prog 34 #[.string s] wq fun e w' => e = .returned (.string r) ∧ Below wq.heap.size wq w' := by
  subst hr
  refine ⟨?_, fun wq h => bytes_walk wq s hs⟩
  rw [B_size]
  have := bytesP_len s hs
  omega
end Go.Proofs.YtigaacbaaopfmaaDoor.sh
