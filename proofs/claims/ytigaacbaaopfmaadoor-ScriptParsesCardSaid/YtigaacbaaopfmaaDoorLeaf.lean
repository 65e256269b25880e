/- Answers' lines: names, numbers, bytes as text: the small functions, walked. -/
import Derived.Test.YtigaacbaaopfmaaDoorProg
import Derived.Test.YtigaacbaaopfmaaDoorShelf
import Derived.WalkKit
import Derived.Handy
import Derived.Below
import Derived.KernelRfl
import Derived.Laws.AppendOwn
import Derived.Laws.OwnMore
import Derived.Laws.IdiomStrings
import Derived.OwnWalk
import Derived.Deep.Draws
import Derived.Deep.LoopGhost
import Derived.Deep.QuietTactic
import Derived.BigQuiet
import Derived.Deep.RegionLaw
import Derived.Deep.OwnRows
namespace Go.Proofs.YtigaacbaaopfmaaDoor.sh
open Go.RowKit
set_option linter.unusedVariables false
structure Aside0 (p : Prop) : Prop where mk :: (out : p)
/-- A text of these bytes. -/
def B (l : List UInt8) : ByteArray := ⟨l.toArray⟩
theorem B_size (l : List UInt8) : (B l).size = l.length := by simp [B, ByteArray.size]
theorem B_add (a b : List UInt8) : B a ++ B b = B (a ++ b) := by unfold B; rw [ByteArray.mk_append_mk]
theorem B_toList (l : List UInt8) : (B l).toList = l := by unfold B; exact ByteArray.toList_mk l
theorem B_of (s : ByteArray) : B s.data.toList = s := by cases s; simp [B]
theorem below_drewN {B : Nat} {a w : World} (h : Below B a w) (n : Nat) : Below B a (w.drewN n) := ⟨h.os, h.tape, h.output, h.size, h.block⟩
theorem cell_below {B : Nat} {w w' : World} {a : Addr} {v : Value} (h : w.cell? a = some v) (k : Below B w w') (hB : w.heap.size ≤ B) : w'.cell? a = some v :=
  (k.cell (p := a) (Nat.lt_of_lt_of_le (World.block_lt_of_cell? _ _ h) hB)).trans h
theorem below_next {za wq w' : World} (h : Below za.heap.size za wq) (k : Below wq.heap.size wq w') : Below za.heap.size za w' := h.trans (k.mono h.size)
/-- The names of the commands, by their numbers (0: limit, 15: hash). -/
def names : List (List UInt8) := [[108, 105, 109, 105, 116], [109, 97, 107, 101], [103, 101, 116], [112, 117, 116], [100, 101, 108, 101, 116, 101], [108, 101, 110], [99, 108, 101, 97, 114], [99, 108, 111, 110, 101], [111, 112, 101, 110], [110, 101, 120, 116], [114, 101, 108, 101, 97, 115, 101], [108, 105, 118, 101], [112, 114, 111, 98, 101, 115], [115, 108, 111, 116, 115], [97, 117, 100, 105, 116], [104, 97, 115, 104]]
def nm (i : Nat) : ByteArray := B (names.getD i [])
/-- The name of a command; none: empty. -/
def nameP (op : Int) : ByteArray := if 1 ≤ op ∧ op ≤ 14 then nm op.toNat else B []
/-- What the table of the program's rows holds. -/
def Tab (w : World) : Prop := ∀ i, i < 16 → w.cell? ⟨0, i * 4, none⟩ = some (.string (nm i))
theorem Tab.below {w w' : World} (h : Tab w) (k : Below w.heap.size w w') : Tab w' := fun i hi => cell_below (h i hi) k (Nat.le_refl _)
set_option maxHeartbeats 4000000 in
theorem nameOf_walk (w : World) (op : Int) (h : Tab w) : Calls Tryd.prog 28 #[.int .i64 op] w fun e w' => e = .returned (.string (nameP op)) ∧ w' = w := by
  by_cases h1 : op < 1
  · have hn : nameP op = B [] := by unfold nameP; rw [if_neg (by omega)]
    rw [hn]
    go_enter Tryd.func28, Tryd.ntmps28
    go_wp2
    go_ret
    exact ⟨rfl, rfl⟩
  by_cases h2 : 14 < op
  · have hn : nameP op = B [] := by unfold nameP; rw [if_neg (by omega)]
    rw [hn]
    go_enter Tryd.func28, Tryd.ntmps28
    go_wp2
    go_ret
    exact ⟨rfl, rfl⟩
  · obtain ⟨i, rfl⟩ : ∃ i : Nat, op = i := ⟨op.toNat, by omega⟩
    have hn : nameP i = nm i := by unfold nameP; rw [if_pos (by omega)]; rfl
    have hc := h i (by omega)
    rw [hn]
    have hi : (i : Int) < 16 := by omega
    go_enter Tryd.func28, Tryd.ntmps28
    go_wp2
    go_ret
    exact ⟨rfl, rfl⟩
set_option maxHeartbeats 4000000 in
theorem either_walk (w : World) (y : Bool) (a b : ByteArray) : Calls Tryd.prog 31 #[.bool y, .string a, .string b] w fun e w' => e = .returned (.string (if y then a else b)) ∧ w' = w := by
  cases y <;> (go_enter Tryd.func31, Tryd.ntmps31; go_wp2; go_ret; exact ⟨rfl, rfl⟩)
/-- One digit to the base 16. -/
def hexd (v : Nat) : UInt8 := if v < 10 then UInt8.ofNat (48 + v) else UInt8.ofNat (87 + v)
set_option maxHeartbeats 4000000 in
theorem hex_walk (w : World) (v : Nat) (hv : v < 16) : Calls Tryd.prog 57 #[.int .i64 v] w fun e w' => e = .returned (.int .u8 (hexd v).toNat) ∧ w' = w := by
  by_cases h : v < 10
  · have hd : ((hexd v).toNat : Int) = 48 + v := by unfold hexd; rw [if_pos h]; simp; omega
    rw [hd]
    have h' : (v : Int) < 10 := by omega
    go_enter Tryd.func57, Tryd.ntmps57
    go_wp2
    go_ret
    refine ⟨?_, rfl⟩
    simp
  · have hd : ((hexd v).toNat : Int) = 87 + v := by unfold hexd; rw [if_neg h]; simp; omega
    rw [hd]
    have h' : ¬ (v : Int) < 10 := by omega
    go_enter Tryd.func57, Tryd.ntmps57
    go_wp2
    go_ret
    refine ⟨?_, rfl⟩
    simp
    omega
theorem grow_below (w : World) (k : Nat) (os : Array Obj) : Below w.heap.size w (Sort.grow (w.drewN k) os) :=
  ⟨rfl, rfl, rfl, by simp, fun j hj => Sort.heap_grow_old (w.drewN k) os (by simpa using hj)⟩
theorem dec_len : ∀ (k u : Nat), u < 10 ^ (k + 1) → (Lib.decDigits u).length ≤ k + 1
  | 0, u, h => by rw [Lib.decDigits, dif_pos (by omega)]; simp
  | k + 1, u, h => by
    rw [Lib.decDigits]
    split
    · simp
    · have := dec_len k (u / 10) (by rw [Nat.pow_succ] at h; omega)
      simp only [List.length_append, List.length_cons, List.length_nil]
      omega
theorem itoa_len {n : Int} (h0 : -9223372036854775808 ≤ n) (h1 : n ≤ 9223372036854775807) : (Lib.itoa n).length ≤ 100 := by
  unfold Lib.itoa
  split
  · have := dec_len 20 n.natAbs (by omega)
    simp only [List.length_cons]; omega
  · have := dec_len 20 n.toNat (by omega)
    omega
/-- A number behind a blank. -/
def showN (n : Int) : ByteArray := B (32 :: Lib.itoa n)
set_option maxHeartbeats 4000000 in
theorem showNumber_walk (w : World) (n : Int) (h0 : -9223372036854775808 ≤ n) (h1 : n ≤ 9223372036854775807) (htab : Lib.TabIs Tryd.prog w "internal/strconv.uint64pow10" .u64 Lib.pow10Tab) :
    Calls Tryd.prog 29 #[.int .i64 n] w fun e w' => e = .returned (.string (showN n)) ∧ Below w.heap.size w w' := by
  have hlen : (Lib.itoa n).length ≤ 100 := itoa_len h0 h1
  have c := Tryd.strconv_Itoa n h0 h1 w htab
  have hs : (⟨(Lib.itoa n).toArray⟩ : ByteArray).size ≤ 100 := by simpa [ByteArray.size] using hlen
  have hR : showN n = B [32] ++ ⟨(Lib.itoa n).toArray⟩ := by
    show B ([32] ++ Lib.itoa n) = _
    rw [← B_add]; rfl
  rw [hR]
  clear hR hlen
  generalize (⟨(Lib.itoa n).toArray⟩ : ByteArray) = s at c hs ⊢
  go_enter Tryd.func29, Tryd.ntmps29
  go_wp2_with (go_at_call 55; (with_reducible refine c.mono ?_); rintro e w' ⟨rfl, k, os, rfl⟩)
  go_ret
  exact ⟨rfl, grow_below w k os⟩
end Go.Proofs.YtigaacbaaopfmaaDoor.sh
