/- The document's digits, walked: what xor, digits, whole, down (by 29, 31, 32) and times answer, each as an equation in its digits. -/
import Derived.Test.YtabdkfmfenpkjaaDoorProg
import Derived.Test.YtabdkfmfenpkjaaDoorWWords
import Derived.Handy
namespace Go.Proofs.YtabdkfmfenpkjaaDoor.ref
open Go.RowKit Go.Proofs.YtabdkfmfenpkjaaDoorW.PrintWords
theorem at_new (w : World) (o : Obj) (n : Nat) (h : w.heap.size = n) : (w.alloc o).heap[n]? = some o := by
  subst h
  show (w.heap.push o)[w.heap.size]? = _
  exact Array.getElem?_push_size
theorem at_old (w : World) (o o' : Obj) (n : Nat) (h : n < w.heap.size) (k : w.heap[n]? = some o') : (w.alloc o).heap[n]? = some o' := by
  show (w.heap.push o)[n]? = _
  rw [Array.getElem?_push, if_neg (Nat.ne_of_lt h)]
  exact k
theorem at_drew (w : World) (o : Obj) (n : Nat) (k : w.heap[n]? = some o) : w.drew.heap[n]? = some o := k
abbrev num (a0 a1 a2 a3 : Int) : Value := .agg #[.int .i64 a0, .int .i64 a1, .int .i64 a2, .int .i64 a3]
set_option linter.unusedVariables false
set_option maxHeartbeats 4000000 in
set_option maxRecDepth 100000 in
theorem xor_walk (a0 a1 a2 a3 b0 b1 b2 b3 : Int) (w : World) :
    Calls Tryd.prog 16 #[num a0 a1 a2 a3, num b0 b1 b2 b3] w fun e w' => e = .returned (num (bits .xor .i64 a0 b0) (bits .xor .i64 a1 b1) (bits .xor .i64 a2 b2) (bits .xor .i64 a3 b3)) ∧ Below w.heap.size w w' := by
  go_enter Tryd.func16, Tryd.ntmps16
  go_wp2
  refine wp_loop_rounds 5 ?_
  rw [rounds_succ]
  go_wp2
  go_region
  go_wp2
  rw [rounds_succ]
  go_wp2
  go_region
  go_wp2
  rw [rounds_succ]
  go_wp2
  go_region
  go_wp2
  rw [rounds_succ]
  go_wp2
  go_region
  go_wp2
  rw [rounds_succ]
  go_wp2
  (try simp only [Exit.inBlock, Exit.then])
  refine bodyPost_ret (results_cell_row rfl _ _ (w.heap.size + 1 + 1) 49 #[.int .i64 (bits .xor .i64 a0 b0), .int .i64 (bits .xor .i64 a1 b1), .int .i64 (bits .xor .i64 a2 b2), .int .i64 (bits .xor .i64 a3 b3)] (0, 0) _ rfl (by repeat (first | (refine at_new _ _ _ ?_; (simp; done)) | (with_reducible refine at_drew _ _ _ ?_) | (refine at_old _ _ _ _ ?_ ?_; focus (simp; done)))) Tryd.underlying49 rfl (by kernel_rfl)) rfl ?_
  refine ⟨rfl, ?_⟩
  go_grown
set_option maxHeartbeats 4000000 in
set_option maxRecDepth 100000 in
theorem digits_walk (v : Int) (w : World) (hv : 0 ≤ v ∧ v < 18446744073709551616) :
    Calls Tryd.prog 17 #[.int .u64 v] w fun e w' => e = .returned (num (v % 65536) (v / 65536 % 65536) (v / 65536 / 65536 % 65536) (v / 65536 / 65536 / 65536 % 65536)) ∧ Below w.heap.size w w' := by
  go_enter Tryd.func17, Tryd.ntmps17
  go_wp2
  refine wp_loop_rounds 5 ?_
  rw [rounds_succ]
  go_wp2
  rw [rounds_succ]
  go_wp2
  rw [rounds_succ]
  go_wp2
  rw [rounds_succ]
  go_wp2
  rw [rounds_succ]
  go_wp2
  (try simp only [Exit.inBlock, Exit.then])
  refine bodyPost_ret (results_cell_row rfl _ _ (w.heap.size) 49 #[.int .i64 (v % 65536), .int .i64 (v / 65536 % 65536), .int .i64 (v / 65536 / 65536 % 65536), .int .i64 (v / 65536 / 65536 / 65536 % 65536)] (0, 0) _ rfl (by repeat (first | (refine at_new _ _ _ ?_; (simp; done)) | (with_reducible refine at_drew _ _ _ ?_) | (refine at_old _ _ _ _ ?_ ?_; focus (simp; done)))) Tryd.underlying49 rfl (by kernel_rfl)) rfl ?_
  refine ⟨rfl, ?_⟩
  go_grown
set_option maxHeartbeats 4000000 in
set_option maxRecDepth 100000 in
theorem whole_walk (a b c d : Int) (w : World) (ha : 0 ≤ a ∧ a < 65536) (hb : 0 ≤ b ∧ b < 65536) (hc : 0 ≤ c ∧ c < 65536) (hd : 0 ≤ d ∧ d < 65536) :
    Calls Tryd.prog 20 #[num a b c d] w fun e w' => e = .returned (.int .u64 (((d * 65536 + c) * 65536 + b) * 65536 + a)) ∧ Below w.heap.size w w' := by
  go_enter Tryd.func20, Tryd.ntmps20
  go_wp2
  refine wp_loop_rounds 5 ?_
  rw [rounds_succ]
  go_wp2
  rw [rounds_succ]
  go_wp2
  rw [rounds_succ]
  go_wp2
  rw [rounds_succ]
  go_wp2
  rw [rounds_succ]
  go_wp2
  go_ret
  exact ⟨rfl, by go_grown⟩
set_option maxHeartbeats 8000000 in
set_option maxRecDepth 100000 in
theorem down29_walk (a0 a1 a2 a3 : Int) (w : World) (ha0 : 0 ≤ a0) (ha1 : 0 ≤ a1) (ha2 : 0 ≤ a2) (ha3 : 0 ≤ a3) (hb0 : a0 < 65536) (hb1 : a1 < 65536) (hb2 : a2 < 65536) (hb3 : a3 < 65536) :
    Calls Tryd.prog 19 #[num a0 a1 a2 a3, .int .i64 29] w fun e w' => e = .returned (num (a1 / 8192 + a2 % 8192 * 8) (a2 / 8192 + a3 % 8192 * 8) (a3 / 8192) 0) ∧ Below w.heap.size w w' := by
  go_enter Tryd.func19, Tryd.ntmps19
  go_wp2
  refine wp_loop_rounds 14 ?_
  rw [rounds_succ]
  go_wp2
  rw [rounds_succ]
  go_wp2
  rw [rounds_succ]
  go_wp2
  rw [rounds_succ]
  go_wp2
  rw [rounds_succ]
  go_wp2
  rw [rounds_succ]
  go_wp2
  rw [rounds_succ]
  go_wp2
  rw [rounds_succ]
  go_wp2
  rw [rounds_succ]
  go_wp2
  rw [rounds_succ]
  go_wp2
  rw [rounds_succ]
  go_wp2
  rw [rounds_succ]
  go_wp2
  rw [rounds_succ]
  go_wp2
  rw [rounds_succ]
  go_wp2
  refine wp_loop_rounds 4 ?_
  rw [rounds_succ]
  go_wp2
  go_region
  go_wp2
  rw [rounds_succ]
  go_wp2
  go_region
  go_wp2
  rw [rounds_succ]
  go_wp2
  rw [rounds_succ]
  go_wp2
  (try simp only [Exit.inBlock, Exit.then])
  refine bodyPost_ret (results_cell_row rfl _ _ (w.heap.size + 1) 49 #[.int .i64 (a1 / 8192 + a2 % 8192 * 8), .int .i64 (a2 / 8192 + a3 % 8192 * 8), .int .i64 (a3 / 8192), .int .i64 0] (0, 0) _ rfl (by repeat (first | (refine at_new _ _ _ ?_; (simp; done)) | (with_reducible refine at_drew _ _ _ ?_) | (refine at_old _ _ _ _ ?_ ?_; focus (simp; done)))) Tryd.underlying49 rfl (by kernel_rfl)) rfl ?_
  exact ⟨rfl, by go_grown⟩
set_option maxHeartbeats 8000000 in
set_option maxRecDepth 100000 in
theorem down31_walk (a0 a1 a2 a3 : Int) (w : World) (ha0 : 0 ≤ a0) (ha1 : 0 ≤ a1) (ha2 : 0 ≤ a2) (ha3 : 0 ≤ a3) (hb0 : a0 < 65536) (hb1 : a1 < 65536) (hb2 : a2 < 65536) (hb3 : a3 < 65536) :
    Calls Tryd.prog 19 #[num a0 a1 a2 a3, .int .i64 31] w fun e w' => e = .returned (num (a1 / 32768 + a2 % 32768 * 2) (a2 / 32768 + a3 % 32768 * 2) (a3 / 32768) 0) ∧ Below w.heap.size w w' := by
  go_enter Tryd.func19, Tryd.ntmps19
  go_wp2
  refine wp_loop_rounds 16 ?_
  rw [rounds_succ]
  go_wp2
  rw [rounds_succ]
  go_wp2
  rw [rounds_succ]
  go_wp2
  rw [rounds_succ]
  go_wp2
  rw [rounds_succ]
  go_wp2
  rw [rounds_succ]
  go_wp2
  rw [rounds_succ]
  go_wp2
  rw [rounds_succ]
  go_wp2
  rw [rounds_succ]
  go_wp2
  rw [rounds_succ]
  go_wp2
  rw [rounds_succ]
  go_wp2
  rw [rounds_succ]
  go_wp2
  rw [rounds_succ]
  go_wp2
  rw [rounds_succ]
  go_wp2
  rw [rounds_succ]
  go_wp2
  rw [rounds_succ]
  go_wp2
  refine wp_loop_rounds 4 ?_
  rw [rounds_succ]
  go_wp2
  go_region
  go_wp2
  rw [rounds_succ]
  go_wp2
  go_region
  go_wp2
  rw [rounds_succ]
  go_wp2
  rw [rounds_succ]
  go_wp2
  (try simp only [Exit.inBlock, Exit.then])
  refine bodyPost_ret (results_cell_row rfl _ _ (w.heap.size + 1) 49 #[.int .i64 (a1 / 32768 + a2 % 32768 * 2), .int .i64 (a2 / 32768 + a3 % 32768 * 2), .int .i64 (a3 / 32768), .int .i64 0] (0, 0) _ rfl (by repeat (first | (refine at_new _ _ _ ?_; (simp; done)) | (with_reducible refine at_drew _ _ _ ?_) | (refine at_old _ _ _ _ ?_ ?_; focus (simp; done)))) Tryd.underlying49 rfl (by kernel_rfl)) rfl ?_
  exact ⟨rfl, by go_grown⟩
set_option maxHeartbeats 8000000 in
set_option maxRecDepth 100000 in
theorem down32_walk (a0 a1 a2 a3 : Int) (w : World) (ha0 : 0 ≤ a0) (ha1 : 0 ≤ a1) (ha2 : 0 ≤ a2) (ha3 : 0 ≤ a3) (hb0 : a0 < 65536) (hb1 : a1 < 65536) (hb2 : a2 < 65536) (hb3 : a3 < 65536) :
    Calls Tryd.prog 19 #[num a0 a1 a2 a3, .int .i64 32] w fun e w' => e = .returned (num a2 a3 0 0) ∧ Below w.heap.size w w' := by
  go_enter Tryd.func19, Tryd.ntmps19
  go_wp2
  refine wp_loop_rounds 1 ?_
  rw [rounds_succ]
  go_wp2
  refine wp_loop_rounds 3 ?_
  rw [rounds_succ]
  go_wp2
  go_region
  go_wp2
  rw [rounds_succ]
  go_wp2
  rw [rounds_succ]
  go_wp2
  (try simp only [Exit.inBlock, Exit.then])
  refine bodyPost_ret (results_cell_row rfl _ _ (w.heap.size + 1) 49 #[.int .i64 a2, .int .i64 a3, .int .i64 0, .int .i64 0] (0, 0) _ rfl (by repeat (first | (refine at_new _ _ _ ?_; (simp; done)) | (with_reducible refine at_drew _ _ _ ?_) | (refine at_old _ _ _ _ ?_ ?_; focus (simp; done)))) Tryd.underlying49 rfl (by kernel_rfl)) rfl ?_
  exact ⟨rfl, by go_grown⟩
end Go.Proofs.YtabdkfmfenpkjaaDoor.ref
