/- The document's guess at an answer: walked. -/
import Derived.Test.YtigaacbaaopfmaaDoorRo2
import Derived.Deep.CutBlock
namespace Go.Proofs.YtigaacbaaopfmaaDoor.sh
open Go.RowKit
set_option linter.unusedVariables false
theorem gfacts (w1 : World) (r0 r2 : ByteArray) (op : Int) (r3 : Bool) (W : World) (hW : (w1.alloc (.cells #[.string r0, .int .i64 op, .string r2, .bool r3] 97)).alloc (.cells #[.int .i64 op, .int .i64 0, .int .i64 0, .int .i64 0, .bool false, .string ⟨#[]⟩, .string ⟨#[]⟩] 24) = W) :
    Below w1.heap.size w1 W ∧ w1.heap.size + 1 < W.heap.size ∧ W.cell? ⟨w1.heap.size, 1, none⟩ = some (.int .i64 op) ∧ (∀ i, W.frozen? ⟨w1.heap.size + 1, i, none⟩ = false) ∧ Bx W (w1.heap.size + 1) 7 24 ∧
    W.cell? ⟨w1.heap.size + 1, 0, none⟩ = some (.int .i64 op) ∧ W.cell? ⟨w1.heap.size + 1, 1, none⟩ = some (.int .i64 0) ∧ W.cell? ⟨w1.heap.size + 1, 2, none⟩ = some (.int .i64 0) ∧ W.cell? ⟨w1.heap.size + 1, 3, none⟩ = some (.int .i64 0) ∧
    W.cell? ⟨w1.heap.size + 1, 4, none⟩ = some (.bool false) ∧ W.cell? ⟨w1.heap.size + 1, 5, none⟩ = some (.string ⟨#[]⟩) ∧ W.cell? ⟨w1.heap.size + 1, 6, none⟩ = some (.string ⟨#[]⟩) := by
  subst hW
  have e : (w1.alloc (.cells #[.string r0, .int .i64 op, .string r2, .bool r3] 97)).heap.size = w1.heap.size + 1 := by simp
  refine ⟨((Below.refl _ _).alloc (Nat.le_refl _) _).alloc (by simp) _, by simp, by simp, fun i => by simp, ?_, by simp, by simp, by simp, by simp, by simp, by simp, by simp⟩
  have := Bx.new (w1.alloc (.cells #[.string r0, .int .i64 op, .string r2, .bool r3] 97)) #[.int .i64 op, .int .i64 0, .int .i64 0, .int .i64 0, .bool false, .string ⟨#[]⟩, .string ⟨#[]⟩] 24 7 rfl
  rw [e] at this
  exact this
set_option maxHeartbeats 1000000 in
set_option maxRecDepth 100000 in
theorem gs1 (w : World) (op : Int) (b c : Nat) (s0 : ByteArray) (c0 : w.cell? ⟨b, 0, none⟩ = some (.string s0)) (r0 r2 : ByteArray) (r3 r4 : Bool) (dr : ∀ wq, Calls Tryd.prog 65 #[.string s0] wq fun e w' => e = .returned (.tuple #[.agg #[.string r0, .int .i64 op, .string r2, .bool r3], .bool r4]) ∧ Below wq.heap.size wq w')
    : Calls Tryd.prog 53 #[.slice (some ⟨b, 0, none⟩) 1 c] w fun e w' => e = .returned (.agg #[.int .i64 op, .int .i64 0, .int .i64 0, .int .i64 0, .bool false, .string ⟨#[]⟩, .string ⟨#[]⟩]) ∧ Below w.heap.size w w' := by
  have hbl : b < w.heap.size := World.block_lt_of_cell? _ _ c0
  go_enter Tryd.func53, Tryd.ntmps53
  go_wp2_with fail
  refine (dr _).mono ?_
  rintro e w1 ⟨rfl, hB1⟩
  obtain ⟨hc1, hf1⟩ := bcell hB1
  have hz1 : w.heap.size < w1.heap.size := by have := hB1.size; simp at this; omega
  have hb1 : b < w1.heap.size := by omega
  clear dr
  go_upto_region 3 with (fail)
  generalize hW : (w1.alloc (.cells #[.string r0, .int .i64 op, .string r2, .bool r3] 97)).alloc (.cells #[.int .i64 op, .int .i64 0, .int .i64 0, .int .i64 0, .bool false, .string ⟨#[]⟩, .string ⟨#[]⟩] 24) = wz
  obtain ⟨hBz, hzz, g1, hfz, hxz, z0, z1, z2, z3, z4, z5, z6⟩ := gfacts w1 r0 r2 op r3 wz hW
  clear hW
  obtain ⟨hcz, hfz2⟩ := bcell hBz
  have hz2 : w.heap.size < wz.heap.size := by omega
  have hz3 : b < wz.heap.size := by omega
  have hz4 : w1.heap.size < wz.heap.size := by omega
  go_wp2
  refine bodyPost_ret (v := .agg #[.int .i64 op, .int .i64 0, .int .i64 0, .int .i64 0, .bool false, .string ⟨#[]⟩, .string ⟨#[]⟩]) ?res rfl ⟨rfl, ?_⟩
  case res =>
    refine results_cell_row (p := 2) (ty := 24) rfl _ _ w.heap.size 24 #[.int .i64 op, .int .i64 0, .int .i64 0, .int .i64 0, .bool false, .string ⟨#[]⟩, .string ⟨#[]⟩] (0, 0) _ rfl ?_ Tryd.underlying24 rfl size24
    with_reducible refine Bx.full7 ?_ _ _ _ _ _ _ _
    repeat (first | with_reducible refine Bx.set ?_ _ _ | with_reducible refine Bx.setO ?_ _ _ (by omega) | with_reducible refine Bx.below ?_ (by with_reducible assumption) | with_reducible exact Bx.new _ _ _ _ rfl | with_reducible assumption | with_reducible refine Bx.old ?_ _ | with_reducible refine Bx.drew ?_)
  repeat (first | with_reducible assumption | with_reducible refine below_set ?_ (by omega) _ | with_reducible refine Below.alloc ?_ (by first | omega | (simp; done) | (simp; omega)) _ | with_reducible refine Below.drew ?_ | with_reducible exact Below.refl _ _ | with_reducible refine below_two ?_ (by with_reducible assumption))
set_option maxHeartbeats 1000000 in
set_option maxRecDepth 100000 in
theorem gs2_2 (w : World) (b c : Nat) (s0 : ByteArray) (c0 : w.cell? ⟨b, 0, none⟩ = some (.string s0)) (s1 : ByteArray) (c1 : w.cell? ⟨b, 1, none⟩ = some (.string s1)) (r0 r2 : ByteArray) (r3 r4 : Bool) (dr : ∀ wq, Calls Tryd.prog 65 #[.string s0] wq fun e w' => e = .returned (.tuple #[.agg #[.string r0, .int .i64 2, .string r2, .bool r3], .bool r4]) ∧ Below wq.heap.size wq w') (q : Bool) (hq : (s1.toList == [121, 101, 115]) = q)
    : Calls Tryd.prog 53 #[.slice (some ⟨b, 0, none⟩) 2 c] w fun e w' => e = .returned (.agg #[.int .i64 2, .int .i64 0, .int .i64 0, .int .i64 0, .bool q, .string ⟨#[]⟩, .string ⟨#[]⟩]) ∧ Below w.heap.size w w' := by
  have hbl : b < w.heap.size := World.block_lt_of_cell? _ _ c0
  go_enter Tryd.func53, Tryd.ntmps53
  go_wp2_with fail
  refine (dr _).mono ?_
  rintro e w1 ⟨rfl, hB1⟩
  obtain ⟨hc1, hf1⟩ := bcell hB1
  have hz1 : w.heap.size < w1.heap.size := by have := hB1.size; simp at this; omega
  have hb1 : b < w1.heap.size := by omega
  clear dr
  go_upto_region 3 with (fail)
  generalize hW : (w1.alloc (.cells #[.string r0, .int .i64 2, .string r2, .bool r3] 97)).alloc (.cells #[.int .i64 2, .int .i64 0, .int .i64 0, .int .i64 0, .bool false, .string ⟨#[]⟩, .string ⟨#[]⟩] 24) = wz
  obtain ⟨hBz, hzz, g1, hfz, hxz, z0, z1, z2, z3, z4, z5, z6⟩ := gfacts w1 r0 r2 2 r3 wz hW
  clear hW
  obtain ⟨hcz, hfz2⟩ := bcell hBz
  have hz2 : w.heap.size < wz.heap.size := by omega
  have hz3 : b < wz.heap.size := by omega
  have hz4 : w1.heap.size < wz.heap.size := by omega
  go_wp2
  refine bodyPost_ret (v := .agg #[.int .i64 2, .int .i64 0, .int .i64 0, .int .i64 0, .bool q, .string ⟨#[]⟩, .string ⟨#[]⟩]) ?res rfl ⟨rfl, ?_⟩
  case res =>
    refine results_cell_row (p := 2) (ty := 24) rfl _ _ w.heap.size 24 #[.int .i64 2, .int .i64 0, .int .i64 0, .int .i64 0, .bool q, .string ⟨#[]⟩, .string ⟨#[]⟩] (0, 0) _ rfl ?_ Tryd.underlying24 rfl size24
    with_reducible refine Bx.full7 ?_ _ _ _ _ _ _ _
    repeat (first | with_reducible refine Bx.set ?_ _ _ | with_reducible refine Bx.setO ?_ _ _ (by omega) | with_reducible refine Bx.below ?_ (by with_reducible assumption) | with_reducible exact Bx.new _ _ _ _ rfl | with_reducible assumption | with_reducible refine Bx.old ?_ _ | with_reducible refine Bx.drew ?_)
  repeat (first | with_reducible assumption | with_reducible refine below_set ?_ (by omega) _ | with_reducible refine Below.alloc ?_ (by first | omega | (simp; done) | (simp; omega)) _ | with_reducible refine Below.drew ?_ | with_reducible exact Below.refl _ _ | with_reducible refine below_two ?_ (by with_reducible assumption))
set_option maxHeartbeats 1000000 in
set_option maxRecDepth 100000 in
theorem gs2_3 (w : World) (b c : Nat) (s0 : ByteArray) (c0 : w.cell? ⟨b, 0, none⟩ = some (.string s0)) (s1 : ByteArray) (c1 : w.cell? ⟨b, 1, none⟩ = some (.string s1)) (r0 r2 : ByteArray) (r3 r4 : Bool) (dr : ∀ wq, Calls Tryd.prog 65 #[.string s0] wq fun e w' => e = .returned (.tuple #[.agg #[.string r0, .int .i64 3, .string r2, .bool r3], .bool r4]) ∧ Below wq.heap.size wq w') (q : Bool) (hq : (s1.toList == [110, 101, 119]) = q)
    : Calls Tryd.prog 53 #[.slice (some ⟨b, 0, none⟩) 2 c] w fun e w' => e = .returned (.agg #[.int .i64 3, .int .i64 0, .int .i64 0, .int .i64 0, .bool q, .string ⟨#[]⟩, .string ⟨#[]⟩]) ∧ Below w.heap.size w w' := by
  have hbl : b < w.heap.size := World.block_lt_of_cell? _ _ c0
  go_enter Tryd.func53, Tryd.ntmps53
  go_wp2_with fail
  refine (dr _).mono ?_
  rintro e w1 ⟨rfl, hB1⟩
  obtain ⟨hc1, hf1⟩ := bcell hB1
  have hz1 : w.heap.size < w1.heap.size := by have := hB1.size; simp at this; omega
  have hb1 : b < w1.heap.size := by omega
  clear dr
  go_upto_region 3 with (fail)
  generalize hW : (w1.alloc (.cells #[.string r0, .int .i64 3, .string r2, .bool r3] 97)).alloc (.cells #[.int .i64 3, .int .i64 0, .int .i64 0, .int .i64 0, .bool false, .string ⟨#[]⟩, .string ⟨#[]⟩] 24) = wz
  obtain ⟨hBz, hzz, g1, hfz, hxz, z0, z1, z2, z3, z4, z5, z6⟩ := gfacts w1 r0 r2 3 r3 wz hW
  clear hW
  obtain ⟨hcz, hfz2⟩ := bcell hBz
  have hz2 : w.heap.size < wz.heap.size := by omega
  have hz3 : b < wz.heap.size := by omega
  have hz4 : w1.heap.size < wz.heap.size := by omega
  go_wp2
  refine bodyPost_ret (v := .agg #[.int .i64 3, .int .i64 0, .int .i64 0, .int .i64 0, .bool q, .string ⟨#[]⟩, .string ⟨#[]⟩]) ?res rfl ⟨rfl, ?_⟩
  case res =>
    refine results_cell_row (p := 2) (ty := 24) rfl _ _ w.heap.size 24 #[.int .i64 3, .int .i64 0, .int .i64 0, .int .i64 0, .bool q, .string ⟨#[]⟩, .string ⟨#[]⟩] (0, 0) _ rfl ?_ Tryd.underlying24 rfl size24
    with_reducible refine Bx.full7 ?_ _ _ _ _ _ _ _
    repeat (first | with_reducible refine Bx.set ?_ _ _ | with_reducible refine Bx.setO ?_ _ _ (by omega) | with_reducible refine Bx.below ?_ (by with_reducible assumption) | with_reducible exact Bx.new _ _ _ _ rfl | with_reducible assumption | with_reducible refine Bx.old ?_ _ | with_reducible refine Bx.drew ?_)
  repeat (first | with_reducible assumption | with_reducible refine below_set ?_ (by omega) _ | with_reducible refine Below.alloc ?_ (by first | omega | (simp; done) | (simp; omega)) _ | with_reducible refine Below.drew ?_ | with_reducible exact Below.refl _ _ | with_reducible refine below_two ?_ (by with_reducible assumption))
set_option maxHeartbeats 1000000 in
set_option maxRecDepth 100000 in
theorem gs2_4 (w : World) (b c : Nat) (s0 : ByteArray) (c0 : w.cell? ⟨b, 0, none⟩ = some (.string s0)) (s1 : ByteArray) (c1 : w.cell? ⟨b, 1, none⟩ = some (.string s1)) (r0 r2 : ByteArray) (r3 r4 : Bool) (dr : ∀ wq, Calls Tryd.prog 65 #[.string s0] wq fun e w' => e = .returned (.tuple #[.agg #[.string r0, .int .i64 4, .string r2, .bool r3], .bool r4]) ∧ Below wq.heap.size wq w') (q : Bool) (hq : (s1.toList == [121, 101, 115]) = q)
    : Calls Tryd.prog 53 #[.slice (some ⟨b, 0, none⟩) 2 c] w fun e w' => e = .returned (.agg #[.int .i64 4, .int .i64 0, .int .i64 0, .int .i64 0, .bool q, .string ⟨#[]⟩, .string ⟨#[]⟩]) ∧ Below w.heap.size w w' := by
  have hbl : b < w.heap.size := World.block_lt_of_cell? _ _ c0
  go_enter Tryd.func53, Tryd.ntmps53
  go_wp2_with fail
  refine (dr _).mono ?_
  rintro e w1 ⟨rfl, hB1⟩
  obtain ⟨hc1, hf1⟩ := bcell hB1
  have hz1 : w.heap.size < w1.heap.size := by have := hB1.size; simp at this; omega
  have hb1 : b < w1.heap.size := by omega
  clear dr
  go_upto_region 3 with (fail)
  generalize hW : (w1.alloc (.cells #[.string r0, .int .i64 4, .string r2, .bool r3] 97)).alloc (.cells #[.int .i64 4, .int .i64 0, .int .i64 0, .int .i64 0, .bool false, .string ⟨#[]⟩, .string ⟨#[]⟩] 24) = wz
  obtain ⟨hBz, hzz, g1, hfz, hxz, z0, z1, z2, z3, z4, z5, z6⟩ := gfacts w1 r0 r2 4 r3 wz hW
  clear hW
  obtain ⟨hcz, hfz2⟩ := bcell hBz
  have hz2 : w.heap.size < wz.heap.size := by omega
  have hz3 : b < wz.heap.size := by omega
  have hz4 : w1.heap.size < wz.heap.size := by omega
  go_wp2
  refine bodyPost_ret (v := .agg #[.int .i64 4, .int .i64 0, .int .i64 0, .int .i64 0, .bool q, .string ⟨#[]⟩, .string ⟨#[]⟩]) ?res rfl ⟨rfl, ?_⟩
  case res =>
    refine results_cell_row (p := 2) (ty := 24) rfl _ _ w.heap.size 24 #[.int .i64 4, .int .i64 0, .int .i64 0, .int .i64 0, .bool q, .string ⟨#[]⟩, .string ⟨#[]⟩] (0, 0) _ rfl ?_ Tryd.underlying24 rfl size24
    with_reducible refine Bx.full7 ?_ _ _ _ _ _ _ _
    repeat (first | with_reducible refine Bx.set ?_ _ _ | with_reducible refine Bx.setO ?_ _ _ (by omega) | with_reducible refine Bx.below ?_ (by with_reducible assumption) | with_reducible exact Bx.new _ _ _ _ rfl | with_reducible assumption | with_reducible refine Bx.old ?_ _ | with_reducible refine Bx.drew ?_)
  repeat (first | with_reducible assumption | with_reducible refine below_set ?_ (by omega) _ | with_reducible refine Below.alloc ?_ (by first | omega | (simp; done) | (simp; omega)) _ | with_reducible refine Below.drew ?_ | with_reducible exact Below.refl _ _ | with_reducible refine below_two ?_ (by with_reducible assumption))
set_option maxHeartbeats 1000000 in
set_option maxRecDepth 100000 in
theorem gs2_9 (w : World) (b c : Nat) (s0 : ByteArray) (c0 : w.cell? ⟨b, 0, none⟩ = some (.string s0)) (s1 : ByteArray) (c1 : w.cell? ⟨b, 1, none⟩ = some (.string s1)) (r0 r2 : ByteArray) (r3 r4 : Bool) (dr : ∀ wq, Calls Tryd.prog 65 #[.string s0] wq fun e w' => e = .returned (.tuple #[.agg #[.string r0, .int .i64 9, .string r2, .bool r3], .bool r4]) ∧ Below wq.heap.size wq w') (q : Bool) (hq : (s1.toList == [112, 97, 105, 114]) = q)
    : Calls Tryd.prog 53 #[.slice (some ⟨b, 0, none⟩) 2 c] w fun e w' => e = .returned (.agg #[.int .i64 9, .int .i64 0, .int .i64 0, .int .i64 0, .bool q, .string ⟨#[]⟩, .string ⟨#[]⟩]) ∧ Below w.heap.size w w' := by
  have hbl : b < w.heap.size := World.block_lt_of_cell? _ _ c0
  go_enter Tryd.func53, Tryd.ntmps53
  go_wp2_with fail
  refine (dr _).mono ?_
  rintro e w1 ⟨rfl, hB1⟩
  obtain ⟨hc1, hf1⟩ := bcell hB1
  have hz1 : w.heap.size < w1.heap.size := by have := hB1.size; simp at this; omega
  have hb1 : b < w1.heap.size := by omega
  clear dr
  go_upto_region 3 with (fail)
  generalize hW : (w1.alloc (.cells #[.string r0, .int .i64 9, .string r2, .bool r3] 97)).alloc (.cells #[.int .i64 9, .int .i64 0, .int .i64 0, .int .i64 0, .bool false, .string ⟨#[]⟩, .string ⟨#[]⟩] 24) = wz
  obtain ⟨hBz, hzz, g1, hfz, hxz, z0, z1, z2, z3, z4, z5, z6⟩ := gfacts w1 r0 r2 9 r3 wz hW
  clear hW
  obtain ⟨hcz, hfz2⟩ := bcell hBz
  have hz2 : w.heap.size < wz.heap.size := by omega
  have hz3 : b < wz.heap.size := by omega
  have hz4 : w1.heap.size < wz.heap.size := by omega
  go_wp2
  refine bodyPost_ret (v := .agg #[.int .i64 9, .int .i64 0, .int .i64 0, .int .i64 0, .bool q, .string ⟨#[]⟩, .string ⟨#[]⟩]) ?res rfl ⟨rfl, ?_⟩
  case res =>
    refine results_cell_row (p := 2) (ty := 24) rfl _ _ w.heap.size 24 #[.int .i64 9, .int .i64 0, .int .i64 0, .int .i64 0, .bool q, .string ⟨#[]⟩, .string ⟨#[]⟩] (0, 0) _ rfl ?_ Tryd.underlying24 rfl size24
    with_reducible refine Bx.full7 ?_ _ _ _ _ _ _ _
    repeat (first | with_reducible refine Bx.set ?_ _ _ | with_reducible refine Bx.setO ?_ _ _ (by omega) | with_reducible refine Bx.below ?_ (by with_reducible assumption) | with_reducible exact Bx.new _ _ _ _ rfl | with_reducible assumption | with_reducible refine Bx.old ?_ _ | with_reducible refine Bx.drew ?_)
  repeat (first | with_reducible assumption | with_reducible refine below_set ?_ (by omega) _ | with_reducible refine Below.alloc ?_ (by first | omega | (simp; done) | (simp; omega)) _ | with_reducible refine Below.drew ?_ | with_reducible exact Below.refl _ _ | with_reducible refine below_two ?_ (by with_reducible assumption))
set_option maxHeartbeats 1000000 in
set_option maxRecDepth 100000 in
theorem gs2_14 (w : World) (b c : Nat) (s0 : ByteArray) (c0 : w.cell? ⟨b, 0, none⟩ = some (.string s0)) (s1 : ByteArray) (c1 : w.cell? ⟨b, 1, none⟩ = some (.string s1)) (r0 r2 : ByteArray) (r3 r4 : Bool) (dr : ∀ wq, Calls Tryd.prog 65 #[.string s0] wq fun e w' => e = .returned (.tuple #[.agg #[.string r0, .int .i64 14, .string r2, .bool r3], .bool r4]) ∧ Below wq.heap.size wq w')
    : Calls Tryd.prog 53 #[.slice (some ⟨b, 0, none⟩) 2 c] w fun e w' => e = .returned (.agg #[.int .i64 14, .int .i64 0, .int .i64 0, .int .i64 0, .bool false, .string ⟨#[]⟩, .string ⟨#[]⟩]) ∧ Below w.heap.size w w' := by
  have hbl : b < w.heap.size := World.block_lt_of_cell? _ _ c0
  go_enter Tryd.func53, Tryd.ntmps53
  go_wp2_with fail
  refine (dr _).mono ?_
  rintro e w1 ⟨rfl, hB1⟩
  obtain ⟨hc1, hf1⟩ := bcell hB1
  have hz1 : w.heap.size < w1.heap.size := by have := hB1.size; simp at this; omega
  have hb1 : b < w1.heap.size := by omega
  clear dr
  go_upto_region 3 with (fail)
  generalize hW : (w1.alloc (.cells #[.string r0, .int .i64 14, .string r2, .bool r3] 97)).alloc (.cells #[.int .i64 14, .int .i64 0, .int .i64 0, .int .i64 0, .bool false, .string ⟨#[]⟩, .string ⟨#[]⟩] 24) = wz
  obtain ⟨hBz, hzz, g1, hfz, hxz, z0, z1, z2, z3, z4, z5, z6⟩ := gfacts w1 r0 r2 14 r3 wz hW
  clear hW
  obtain ⟨hcz, hfz2⟩ := bcell hBz
  have hz2 : w.heap.size < wz.heap.size := by omega
  have hz3 : b < wz.heap.size := by omega
  have hz4 : w1.heap.size < wz.heap.size := by omega
  go_wp2
  refine bodyPost_ret (v := .agg #[.int .i64 14, .int .i64 0, .int .i64 0, .int .i64 0, .bool false, .string ⟨#[]⟩, .string ⟨#[]⟩]) ?res rfl ⟨rfl, ?_⟩
  case res =>
    refine results_cell_row (p := 2) (ty := 24) rfl _ _ w.heap.size 24 #[.int .i64 14, .int .i64 0, .int .i64 0, .int .i64 0, .bool false, .string ⟨#[]⟩, .string ⟨#[]⟩] (0, 0) _ rfl ?_ Tryd.underlying24 rfl size24
    with_reducible refine Bx.full7 ?_ _ _ _ _ _ _ _
    repeat (first | with_reducible refine Bx.set ?_ _ _ | with_reducible refine Bx.setO ?_ _ _ (by omega) | with_reducible refine Bx.below ?_ (by with_reducible assumption) | with_reducible exact Bx.new _ _ _ _ rfl | with_reducible assumption | with_reducible refine Bx.old ?_ _ | with_reducible refine Bx.drew ?_)
  repeat (first | with_reducible assumption | with_reducible refine below_set ?_ (by omega) _ | with_reducible refine Below.alloc ?_ (by first | omega | (simp; done) | (simp; omega)) _ | with_reducible refine Below.drew ?_ | with_reducible exact Below.refl _ _ | with_reducible refine below_two ?_ (by with_reducible assumption))
set_option maxHeartbeats 1000000 in
set_option maxRecDepth 100000 in
theorem gs2_x (w : World) (op : Int) (b c : Nat) (s0 : ByteArray) (c0 : w.cell? ⟨b, 0, none⟩ = some (.string s0)) (s1 : ByteArray) (c1 : w.cell? ⟨b, 1, none⟩ = some (.string s1)) (r0 r2 : ByteArray) (r3 r4 : Bool) (dr : ∀ wq, Calls Tryd.prog 65 #[.string s0] wq fun e w' => e = .returned (.tuple #[.agg #[.string r0, .int .i64 op, .string r2, .bool r3], .bool r4]) ∧ Below wq.heap.size wq w') (x1 e1 : Int) (d1 : ∀ wq, Calls Tryd.prog 72 #[.string s1] wq fun e w' => e = .returned (.tuple #[.int .i64 x1, .int .i64 e1]) ∧ wq = w') (h2 : (op == 2) = false) (h3 : (op == 3) = false) (h4 : (op == 4) = false) (h9 : (op == 9) = false) (h14 : (op == 14) = false)
    : Calls Tryd.prog 53 #[.slice (some ⟨b, 0, none⟩) 2 c] w fun e w' => e = .returned (.agg #[.int .i64 op, .int .i64 0, .int .i64 x1, .int .i64 0, .bool false, .string ⟨#[]⟩, .string ⟨#[]⟩]) ∧ Below w.heap.size w w' := by
  have hbl : b < w.heap.size := World.block_lt_of_cell? _ _ c0
  go_enter Tryd.func53, Tryd.ntmps53
  go_wp2_with fail
  refine (dr _).mono ?_
  rintro e w1 ⟨rfl, hB1⟩
  obtain ⟨hc1, hf1⟩ := bcell hB1
  have hz1 : w.heap.size < w1.heap.size := by have := hB1.size; simp at this; omega
  have hb1 : b < w1.heap.size := by omega
  clear dr
  go_upto_region 3 with (fail)
  generalize hW : (w1.alloc (.cells #[.string r0, .int .i64 op, .string r2, .bool r3] 97)).alloc (.cells #[.int .i64 op, .int .i64 0, .int .i64 0, .int .i64 0, .bool false, .string ⟨#[]⟩, .string ⟨#[]⟩] 24) = wz
  obtain ⟨hBz, hzz, g1, hfz, hxz, z0, z1, z2, z3, z4, z5, z6⟩ := gfacts w1 r0 r2 op r3 wz hW
  clear hW
  obtain ⟨hcz, hfz2⟩ := bcell hBz
  have hz2 : w.heap.size < wz.heap.size := by omega
  have hz3 : b < wz.heap.size := by omega
  have hz4 : w1.heap.size < wz.heap.size := by omega
  go_wp2_with fail
  refine (d1 _).mono ?_
  rintro e v1 ⟨rfl, rfl⟩
  go_wp2
  refine bodyPost_ret (v := .agg #[.int .i64 op, .int .i64 0, .int .i64 x1, .int .i64 0, .bool false, .string ⟨#[]⟩, .string ⟨#[]⟩]) ?res rfl ⟨rfl, ?_⟩
  case res =>
    refine results_cell_row (p := 2) (ty := 24) rfl _ _ w.heap.size 24 #[.int .i64 op, .int .i64 0, .int .i64 x1, .int .i64 0, .bool false, .string ⟨#[]⟩, .string ⟨#[]⟩] (0, 0) _ rfl ?_ Tryd.underlying24 rfl size24
    with_reducible refine Bx.full7 ?_ _ _ _ _ _ _ _
    repeat (first | with_reducible refine Bx.set ?_ _ _ | with_reducible refine Bx.setO ?_ _ _ (by omega) | with_reducible refine Bx.below ?_ (by with_reducible assumption) | with_reducible exact Bx.new _ _ _ _ rfl | with_reducible assumption | with_reducible refine Bx.old ?_ _ | with_reducible refine Bx.drew ?_)
  repeat (first | with_reducible assumption | with_reducible refine below_set ?_ (by omega) _ | with_reducible refine Below.alloc ?_ (by first | omega | (simp; done) | (simp; omega)) _ | with_reducible refine Below.drew ?_ | with_reducible exact Below.refl _ _ | with_reducible refine below_two ?_ (by with_reducible assumption))
set_option maxHeartbeats 1000000 in
set_option maxRecDepth 100000 in
theorem gs3_err (w : World) (op : Int) (b c : Nat) (s0 : ByteArray) (c0 : w.cell? ⟨b, 0, none⟩ = some (.string s0)) (s1 : ByteArray) (c1 : w.cell? ⟨b, 1, none⟩ = some (.string s1)) (s2 : ByteArray) (c2 : w.cell? ⟨b, 2, none⟩ = some (.string s2)) (r0 r2 : ByteArray) (r3 r4 : Bool) (dr : ∀ wq, Calls Tryd.prog 65 #[.string s0] wq fun e w' => e = .returned (.tuple #[.agg #[.string r0, .int .i64 op, .string r2, .bool r3], .bool r4]) ∧ Below wq.heap.size wq w') (x2 e2 : Int) (d2 : ∀ wq, Calls Tryd.prog 72 #[.string s2] wq fun e w' => e = .returned (.tuple #[.int .i64 x2, .int .i64 e2]) ∧ wq = w') (he : (s1.toList == [101, 114, 114, 111, 114]) = true)
    : Calls Tryd.prog 53 #[.slice (some ⟨b, 0, none⟩) 3 c] w fun e w' => e = .returned (.agg #[.int .i64 op, .int .i64 x2, .int .i64 0, .int .i64 0, .bool false, .string ⟨#[]⟩, .string ⟨#[]⟩]) ∧ Below w.heap.size w w' := by
  have hbl : b < w.heap.size := World.block_lt_of_cell? _ _ c0
  go_enter Tryd.func53, Tryd.ntmps53
  go_wp2_with fail
  refine (dr _).mono ?_
  rintro e w1 ⟨rfl, hB1⟩
  obtain ⟨hc1, hf1⟩ := bcell hB1
  have hz1 : w.heap.size < w1.heap.size := by have := hB1.size; simp at this; omega
  have hb1 : b < w1.heap.size := by omega
  clear dr
  go_upto_region 3 with (fail)
  generalize hW : (w1.alloc (.cells #[.string r0, .int .i64 op, .string r2, .bool r3] 97)).alloc (.cells #[.int .i64 op, .int .i64 0, .int .i64 0, .int .i64 0, .bool false, .string ⟨#[]⟩, .string ⟨#[]⟩] 24) = wz
  obtain ⟨hBz, hzz, g1, hfz, hxz, z0, z1, z2, z3, z4, z5, z6⟩ := gfacts w1 r0 r2 op r3 wz hW
  clear hW
  obtain ⟨hcz, hfz2⟩ := bcell hBz
  have hz2 : w.heap.size < wz.heap.size := by omega
  have hz3 : b < wz.heap.size := by omega
  have hz4 : w1.heap.size < wz.heap.size := by omega
  go_wp2_with fail
  refine (d2 _).mono ?_
  rintro e v2 ⟨rfl, rfl⟩
  go_wp2
  refine bodyPost_ret (v := .agg #[.int .i64 op, .int .i64 x2, .int .i64 0, .int .i64 0, .bool false, .string ⟨#[]⟩, .string ⟨#[]⟩]) ?res rfl ⟨rfl, ?_⟩
  case res =>
    refine results_cell_row (p := 2) (ty := 24) rfl _ _ w.heap.size 24 #[.int .i64 op, .int .i64 x2, .int .i64 0, .int .i64 0, .bool false, .string ⟨#[]⟩, .string ⟨#[]⟩] (0, 0) _ rfl ?_ Tryd.underlying24 rfl size24
    with_reducible refine Bx.full7 ?_ _ _ _ _ _ _ _
    repeat (first | with_reducible refine Bx.set ?_ _ _ | with_reducible refine Bx.setO ?_ _ _ (by omega) | with_reducible refine Bx.below ?_ (by with_reducible assumption) | with_reducible exact Bx.new _ _ _ _ rfl | with_reducible assumption | with_reducible refine Bx.old ?_ _ | with_reducible refine Bx.drew ?_)
  repeat (first | with_reducible assumption | with_reducible refine below_set ?_ (by omega) _ | with_reducible refine Below.alloc ?_ (by first | omega | (simp; done) | (simp; omega)) _ | with_reducible refine Below.drew ?_ | with_reducible exact Below.refl _ _ | with_reducible refine below_two ?_ (by with_reducible assumption))
set_option maxHeartbeats 1000000 in
set_option maxRecDepth 100000 in
theorem gs3_2 (w : World) (b c : Nat) (s0 : ByteArray) (c0 : w.cell? ⟨b, 0, none⟩ = some (.string s0)) (s1 : ByteArray) (c1 : w.cell? ⟨b, 1, none⟩ = some (.string s1)) (s2 : ByteArray) (c2 : w.cell? ⟨b, 2, none⟩ = some (.string s2)) (r0 r2 : ByteArray) (r3 r4 : Bool) (dr : ∀ wq, Calls Tryd.prog 65 #[.string s0] wq fun e w' => e = .returned (.tuple #[.agg #[.string r0, .int .i64 2, .string r2, .bool r3], .bool r4]) ∧ Below wq.heap.size wq w') (x2 : ByteArray) (e2 : Int) (d2 : ∀ wq, Calls Tryd.prog 73 #[.string s2] wq fun e w' => e = .returned (.tuple #[.string x2, .int .i64 e2]) ∧ Below wq.heap.size wq w') (he : (s1.toList == [101, 114, 114, 111, 114]) = false) (q : Bool) (hq : (s1.toList == [121, 101, 115]) = q)
    : Calls Tryd.prog 53 #[.slice (some ⟨b, 0, none⟩) 3 c] w fun e w' => e = .returned (.agg #[.int .i64 2, .int .i64 0, .int .i64 0, .int .i64 0, .bool q, .string ⟨#[]⟩, .string x2]) ∧ Below w.heap.size w w' := by
  have hbl : b < w.heap.size := World.block_lt_of_cell? _ _ c0
  go_enter Tryd.func53, Tryd.ntmps53
  go_wp2_with fail
  refine (dr _).mono ?_
  rintro e w1 ⟨rfl, hB1⟩
  obtain ⟨hc1, hf1⟩ := bcell hB1
  have hz1 : w.heap.size < w1.heap.size := by have := hB1.size; simp at this; omega
  have hb1 : b < w1.heap.size := by omega
  clear dr
  go_upto_region 3 with (fail)
  generalize hW : (w1.alloc (.cells #[.string r0, .int .i64 2, .string r2, .bool r3] 97)).alloc (.cells #[.int .i64 2, .int .i64 0, .int .i64 0, .int .i64 0, .bool false, .string ⟨#[]⟩, .string ⟨#[]⟩] 24) = wz
  obtain ⟨hBz, hzz, g1, hfz, hxz, z0, z1, z2, z3, z4, z5, z6⟩ := gfacts w1 r0 r2 2 r3 wz hW
  clear hW
  obtain ⟨hcz, hfz2⟩ := bcell hBz
  have hz2 : w.heap.size < wz.heap.size := by omega
  have hz3 : b < wz.heap.size := by omega
  have hz4 : w1.heap.size < wz.heap.size := by omega
  go_wp2_with fail
  refine (d2 _).mono ?_
  rintro e v2 ⟨rfl, hB22⟩
  obtain ⟨hc22, hf22⟩ := bcell hB22
  have hs22 := hB22.size
  (try simp at hs22)
  have hy20 : w.heap.size < v2.heap.size := by omega
  have hy21 : b < v2.heap.size := by omega
  have hy22 : w1.heap.size < v2.heap.size := by omega
  have hy23 : w1.heap.size + 1 < v2.heap.size := by omega
  go_wp2
  refine bodyPost_ret (v := .agg #[.int .i64 2, .int .i64 0, .int .i64 0, .int .i64 0, .bool q, .string ⟨#[]⟩, .string x2]) ?res rfl ⟨rfl, ?_⟩
  case res =>
    refine results_cell_row (p := 2) (ty := 24) rfl _ _ w.heap.size 24 #[.int .i64 2, .int .i64 0, .int .i64 0, .int .i64 0, .bool q, .string ⟨#[]⟩, .string x2] (0, 0) _ rfl ?_ Tryd.underlying24 rfl size24
    with_reducible refine Bx.full7 ?_ _ _ _ _ _ _ _
    repeat (first | with_reducible refine Bx.set ?_ _ _ | with_reducible refine Bx.setO ?_ _ _ (by omega) | with_reducible refine Bx.below ?_ (by with_reducible assumption) | with_reducible exact Bx.new _ _ _ _ rfl | with_reducible assumption | with_reducible refine Bx.old ?_ _ | with_reducible refine Bx.drew ?_)
  repeat (first | with_reducible assumption | with_reducible refine below_set ?_ (by omega) _ | with_reducible refine Below.alloc ?_ (by first | omega | (simp; done) | (simp; omega)) _ | with_reducible refine Below.drew ?_ | with_reducible exact Below.refl _ _ | with_reducible refine below_two ?_ (by with_reducible assumption))
set_option maxHeartbeats 1000000 in
set_option maxRecDepth 100000 in
theorem gs3_3 (w : World) (b c : Nat) (s0 : ByteArray) (c0 : w.cell? ⟨b, 0, none⟩ = some (.string s0)) (s1 : ByteArray) (c1 : w.cell? ⟨b, 1, none⟩ = some (.string s1)) (s2 : ByteArray) (c2 : w.cell? ⟨b, 2, none⟩ = some (.string s2)) (r0 r2 : ByteArray) (r3 r4 : Bool) (dr : ∀ wq, Calls Tryd.prog 65 #[.string s0] wq fun e w' => e = .returned (.tuple #[.agg #[.string r0, .int .i64 3, .string r2, .bool r3], .bool r4]) ∧ Below wq.heap.size wq w') (he : (s1.toList == [101, 114, 114, 111, 114]) = false) (q : Bool) (hq : (s1.toList == [110, 101, 119]) = q)
    : Calls Tryd.prog 53 #[.slice (some ⟨b, 0, none⟩) 3 c] w fun e w' => e = .returned (.agg #[.int .i64 3, .int .i64 0, .int .i64 0, .int .i64 0, .bool q, .string ⟨#[]⟩, .string ⟨#[]⟩]) ∧ Below w.heap.size w w' := by
  have hbl : b < w.heap.size := World.block_lt_of_cell? _ _ c0
  go_enter Tryd.func53, Tryd.ntmps53
  go_wp2_with fail
  refine (dr _).mono ?_
  rintro e w1 ⟨rfl, hB1⟩
  obtain ⟨hc1, hf1⟩ := bcell hB1
  have hz1 : w.heap.size < w1.heap.size := by have := hB1.size; simp at this; omega
  have hb1 : b < w1.heap.size := by omega
  clear dr
  go_upto_region 3 with (fail)
  generalize hW : (w1.alloc (.cells #[.string r0, .int .i64 3, .string r2, .bool r3] 97)).alloc (.cells #[.int .i64 3, .int .i64 0, .int .i64 0, .int .i64 0, .bool false, .string ⟨#[]⟩, .string ⟨#[]⟩] 24) = wz
  obtain ⟨hBz, hzz, g1, hfz, hxz, z0, z1, z2, z3, z4, z5, z6⟩ := gfacts w1 r0 r2 3 r3 wz hW
  clear hW
  obtain ⟨hcz, hfz2⟩ := bcell hBz
  have hz2 : w.heap.size < wz.heap.size := by omega
  have hz3 : b < wz.heap.size := by omega
  have hz4 : w1.heap.size < wz.heap.size := by omega
  go_wp2
  refine bodyPost_ret (v := .agg #[.int .i64 3, .int .i64 0, .int .i64 0, .int .i64 0, .bool q, .string ⟨#[]⟩, .string ⟨#[]⟩]) ?res rfl ⟨rfl, ?_⟩
  case res =>
    refine results_cell_row (p := 2) (ty := 24) rfl _ _ w.heap.size 24 #[.int .i64 3, .int .i64 0, .int .i64 0, .int .i64 0, .bool q, .string ⟨#[]⟩, .string ⟨#[]⟩] (0, 0) _ rfl ?_ Tryd.underlying24 rfl size24
    with_reducible refine Bx.full7 ?_ _ _ _ _ _ _ _
    repeat (first | with_reducible refine Bx.set ?_ _ _ | with_reducible refine Bx.setO ?_ _ _ (by omega) | with_reducible refine Bx.below ?_ (by with_reducible assumption) | with_reducible exact Bx.new _ _ _ _ rfl | with_reducible assumption | with_reducible refine Bx.old ?_ _ | with_reducible refine Bx.drew ?_)
  repeat (first | with_reducible assumption | with_reducible refine below_set ?_ (by omega) _ | with_reducible refine Below.alloc ?_ (by first | omega | (simp; done) | (simp; omega)) _ | with_reducible refine Below.drew ?_ | with_reducible exact Below.refl _ _ | with_reducible refine below_two ?_ (by with_reducible assumption))
set_option maxHeartbeats 1000000 in
set_option maxRecDepth 100000 in
theorem gs3_4 (w : World) (b c : Nat) (s0 : ByteArray) (c0 : w.cell? ⟨b, 0, none⟩ = some (.string s0)) (s1 : ByteArray) (c1 : w.cell? ⟨b, 1, none⟩ = some (.string s1)) (s2 : ByteArray) (c2 : w.cell? ⟨b, 2, none⟩ = some (.string s2)) (r0 r2 : ByteArray) (r3 r4 : Bool) (dr : ∀ wq, Calls Tryd.prog 65 #[.string s0] wq fun e w' => e = .returned (.tuple #[.agg #[.string r0, .int .i64 4, .string r2, .bool r3], .bool r4]) ∧ Below wq.heap.size wq w') (he : (s1.toList == [101, 114, 114, 111, 114]) = false) (q : Bool) (hq : (s1.toList == [121, 101, 115]) = q)
    : Calls Tryd.prog 53 #[.slice (some ⟨b, 0, none⟩) 3 c] w fun e w' => e = .returned (.agg #[.int .i64 4, .int .i64 0, .int .i64 0, .int .i64 0, .bool q, .string ⟨#[]⟩, .string ⟨#[]⟩]) ∧ Below w.heap.size w w' := by
  have hbl : b < w.heap.size := World.block_lt_of_cell? _ _ c0
  go_enter Tryd.func53, Tryd.ntmps53
  go_wp2_with fail
  refine (dr _).mono ?_
  rintro e w1 ⟨rfl, hB1⟩
  obtain ⟨hc1, hf1⟩ := bcell hB1
  have hz1 : w.heap.size < w1.heap.size := by have := hB1.size; simp at this; omega
  have hb1 : b < w1.heap.size := by omega
  clear dr
  go_upto_region 3 with (fail)
  generalize hW : (w1.alloc (.cells #[.string r0, .int .i64 4, .string r2, .bool r3] 97)).alloc (.cells #[.int .i64 4, .int .i64 0, .int .i64 0, .int .i64 0, .bool false, .string ⟨#[]⟩, .string ⟨#[]⟩] 24) = wz
  obtain ⟨hBz, hzz, g1, hfz, hxz, z0, z1, z2, z3, z4, z5, z6⟩ := gfacts w1 r0 r2 4 r3 wz hW
  clear hW
  obtain ⟨hcz, hfz2⟩ := bcell hBz
  have hz2 : w.heap.size < wz.heap.size := by omega
  have hz3 : b < wz.heap.size := by omega
  have hz4 : w1.heap.size < wz.heap.size := by omega
  go_wp2
  refine bodyPost_ret (v := .agg #[.int .i64 4, .int .i64 0, .int .i64 0, .int .i64 0, .bool q, .string ⟨#[]⟩, .string ⟨#[]⟩]) ?res rfl ⟨rfl, ?_⟩
  case res =>
    refine results_cell_row (p := 2) (ty := 24) rfl _ _ w.heap.size 24 #[.int .i64 4, .int .i64 0, .int .i64 0, .int .i64 0, .bool q, .string ⟨#[]⟩, .string ⟨#[]⟩] (0, 0) _ rfl ?_ Tryd.underlying24 rfl size24
    with_reducible refine Bx.full7 ?_ _ _ _ _ _ _ _
    repeat (first | with_reducible refine Bx.set ?_ _ _ | with_reducible refine Bx.setO ?_ _ _ (by omega) | with_reducible refine Bx.below ?_ (by with_reducible assumption) | with_reducible exact Bx.new _ _ _ _ rfl | with_reducible assumption | with_reducible refine Bx.old ?_ _ | with_reducible refine Bx.drew ?_)
  repeat (first | with_reducible assumption | with_reducible refine below_set ?_ (by omega) _ | with_reducible refine Below.alloc ?_ (by first | omega | (simp; done) | (simp; omega)) _ | with_reducible refine Below.drew ?_ | with_reducible exact Below.refl _ _ | with_reducible refine below_two ?_ (by with_reducible assumption))
set_option maxHeartbeats 1000000 in
set_option maxRecDepth 100000 in
theorem gs3_9 (w : World) (b c : Nat) (s0 : ByteArray) (c0 : w.cell? ⟨b, 0, none⟩ = some (.string s0)) (s1 : ByteArray) (c1 : w.cell? ⟨b, 1, none⟩ = some (.string s1)) (s2 : ByteArray) (c2 : w.cell? ⟨b, 2, none⟩ = some (.string s2)) (r0 r2 : ByteArray) (r3 r4 : Bool) (dr : ∀ wq, Calls Tryd.prog 65 #[.string s0] wq fun e w' => e = .returned (.tuple #[.agg #[.string r0, .int .i64 9, .string r2, .bool r3], .bool r4]) ∧ Below wq.heap.size wq w') (he : (s1.toList == [101, 114, 114, 111, 114]) = false) (q : Bool) (hq : (s1.toList == [112, 97, 105, 114]) = q)
    : Calls Tryd.prog 53 #[.slice (some ⟨b, 0, none⟩) 3 c] w fun e w' => e = .returned (.agg #[.int .i64 9, .int .i64 0, .int .i64 0, .int .i64 0, .bool q, .string ⟨#[]⟩, .string ⟨#[]⟩]) ∧ Below w.heap.size w w' := by
  have hbl : b < w.heap.size := World.block_lt_of_cell? _ _ c0
  go_enter Tryd.func53, Tryd.ntmps53
  go_wp2_with fail
  refine (dr _).mono ?_
  rintro e w1 ⟨rfl, hB1⟩
  obtain ⟨hc1, hf1⟩ := bcell hB1
  have hz1 : w.heap.size < w1.heap.size := by have := hB1.size; simp at this; omega
  have hb1 : b < w1.heap.size := by omega
  clear dr
  go_upto_region 3 with (fail)
  generalize hW : (w1.alloc (.cells #[.string r0, .int .i64 9, .string r2, .bool r3] 97)).alloc (.cells #[.int .i64 9, .int .i64 0, .int .i64 0, .int .i64 0, .bool false, .string ⟨#[]⟩, .string ⟨#[]⟩] 24) = wz
  obtain ⟨hBz, hzz, g1, hfz, hxz, z0, z1, z2, z3, z4, z5, z6⟩ := gfacts w1 r0 r2 9 r3 wz hW
  clear hW
  obtain ⟨hcz, hfz2⟩ := bcell hBz
  have hz2 : w.heap.size < wz.heap.size := by omega
  have hz3 : b < wz.heap.size := by omega
  have hz4 : w1.heap.size < wz.heap.size := by omega
  go_wp2
  refine bodyPost_ret (v := .agg #[.int .i64 9, .int .i64 0, .int .i64 0, .int .i64 0, .bool q, .string ⟨#[]⟩, .string ⟨#[]⟩]) ?res rfl ⟨rfl, ?_⟩
  case res =>
    refine results_cell_row (p := 2) (ty := 24) rfl _ _ w.heap.size 24 #[.int .i64 9, .int .i64 0, .int .i64 0, .int .i64 0, .bool q, .string ⟨#[]⟩, .string ⟨#[]⟩] (0, 0) _ rfl ?_ Tryd.underlying24 rfl size24
    with_reducible refine Bx.full7 ?_ _ _ _ _ _ _ _
    repeat (first | with_reducible refine Bx.set ?_ _ _ | with_reducible refine Bx.setO ?_ _ _ (by omega) | with_reducible refine Bx.below ?_ (by with_reducible assumption) | with_reducible exact Bx.new _ _ _ _ rfl | with_reducible assumption | with_reducible refine Bx.old ?_ _ | with_reducible refine Bx.drew ?_)
  repeat (first | with_reducible assumption | with_reducible refine below_set ?_ (by omega) _ | with_reducible refine Below.alloc ?_ (by first | omega | (simp; done) | (simp; omega)) _ | with_reducible refine Below.drew ?_ | with_reducible exact Below.refl _ _ | with_reducible refine below_two ?_ (by with_reducible assumption))
set_option maxHeartbeats 1000000 in
set_option maxRecDepth 100000 in
theorem gs3_14 (w : World) (b c : Nat) (s0 : ByteArray) (c0 : w.cell? ⟨b, 0, none⟩ = some (.string s0)) (s1 : ByteArray) (c1 : w.cell? ⟨b, 1, none⟩ = some (.string s1)) (s2 : ByteArray) (c2 : w.cell? ⟨b, 2, none⟩ = some (.string s2)) (r0 r2 : ByteArray) (r3 r4 : Bool) (dr : ∀ wq, Calls Tryd.prog 65 #[.string s0] wq fun e w' => e = .returned (.tuple #[.agg #[.string r0, .int .i64 14, .string r2, .bool r3], .bool r4]) ∧ Below wq.heap.size wq w') (he : (s1.toList == [101, 114, 114, 111, 114]) = false) 
    : Calls Tryd.prog 53 #[.slice (some ⟨b, 0, none⟩) 3 c] w fun e w' => e = .returned (.agg #[.int .i64 14, .int .i64 0, .int .i64 0, .int .i64 0, .bool false, .string ⟨#[]⟩, .string ⟨#[]⟩]) ∧ Below w.heap.size w w' := by
  have hbl : b < w.heap.size := World.block_lt_of_cell? _ _ c0
  go_enter Tryd.func53, Tryd.ntmps53
  go_wp2_with fail
  refine (dr _).mono ?_
  rintro e w1 ⟨rfl, hB1⟩
  obtain ⟨hc1, hf1⟩ := bcell hB1
  have hz1 : w.heap.size < w1.heap.size := by have := hB1.size; simp at this; omega
  have hb1 : b < w1.heap.size := by omega
  clear dr
  go_upto_region 3 with (fail)
  generalize hW : (w1.alloc (.cells #[.string r0, .int .i64 14, .string r2, .bool r3] 97)).alloc (.cells #[.int .i64 14, .int .i64 0, .int .i64 0, .int .i64 0, .bool false, .string ⟨#[]⟩, .string ⟨#[]⟩] 24) = wz
  obtain ⟨hBz, hzz, g1, hfz, hxz, z0, z1, z2, z3, z4, z5, z6⟩ := gfacts w1 r0 r2 14 r3 wz hW
  clear hW
  obtain ⟨hcz, hfz2⟩ := bcell hBz
  have hz2 : w.heap.size < wz.heap.size := by omega
  have hz3 : b < wz.heap.size := by omega
  have hz4 : w1.heap.size < wz.heap.size := by omega
  go_wp2
  refine bodyPost_ret (v := .agg #[.int .i64 14, .int .i64 0, .int .i64 0, .int .i64 0, .bool false, .string ⟨#[]⟩, .string ⟨#[]⟩]) ?res rfl ⟨rfl, ?_⟩
  case res =>
    refine results_cell_row (p := 2) (ty := 24) rfl _ _ w.heap.size 24 #[.int .i64 14, .int .i64 0, .int .i64 0, .int .i64 0, .bool false, .string ⟨#[]⟩, .string ⟨#[]⟩] (0, 0) _ rfl ?_ Tryd.underlying24 rfl size24
    with_reducible refine Bx.full7 ?_ _ _ _ _ _ _ _
    repeat (first | with_reducible refine Bx.set ?_ _ _ | with_reducible refine Bx.setO ?_ _ _ (by omega) | with_reducible refine Bx.below ?_ (by with_reducible assumption) | with_reducible exact Bx.new _ _ _ _ rfl | with_reducible assumption | with_reducible refine Bx.old ?_ _ | with_reducible refine Bx.drew ?_)
  repeat (first | with_reducible assumption | with_reducible refine below_set ?_ (by omega) _ | with_reducible refine Below.alloc ?_ (by first | omega | (simp; done) | (simp; omega)) _ | with_reducible refine Below.drew ?_ | with_reducible exact Below.refl _ _ | with_reducible refine below_two ?_ (by with_reducible assumption))
set_option maxHeartbeats 1000000 in
set_option maxRecDepth 100000 in
theorem gs3_x (w : World) (op : Int) (b c : Nat) (s0 : ByteArray) (c0 : w.cell? ⟨b, 0, none⟩ = some (.string s0)) (s1 : ByteArray) (c1 : w.cell? ⟨b, 1, none⟩ = some (.string s1)) (s2 : ByteArray) (c2 : w.cell? ⟨b, 2, none⟩ = some (.string s2)) (r0 r2 : ByteArray) (r3 r4 : Bool) (dr : ∀ wq, Calls Tryd.prog 65 #[.string s0] wq fun e w' => e = .returned (.tuple #[.agg #[.string r0, .int .i64 op, .string r2, .bool r3], .bool r4]) ∧ Below wq.heap.size wq w') (x1 e1 : Int) (d1 : ∀ wq, Calls Tryd.prog 72 #[.string s1] wq fun e w' => e = .returned (.tuple #[.int .i64 x1, .int .i64 e1]) ∧ wq = w') (h2 : (op == 2) = false) (h3 : (op == 3) = false) (h4 : (op == 4) = false) (h9 : (op == 9) = false) (h14 : (op == 14) = false) (he : (s1.toList == [101, 114, 114, 111, 114]) = false) 
    : Calls Tryd.prog 53 #[.slice (some ⟨b, 0, none⟩) 3 c] w fun e w' => e = .returned (.agg #[.int .i64 op, .int .i64 0, .int .i64 x1, .int .i64 0, .bool false, .string ⟨#[]⟩, .string ⟨#[]⟩]) ∧ Below w.heap.size w w' := by
  have hbl : b < w.heap.size := World.block_lt_of_cell? _ _ c0
  go_enter Tryd.func53, Tryd.ntmps53
  go_wp2_with fail
  refine (dr _).mono ?_
  rintro e w1 ⟨rfl, hB1⟩
  obtain ⟨hc1, hf1⟩ := bcell hB1
  have hz1 : w.heap.size < w1.heap.size := by have := hB1.size; simp at this; omega
  have hb1 : b < w1.heap.size := by omega
  clear dr
  go_upto_region 3 with (fail)
  generalize hW : (w1.alloc (.cells #[.string r0, .int .i64 op, .string r2, .bool r3] 97)).alloc (.cells #[.int .i64 op, .int .i64 0, .int .i64 0, .int .i64 0, .bool false, .string ⟨#[]⟩, .string ⟨#[]⟩] 24) = wz
  obtain ⟨hBz, hzz, g1, hfz, hxz, z0, z1, z2, z3, z4, z5, z6⟩ := gfacts w1 r0 r2 op r3 wz hW
  clear hW
  obtain ⟨hcz, hfz2⟩ := bcell hBz
  have hz2 : w.heap.size < wz.heap.size := by omega
  have hz3 : b < wz.heap.size := by omega
  have hz4 : w1.heap.size < wz.heap.size := by omega
  go_wp2_with fail
  refine (d1 _).mono ?_
  rintro e v1 ⟨rfl, rfl⟩
  go_wp2
  refine bodyPost_ret (v := .agg #[.int .i64 op, .int .i64 0, .int .i64 x1, .int .i64 0, .bool false, .string ⟨#[]⟩, .string ⟨#[]⟩]) ?res rfl ⟨rfl, ?_⟩
  case res =>
    refine results_cell_row (p := 2) (ty := 24) rfl _ _ w.heap.size 24 #[.int .i64 op, .int .i64 0, .int .i64 x1, .int .i64 0, .bool false, .string ⟨#[]⟩, .string ⟨#[]⟩] (0, 0) _ rfl ?_ Tryd.underlying24 rfl size24
    with_reducible refine Bx.full7 ?_ _ _ _ _ _ _ _
    repeat (first | with_reducible refine Bx.set ?_ _ _ | with_reducible refine Bx.setO ?_ _ _ (by omega) | with_reducible refine Bx.below ?_ (by with_reducible assumption) | with_reducible exact Bx.new _ _ _ _ rfl | with_reducible assumption | with_reducible refine Bx.old ?_ _ | with_reducible refine Bx.drew ?_)
  repeat (first | with_reducible assumption | with_reducible refine below_set ?_ (by omega) _ | with_reducible refine Below.alloc ?_ (by first | omega | (simp; done) | (simp; omega)) _ | with_reducible refine Below.drew ?_ | with_reducible exact Below.refl _ _ | with_reducible refine below_two ?_ (by with_reducible assumption))
set_option maxHeartbeats 1000000 in
set_option maxRecDepth 100000 in
theorem gsn_2 (w : World) (b c : Nat) (n : Nat) (hn : 4 ≤ n) (hn2 : n ≤ 4000000) (s0 : ByteArray) (c0 : w.cell? ⟨b, 0, none⟩ = some (.string s0)) (s1 : ByteArray) (c1 : w.cell? ⟨b, 1, none⟩ = some (.string s1)) (s2 : ByteArray) (c2 : w.cell? ⟨b, 2, none⟩ = some (.string s2)) (s3 : ByteArray) (c3 : w.cell? ⟨b, 3, none⟩ = some (.string s3)) (r0 r2 : ByteArray) (r3 r4 : Bool) (dr : ∀ wq, Calls Tryd.prog 65 #[.string s0] wq fun e w' => e = .returned (.tuple #[.agg #[.string r0, .int .i64 2, .string r2, .bool r3], .bool r4]) ∧ Below wq.heap.size wq w') (x2 : ByteArray) (e2 : Int) (d2 : ∀ wq, Calls Tryd.prog 73 #[.string s2] wq fun e w' => e = .returned (.tuple #[.string x2, .int .i64 e2]) ∧ Below wq.heap.size wq w') (q : Bool) (hq : (s1.toList == [121, 101, 115]) = q)
    : Calls Tryd.prog 53 #[.slice (some ⟨b, 0, none⟩) n c] w fun e w' => e = .returned (.agg #[.int .i64 2, .int .i64 0, .int .i64 0, .int .i64 0, .bool q, .string ⟨#[]⟩, .string x2]) ∧ Below w.heap.size w w' := by
  have hbl : b < w.heap.size := World.block_lt_of_cell? _ _ c0
  have n3 : ((n : Int) == 3) = false := beq_eq_false_iff_ne.2 (by omega)
  have n2 : ¬ (n : Int) < 2 := by omega
  have n1 : (n : Int) > 2 := by omega
  have n4 : (n : Int) > 3 := by omega
  have n5 : 0 < n := by omega
  have n6 : 1 < n := by omega
  have n7 : 2 < n := by omega
  have n8 : 3 < n := by omega
  clear hn hn2
  go_enter Tryd.func53, Tryd.ntmps53
  go_wp2_with fail
  refine (dr _).mono ?_
  rintro e w1 ⟨rfl, hB1⟩
  obtain ⟨hc1, hf1⟩ := bcell hB1
  have hz1 : w.heap.size < w1.heap.size := by have := hB1.size; simp at this; omega
  have hb1 : b < w1.heap.size := by omega
  clear dr
  go_upto_region 3 with (fail)
  generalize hW : (w1.alloc (.cells #[.string r0, .int .i64 2, .string r2, .bool r3] 97)).alloc (.cells #[.int .i64 2, .int .i64 0, .int .i64 0, .int .i64 0, .bool false, .string ⟨#[]⟩, .string ⟨#[]⟩] 24) = wz
  obtain ⟨hBz, hzz, g1, hfz, hxz, z0, z1, z2, z3, z4, z5, z6⟩ := gfacts w1 r0 r2 2 r3 wz hW
  clear hW
  obtain ⟨hcz, hfz2⟩ := bcell hBz
  have hz2 : w.heap.size < wz.heap.size := by omega
  have hz3 : b < wz.heap.size := by omega
  have hz4 : w1.heap.size < wz.heap.size := by omega
  go_wp2_with fail
  refine (d2 _).mono ?_
  rintro e v2 ⟨rfl, hB22⟩
  obtain ⟨hc22, hf22⟩ := bcell hB22
  have hs22 := hB22.size
  (try simp at hs22)
  have hy20 : w.heap.size < v2.heap.size := by omega
  have hy21 : b < v2.heap.size := by omega
  have hy22 : w1.heap.size < v2.heap.size := by omega
  have hy23 : w1.heap.size + 1 < v2.heap.size := by omega
  go_wp2
  refine bodyPost_ret (v := .agg #[.int .i64 2, .int .i64 0, .int .i64 0, .int .i64 0, .bool q, .string ⟨#[]⟩, .string x2]) ?res rfl ⟨rfl, ?_⟩
  case res =>
    refine results_cell_row (p := 2) (ty := 24) rfl _ _ w.heap.size 24 #[.int .i64 2, .int .i64 0, .int .i64 0, .int .i64 0, .bool q, .string ⟨#[]⟩, .string x2] (0, 0) _ rfl ?_ Tryd.underlying24 rfl size24
    with_reducible refine Bx.full7 ?_ _ _ _ _ _ _ _
    repeat (first | with_reducible refine Bx.set ?_ _ _ | with_reducible refine Bx.setO ?_ _ _ (by omega) | with_reducible refine Bx.below ?_ (by with_reducible assumption) | with_reducible exact Bx.new _ _ _ _ rfl | with_reducible assumption | with_reducible refine Bx.old ?_ _ | with_reducible refine Bx.drew ?_)
  repeat (first | with_reducible assumption | with_reducible refine below_set ?_ (by omega) _ | with_reducible refine Below.alloc ?_ (by first | omega | (simp; done) | (simp; omega)) _ | with_reducible refine Below.drew ?_ | with_reducible exact Below.refl _ _ | with_reducible refine below_two ?_ (by with_reducible assumption))
set_option maxHeartbeats 1000000 in
set_option maxRecDepth 100000 in
theorem gsn_3 (w : World) (b c : Nat) (n : Nat) (hn : 4 ≤ n) (hn2 : n ≤ 4000000) (s0 : ByteArray) (c0 : w.cell? ⟨b, 0, none⟩ = some (.string s0)) (s1 : ByteArray) (c1 : w.cell? ⟨b, 1, none⟩ = some (.string s1)) (s2 : ByteArray) (c2 : w.cell? ⟨b, 2, none⟩ = some (.string s2)) (s3 : ByteArray) (c3 : w.cell? ⟨b, 3, none⟩ = some (.string s3)) (r0 r2 : ByteArray) (r3 r4 : Bool) (dr : ∀ wq, Calls Tryd.prog 65 #[.string s0] wq fun e w' => e = .returned (.tuple #[.agg #[.string r0, .int .i64 3, .string r2, .bool r3], .bool r4]) ∧ Below wq.heap.size wq w') (q : Bool) (hq : (s1.toList == [110, 101, 119]) = q)
    : Calls Tryd.prog 53 #[.slice (some ⟨b, 0, none⟩) n c] w fun e w' => e = .returned (.agg #[.int .i64 3, .int .i64 0, .int .i64 0, .int .i64 0, .bool q, .string ⟨#[]⟩, .string ⟨#[]⟩]) ∧ Below w.heap.size w w' := by
  have hbl : b < w.heap.size := World.block_lt_of_cell? _ _ c0
  have n3 : ((n : Int) == 3) = false := beq_eq_false_iff_ne.2 (by omega)
  have n2 : ¬ (n : Int) < 2 := by omega
  have n1 : (n : Int) > 2 := by omega
  have n4 : (n : Int) > 3 := by omega
  have n5 : 0 < n := by omega
  have n6 : 1 < n := by omega
  have n7 : 2 < n := by omega
  have n8 : 3 < n := by omega
  clear hn hn2
  go_enter Tryd.func53, Tryd.ntmps53
  go_wp2_with fail
  refine (dr _).mono ?_
  rintro e w1 ⟨rfl, hB1⟩
  obtain ⟨hc1, hf1⟩ := bcell hB1
  have hz1 : w.heap.size < w1.heap.size := by have := hB1.size; simp at this; omega
  have hb1 : b < w1.heap.size := by omega
  clear dr
  go_upto_region 3 with (fail)
  generalize hW : (w1.alloc (.cells #[.string r0, .int .i64 3, .string r2, .bool r3] 97)).alloc (.cells #[.int .i64 3, .int .i64 0, .int .i64 0, .int .i64 0, .bool false, .string ⟨#[]⟩, .string ⟨#[]⟩] 24) = wz
  obtain ⟨hBz, hzz, g1, hfz, hxz, z0, z1, z2, z3, z4, z5, z6⟩ := gfacts w1 r0 r2 3 r3 wz hW
  clear hW
  obtain ⟨hcz, hfz2⟩ := bcell hBz
  have hz2 : w.heap.size < wz.heap.size := by omega
  have hz3 : b < wz.heap.size := by omega
  have hz4 : w1.heap.size < wz.heap.size := by omega
  go_wp2
  refine bodyPost_ret (v := .agg #[.int .i64 3, .int .i64 0, .int .i64 0, .int .i64 0, .bool q, .string ⟨#[]⟩, .string ⟨#[]⟩]) ?res rfl ⟨rfl, ?_⟩
  case res =>
    refine results_cell_row (p := 2) (ty := 24) rfl _ _ w.heap.size 24 #[.int .i64 3, .int .i64 0, .int .i64 0, .int .i64 0, .bool q, .string ⟨#[]⟩, .string ⟨#[]⟩] (0, 0) _ rfl ?_ Tryd.underlying24 rfl size24
    with_reducible refine Bx.full7 ?_ _ _ _ _ _ _ _
    repeat (first | with_reducible refine Bx.set ?_ _ _ | with_reducible refine Bx.setO ?_ _ _ (by omega) | with_reducible refine Bx.below ?_ (by with_reducible assumption) | with_reducible exact Bx.new _ _ _ _ rfl | with_reducible assumption | with_reducible refine Bx.old ?_ _ | with_reducible refine Bx.drew ?_)
  repeat (first | with_reducible assumption | with_reducible refine below_set ?_ (by omega) _ | with_reducible refine Below.alloc ?_ (by first | omega | (simp; done) | (simp; omega)) _ | with_reducible refine Below.drew ?_ | with_reducible exact Below.refl _ _ | with_reducible refine below_two ?_ (by with_reducible assumption))
set_option maxHeartbeats 1000000 in
set_option maxRecDepth 100000 in
theorem gsn_4 (w : World) (b c : Nat) (n : Nat) (hn : 4 ≤ n) (hn2 : n ≤ 4000000) (s0 : ByteArray) (c0 : w.cell? ⟨b, 0, none⟩ = some (.string s0)) (s1 : ByteArray) (c1 : w.cell? ⟨b, 1, none⟩ = some (.string s1)) (s2 : ByteArray) (c2 : w.cell? ⟨b, 2, none⟩ = some (.string s2)) (s3 : ByteArray) (c3 : w.cell? ⟨b, 3, none⟩ = some (.string s3)) (r0 r2 : ByteArray) (r3 r4 : Bool) (dr : ∀ wq, Calls Tryd.prog 65 #[.string s0] wq fun e w' => e = .returned (.tuple #[.agg #[.string r0, .int .i64 4, .string r2, .bool r3], .bool r4]) ∧ Below wq.heap.size wq w') (q : Bool) (hq : (s1.toList == [121, 101, 115]) = q)
    : Calls Tryd.prog 53 #[.slice (some ⟨b, 0, none⟩) n c] w fun e w' => e = .returned (.agg #[.int .i64 4, .int .i64 0, .int .i64 0, .int .i64 0, .bool q, .string ⟨#[]⟩, .string ⟨#[]⟩]) ∧ Below w.heap.size w w' := by
  have hbl : b < w.heap.size := World.block_lt_of_cell? _ _ c0
  have n3 : ((n : Int) == 3) = false := beq_eq_false_iff_ne.2 (by omega)
  have n2 : ¬ (n : Int) < 2 := by omega
  have n1 : (n : Int) > 2 := by omega
  have n4 : (n : Int) > 3 := by omega
  have n5 : 0 < n := by omega
  have n6 : 1 < n := by omega
  have n7 : 2 < n := by omega
  have n8 : 3 < n := by omega
  clear hn hn2
  go_enter Tryd.func53, Tryd.ntmps53
  go_wp2_with fail
  refine (dr _).mono ?_
  rintro e w1 ⟨rfl, hB1⟩
  obtain ⟨hc1, hf1⟩ := bcell hB1
  have hz1 : w.heap.size < w1.heap.size := by have := hB1.size; simp at this; omega
  have hb1 : b < w1.heap.size := by omega
  clear dr
  go_upto_region 3 with (fail)
  generalize hW : (w1.alloc (.cells #[.string r0, .int .i64 4, .string r2, .bool r3] 97)).alloc (.cells #[.int .i64 4, .int .i64 0, .int .i64 0, .int .i64 0, .bool false, .string ⟨#[]⟩, .string ⟨#[]⟩] 24) = wz
  obtain ⟨hBz, hzz, g1, hfz, hxz, z0, z1, z2, z3, z4, z5, z6⟩ := gfacts w1 r0 r2 4 r3 wz hW
  clear hW
  obtain ⟨hcz, hfz2⟩ := bcell hBz
  have hz2 : w.heap.size < wz.heap.size := by omega
  have hz3 : b < wz.heap.size := by omega
  have hz4 : w1.heap.size < wz.heap.size := by omega
  go_wp2
  refine bodyPost_ret (v := .agg #[.int .i64 4, .int .i64 0, .int .i64 0, .int .i64 0, .bool q, .string ⟨#[]⟩, .string ⟨#[]⟩]) ?res rfl ⟨rfl, ?_⟩
  case res =>
    refine results_cell_row (p := 2) (ty := 24) rfl _ _ w.heap.size 24 #[.int .i64 4, .int .i64 0, .int .i64 0, .int .i64 0, .bool q, .string ⟨#[]⟩, .string ⟨#[]⟩] (0, 0) _ rfl ?_ Tryd.underlying24 rfl size24
    with_reducible refine Bx.full7 ?_ _ _ _ _ _ _ _
    repeat (first | with_reducible refine Bx.set ?_ _ _ | with_reducible refine Bx.setO ?_ _ _ (by omega) | with_reducible refine Bx.below ?_ (by with_reducible assumption) | with_reducible exact Bx.new _ _ _ _ rfl | with_reducible assumption | with_reducible refine Bx.old ?_ _ | with_reducible refine Bx.drew ?_)
  repeat (first | with_reducible assumption | with_reducible refine below_set ?_ (by omega) _ | with_reducible refine Below.alloc ?_ (by first | omega | (simp; done) | (simp; omega)) _ | with_reducible refine Below.drew ?_ | with_reducible exact Below.refl _ _ | with_reducible refine below_two ?_ (by with_reducible assumption))
set_option maxHeartbeats 1000000 in
set_option maxRecDepth 100000 in
theorem gsn_9 (w : World) (b c : Nat) (n : Nat) (hn : 4 ≤ n) (hn2 : n ≤ 4000000) (s0 : ByteArray) (c0 : w.cell? ⟨b, 0, none⟩ = some (.string s0)) (s1 : ByteArray) (c1 : w.cell? ⟨b, 1, none⟩ = some (.string s1)) (s2 : ByteArray) (c2 : w.cell? ⟨b, 2, none⟩ = some (.string s2)) (s3 : ByteArray) (c3 : w.cell? ⟨b, 3, none⟩ = some (.string s3)) (r0 r2 : ByteArray) (r3 r4 : Bool) (dr : ∀ wq, Calls Tryd.prog 65 #[.string s0] wq fun e w' => e = .returned (.tuple #[.agg #[.string r0, .int .i64 9, .string r2, .bool r3], .bool r4]) ∧ Below wq.heap.size wq w') (x2 : ByteArray) (e2 : Int) (d2 : ∀ wq, Calls Tryd.prog 73 #[.string s2] wq fun e w' => e = .returned (.tuple #[.string x2, .int .i64 e2]) ∧ Below wq.heap.size wq w') (x3 : ByteArray) (e3 : Int) (d3 : ∀ wq, Calls Tryd.prog 73 #[.string s3] wq fun e w' => e = .returned (.tuple #[.string x3, .int .i64 e3]) ∧ Below wq.heap.size wq w') (q : Bool) (hq : (s1.toList == [112, 97, 105, 114]) = q)
    : Calls Tryd.prog 53 #[.slice (some ⟨b, 0, none⟩) n c] w fun e w' => e = .returned (.agg #[.int .i64 9, .int .i64 0, .int .i64 0, .int .i64 0, .bool q, .string x2, .string x3]) ∧ Below w.heap.size w w' := by
  have hbl : b < w.heap.size := World.block_lt_of_cell? _ _ c0
  have n3 : ((n : Int) == 3) = false := beq_eq_false_iff_ne.2 (by omega)
  have n2 : ¬ (n : Int) < 2 := by omega
  have n1 : (n : Int) > 2 := by omega
  have n4 : (n : Int) > 3 := by omega
  have n5 : 0 < n := by omega
  have n6 : 1 < n := by omega
  have n7 : 2 < n := by omega
  have n8 : 3 < n := by omega
  clear hn hn2
  go_enter Tryd.func53, Tryd.ntmps53
  go_wp2_with fail
  refine (dr _).mono ?_
  rintro e w1 ⟨rfl, hB1⟩
  obtain ⟨hc1, hf1⟩ := bcell hB1
  have hz1 : w.heap.size < w1.heap.size := by have := hB1.size; simp at this; omega
  have hb1 : b < w1.heap.size := by omega
  clear dr
  go_upto_region 3 with (fail)
  generalize hW : (w1.alloc (.cells #[.string r0, .int .i64 9, .string r2, .bool r3] 97)).alloc (.cells #[.int .i64 9, .int .i64 0, .int .i64 0, .int .i64 0, .bool false, .string ⟨#[]⟩, .string ⟨#[]⟩] 24) = wz
  obtain ⟨hBz, hzz, g1, hfz, hxz, z0, z1, z2, z3, z4, z5, z6⟩ := gfacts w1 r0 r2 9 r3 wz hW
  clear hW
  obtain ⟨hcz, hfz2⟩ := bcell hBz
  have hz2 : w.heap.size < wz.heap.size := by omega
  have hz3 : b < wz.heap.size := by omega
  have hz4 : w1.heap.size < wz.heap.size := by omega
  go_wp2_with fail
  refine (d2 _).mono ?_
  rintro e v2 ⟨rfl, hB22⟩
  obtain ⟨hc22, hf22⟩ := bcell hB22
  have hs22 := hB22.size
  (try simp at hs22)
  have hy20 : w.heap.size < v2.heap.size := by omega
  have hy21 : b < v2.heap.size := by omega
  have hy22 : w1.heap.size < v2.heap.size := by omega
  have hy23 : w1.heap.size + 1 < v2.heap.size := by omega
  go_wp2_with fail
  refine (d3 _).mono ?_
  rintro e v3 ⟨rfl, hB23⟩
  obtain ⟨hc23, hf23⟩ := bcell hB23
  have hs23 := hB23.size
  (try simp at hs23)
  have hy30 : w.heap.size < v3.heap.size := by omega
  have hy31 : b < v3.heap.size := by omega
  have hy32 : w1.heap.size < v3.heap.size := by omega
  have hy33 : w1.heap.size + 1 < v3.heap.size := by omega
  go_wp2
  refine bodyPost_ret (v := .agg #[.int .i64 9, .int .i64 0, .int .i64 0, .int .i64 0, .bool q, .string x2, .string x3]) ?res rfl ⟨rfl, ?_⟩
  case res =>
    refine results_cell_row (p := 2) (ty := 24) rfl _ _ w.heap.size 24 #[.int .i64 9, .int .i64 0, .int .i64 0, .int .i64 0, .bool q, .string x2, .string x3] (0, 0) _ rfl ?_ Tryd.underlying24 rfl size24
    with_reducible refine Bx.full7 ?_ _ _ _ _ _ _ _
    repeat (first | with_reducible refine Bx.set ?_ _ _ | with_reducible refine Bx.setO ?_ _ _ (by omega) | with_reducible refine Bx.below ?_ (by with_reducible assumption) | with_reducible exact Bx.new _ _ _ _ rfl | with_reducible assumption | with_reducible refine Bx.old ?_ _ | with_reducible refine Bx.drew ?_)
  repeat (first | with_reducible assumption | with_reducible refine below_set ?_ (by omega) _ | with_reducible refine Below.alloc ?_ (by first | omega | (simp; done) | (simp; omega)) _ | with_reducible refine Below.drew ?_ | with_reducible exact Below.refl _ _ | with_reducible refine below_two ?_ (by with_reducible assumption))
set_option maxHeartbeats 1000000 in
set_option maxRecDepth 100000 in
theorem gsn_14 (w : World) (b c : Nat) (n : Nat) (hn : 4 ≤ n) (hn2 : n ≤ 4000000) (s0 : ByteArray) (c0 : w.cell? ⟨b, 0, none⟩ = some (.string s0)) (s1 : ByteArray) (c1 : w.cell? ⟨b, 1, none⟩ = some (.string s1)) (s2 : ByteArray) (c2 : w.cell? ⟨b, 2, none⟩ = some (.string s2)) (s3 : ByteArray) (c3 : w.cell? ⟨b, 3, none⟩ = some (.string s3)) (r0 r2 : ByteArray) (r3 r4 : Bool) (dr : ∀ wq, Calls Tryd.prog 65 #[.string s0] wq fun e w' => e = .returned (.tuple #[.agg #[.string r0, .int .i64 14, .string r2, .bool r3], .bool r4]) ∧ Below wq.heap.size wq w') (x2 e2 : Int) (d2 : ∀ wq, Calls Tryd.prog 72 #[.string s2] wq fun e w' => e = .returned (.tuple #[.int .i64 x2, .int .i64 e2]) ∧ wq = w') (x3 e3 : Int) (d3 : ∀ wq, Calls Tryd.prog 72 #[.string s3] wq fun e w' => e = .returned (.tuple #[.int .i64 x3, .int .i64 e3]) ∧ wq = w')
    : Calls Tryd.prog 53 #[.slice (some ⟨b, 0, none⟩) n c] w fun e w' => e = .returned (.agg #[.int .i64 14, .int .i64 0, .int .i64 x2, .int .i64 x3, .bool false, .string ⟨#[]⟩, .string ⟨#[]⟩]) ∧ Below w.heap.size w w' := by
  have hbl : b < w.heap.size := World.block_lt_of_cell? _ _ c0
  have n3 : ((n : Int) == 3) = false := beq_eq_false_iff_ne.2 (by omega)
  have n2 : ¬ (n : Int) < 2 := by omega
  have n1 : (n : Int) > 2 := by omega
  have n4 : (n : Int) > 3 := by omega
  have n5 : 0 < n := by omega
  have n6 : 1 < n := by omega
  have n7 : 2 < n := by omega
  have n8 : 3 < n := by omega
  clear hn hn2
  go_enter Tryd.func53, Tryd.ntmps53
  go_wp2_with fail
  refine (dr _).mono ?_
  rintro e w1 ⟨rfl, hB1⟩
  obtain ⟨hc1, hf1⟩ := bcell hB1
  have hz1 : w.heap.size < w1.heap.size := by have := hB1.size; simp at this; omega
  have hb1 : b < w1.heap.size := by omega
  clear dr
  go_upto_region 3 with (fail)
  generalize hW : (w1.alloc (.cells #[.string r0, .int .i64 14, .string r2, .bool r3] 97)).alloc (.cells #[.int .i64 14, .int .i64 0, .int .i64 0, .int .i64 0, .bool false, .string ⟨#[]⟩, .string ⟨#[]⟩] 24) = wz
  obtain ⟨hBz, hzz, g1, hfz, hxz, z0, z1, z2, z3, z4, z5, z6⟩ := gfacts w1 r0 r2 14 r3 wz hW
  clear hW
  obtain ⟨hcz, hfz2⟩ := bcell hBz
  have hz2 : w.heap.size < wz.heap.size := by omega
  have hz3 : b < wz.heap.size := by omega
  have hz4 : w1.heap.size < wz.heap.size := by omega
  go_wp2_with fail
  refine (d2 _).mono ?_
  rintro e v2 ⟨rfl, rfl⟩
  go_wp2_with fail
  refine (d3 _).mono ?_
  rintro e v3 ⟨rfl, rfl⟩
  go_wp2
  refine bodyPost_ret (v := .agg #[.int .i64 14, .int .i64 0, .int .i64 x2, .int .i64 x3, .bool false, .string ⟨#[]⟩, .string ⟨#[]⟩]) ?res rfl ⟨rfl, ?_⟩
  case res =>
    refine results_cell_row (p := 2) (ty := 24) rfl _ _ w.heap.size 24 #[.int .i64 14, .int .i64 0, .int .i64 x2, .int .i64 x3, .bool false, .string ⟨#[]⟩, .string ⟨#[]⟩] (0, 0) _ rfl ?_ Tryd.underlying24 rfl size24
    with_reducible refine Bx.full7 ?_ _ _ _ _ _ _ _
    repeat (first | with_reducible refine Bx.set ?_ _ _ | with_reducible refine Bx.setO ?_ _ _ (by omega) | with_reducible refine Bx.below ?_ (by with_reducible assumption) | with_reducible exact Bx.new _ _ _ _ rfl | with_reducible assumption | with_reducible refine Bx.old ?_ _ | with_reducible refine Bx.drew ?_)
  repeat (first | with_reducible assumption | with_reducible refine below_set ?_ (by omega) _ | with_reducible refine Below.alloc ?_ (by first | omega | (simp; done) | (simp; omega)) _ | with_reducible refine Below.drew ?_ | with_reducible exact Below.refl _ _ | with_reducible refine below_two ?_ (by with_reducible assumption))
set_option maxHeartbeats 1000000 in
set_option maxRecDepth 100000 in
theorem gsn_x (w : World) (op : Int) (b c : Nat) (n : Nat) (hn : 4 ≤ n) (hn2 : n ≤ 4000000) (s0 : ByteArray) (c0 : w.cell? ⟨b, 0, none⟩ = some (.string s0)) (s1 : ByteArray) (c1 : w.cell? ⟨b, 1, none⟩ = some (.string s1)) (s2 : ByteArray) (c2 : w.cell? ⟨b, 2, none⟩ = some (.string s2)) (s3 : ByteArray) (c3 : w.cell? ⟨b, 3, none⟩ = some (.string s3)) (r0 r2 : ByteArray) (r3 r4 : Bool) (dr : ∀ wq, Calls Tryd.prog 65 #[.string s0] wq fun e w' => e = .returned (.tuple #[.agg #[.string r0, .int .i64 op, .string r2, .bool r3], .bool r4]) ∧ Below wq.heap.size wq w') (x1 e1 : Int) (d1 : ∀ wq, Calls Tryd.prog 72 #[.string s1] wq fun e w' => e = .returned (.tuple #[.int .i64 x1, .int .i64 e1]) ∧ wq = w') (h2 : (op == 2) = false) (h3 : (op == 3) = false) (h4 : (op == 4) = false) (h9 : (op == 9) = false) (h14 : (op == 14) = false)
    : Calls Tryd.prog 53 #[.slice (some ⟨b, 0, none⟩) n c] w fun e w' => e = .returned (.agg #[.int .i64 op, .int .i64 0, .int .i64 x1, .int .i64 0, .bool false, .string ⟨#[]⟩, .string ⟨#[]⟩]) ∧ Below w.heap.size w w' := by
  have hbl : b < w.heap.size := World.block_lt_of_cell? _ _ c0
  have n3 : ((n : Int) == 3) = false := beq_eq_false_iff_ne.2 (by omega)
  have n2 : ¬ (n : Int) < 2 := by omega
  have n1 : (n : Int) > 2 := by omega
  have n4 : (n : Int) > 3 := by omega
  have n5 : 0 < n := by omega
  have n6 : 1 < n := by omega
  have n7 : 2 < n := by omega
  have n8 : 3 < n := by omega
  clear hn hn2
  go_enter Tryd.func53, Tryd.ntmps53
  go_wp2_with fail
  refine (dr _).mono ?_
  rintro e w1 ⟨rfl, hB1⟩
  obtain ⟨hc1, hf1⟩ := bcell hB1
  have hz1 : w.heap.size < w1.heap.size := by have := hB1.size; simp at this; omega
  have hb1 : b < w1.heap.size := by omega
  clear dr
  go_upto_region 3 with (fail)
  generalize hW : (w1.alloc (.cells #[.string r0, .int .i64 op, .string r2, .bool r3] 97)).alloc (.cells #[.int .i64 op, .int .i64 0, .int .i64 0, .int .i64 0, .bool false, .string ⟨#[]⟩, .string ⟨#[]⟩] 24) = wz
  obtain ⟨hBz, hzz, g1, hfz, hxz, z0, z1, z2, z3, z4, z5, z6⟩ := gfacts w1 r0 r2 op r3 wz hW
  clear hW
  obtain ⟨hcz, hfz2⟩ := bcell hBz
  have hz2 : w.heap.size < wz.heap.size := by omega
  have hz3 : b < wz.heap.size := by omega
  have hz4 : w1.heap.size < wz.heap.size := by omega
  go_wp2_with fail
  refine (d1 _).mono ?_
  rintro e v1 ⟨rfl, rfl⟩
  go_wp2
  refine bodyPost_ret (v := .agg #[.int .i64 op, .int .i64 0, .int .i64 x1, .int .i64 0, .bool false, .string ⟨#[]⟩, .string ⟨#[]⟩]) ?res rfl ⟨rfl, ?_⟩
  case res =>
    refine results_cell_row (p := 2) (ty := 24) rfl _ _ w.heap.size 24 #[.int .i64 op, .int .i64 0, .int .i64 x1, .int .i64 0, .bool false, .string ⟨#[]⟩, .string ⟨#[]⟩] (0, 0) _ rfl ?_ Tryd.underlying24 rfl size24
    with_reducible refine Bx.full7 ?_ _ _ _ _ _ _ _
    repeat (first | with_reducible refine Bx.set ?_ _ _ | with_reducible refine Bx.setO ?_ _ _ (by omega) | with_reducible refine Bx.below ?_ (by with_reducible assumption) | with_reducible exact Bx.new _ _ _ _ rfl | with_reducible assumption | with_reducible refine Bx.old ?_ _ | with_reducible refine Bx.drew ?_)
  repeat (first | with_reducible assumption | with_reducible refine below_set ?_ (by omega) _ | with_reducible refine Below.alloc ?_ (by first | omega | (simp; done) | (simp; omega)) _ | with_reducible refine Below.drew ?_ | with_reducible exact Below.refl _ _ | with_reducible refine below_two ?_ (by with_reducible assumption))
end Go.Proofs.YtigaacbaaopfmaaDoor.sh
