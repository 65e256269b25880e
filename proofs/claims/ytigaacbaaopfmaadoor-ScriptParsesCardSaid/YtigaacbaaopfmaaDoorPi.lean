/- ParseInt of texts of digits, with a sign or without: walked. -/
import Derived.Test.YtigaacbaaopfmaaDoorPn
namespace Go.Proofs.YtigaacbaaopfmaaDoor.sh
open Go.RowKit
set_option linter.unusedVariables false
/-- Out of range. -/
def Rng (w : World) (e : Ending) (w' : World) : Prop := ∃ x, e = .returned (.tuple #[.int .i64 x, .iface 166 (.int .i64 1)]) ∧ Below w.heap.size w w'
theorem neq12 : ∀ W, (binOp .neq 65 (.iface 166 (.int .i64 1)) (.iface 166 (.int .i64 1))).run Tryd.prog W = .ok (.bool false) W := fun W => Lib.run_neq_iface_int W 1 1 Tryd.underlying65 cmp166 Tryd.underlying166
set_option maxHeartbeats 4000000 in
set_option maxRecDepth 100000 in
theorem pi_plain_ok (w : World) (s : ByteArray) (hs : s.size ≤ 3000000) (hne : s.toList.isEmpty = false) (c : Nat) (hc : c ≠ 43 ∧ c ≠ 45) (hx : ∀ W, (Instr.index 9 (.string s) (.int .i64 0)).run Tryd.prog W = .ok (.int .u8 (c : Int)) W)
    (V : Int) (h0 : 0 ≤ V) (hV : V < 9223372036854775808) (cu : Calls Tryd.prog 110 #[.string s, .int .i64 10, .int .i64 64] w fun e w' => e = .returned (.tuple #[.int .u64 V, .nilIface]) ∧ Below w.heap.size w w') :
    Calls Tryd.prog 107 #[.string s, .int .i64 10, .int .i64 64] w fun e w' => e = .returned (.tuple #[.int .i64 V, .nilIface]) ∧ Below w.heap.size w w' := by
  have k1 : ((c : Int) == 43) = false := beq_eq_false_iff_ne.2 (by omega)
  have k2 : ((c : Int) == 45) = false := beq_eq_false_iff_ne.2 (by omega)
  have k4 : ¬ V ≥ 9223372036854775808 := Int.not_le.2 hV
  clear hc
  go_enter Tryd.func107, Tryd.ntmps107
  go_wp2_with (go_at_call 110; (with_reducible refine cu.mono ?_); rintro e w1 ⟨rfl, hB⟩)
  go_ret2
  exact ⟨rfl, hB⟩
set_option maxHeartbeats 4000000 in
set_option maxRecDepth 100000 in
theorem pi_plain_no (w : World) (s : ByteArray) (hs : s.size ≤ 3000000) (hne : s.toList.isEmpty = false) (c : Nat) (hc : c ≠ 43 ∧ c ≠ 45) (hx : ∀ W, (Instr.index 9 (.string s) (.int .i64 0)).run Tryd.prog W = .ok (.int .u8 (c : Int)) W)
    (V : Int) (hV : 9223372036854775808 ≤ V) (hV2 : V ≤ 18446744073709551615) (ev : Value) (hev : ev = .nilIface ∨ ev = .iface 166 (.int .i64 1)) (cu : Calls Tryd.prog 110 #[.string s, .int .i64 10, .int .i64 64] w fun e w' => e = .returned (.tuple #[.int .u64 V, ev]) ∧ Below w.heap.size w w') :
    Calls Tryd.prog 107 #[.string s, .int .i64 10, .int .i64 64] w (Rng w) := by
  have k1 : ((c : Int) == 43) = false := beq_eq_false_iff_ne.2 (by omega)
  have k2 : ((c : Int) == 45) = false := beq_eq_false_iff_ne.2 (by omega)
  have k3 : V ≥ 9223372036854775808 := hV
  have k5 := neq12
  clear hc hV
  rcases hev with rfl | rfl
  all_goals
    go_enter Tryd.func107, Tryd.ntmps107
    go_wp2_with (go_at_call 110; (with_reducible refine cu.mono ?_); rintro e w1 ⟨rfl, hB⟩)
    go_ret2
    exact ⟨_, rfl, hB⟩
set_option maxHeartbeats 4000000 in
set_option maxRecDepth 100000 in
theorem pi_neg_ok (w : World) (s : ByteArray) (hs : s.size ≤ 3000000) (h1 : 1 ≤ s.size) (hne : s.toList.isEmpty = false) (hx : ∀ W, (Instr.index 9 (.string s) (.int .i64 0)).run Tryd.prog W = .ok (.int .u8 45) W)
    (V : Int) (h0 : 0 ≤ V) (hV : V < 9223372036854775808) (cu : Calls Tryd.prog 110 #[.string (s.extract 1 s.size), .int .i64 10, .int .i64 64] w fun e w' => e = .returned (.tuple #[.int .u64 V, .nilIface]) ∧ Below w.heap.size w w') :
    Calls Tryd.prog 107 #[.string s, .int .i64 10, .int .i64 64] w fun e w' => e = .returned (.tuple #[.int .i64 (-V), .nilIface]) ∧ Below w.heap.size w w' := by
  have k4 : ¬ V > 9223372036854775808 := by omega
  go_enter Tryd.func107, Tryd.ntmps107
  go_wp2_with (go_at_call 110; (with_reducible refine cu.mono ?_); rintro e w1 ⟨rfl, hB⟩)
  go_ret2
  exact ⟨rfl, hB⟩
set_option maxHeartbeats 4000000 in
set_option maxRecDepth 100000 in
theorem pi_neg_min (w : World) (s : ByteArray) (hs : s.size ≤ 3000000) (h1 : 1 ≤ s.size) (hne : s.toList.isEmpty = false) (hx : ∀ W, (Instr.index 9 (.string s) (.int .i64 0)).run Tryd.prog W = .ok (.int .u8 45) W)
    (cu : Calls Tryd.prog 110 #[.string (s.extract 1 s.size), .int .i64 10, .int .i64 64] w fun e w' => e = .returned (.tuple #[.int .u64 9223372036854775808, .nilIface]) ∧ Below w.heap.size w w') :
    Calls Tryd.prog 107 #[.string s, .int .i64 10, .int .i64 64] w fun e w' => e = .returned (.tuple #[.int .i64 (-9223372036854775808), .nilIface]) ∧ Below w.heap.size w w' := by
  go_enter Tryd.func107, Tryd.ntmps107
  go_wp2_with (go_at_call 110; (with_reducible refine cu.mono ?_); rintro e w1 ⟨rfl, hB⟩)
  go_ret2
  exact ⟨congrArg (fun x => Ending.returned (.tuple #[.int .i64 x, .nilIface])) (by decide +kernel : wrap64 (-wrap64 9223372036854775808) = -9223372036854775808), hB⟩
set_option maxHeartbeats 4000000 in
set_option maxRecDepth 100000 in
theorem pi_neg_no (w : World) (s : ByteArray) (hs : s.size ≤ 3000000) (h1 : 1 ≤ s.size) (hne : s.toList.isEmpty = false) (hx : ∀ W, (Instr.index 9 (.string s) (.int .i64 0)).run Tryd.prog W = .ok (.int .u8 45) W)
    (V : Int) (hV : 9223372036854775808 < V) (hV2 : V ≤ 18446744073709551615) (ev : Value) (hev : ev = .nilIface ∨ ev = .iface 166 (.int .i64 1)) (cu : Calls Tryd.prog 110 #[.string (s.extract 1 s.size), .int .i64 10, .int .i64 64] w fun e w' => e = .returned (.tuple #[.int .u64 V, ev]) ∧ Below w.heap.size w w') :
    Calls Tryd.prog 107 #[.string s, .int .i64 10, .int .i64 64] w (Rng w) := by
  have k3 : V > 9223372036854775808 := hV
  have k5 := neq12
  clear hV
  rcases hev with rfl | rfl
  all_goals
    go_enter Tryd.func107, Tryd.ntmps107
    go_wp2_with (go_at_call 110; (with_reducible refine cu.mono ?_); rintro e w1 ⟨rfl, hB⟩)
    go_ret2
    exact ⟨_, rfl, hB⟩
set_option maxHeartbeats 4000000 in
/-- The library's outer ParseInt. -/
theorem parseInt_ok (w : World) (s : ByteArray) (x : Int) (c : Calls Tryd.prog 107 #[.string s, .int .i64 10, .int .i64 64] w fun e w' => e = .returned (.tuple #[.int .i64 x, .nilIface]) ∧ Below w.heap.size w w') :
    Calls Tryd.prog 94 #[.string s, .int .i64 10, .int .i64 64] w fun e w' => e = .returned (.tuple #[.int .i64 x, .nilIface]) ∧ Below w.heap.size w w' := by
  go_enter Tryd.func94, Tryd.ntmps94
  go_wp2_with (go_at_call 107; (with_reducible refine c.mono ?_); rintro e w1 ⟨rfl, hB⟩)
  go_ret2
  exact ⟨rfl, hB⟩
def RngO (w : World) (e : Ending) (w' : World) : Prop := ∃ x p, e = .returned (.tuple #[.int .i64 x, .iface 167 p]) ∧ Below w.heap.size w w'
set_option maxHeartbeats 4000000 in
theorem parseInt_no (w : World) (hb : Bs w) (s : ByteArray) (hs : s.size ≤ 3000000) (c : Calls Tryd.prog 107 #[.string s, .int .i64 10, .int .i64 64] w (Rng w)) :
    Calls Tryd.prog 94 #[.string s, .int .i64 10, .int .i64 64] w (RngO w) := by
  have c2 := fun wq (h : Below w.heap.size w wq) => toError_walk wq (hb.below h) ⟨#[80, 97, 114, 115, 101, 73, 110, 116]⟩ s hs 10 64
  go_enter Tryd.func94, Tryd.ntmps94
  go_wp2_with (first
    | (go_at_call 107; (with_reducible refine c.mono ?_); rintro e w1 ⟨x, rfl, hB⟩)
    | (go_at_call 108; (with_reducible refine (c2 _ hB).mono ?_); rintro e w2 ⟨p, rfl, hB2⟩))
  go_ret2
  exact ⟨_, _, rfl, below_next hB hB2⟩
end Go.Proofs.YtigaacbaaopfmaaDoor.sh
