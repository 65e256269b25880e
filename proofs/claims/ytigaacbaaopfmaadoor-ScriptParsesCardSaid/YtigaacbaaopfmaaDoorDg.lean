/- The document's digits: walked. -/
import Derived.Test.YtigaacbaaopfmaaDoorPw
namespace Go.Proofs.YtigaacbaaopfmaaDoor.sh
open Go.RowKit
set_option linter.unusedVariables false
/-- A digit's value to the base; -1: it is none. -/
def digV (b : Bool) (c : UInt8) : Int := if isD b c = true then (hv c : Int) else -1
set_option maxHeartbeats 2000000 in
set_option maxRecDepth 100000 in
theorem digd_lo (w : World) (c : Nat) (h : c < 48) (h8 : c < 256) : Calls Tryd.prog 86 #[.int .u8 (c : Int), .int .i64 10] w fun e w' => e = .returned (.int .i64 (-1)) ∧ w = w' := by
  have k0 : ¬ (48 : Int) ≤ c := by omega
  have k1 : ¬ (97 : Int) ≤ c := by omega
  have k2 : ¬ (65 : Int) ≤ c := by omega
  have k8 : (c : Int) ≤ 255 := by omega
  clear h h8
  go_enter Tryd.func86, Tryd.ntmps86
  go_wp2
  go_ret
  exact ⟨rfl, rfl⟩
set_option maxHeartbeats 2000000 in
set_option maxRecDepth 100000 in
theorem digd_dg (w : World) (c : Nat) (h : 48 ≤ c ∧ c ≤ 57) (h8 : c < 256) : Calls Tryd.prog 86 #[.int .u8 (c : Int), .int .i64 10] w fun e w' => e = .returned (.int .i64 ((c : Int) - 48)) ∧ w = w' := by
  have k0 : (48 : Int) ≤ c := by omega
  have k1 : (c : Int) ≤ 57 := by omega
  have k2 : ¬ (97 : Int) ≤ c := by omega
  have k3 : ¬ (65 : Int) ≤ c := by omega
  have k8 : (c : Int) ≤ 255 := by omega
  have k9 : ¬ (10 : Int) ≤ (c : Int) - 48 := by omega
  clear h h8
  go_enter Tryd.func86, Tryd.ntmps86
  go_wp2
  go_ret
  exact ⟨rfl, rfl⟩
set_option maxHeartbeats 2000000 in
set_option maxRecDepth 100000 in
theorem digd_m1 (w : World) (c : Nat) (h : 57 < c ∧ c < 65) (h8 : c < 256) : Calls Tryd.prog 86 #[.int .u8 (c : Int), .int .i64 10] w fun e w' => e = .returned (.int .i64 (-1)) ∧ w = w' := by
  have k0 : (48 : Int) ≤ c := by omega
  have k1 : ¬ (c : Int) ≤ 57 := by omega
  have k2 : ¬ (97 : Int) ≤ c := by omega
  have k3 : ¬ (65 : Int) ≤ c := by omega
  have k8 : (c : Int) ≤ 255 := by omega
  clear h h8
  go_enter Tryd.func86, Tryd.ntmps86
  go_wp2
  go_ret
  exact ⟨rfl, rfl⟩
set_option maxHeartbeats 2000000 in
set_option maxRecDepth 100000 in
theorem digd_up (w : World) (c : Nat) (h : 65 ≤ c ∧ c ≤ 70) (h8 : c < 256) : Calls Tryd.prog 86 #[.int .u8 (c : Int), .int .i64 10] w fun e w' => e = .returned (.int .i64 (-1)) ∧ w = w' := by
  have k0 : (48 : Int) ≤ c := by omega
  have k1 : ¬ (c : Int) ≤ 57 := by omega
  have k2 : ¬ (97 : Int) ≤ c := by omega
  have k3 : (65 : Int) ≤ c := by omega
  have k4 : (c : Int) ≤ 70 := by omega
  have k8 : (c : Int) ≤ 255 := by omega
  have k9 :  (10 : Int) ≤ (c : Int) - 65 + 10 := by omega
  clear h h8
  go_enter Tryd.func86, Tryd.ntmps86
  go_wp2
  go_ret
  exact ⟨rfl, rfl⟩
set_option maxHeartbeats 2000000 in
set_option maxRecDepth 100000 in
theorem digd_m2 (w : World) (c : Nat) (h : 70 < c ∧ c < 97) (h8 : c < 256) : Calls Tryd.prog 86 #[.int .u8 (c : Int), .int .i64 10] w fun e w' => e = .returned (.int .i64 (-1)) ∧ w = w' := by
  have k0 : (48 : Int) ≤ c := by omega
  have k1 : ¬ (c : Int) ≤ 57 := by omega
  have k2 : ¬ (97 : Int) ≤ c := by omega
  have k3 : (65 : Int) ≤ c := by omega
  have k4 : ¬ (c : Int) ≤ 70 := by omega
  have k8 : (c : Int) ≤ 255 := by omega
  clear h h8
  go_enter Tryd.func86, Tryd.ntmps86
  go_wp2
  go_ret
  exact ⟨rfl, rfl⟩
set_option maxHeartbeats 2000000 in
set_option maxRecDepth 100000 in
theorem digd_dn (w : World) (c : Nat) (h : 97 ≤ c ∧ c ≤ 102) (h8 : c < 256) : Calls Tryd.prog 86 #[.int .u8 (c : Int), .int .i64 10] w fun e w' => e = .returned (.int .i64 (-1)) ∧ w = w' := by
  have k0 : (48 : Int) ≤ c := by omega
  have k1 : ¬ (c : Int) ≤ 57 := by omega
  have k2 : (97 : Int) ≤ c := by omega
  have k3 : (c : Int) ≤ 102 := by omega
  have k4 : (65 : Int) ≤ c := by omega
  have k5 : ¬ (c : Int) ≤ 70 := by omega
  have k8 : (c : Int) ≤ 255 := by omega
  have k9 :  (10 : Int) ≤ (c : Int) - 97 + 10 := by omega
  clear h h8
  go_enter Tryd.func86, Tryd.ntmps86
  go_wp2
  go_ret
  exact ⟨rfl, rfl⟩
set_option maxHeartbeats 2000000 in
set_option maxRecDepth 100000 in
theorem digd_hi (w : World) (c : Nat) (h : 102 < c) (h8 : c < 256) : Calls Tryd.prog 86 #[.int .u8 (c : Int), .int .i64 10] w fun e w' => e = .returned (.int .i64 (-1)) ∧ w = w' := by
  have k0 : (48 : Int) ≤ c := by omega
  have k1 : ¬ (c : Int) ≤ 57 := by omega
  have k2 : (97 : Int) ≤ c := by omega
  have k3 : ¬ (c : Int) ≤ 102 := by omega
  have k4 : (65 : Int) ≤ c := by omega
  have k5 : ¬ (c : Int) ≤ 70 := by omega
  have k8 : (c : Int) ≤ 255 := by omega
  clear h h8
  go_enter Tryd.func86, Tryd.ntmps86
  go_wp2
  go_ret
  exact ⟨rfl, rfl⟩
set_option maxHeartbeats 2000000 in
set_option maxRecDepth 100000 in
theorem digh_lo (w : World) (c : Nat) (h : c < 48) (h8 : c < 256) : Calls Tryd.prog 86 #[.int .u8 (c : Int), .int .i64 16] w fun e w' => e = .returned (.int .i64 (-1)) ∧ w = w' := by
  have k0 : ¬ (48 : Int) ≤ c := by omega
  have k1 : ¬ (97 : Int) ≤ c := by omega
  have k2 : ¬ (65 : Int) ≤ c := by omega
  have k8 : (c : Int) ≤ 255 := by omega
  clear h h8
  go_enter Tryd.func86, Tryd.ntmps86
  go_wp2
  go_ret
  exact ⟨rfl, rfl⟩
set_option maxHeartbeats 2000000 in
set_option maxRecDepth 100000 in
theorem digh_dg (w : World) (c : Nat) (h : 48 ≤ c ∧ c ≤ 57) (h8 : c < 256) : Calls Tryd.prog 86 #[.int .u8 (c : Int), .int .i64 16] w fun e w' => e = .returned (.int .i64 ((c : Int) - 48)) ∧ w = w' := by
  have k0 : (48 : Int) ≤ c := by omega
  have k1 : (c : Int) ≤ 57 := by omega
  have k2 : ¬ (97 : Int) ≤ c := by omega
  have k3 : ¬ (65 : Int) ≤ c := by omega
  have k8 : (c : Int) ≤ 255 := by omega
  have k9 : ¬ (16 : Int) ≤ (c : Int) - 48 := by omega
  clear h h8
  go_enter Tryd.func86, Tryd.ntmps86
  go_wp2
  go_ret
  exact ⟨rfl, rfl⟩
set_option maxHeartbeats 2000000 in
set_option maxRecDepth 100000 in
theorem digh_m1 (w : World) (c : Nat) (h : 57 < c ∧ c < 65) (h8 : c < 256) : Calls Tryd.prog 86 #[.int .u8 (c : Int), .int .i64 16] w fun e w' => e = .returned (.int .i64 (-1)) ∧ w = w' := by
  have k0 : (48 : Int) ≤ c := by omega
  have k1 : ¬ (c : Int) ≤ 57 := by omega
  have k2 : ¬ (97 : Int) ≤ c := by omega
  have k3 : ¬ (65 : Int) ≤ c := by omega
  have k8 : (c : Int) ≤ 255 := by omega
  clear h h8
  go_enter Tryd.func86, Tryd.ntmps86
  go_wp2
  go_ret
  exact ⟨rfl, rfl⟩
set_option maxHeartbeats 2000000 in
set_option maxRecDepth 100000 in
theorem digh_up (w : World) (c : Nat) (h : 65 ≤ c ∧ c ≤ 70) (h8 : c < 256) : Calls Tryd.prog 86 #[.int .u8 (c : Int), .int .i64 16] w fun e w' => e = .returned (.int .i64 ((c : Int) - 65 + 10)) ∧ w = w' := by
  have k0 : (48 : Int) ≤ c := by omega
  have k1 : ¬ (c : Int) ≤ 57 := by omega
  have k2 : ¬ (97 : Int) ≤ c := by omega
  have k3 : (65 : Int) ≤ c := by omega
  have k4 : (c : Int) ≤ 70 := by omega
  have k8 : (c : Int) ≤ 255 := by omega
  have k9 : ¬ (16 : Int) ≤ (c : Int) - 65 + 10 := by omega
  clear h h8
  go_enter Tryd.func86, Tryd.ntmps86
  go_wp2
  go_ret
  exact ⟨rfl, rfl⟩
set_option maxHeartbeats 2000000 in
set_option maxRecDepth 100000 in
theorem digh_m2 (w : World) (c : Nat) (h : 70 < c ∧ c < 97) (h8 : c < 256) : Calls Tryd.prog 86 #[.int .u8 (c : Int), .int .i64 16] w fun e w' => e = .returned (.int .i64 (-1)) ∧ w = w' := by
  have k0 : (48 : Int) ≤ c := by omega
  have k1 : ¬ (c : Int) ≤ 57 := by omega
  have k2 : ¬ (97 : Int) ≤ c := by omega
  have k3 : (65 : Int) ≤ c := by omega
  have k4 : ¬ (c : Int) ≤ 70 := by omega
  have k8 : (c : Int) ≤ 255 := by omega
  clear h h8
  go_enter Tryd.func86, Tryd.ntmps86
  go_wp2
  go_ret
  exact ⟨rfl, rfl⟩
set_option maxHeartbeats 2000000 in
set_option maxRecDepth 100000 in
theorem digh_dn (w : World) (c : Nat) (h : 97 ≤ c ∧ c ≤ 102) (h8 : c < 256) : Calls Tryd.prog 86 #[.int .u8 (c : Int), .int .i64 16] w fun e w' => e = .returned (.int .i64 ((c : Int) - 97 + 10)) ∧ w = w' := by
  have k0 : (48 : Int) ≤ c := by omega
  have k1 : ¬ (c : Int) ≤ 57 := by omega
  have k2 : (97 : Int) ≤ c := by omega
  have k3 : (c : Int) ≤ 102 := by omega
  have k4 : (65 : Int) ≤ c := by omega
  have k5 : ¬ (c : Int) ≤ 70 := by omega
  have k8 : (c : Int) ≤ 255 := by omega
  have k9 : ¬ (16 : Int) ≤ (c : Int) - 97 + 10 := by omega
  clear h h8
  go_enter Tryd.func86, Tryd.ntmps86
  go_wp2
  go_ret
  exact ⟨rfl, rfl⟩
set_option maxHeartbeats 2000000 in
set_option maxRecDepth 100000 in
theorem digh_hi (w : World) (c : Nat) (h : 102 < c) (h8 : c < 256) : Calls Tryd.prog 86 #[.int .u8 (c : Int), .int .i64 16] w fun e w' => e = .returned (.int .i64 (-1)) ∧ w = w' := by
  have k0 : (48 : Int) ≤ c := by omega
  have k1 : ¬ (c : Int) ≤ 57 := by omega
  have k2 : (97 : Int) ≤ c := by omega
  have k3 : ¬ (c : Int) ≤ 102 := by omega
  have k4 : (65 : Int) ≤ c := by omega
  have k5 : ¬ (c : Int) ≤ 70 := by omega
  have k8 : (c : Int) ≤ 255 := by omega
  clear h h8
  go_enter Tryd.func86, Tryd.ntmps86
  go_wp2
  go_ret
  exact ⟨rfl, rfl⟩
theorem digit_walk (w : World) (b : Bool) (c : UInt8) : Calls Tryd.prog 86 #[.int .u8 (c.toNat : Int), .int .i64 (base b)] w fun e w' => e = .returned (.int .i64 (digV b c)) ∧ w = w' := by
  have h8 := c.toNat_lt
  have no : isD b c = false → digV b c = -1 := fun h => by unfold digV; rw [if_neg (by rw [h]; exact Bool.false_ne_true)]
  have yes : isD b c = true → digV b c = hv c := fun h => by unfold digV; rw [if_pos h]
  rcases (by omega : c.toNat < 48 ∨ (48 ≤ c.toNat ∧ c.toNat ≤ 57) ∨ (57 < c.toNat ∧ c.toNat < 65) ∨ (65 ≤ c.toNat ∧ c.toNat ≤ 70) ∨ (70 < c.toNat ∧ c.toNat < 97) ∨ (97 ≤ c.toNat ∧ c.toNat ≤ 102) ∨ 102 < c.toNat) with h | h | h | h | h | h | h
  · rw [no (by unfold isD; simp; omega)]; cases b
    · exact digd_lo w _ h h8
    · exact digh_lo w _ h h8
  · rw [yes (by unfold isD; simp; omega), hv_dig h, show ((c.toNat - 48 : Nat) : Int) = (c.toNat : Int) - 48 by omega]; cases b
    · exact digd_dg w _ h h8
    · exact digh_dg w _ h h8
  · rw [no (by unfold isD; simp; omega)]; cases b
    · exact digd_m1 w _ h h8
    · exact digh_m1 w _ h h8
  · cases b
    · rw [no (by unfold isD; simp; omega)]; exact digd_up w _ h h8
    · rw [yes (by unfold isD; simp; omega), hv_up h, show ((c.toNat - 55 : Nat) : Int) = (c.toNat : Int) - 65 + 10 by omega]; exact digh_up w _ h h8
  · rw [no (by unfold isD; simp; omega)]; cases b
    · exact digd_m2 w _ h h8
    · exact digh_m2 w _ h h8
  · cases b
    · rw [no (by unfold isD; simp; omega)]; exact digd_dn w _ h h8
    · rw [yes (by unfold isD; simp; omega), hv_low h, show ((c.toNat - 87 : Nat) : Int) = (c.toNat : Int) - 97 + 10 by omega]; exact digh_dn w _ h h8
  · rw [no (by unfold isD; simp; omega)]; cases b
    · exact digd_hi w _ h h8
    · exact digh_hi w _ h h8
end Go.Proofs.YtigaacbaaopfmaaDoor.sh
