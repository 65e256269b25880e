/- Answers' lines: decimal, showBytes, bytes and the table of names, walked. -/
import Derived.Test.YtigaacbaaopfmaaDoorLeaf
namespace Go.Proofs.YtigaacbaaopfmaaDoor.sh
open Go.RowKit
set_option linter.unusedVariables false
theorem conv1 (W : World) (c : UInt8) : (convert 61 9 (.slice (some ⟨W.heap.size, 0, none⟩) 1 1)).run Tryd.prog (W.alloc (.cells #[.int .u8 (c.toNat : Int)] 5)) = .ok (.string (B [c])) (W.alloc (.cells #[.int .u8 (c.toNat : Int)] 5)) :=
  run_convert_bytes_back _ 61 9 5 ⟨W.heap.size, 0, none⟩ 1 [c] Tryd.underlying61 Tryd.underlying5 Tryd.underlying9 (fun j hj => by
    have : j = 0 := by simpa using hj
    subst this
    simp [Addr.add])
set_option maxHeartbeats 4000000 in
theorem decimal_one (u : Nat) (h : u < 10) (w : World) : Calls Tryd.prog 33 #[.int .i64 u] w fun e w' => e = .returned (.string (B (Lib.decDigits u))) ∧ Below w.heap.size w w' := by
  have hd : Lib.decDigits u = [UInt8.ofNat (48 + u)] := Lib.decDigits_one h
  have hc : ((UInt8.ofNat (48 + u)).toNat : Int) = 48 + u := by simp; omega
  have v := conv1 w (UInt8.ofNat (48 + u))
  rw [hc] at v
  rw [hd]
  generalize B [UInt8.ofNat (48 + u)] = r at v ⊢
  clear hc hd
  have h0 : ((u : Int) == -9223372036854775808) = false := by simp <;> omega
  have h1 : (u : Int) < 10 := by omega
  have h2 : ¬ (u : Int) < 0 := by omega
  go_enter Tryd.func33, Tryd.ntmps33
  go_wp2
  go_ret
  exact ⟨rfl, by go_grown⟩
set_option maxHeartbeats 4000000 in
theorem decimal_step (u : Nat) (h : 10 ≤ u) (hu : u < 9223372036854775808) (a b : ByteArray) (ha : a.size ≤ 100) (hb : b.size ≤ 100)
    (c1 : ∀ w, Calls Tryd.prog 33 #[.int .i64 ((u / 10 : Nat) : Int)] w fun e w' => e = .returned (.string a) ∧ Below w.heap.size w w')
    (c2 : ∀ w, Calls Tryd.prog 33 #[.int .i64 ((u % 10 : Nat) : Int)] w fun e w' => e = .returned (.string b) ∧ Below w.heap.size w w') (w : World) :
    Calls Tryd.prog 33 #[.int .i64 u] w fun e w' => e = .returned (.string (a ++ b)) ∧ Below w.heap.size w w' := by
  have h0 : ((u : Int) == -9223372036854775808) = false := by simp <;> omega
  have h1 : ¬ (u : Int) < 10 := by omega
  have h2 : ¬ (u : Int) < 0 := by omega
  have d1 : ((u / 10 : Nat) : Int) = (u : Int) / 10 := by omega
  have d2 : ((u % 10 : Nat) : Int) = (u : Int) % 10 := by omega
  rw [d1] at c1
  rw [d2] at c2
  clear d1 d2
  go_enter Tryd.func33, Tryd.ntmps33
  go_wp2_with (first | (go_at_call 33; (with_reducible refine (c1 _).mono ?_); rintro e w1 ⟨rfl, b1⟩) | (go_at_call 33; (with_reducible refine (c2 _).mono ?_); rintro e w2 ⟨rfl, b2⟩))
  go_ret
  exact ⟨rfl, below_next b1 b2⟩
theorem decimal_nat : ∀ (n u : Nat), u ≤ n → u < 9223372036854775808 → ∀ w, Calls Tryd.prog 33 #[.int .i64 u] w fun e w' => e = .returned (.string (B (Lib.decDigits u))) ∧ Below w.heap.size w w' := by
  intro n
  induction n with
  | zero => intro u hu _ w; exact decimal_one u (by omega) w
  | succ n ih =>
    intro u hu hu' w
    by_cases h : u < 10
    · exact decimal_one u h w
    · have hs : ∀ v : Nat, v < 9223372036854775808 → (B (Lib.decDigits v)).size ≤ 100 := fun v hv => by
        rw [B_size]
        have := dec_len 20 v (by omega)
        omega
      have := decimal_step u (by omega) hu' _ _ (hs (u / 10) (by omega)) (hs (u % 10) (by omega)) (ih (u / 10) (by omega) (by omega)) (decimal_one (u % 10) (by omega)) w
      have e : B (Lib.decDigits u) = B (Lib.decDigits (u / 10)) ++ B (Lib.decDigits (u % 10)) := by
        rw [B_add, Lib.decDigits_one (i := u % 10) (by omega)]
        conv => lhs; rw [Lib.decDigits, dif_neg h]
      rw [e]; exact this
set_option maxHeartbeats 4000000 in
theorem decimal_neg (u : Nat) (h : 0 < u) (hu : u < 9223372036854775808) (a : ByteArray) (ha : a.size ≤ 100) (c : ∀ w, Calls Tryd.prog 33 #[.int .i64 u] w fun e w' => e = .returned (.string a) ∧ Below w.heap.size w w') (w : World) :
    Calls Tryd.prog 33 #[.int .i64 (-(u : Int))] w fun e w' => e = .returned (.string (B [45] ++ a)) ∧ Below w.heap.size w w' := by
  have h0 : (-(u : Int) == -9223372036854775808) = false := by simp <;> omega
  have h2 : -(u : Int) < 0 := by omega
  go_enter Tryd.func33, Tryd.ntmps33
  go_wp2_with (go_at_call 33; (with_reducible refine (c _).mono ?_); rintro e w1 ⟨rfl, b1⟩)
  go_ret
  exact ⟨rfl, b1⟩
set_option maxHeartbeats 4000000 in
theorem decimal_min (w : World) : Calls Tryd.prog 33 #[.int .i64 (-9223372036854775808)] w fun e w' => e = .returned (.string (B [45, 57, 50, 50, 51, 51, 55, 50, 48, 51, 54, 56, 53, 52, 55, 55, 53, 56, 48, 56])) ∧ Below w.heap.size w w' := by
  go_enter Tryd.func33, Tryd.ntmps33
  go_wp2
  go_ret
  exact ⟨rfl, Below.refl _ _⟩
theorem itoa_min : Lib.itoa (-9223372036854775808) = [45, 57, 50, 50, 51, 51, 55, 50, 48, 51, 54, 56, 53, 52, 55, 55, 53, 56, 48, 56] := by
  have h := Lib.itoa_neg 9223372036854775808 (by omega)
  rw [show (-((9223372036854775808 : Nat) : Int)) = -9223372036854775808 by omega] at h
  rw [h]
  simp [Lib.decDigits]
theorem decimal_walk (w : World) (n : Int) (h0 : -9223372036854775808 ≤ n) (h1 : n ≤ 9223372036854775807) : Calls Tryd.prog 33 #[.int .i64 n] w fun e w' => e = .returned (.string (B (Lib.itoa n))) ∧ Below w.heap.size w w' := by
  by_cases hm : n = -9223372036854775808
  · subst hm
    rw [itoa_min]; exact decimal_min w
  by_cases hn : n < 0
  · obtain ⟨u, hu⟩ : ∃ u : Nat, n = -(u : Int) := ⟨n.natAbs, by omega⟩
    subst hu
    rw [Lib.itoa_neg u (by omega)]
    have hs : (B (Lib.decDigits u)).size ≤ 100 := by
      rw [B_size]
      have := dec_len 20 u (by omega)
      omega
    have := decimal_neg u (by omega) (by omega) _ hs (decimal_nat u u (Nat.le_refl _) (by omega)) w
    rw [B_add] at this
    exact this
  · obtain ⟨u, rfl⟩ : ∃ u : Nat, n = u := ⟨n.toNat, by omega⟩
    rw [Lib.itoa_nonneg]
    exact decimal_nat u u (Nat.le_refl _) (by omega) w
end Go.Proofs.YtigaacbaaopfmaaDoor.sh
