/- The document's Number: walked. -/
import Derived.Test.YtigaacbaaopfmaaDoorVl
namespace Go.Proofs.YtigaacbaaopfmaaDoor.sh
open Go.RowKit
set_option linter.unusedVariables false
theorem strip_val : ∀ l : List UInt8, val false (strip0 l) = val false l
  | [] => rfl
  | [a] => rfl
  | a :: c :: r => by
    by_cases h : a = 48
    · subst h
      rw [strip0_go, strip_val (c :: r)]
      rfl
    · rw [strip0, if_neg h]
theorem strip_all (b : Bool) : ∀ l : List UInt8, l.all (isD b) = true → (strip0 l).all (isD b) = true
  | [], h => h
  | [a], h => h
  | a :: c :: r, h => by
    by_cases h1 : a = 48
    · subst h1
      rw [strip0_go]
      rw [List.all_cons, Bool.and_eq_true] at h
      exact strip_all b (c :: r) h.2
    · rw [strip0, if_neg h1]; exact h
theorem strip_len : ∀ l : List UInt8, (strip0 l).length ≤ l.length
  | [] => Nat.le_refl _
  | [a] => Nat.le_refl _
  | a :: c :: r => by
    by_cases h : a = 48
    · subst h
      rw [strip0_go]
      have := strip_len (c :: r)
      simp only [List.length_cons] at this ⊢
      omega
    · rw [strip0, if_neg h]; exact Nat.le_refl _
theorem strip_head : ∀ l : List UInt8, (strip0 l).length ≤ 1 ∨ (strip0 l).head? ≠ some 48
  | [] => Or.inl (by simp [strip0])
  | [a] => Or.inl (by simp [strip0])
  | a :: c :: r => by
    by_cases h : a = 48
    · subst h; rw [strip0_go]; exact strip_head (c :: r)
    · rw [strip0, if_neg h]; right; simp [h]
theorem val_lt : ∀ (k : Nat) (l : List UInt8) (a : Nat), l.all (isD false) = true → l.length ≤ k → valF false a l < (a + 1) * 10 ^ l.length
  | _, [], a, _, _ => by simp [valF]
  | 0, c :: r, a, _, h => by simp at h
  | k + 1, c :: r, a, hall, h => by
    rw [List.all_cons, Bool.and_eq_true] at hall
    have hd := isD_false hall.1
    have ih := val_lt k r (a * 10 + hv c) hall.2 (by simp at h; omega)
    have e : valF false a (c :: r) = valF false (a * 10 + hv c) r := rfl
    rw [e, List.length_cons, Nat.pow_succ]
    have h9 : hv c ≤ 9 := by rw [hv_dig hd]; omega
    have h2 : (a * 10 + hv c + 1) * 10 ^ r.length ≤ (a + 1) * 10 * 10 ^ r.length := Nat.mul_le_mul_right _ (by omega)
    have h3 : (a + 1) * (10 ^ r.length * 10) = (a + 1) * 10 * 10 ^ r.length := by
      rw [Nat.mul_comm (10 ^ r.length) 10, Nat.mul_assoc]
    omega
theorem val_ge {c : UInt8} {r : List UInt8} (hd : isD false c = true) (hc : c ≠ 48) : 10 ^ r.length ≤ val false (c :: r) := by
  have key : ∀ (l : List UInt8) (a : Nat), a * 10 ^ l.length ≤ valF false a l := by
    intro l
    induction l with
    | nil => intro a; simp [valF]
    | cons x t ih =>
      intro a
      have h1 := ih (a * 10 + hv x)
      have e : valF false a (x :: t) = valF false (a * 10 + hv x) t := rfl
      rw [e, List.length_cons, Nat.pow_succ]
      have h2 : a * 10 * 10 ^ t.length ≤ (a * 10 + hv x) * 10 ^ t.length := Nat.mul_le_mul_right _ (by omega)
      have h3 : a * (10 ^ t.length * 10) = a * 10 * 10 ^ t.length := by
        rw [Nat.mul_comm (10 ^ t.length) 10, Nat.mul_assoc]
      omega
  have h := key r (hv c)
  have e : val false (c :: r) = valF false (0 * 10 + hv c) r := rfl
  rw [e, Nat.zero_mul, Nat.zero_add]
  have hx := isD_false hd
  have h1 : 1 ≤ hv c := by
    rw [hv_dig hx]
    have : c.toNat ≠ 48 := fun e => hc (UInt8.toNat_inj.1 e)
    omega
  have h2 : 1 * 10 ^ r.length ≤ hv c * 10 ^ r.length := Nat.mul_le_mul_right _ h1
  omega
/-- More than 19 digits: out of range. -/
theorem long_val {l : List UInt8} (hall : l.all (isD false) = true) (h : 19 < (strip0 l).length) : 9223372036854775808 < val false l := by
  rw [← strip_val l]
  have ha := strip_all false l hall
  rcases strip_head l with h1 | h1
  · omega
  · cases hs : strip0 l with
    | nil => rw [hs] at h; simp at h
    | cons c r =>
      rw [hs] at h h1 ha
      rw [List.all_cons, Bool.and_eq_true] at ha
      have hg := val_ge (r := r) ha.1 (by simpa using h1)
      have hp : 10 ^ 19 ≤ 10 ^ r.length := Nat.pow_le_pow_right (by decide) (by simp at h; omega)
      have hc : (10 : Nat) ^ 19 = 10000000000000000000 := by decide
      omega
theorem short_val {l : List UInt8} (hall : l.all (isD false) = true) (h : ¬ 19 < (strip0 l).length) : val false l ≤ 18446744073709551615 := by
  rw [← strip_val l]
  have ha := strip_all false l hall
  have h1 := val_lt _ (strip0 l) 0 ha (Nat.le_refl _)
  have hp : 10 ^ (strip0 l).length ≤ 10 ^ 19 := Nat.pow_le_pow_right (by decide) (by omega)
  have hc : (10 : Nat) ^ 19 = 10000000000000000000 := by decide
  unfold val
  omega
set_option maxHeartbeats 4000000 in
set_option maxRecDepth 100000 in
theorem rnum_p_bad (w : World) (s : ByteArray) (hs : s.size ≤ 3000000) (c : Nat) (hx : ∀ W, (Instr.index 9 (.string s) (.int .i64 0)).run Tryd.prog W = .ok (.int .u8 (c : Int)) W) (hne : (!s.toList.isEmpty) = true) (h1 : 1 ≤ s.size) (hc : ((c : Int) == 45) = false) (t : ByteArray) (cb : ∀ wq, Calls Tryd.prog 84 #[.string s, .int .i64 10] wq fun e w' => e = .returned (.tuple #[.string t, .bool false]) ∧ wq = w') : Calls Tryd.prog 72 #[.string s] w fun e w' => e = .returned (.tuple #[.int .i64 0, .int .i64 160]) ∧ w = w' := by
  go_enter Tryd.func72, Tryd.ntmps72
  go_wp2_with (first
    | (go_at_call 84; (with_reducible refine (cb _).mono ?_); rintro e w1 ⟨rfl, rfl⟩)
    | (go_at_call 85; (with_reducible refine (cv _).mono ?_); rintro e w1 ⟨rfl, rfl⟩))
  go_ret2
  exact ⟨rfl, rfl⟩
set_option maxHeartbeats 4000000 in
set_option maxRecDepth 100000 in
theorem rnum_p_long (w : World) (s : ByteArray) (hs : s.size ≤ 3000000) (c : Nat) (hx : ∀ W, (Instr.index 9 (.string s) (.int .i64 0)).run Tryd.prog W = .ok (.int .u8 (c : Int)) W) (hne : (!s.toList.isEmpty) = true) (h1 : 1 ≤ s.size) (hc : ((c : Int) == 45) = false) (t : ByteArray) (cb : ∀ wq, Calls Tryd.prog 84 #[.string s, .int .i64 10] wq fun e w' => e = .returned (.tuple #[.string t, .bool true]) ∧ wq = w') (hl : (t.size : Int) > 19) : Calls Tryd.prog 72 #[.string s] w fun e w' => e = .returned (.tuple #[.int .i64 0, .int .i64 161]) ∧ w = w' := by
  go_enter Tryd.func72, Tryd.ntmps72
  go_wp2_with (first
    | (go_at_call 84; (with_reducible refine (cb _).mono ?_); rintro e w1 ⟨rfl, rfl⟩)
    | (go_at_call 85; (with_reducible refine (cv _).mono ?_); rintro e w1 ⟨rfl, rfl⟩))
  go_ret2
  exact ⟨rfl, rfl⟩
set_option maxHeartbeats 4000000 in
set_option maxRecDepth 100000 in
theorem rnum_p_big (w : World) (s : ByteArray) (hs : s.size ≤ 3000000) (c : Nat) (hx : ∀ W, (Instr.index 9 (.string s) (.int .i64 0)).run Tryd.prog W = .ok (.int .u8 (c : Int)) W) (hne : (!s.toList.isEmpty) = true) (h1 : 1 ≤ s.size) (hc : ((c : Int) == 45) = false) (t : ByteArray) (cb : ∀ wq, Calls Tryd.prog 84 #[.string s, .int .i64 10] wq fun e w' => e = .returned (.tuple #[.string t, .bool true]) ∧ wq = w') (hl : ¬ (t.size : Int) > 19) (V : Int) (cv : ∀ wq, Calls Tryd.prog 85 #[.string t, .int .i64 10] wq fun e w' => e = .returned (.int .u64 V) ∧ wq = w') (v0 : 0 ≤ V) (hv : V > 9223372036854775807) : Calls Tryd.prog 72 #[.string s] w fun e w' => e = .returned (.tuple #[.int .i64 0, .int .i64 161]) ∧ w = w' := by
  go_enter Tryd.func72, Tryd.ntmps72
  go_wp2_with (first
    | (go_at_call 84; (with_reducible refine (cb _).mono ?_); rintro e w1 ⟨rfl, rfl⟩)
    | (go_at_call 85; (with_reducible refine (cv _).mono ?_); rintro e w1 ⟨rfl, rfl⟩))
  go_ret2
  exact ⟨rfl, rfl⟩
set_option maxHeartbeats 4000000 in
set_option maxRecDepth 100000 in
theorem rnum_p_ok (w : World) (s : ByteArray) (hs : s.size ≤ 3000000) (c : Nat) (hx : ∀ W, (Instr.index 9 (.string s) (.int .i64 0)).run Tryd.prog W = .ok (.int .u8 (c : Int)) W) (hne : (!s.toList.isEmpty) = true) (h1 : 1 ≤ s.size) (hc : ((c : Int) == 45) = false) (t : ByteArray) (cb : ∀ wq, Calls Tryd.prog 84 #[.string s, .int .i64 10] wq fun e w' => e = .returned (.tuple #[.string t, .bool true]) ∧ wq = w') (hl : ¬ (t.size : Int) > 19) (V : Int) (cv : ∀ wq, Calls Tryd.prog 85 #[.string t, .int .i64 10] wq fun e w' => e = .returned (.int .u64 V) ∧ wq = w') (v0 : 0 ≤ V) (hv : ¬ V > 9223372036854775807) : Calls Tryd.prog 72 #[.string s] w fun e w' => e = .returned (.tuple #[.int .i64 V, .int .i64 0]) ∧ w = w' := by
  go_enter Tryd.func72, Tryd.ntmps72
  go_wp2_with (first
    | (go_at_call 84; (with_reducible refine (cb _).mono ?_); rintro e w1 ⟨rfl, rfl⟩)
    | (go_at_call 85; (with_reducible refine (cv _).mono ?_); rintro e w1 ⟨rfl, rfl⟩))
  go_ret2
  exact ⟨rfl, rfl⟩
set_option maxHeartbeats 4000000 in
set_option maxRecDepth 100000 in
theorem rnum_n_bad (w : World) (s : ByteArray) (hs : s.size ≤ 3000000) (c : Nat) (hx : ∀ W, (Instr.index 9 (.string s) (.int .i64 0)).run Tryd.prog W = .ok (.int .u8 (c : Int)) W) (hne : (!s.toList.isEmpty) = true) (h1 : 1 ≤ s.size) (hc : ((c : Int) == 45) = true) (t : ByteArray) (cb : ∀ wq, Calls Tryd.prog 84 #[.string (s.extract 1 s.size), .int .i64 10] wq fun e w' => e = .returned (.tuple #[.string t, .bool false]) ∧ wq = w') : Calls Tryd.prog 72 #[.string s] w fun e w' => e = .returned (.tuple #[.int .i64 0, .int .i64 160]) ∧ w = w' := by
  go_enter Tryd.func72, Tryd.ntmps72
  go_wp2_with (first
    | (go_at_call 84; (with_reducible refine (cb _).mono ?_); rintro e w1 ⟨rfl, rfl⟩)
    | (go_at_call 85; (with_reducible refine (cv _).mono ?_); rintro e w1 ⟨rfl, rfl⟩))
  go_ret2
  exact ⟨rfl, rfl⟩
set_option maxHeartbeats 4000000 in
set_option maxRecDepth 100000 in
theorem rnum_n_long (w : World) (s : ByteArray) (hs : s.size ≤ 3000000) (c : Nat) (hx : ∀ W, (Instr.index 9 (.string s) (.int .i64 0)).run Tryd.prog W = .ok (.int .u8 (c : Int)) W) (hne : (!s.toList.isEmpty) = true) (h1 : 1 ≤ s.size) (hc : ((c : Int) == 45) = true) (t : ByteArray) (cb : ∀ wq, Calls Tryd.prog 84 #[.string (s.extract 1 s.size), .int .i64 10] wq fun e w' => e = .returned (.tuple #[.string t, .bool true]) ∧ wq = w') (hl : (t.size : Int) > 19) : Calls Tryd.prog 72 #[.string s] w fun e w' => e = .returned (.tuple #[.int .i64 0, .int .i64 161]) ∧ w = w' := by
  go_enter Tryd.func72, Tryd.ntmps72
  go_wp2_with (first
    | (go_at_call 84; (with_reducible refine (cb _).mono ?_); rintro e w1 ⟨rfl, rfl⟩)
    | (go_at_call 85; (with_reducible refine (cv _).mono ?_); rintro e w1 ⟨rfl, rfl⟩))
  go_ret2
  exact ⟨rfl, rfl⟩
set_option maxHeartbeats 4000000 in
set_option maxRecDepth 100000 in
theorem rnum_n_big (w : World) (s : ByteArray) (hs : s.size ≤ 3000000) (c : Nat) (hx : ∀ W, (Instr.index 9 (.string s) (.int .i64 0)).run Tryd.prog W = .ok (.int .u8 (c : Int)) W) (hne : (!s.toList.isEmpty) = true) (h1 : 1 ≤ s.size) (hc : ((c : Int) == 45) = true) (t : ByteArray) (cb : ∀ wq, Calls Tryd.prog 84 #[.string (s.extract 1 s.size), .int .i64 10] wq fun e w' => e = .returned (.tuple #[.string t, .bool true]) ∧ wq = w') (hl : ¬ (t.size : Int) > 19) (V : Int) (cv : ∀ wq, Calls Tryd.prog 85 #[.string t, .int .i64 10] wq fun e w' => e = .returned (.int .u64 V) ∧ wq = w') (v0 : 0 ≤ V) (hv : V > 9223372036854775808) : Calls Tryd.prog 72 #[.string s] w fun e w' => e = .returned (.tuple #[.int .i64 0, .int .i64 161]) ∧ w = w' := by
  go_enter Tryd.func72, Tryd.ntmps72
  go_wp2_with (first
    | (go_at_call 84; (with_reducible refine (cb _).mono ?_); rintro e w1 ⟨rfl, rfl⟩)
    | (go_at_call 85; (with_reducible refine (cv _).mono ?_); rintro e w1 ⟨rfl, rfl⟩))
  go_ret2
  exact ⟨rfl, rfl⟩
set_option maxHeartbeats 4000000 in
set_option maxRecDepth 100000 in
theorem rnum_n_min (w : World) (s : ByteArray) (hs : s.size ≤ 3000000) (c : Nat) (hx : ∀ W, (Instr.index 9 (.string s) (.int .i64 0)).run Tryd.prog W = .ok (.int .u8 (c : Int)) W) (hne : (!s.toList.isEmpty) = true) (h1 : 1 ≤ s.size) (hc : ((c : Int) == 45) = true) (t : ByteArray) (cb : ∀ wq, Calls Tryd.prog 84 #[.string (s.extract 1 s.size), .int .i64 10] wq fun e w' => e = .returned (.tuple #[.string t, .bool true]) ∧ wq = w') (hl : ¬ (t.size : Int) > 19) (V : Int) (cv : ∀ wq, Calls Tryd.prog 85 #[.string t, .int .i64 10] wq fun e w' => e = .returned (.int .u64 V) ∧ wq = w') (v0 : 0 ≤ V) (hv : ¬ V > 9223372036854775808) (hv2 : (V == 9223372036854775808) = true) : Calls Tryd.prog 72 #[.string s] w fun e w' => e = .returned (.tuple #[.int .i64 (-9223372036854775808), .int .i64 0]) ∧ w = w' := by
  go_enter Tryd.func72, Tryd.ntmps72
  go_wp2_with (first
    | (go_at_call 84; (with_reducible refine (cb _).mono ?_); rintro e w1 ⟨rfl, rfl⟩)
    | (go_at_call 85; (with_reducible refine (cv _).mono ?_); rintro e w1 ⟨rfl, rfl⟩))
  go_ret2
  exact ⟨rfl, rfl⟩
set_option maxHeartbeats 4000000 in
set_option maxRecDepth 100000 in
theorem rnum_n_ok (w : World) (s : ByteArray) (hs : s.size ≤ 3000000) (c : Nat) (hx : ∀ W, (Instr.index 9 (.string s) (.int .i64 0)).run Tryd.prog W = .ok (.int .u8 (c : Int)) W) (hne : (!s.toList.isEmpty) = true) (h1 : 1 ≤ s.size) (hc : ((c : Int) == 45) = true) (t : ByteArray) (cb : ∀ wq, Calls Tryd.prog 84 #[.string (s.extract 1 s.size), .int .i64 10] wq fun e w' => e = .returned (.tuple #[.string t, .bool true]) ∧ wq = w') (hl : ¬ (t.size : Int) > 19) (V : Int) (cv : ∀ wq, Calls Tryd.prog 85 #[.string t, .int .i64 10] wq fun e w' => e = .returned (.int .u64 V) ∧ wq = w') (v0 : 0 ≤ V) (hv : ¬ V > 9223372036854775808) (hv2 : (V == 9223372036854775808) = false) (hv3 : V ≤ 9223372036854775807) : Calls Tryd.prog 72 #[.string s] w fun e w' => e = .returned (.tuple #[.int .i64 (-V), .int .i64 0]) ∧ w = w' := by
  go_enter Tryd.func72, Tryd.ntmps72
  go_wp2_with (first
    | (go_at_call 84; (with_reducible refine (cb _).mono ?_); rintro e w1 ⟨rfl, rfl⟩)
    | (go_at_call 85; (with_reducible refine (cv _).mono ?_); rintro e w1 ⟨rfl, rfl⟩))
  go_ret2
  exact ⟨rfl, rfl⟩
set_option maxHeartbeats 4000000 in
set_option maxRecDepth 100000 in
theorem rnum_empty (w : World) : Calls Tryd.prog 72 #[.string ⟨#[]⟩] w fun e w' => e = .returned (.tuple #[.int .i64 0, .int .i64 160]) ∧ w = w' := by
  have cb : ∀ wq, Calls Tryd.prog 84 #[.string ⟨#[]⟩, .int .i64 10] wq fun e w' => e = .returned (.tuple #[.string ⟨#[]⟩, .bool false]) ∧ wq = w' := fun wq => bare_walk wq false ⟨#[]⟩ (by decide)
  go_enter Tryd.func72, Tryd.ntmps72
  go_wp2_with (go_at_call 84; (with_reducible refine (cb _).mono ?_); rintro e w1 ⟨rfl, rfl⟩)
  go_ret2
  exact ⟨rfl, rfl⟩
theorem bare_10 (s : ByteArray) (hs : s.size ≤ 3000000) (l : List UInt8) (hl : s.data.toList = l) : (allD false l = false → ∀ wq, Calls Tryd.prog 84 #[.string s, .int .i64 10] wq fun e w' => e = .returned (.tuple #[.string (B []), .bool false]) ∧ wq = w') ∧
    (allD false l = true → ∀ wq, Calls Tryd.prog 84 #[.string s, .int .i64 10] wq fun e w' => e = .returned (.tuple #[.string (B (strip0 l)), .bool true]) ∧ wq = w') := by
  subst hl
  have c := fun wq => bare_walk wq false s hs
  constructor
  · intro h wq
    have c1 := c wq
    rw [h, if_neg Bool.false_ne_true] at c1
    exact c1
  · intro h wq
    have c1 := c wq
    rw [h, if_pos rfl] at c1
    exact c1
theorem allD_all {b : Bool} {l : List UInt8} (h : allD b l = true) : l.all (isD b) = true := by
  unfold allD at h; rw [Bool.and_eq_true] at h; exact h.2
/-- Number, the document's. -/
theorem rnumber_walk (w : World) (s : ByteArray) (hs : s.size ≤ 3000000) :
    Calls Tryd.prog 72 #[.string s] w fun e w' => e = .returned (.tuple #[.int .i64 (numP s.data.toList).1, .int .i64 (numP s.data.toList).2]) ∧ w = w' := by
  cases h : s.data.toList with
  | nil =>
    obtain rfl := isEmpty_nil h
    exact rnum_empty w
  | cons c t =>
    have hx := index0 h
    have hne : (!s.toList.isEmpty) = true := by rw [nonempty h]; rfl
    have hsz := size_cons h
    by_cases hc : c = 45
    · subst hc
      have e1 := extract1 h
      have hs1 : (s.extract 1 s.size).size ≤ 3000000 := by simp; omega
      obtain ⟨b0, b1⟩ := bare_10 (s.extract 1 s.size) hs1 t e1
      by_cases hd : allD false t = true
      · have e0 : numP (45 :: t) = if val false t ≤ 9223372036854775808 then (-(val false t : Int), 0) else (0, 161) := by rw [numP, if_pos rfl, if_pos hd]
        rw [e0]
        have hall := allD_all hd
        by_cases hl : 19 < (strip0 t).length
        · have := long_val hall hl
          rw [if_neg (by omega)]
          exact rnum_n_long w s hs 45 hx hne (by omega) rfl _ (b1 hd) (by rw [B_size]; omega)
        · have hsh := short_val hall hl
          have cv := fun wq => value_d wq (B (strip0 t)) (by rw [B_size]; omega) (strip_all false t hall) (val false t) (strip_val t) hsh
          by_cases h1 : val false t ≤ 9223372036854775808
          · rw [if_pos h1]
            by_cases h2 : val false t = 9223372036854775808
            · rw [h2] at cv ⊢
              exact rnum_n_min w s hs 45 hx hne (by omega) rfl _ (b1 hd) (by rw [B_size]; omega) _ cv (by omega) (by omega) (by decide)
            · exact rnum_n_ok w s hs 45 hx hne (by omega) rfl _ (b1 hd) (by rw [B_size]; omega) _ cv (by omega) (by omega) (beq_eq_false_iff_ne.2 (by omega)) (by omega)
          · rw [if_neg h1]
            exact rnum_n_big w s hs 45 hx hne (by omega) rfl _ (b1 hd) (by rw [B_size]; omega) _ cv (by omega) (by omega)
      · have e0 : numP (45 :: t) = (0, 160) := by rw [numP, if_pos rfl, if_neg hd]
        rw [e0]
        exact rnum_n_bad w s hs 45 hx hne (by omega) rfl _ (b0 (by simpa using hd))
    · have hcc : ((c.toNat : Int) == 45) = false := beq_eq_false_iff_ne.2 (fun e => hc (by
        have h2 : c.toNat = (45 : UInt8).toNat := by
          have : (45 : UInt8).toNat = 45 := rfl
          omega
        exact UInt8.toNat_inj.1 h2))
      obtain ⟨b0, b1⟩ := bare_10 s hs (c :: t) h
      by_cases hd : allD false (c :: t) = true
      · have e0 : numP (c :: t) = if val false (c :: t) < 9223372036854775808 then ((val false (c :: t) : Int), 0) else (0, 161) := by rw [numP, if_neg hc, if_pos hd]
        rw [e0]
        have hall := allD_all hd
        by_cases hl : 19 < (strip0 (c :: t)).length
        · have := long_val hall hl
          rw [if_neg (by omega)]
          exact rnum_p_long w s hs _ hx hne (by omega) hcc _ (b1 hd) (by rw [B_size]; omega)
        · have hsh := short_val hall hl
          have cv := fun wq => value_d wq (B (strip0 (c :: t))) (by rw [B_size]; omega) (strip_all false _ hall) (val false (c :: t)) (strip_val _) hsh
          by_cases h1 : val false (c :: t) < 9223372036854775808
          · rw [if_pos h1]
            exact rnum_p_ok w s hs _ hx hne (by omega) hcc _ (b1 hd) (by rw [B_size]; omega) _ cv (by omega) (by omega)
          · rw [if_neg h1]
            exact rnum_p_big w s hs _ hx hne (by omega) hcc _ (b1 hd) (by rw [B_size]; omega) _ cv (by omega) (by omega)
      · have e0 : numP (c :: t) = (0, 160) := by rw [numP, if_neg hc, if_neg hd]
        rw [e0]
        exact rnum_p_bad w s hs _ hx hne (by omega) hcc _ (b0 (by simpa using hd))
end Go.Proofs.YtigaacbaaopfmaaDoor.sh
