/- The document's Word: walked. -/
import Derived.Test.YtigaacbaaopfmaaDoorWo
import Derived.Test.YtigaacbaaopfmaaDoorVl
import Derived.Test.YtigaacbaaopfmaaDoorNu
namespace Go.Proofs.YtigaacbaaopfmaaDoor.sh
open Go.RowKit
set_option linter.unusedVariables false
theorem rad_pos (b : Bool) : 2 ≤ rad b := by unfold rad; split <;> omega
theorem hv_rad {b : Bool} {c : UInt8} (h : isD b c = true) : hv c < rad b := by
  cases b
  · have := hv_dig (isD_false h); have := isD_false h; unfold rad; rw [if_neg (by decide)]; omega
  · unfold rad
    rw [if_pos rfl]
    rcases isD_true h with h | h | h
    · have := hv_dig h; omega
    · have := hv_low h; omega
    · have := hv_up h; omega
theorem strip_valb (b : Bool) : ∀ l : List UInt8, val b (strip0 l) = val b l
  | [] => rfl
  | [a] => rfl
  | a :: c :: r => by
    by_cases h : a = 48
    · subst h
      rw [strip0_go, strip_valb b (c :: r)]
      show valF b 0 (c :: r) = valF b (0 * rad b + hv 48) (c :: r)
      rw [show hv 48 = 0 from rfl, Nat.zero_mul]
    · rw [strip0, if_neg h]
theorem valF_lt (b : Bool) : ∀ (l : List UInt8) (a : Nat), l.all (isD b) = true → valF b a l < (a + 1) * rad b ^ l.length
  | [], a, _ => by simp [valF]
  | c :: r, a, hall => by
    rw [List.all_cons, Bool.and_eq_true] at hall
    have ih := valF_lt b r (a * rad b + hv c) hall.2
    have e : valF b a (c :: r) = valF b (a * rad b + hv c) r := rfl
    have h9 := hv_rad hall.1
    have h4 : (a + 1) * rad b = a * rad b + rad b := by rw [Nat.add_mul, Nat.one_mul]
    have h2 : (a * rad b + hv c + 1) * rad b ^ r.length ≤ (a + 1) * rad b * rad b ^ r.length := Nat.mul_le_mul_right _ (by omega)
    have h3 : (a + 1) * (rad b ^ r.length * rad b) = (a + 1) * rad b * rad b ^ r.length := by
      rw [Nat.mul_comm (rad b ^ r.length) (rad b), Nat.mul_assoc]
    rw [e, List.length_cons, Nat.pow_succ]
    omega
theorem valF_low (b : Bool) : ∀ (l : List UInt8) (a : Nat), a * rad b ^ l.length ≤ valF b a l
  | [], a => by simp [valF]
  | x :: t, a => by
    have h1 := valF_low b t (a * rad b + hv x)
    have e : valF b a (x :: t) = valF b (a * rad b + hv x) t := rfl
    have h2 : a * rad b * rad b ^ t.length ≤ (a * rad b + hv x) * rad b ^ t.length := Nat.mul_le_mul_right _ (by omega)
    have h3 : a * (rad b ^ t.length * rad b) = a * rad b * rad b ^ t.length := by
      rw [Nat.mul_comm (rad b ^ t.length) (rad b), Nat.mul_assoc]
    rw [e, List.length_cons, Nat.pow_succ]
    omega
theorem hv_pos {b : Bool} {c : UInt8} (h : isD b c = true) (hc : c ≠ 48) : 1 ≤ hv c := by
  have h48 : c.toNat ≠ 48 := fun e => hc (UInt8.toNat_inj.1 e)
  cases b
  · have := hv_dig (isD_false h); have := isD_false h; omega
  · rcases isD_true h with h | h | h
    · have := hv_dig h; omega
    · have := hv_low h; omega
    · have := hv_up h; omega
/-- More digits than k, no zero ahead: at least rad^k. -/
theorem strip_big (b : Bool) {l : List UInt8} (hall : l.all (isD b) = true) (k : Nat) (hk : 1 ≤ k) (h : k < (strip0 l).length) : rad b ^ k ≤ val b (strip0 l) := by
  have ha := strip_all b l hall
  rcases strip_head l with h1 | h1
  · omega
  · cases hs : strip0 l with
    | nil => rw [hs] at h; simp at h
    | cons c r =>
      rw [hs] at h h1 ha
      rw [List.all_cons, Bool.and_eq_true] at ha
      have hg := hv_pos ha.1 (by simpa using h1)
      have h2 := valF_low b r (0 * rad b + hv c)
      have h3 : 1 * rad b ^ r.length ≤ (0 * rad b + hv c) * rad b ^ r.length := Nat.mul_le_mul_right _ (by omega)
      have hp : rad b ^ k ≤ rad b ^ r.length := Nat.pow_le_pow_right (by have := rad_pos b; omega) (by simp at h; omega)
      have e : val b (c :: r) = valF b (0 * rad b + hv c) r := rfl
      rw [e]
      omega
theorem strip_small (b : Bool) {l : List UInt8} (hall : l.all (isD b) = true) (k : Nat) (h : (strip0 l).length ≤ k) : val b (strip0 l) < rad b ^ k := by
  have ha := strip_all b l hall
  have h1 := valF_lt b (strip0 l) 0 ha
  have hp : rad b ^ (strip0 l).length ≤ rad b ^ k := Nat.pow_le_pow_right (by have := rad_pos b; omega) h
  unfold val
  omega
/-- Digits of one length are ordered as their values. -/
theorem lex_val : ∀ (x y : List UInt8) (a : Nat), x.length = y.length → x.all (isD false) = true → y.all (isD false) = true → (!(Op.bytesLess x y || x == y)) = decide (valF false a y < valF false a x)
  | [], [], a, _, _, _ => by simp [Op.bytesLess, valF]
  | [], _ :: _, _, h, _, _ => by simp at h
  | _ :: _, [], _, h, _, _ => by simp at h
  | c :: r, d :: t, a, h, hx, hy => by
    rw [List.all_cons, Bool.and_eq_true] at hx hy
    have hl : r.length = t.length := by simpa using h
    have hc := isD_false hx.1
    have hd := isD_false hy.1
    have e1 : valF false a (c :: r) = valF false (a * rad false + hv c) r := rfl
    have e2 : valF false a (d :: t) = valF false (a * rad false + hv d) t := rfl
    have l1 := valF_lt false r (a * rad false + hv c) hx.2
    have l2 := valF_lt false t (a * rad false + hv d) hy.2
    have g1 := valF_low false r (a * rad false + hv c)
    have g2 := valF_low false t (a * rad false + hv d)
    rw [hl] at l1 g1
    have hvc := hv_dig hc
    have hvd := hv_dig hd
    rw [e1, e2]
    rcases Nat.lt_trichotomy c.toNat d.toNat with k | k | k
    · have b1 : (c < d) = True := eq_true (UInt8.lt_iff_toNat_lt.2 k)
      have m : (a * rad false + hv c + 1) * rad false ^ t.length ≤ (a * rad false + hv d) * rad false ^ t.length := Nat.mul_le_mul_right _ (by omega)
      have : ¬ valF false (a * rad false + hv d) t < valF false (a * rad false + hv c) r := by omega
      simp [Op.bytesLess, b1, this]
    · have hcd : c = d := UInt8.toNat_inj.1 k
      subst hcd
      have ih := lex_val r t (a * rad false + hv c) hl hx.2 hy.2
      have b1 : ¬ c < c := by rw [UInt8.lt_iff_toNat_lt]; omega
      rw [← ih]
      simp [Op.bytesLess, b1]
    · have b1 : ¬ c < d := by rw [UInt8.lt_iff_toNat_lt]; omega
      have b2 : ¬ c = d := by rintro rfl; omega
      have m : (a * rad false + hv d + 1) * rad false ^ t.length ≤ (a * rad false + hv c) * rad false ^ t.length := Nat.mul_le_mul_right _ (by omega)
      have : valF false (a * rad false + hv d) t < valF false (a * rad false + hv c) r := by omega
      simp [Op.bytesLess, b1, b2, this]
def maxW : List UInt8 := [49, 56, 52, 52, 54, 55, 52, 52, 48, 55, 51, 55, 48, 57, 53, 53, 49, 54, 49, 53]
theorem gtr_run (l : List UInt8) (hall : l.all (isD false) = true) (h : l.length = 20) (W : World) : (binOp .gtr 9 (.string (B l)) (.string ⟨#[49, 56, 52, 52, 54, 55, 52, 52, 48, 55, 51, 55, 48, 57, 53, 53, 49, 54, 49, 53]⟩)).run Tryd.prog W = .ok (.bool (decide (18446744073709551615 < val false l))) W := by
  have h1 := lex_val l maxW 0 h hall (by decide)
  have e2 : valF false 0 maxW = 18446744073709551615 := by decide
  rw [e2] at h1
  have e3 : (B l).toList = l := B_toList l
  have e4 : (⟨#[49, 56, 52, 52, 54, 55, 52, 52, 48, 55, 51, 55, 48, 57, 53, 53, 49, 54, 49, 53]⟩ : ByteArray).toList = maxW := B_toList maxW
  simp only [binOp, Op.stringOp, e3, e4, h1]
  rfl
def RwP (r : Value) (w : World) (e : Ending) (w' : World) : Prop := e = .returned r ∧ w = w'
set_option maxHeartbeats 4000000 in
set_option maxRecDepth 100000 in
theorem rw_h_bad (w : World) (s : ByteArray) (hs : s.size ≤ 3000000) (h2 : 2 < s.size) (hx0 : ∀ W, (Instr.index 9 (.string s) (.int .i64 0)).run Tryd.prog W = .ok (.int .u8 48) W) (hx1 : ∀ W, (Instr.index 9 (.string s) (.int .i64 1)).run Tryd.prog W = .ok (.int .u8 120) W) (t : ByteArray) (cb : ∀ wq, Calls Tryd.prog 84 #[.string (s.extract 2 s.size), .int .i64 16] wq fun e w' => e = .returned (.tuple #[.string t, .bool false]) ∧ wq = w') :
    Calls Tryd.prog 77 #[.string s] w (RwP (.tuple #[.int .u64 0, .int .i64 160]) w) := by
  have k1 : (s.size : Int) > 2 := by omega
  have k2 : 2 ≤ s.size := by omega
  have hsl : ∀ W, (Instr.slice 9 (.string s) (some (.int .i64 2)) none none).run Tryd.prog W = .ok (.string (s.extract 2 s.size)) W := fun W => by
    rw [run_slice_string_l (ht := Tryd.underlying9) (h0 := by omega) (h1 := by omega)]; rfl
  go_enter Tryd.func77, Tryd.ntmps77
  go_wp2_with (first
    | (go_at_call 84; (with_reducible refine (cb _).mono ?_); rintro e w1 ⟨rfl, rfl⟩)
    | (go_at_call 85; (with_reducible refine (cv _).mono ?_); rintro e w1 ⟨rfl, rfl⟩))
  go_ret2
  exact ⟨rfl, rfl⟩
set_option maxHeartbeats 4000000 in
set_option maxRecDepth 100000 in
theorem rw_h_long (w : World) (s : ByteArray) (hs : s.size ≤ 3000000) (h2 : 2 < s.size) (hx0 : ∀ W, (Instr.index 9 (.string s) (.int .i64 0)).run Tryd.prog W = .ok (.int .u8 48) W) (hx1 : ∀ W, (Instr.index 9 (.string s) (.int .i64 1)).run Tryd.prog W = .ok (.int .u8 120) W) (t : ByteArray) (cb : ∀ wq, Calls Tryd.prog 84 #[.string (s.extract 2 s.size), .int .i64 16] wq fun e w' => e = .returned (.tuple #[.string t, .bool true]) ∧ wq = w') (hl : (t.size : Int) > 16) :
    Calls Tryd.prog 77 #[.string s] w (RwP (.tuple #[.int .u64 0, .int .i64 161]) w) := by
  have k1 : (s.size : Int) > 2 := by omega
  have k2 : 2 ≤ s.size := by omega
  have hsl : ∀ W, (Instr.slice 9 (.string s) (some (.int .i64 2)) none none).run Tryd.prog W = .ok (.string (s.extract 2 s.size)) W := fun W => by
    rw [run_slice_string_l (ht := Tryd.underlying9) (h0 := by omega) (h1 := by omega)]; rfl
  go_enter Tryd.func77, Tryd.ntmps77
  go_wp2_with (first
    | (go_at_call 84; (with_reducible refine (cb _).mono ?_); rintro e w1 ⟨rfl, rfl⟩)
    | (go_at_call 85; (with_reducible refine (cv _).mono ?_); rintro e w1 ⟨rfl, rfl⟩))
  go_ret2
  exact ⟨rfl, rfl⟩
set_option maxHeartbeats 4000000 in
set_option maxRecDepth 100000 in
theorem rw_h_ok (w : World) (s : ByteArray) (hs : s.size ≤ 3000000) (h2 : 2 < s.size) (hx0 : ∀ W, (Instr.index 9 (.string s) (.int .i64 0)).run Tryd.prog W = .ok (.int .u8 48) W) (hx1 : ∀ W, (Instr.index 9 (.string s) (.int .i64 1)).run Tryd.prog W = .ok (.int .u8 120) W) (t : ByteArray) (cb : ∀ wq, Calls Tryd.prog 84 #[.string (s.extract 2 s.size), .int .i64 16] wq fun e w' => e = .returned (.tuple #[.string t, .bool true]) ∧ wq = w') (hl : ¬ (t.size : Int) > 16) (V : Int) (v0 : 0 ≤ V) (v1 : V ≤ 18446744073709551615) (cv : ∀ wq, Calls Tryd.prog 85 #[.string t, .int .i64 16] wq fun e w' => e = .returned (.int .u64 V) ∧ wq = w') :
    Calls Tryd.prog 77 #[.string s] w (RwP (.tuple #[.int .u64 V, .int .i64 0]) w) := by
  have k1 : (s.size : Int) > 2 := by omega
  have k2 : 2 ≤ s.size := by omega
  have hsl : ∀ W, (Instr.slice 9 (.string s) (some (.int .i64 2)) none none).run Tryd.prog W = .ok (.string (s.extract 2 s.size)) W := fun W => by
    rw [run_slice_string_l (ht := Tryd.underlying9) (h0 := by omega) (h1 := by omega)]; rfl
  go_enter Tryd.func77, Tryd.ntmps77
  go_wp2_with (first
    | (go_at_call 84; (with_reducible refine (cb _).mono ?_); rintro e w1 ⟨rfl, rfl⟩)
    | (go_at_call 85; (with_reducible refine (cv _).mono ?_); rintro e w1 ⟨rfl, rfl⟩))
  go_ret2
  exact ⟨rfl, rfl⟩
def NoHex (s : ByteArray) : Prop := s.size ≤ 2 ∨ (2 < s.size ∧ ∃ c : Nat, ((c : Int) == 48) = false ∧ ∀ W, (Instr.index 9 (.string s) (.int .i64 0)).run Tryd.prog W = .ok (.int .u8 (c : Int)) W) ∨
  (2 < s.size ∧ (∀ W, (Instr.index 9 (.string s) (.int .i64 0)).run Tryd.prog W = .ok (.int .u8 48) W) ∧ ∃ c : Nat, ((c : Int) == 120) = false ∧ ∀ W, (Instr.index 9 (.string s) (.int .i64 1)).run Tryd.prog W = .ok (.int .u8 (c : Int)) W)
set_option maxHeartbeats 4000000 in
set_option maxRecDepth 100000 in
theorem rw_d_bad (w : World) (s : ByteArray) (hs : s.size ≤ 3000000) (hno : NoHex s) (t : ByteArray) (cb : ∀ wq, Calls Tryd.prog 84 #[.string s, .int .i64 10] wq fun e w' => e = .returned (.tuple #[.string t, .bool false]) ∧ wq = w') :
    Calls Tryd.prog 77 #[.string s] w (RwP (.tuple #[.int .u64 0, .int .i64 160]) w) := by
  rcases hno with h2 | ⟨h2, c, hc, hx0⟩ | ⟨h2, hx0, c, hc, hx1⟩
  · have k1 : ¬ (s.size : Int) > 2 := by omega
    clear h2
    go_enter Tryd.func77, Tryd.ntmps77
    go_wp2_with (first
      | (go_at_call 84; (with_reducible refine (cb _).mono ?_); rintro e w1 ⟨rfl, rfl⟩)
      | (go_at_call 85; (with_reducible refine (cv _).mono ?_); rintro e w1 ⟨rfl, rfl⟩))
    go_ret2
    exact ⟨rfl, rfl⟩
  · have k1 : (s.size : Int) > 2 := by omega
    clear h2
    go_enter Tryd.func77, Tryd.ntmps77
    go_wp2_with (first
      | (go_at_call 84; (with_reducible refine (cb _).mono ?_); rintro e w1 ⟨rfl, rfl⟩)
      | (go_at_call 85; (with_reducible refine (cv _).mono ?_); rintro e w1 ⟨rfl, rfl⟩))
    go_ret2
    exact ⟨rfl, rfl⟩
  · have k1 : (s.size : Int) > 2 := by omega
    clear h2
    go_enter Tryd.func77, Tryd.ntmps77
    go_wp2_with (first
      | (go_at_call 84; (with_reducible refine (cb _).mono ?_); rintro e w1 ⟨rfl, rfl⟩)
      | (go_at_call 85; (with_reducible refine (cv _).mono ?_); rintro e w1 ⟨rfl, rfl⟩))
    go_ret2
    exact ⟨rfl, rfl⟩
set_option maxHeartbeats 4000000 in
set_option maxRecDepth 100000 in
theorem rw_d_long (w : World) (s : ByteArray) (hs : s.size ≤ 3000000) (hno : NoHex s) (t : ByteArray) (cb : ∀ wq, Calls Tryd.prog 84 #[.string s, .int .i64 10] wq fun e w' => e = .returned (.tuple #[.string t, .bool true]) ∧ wq = w') (hl : (t.size : Int) > 20) :
    Calls Tryd.prog 77 #[.string s] w (RwP (.tuple #[.int .u64 0, .int .i64 161]) w) := by
  rcases hno with h2 | ⟨h2, c, hc, hx0⟩ | ⟨h2, hx0, c, hc, hx1⟩
  · have k1 : ¬ (s.size : Int) > 2 := by omega
    clear h2
    go_enter Tryd.func77, Tryd.ntmps77
    go_wp2_with (first
      | (go_at_call 84; (with_reducible refine (cb _).mono ?_); rintro e w1 ⟨rfl, rfl⟩)
      | (go_at_call 85; (with_reducible refine (cv _).mono ?_); rintro e w1 ⟨rfl, rfl⟩))
    go_ret2
    exact ⟨rfl, rfl⟩
  · have k1 : (s.size : Int) > 2 := by omega
    clear h2
    go_enter Tryd.func77, Tryd.ntmps77
    go_wp2_with (first
      | (go_at_call 84; (with_reducible refine (cb _).mono ?_); rintro e w1 ⟨rfl, rfl⟩)
      | (go_at_call 85; (with_reducible refine (cv _).mono ?_); rintro e w1 ⟨rfl, rfl⟩))
    go_ret2
    exact ⟨rfl, rfl⟩
  · have k1 : (s.size : Int) > 2 := by omega
    clear h2
    go_enter Tryd.func77, Tryd.ntmps77
    go_wp2_with (first
      | (go_at_call 84; (with_reducible refine (cb _).mono ?_); rintro e w1 ⟨rfl, rfl⟩)
      | (go_at_call 85; (with_reducible refine (cv _).mono ?_); rintro e w1 ⟨rfl, rfl⟩))
    go_ret2
    exact ⟨rfl, rfl⟩
set_option maxHeartbeats 4000000 in
set_option maxRecDepth 100000 in
theorem rw_d_big (w : World) (s : ByteArray) (hs : s.size ≤ 3000000) (hno : NoHex s) (t : ByteArray) (cb : ∀ wq, Calls Tryd.prog 84 #[.string s, .int .i64 10] wq fun e w' => e = .returned (.tuple #[.string t, .bool true]) ∧ wq = w') (hl : ¬ (t.size : Int) > 20) (hl2 : ((t.size : Int) == 20) = true) (hg : ∀ W, (binOp .gtr 9 (.string t) (.string ⟨#[49, 56, 52, 52, 54, 55, 52, 52, 48, 55, 51, 55, 48, 57, 53, 53, 49, 54, 49, 53]⟩)).run Tryd.prog W = .ok (.bool true) W) :
    Calls Tryd.prog 77 #[.string s] w (RwP (.tuple #[.int .u64 0, .int .i64 161]) w) := by
  rcases hno with h2 | ⟨h2, c, hc, hx0⟩ | ⟨h2, hx0, c, hc, hx1⟩
  · have k1 : ¬ (s.size : Int) > 2 := by omega
    clear h2
    go_enter Tryd.func77, Tryd.ntmps77
    go_wp2_with (first
      | (go_at_call 84; (with_reducible refine (cb _).mono ?_); rintro e w1 ⟨rfl, rfl⟩)
      | (go_at_call 85; (with_reducible refine (cv _).mono ?_); rintro e w1 ⟨rfl, rfl⟩))
    go_ret2
    exact ⟨rfl, rfl⟩
  · have k1 : (s.size : Int) > 2 := by omega
    clear h2
    go_enter Tryd.func77, Tryd.ntmps77
    go_wp2_with (first
      | (go_at_call 84; (with_reducible refine (cb _).mono ?_); rintro e w1 ⟨rfl, rfl⟩)
      | (go_at_call 85; (with_reducible refine (cv _).mono ?_); rintro e w1 ⟨rfl, rfl⟩))
    go_ret2
    exact ⟨rfl, rfl⟩
  · have k1 : (s.size : Int) > 2 := by omega
    clear h2
    go_enter Tryd.func77, Tryd.ntmps77
    go_wp2_with (first
      | (go_at_call 84; (with_reducible refine (cb _).mono ?_); rintro e w1 ⟨rfl, rfl⟩)
      | (go_at_call 85; (with_reducible refine (cv _).mono ?_); rintro e w1 ⟨rfl, rfl⟩))
    go_ret2
    exact ⟨rfl, rfl⟩
set_option maxHeartbeats 4000000 in
set_option maxRecDepth 100000 in
theorem rw_d_eq (w : World) (s : ByteArray) (hs : s.size ≤ 3000000) (hno : NoHex s) (t : ByteArray) (cb : ∀ wq, Calls Tryd.prog 84 #[.string s, .int .i64 10] wq fun e w' => e = .returned (.tuple #[.string t, .bool true]) ∧ wq = w') (hl : ¬ (t.size : Int) > 20) (hl2 : ((t.size : Int) == 20) = true) (hg : ∀ W, (binOp .gtr 9 (.string t) (.string ⟨#[49, 56, 52, 52, 54, 55, 52, 52, 48, 55, 51, 55, 48, 57, 53, 53, 49, 54, 49, 53]⟩)).run Tryd.prog W = .ok (.bool false) W) (V : Int) (v0 : 0 ≤ V) (v1 : V ≤ 18446744073709551615) (cv : ∀ wq, Calls Tryd.prog 85 #[.string t, .int .i64 10] wq fun e w' => e = .returned (.int .u64 V) ∧ wq = w') :
    Calls Tryd.prog 77 #[.string s] w (RwP (.tuple #[.int .u64 V, .int .i64 0]) w) := by
  rcases hno with h2 | ⟨h2, c, hc, hx0⟩ | ⟨h2, hx0, c, hc, hx1⟩
  · have k1 : ¬ (s.size : Int) > 2 := by omega
    clear h2
    go_enter Tryd.func77, Tryd.ntmps77
    go_wp2_with (first
      | (go_at_call 84; (with_reducible refine (cb _).mono ?_); rintro e w1 ⟨rfl, rfl⟩)
      | (go_at_call 85; (with_reducible refine (cv _).mono ?_); rintro e w1 ⟨rfl, rfl⟩))
    go_ret2
    exact ⟨rfl, rfl⟩
  · have k1 : (s.size : Int) > 2 := by omega
    clear h2
    go_enter Tryd.func77, Tryd.ntmps77
    go_wp2_with (first
      | (go_at_call 84; (with_reducible refine (cb _).mono ?_); rintro e w1 ⟨rfl, rfl⟩)
      | (go_at_call 85; (with_reducible refine (cv _).mono ?_); rintro e w1 ⟨rfl, rfl⟩))
    go_ret2
    exact ⟨rfl, rfl⟩
  · have k1 : (s.size : Int) > 2 := by omega
    clear h2
    go_enter Tryd.func77, Tryd.ntmps77
    go_wp2_with (first
      | (go_at_call 84; (with_reducible refine (cb _).mono ?_); rintro e w1 ⟨rfl, rfl⟩)
      | (go_at_call 85; (with_reducible refine (cv _).mono ?_); rintro e w1 ⟨rfl, rfl⟩))
    go_ret2
    exact ⟨rfl, rfl⟩
set_option maxHeartbeats 4000000 in
set_option maxRecDepth 100000 in
theorem rw_d_ok (w : World) (s : ByteArray) (hs : s.size ≤ 3000000) (hno : NoHex s) (t : ByteArray) (cb : ∀ wq, Calls Tryd.prog 84 #[.string s, .int .i64 10] wq fun e w' => e = .returned (.tuple #[.string t, .bool true]) ∧ wq = w') (hl : ¬ (t.size : Int) > 20) (hl2 : ((t.size : Int) == 20) = false) (V : Int) (v0 : 0 ≤ V) (v1 : V ≤ 18446744073709551615) (cv : ∀ wq, Calls Tryd.prog 85 #[.string t, .int .i64 10] wq fun e w' => e = .returned (.int .u64 V) ∧ wq = w') :
    Calls Tryd.prog 77 #[.string s] w (RwP (.tuple #[.int .u64 V, .int .i64 0]) w) := by
  rcases hno with h2 | ⟨h2, c, hc, hx0⟩ | ⟨h2, hx0, c, hc, hx1⟩
  · have k1 : ¬ (s.size : Int) > 2 := by omega
    clear h2
    go_enter Tryd.func77, Tryd.ntmps77
    go_wp2_with (first
      | (go_at_call 84; (with_reducible refine (cb _).mono ?_); rintro e w1 ⟨rfl, rfl⟩)
      | (go_at_call 85; (with_reducible refine (cv _).mono ?_); rintro e w1 ⟨rfl, rfl⟩))
    go_ret2
    exact ⟨rfl, rfl⟩
  · have k1 : (s.size : Int) > 2 := by omega
    clear h2
    go_enter Tryd.func77, Tryd.ntmps77
    go_wp2_with (first
      | (go_at_call 84; (with_reducible refine (cb _).mono ?_); rintro e w1 ⟨rfl, rfl⟩)
      | (go_at_call 85; (with_reducible refine (cv _).mono ?_); rintro e w1 ⟨rfl, rfl⟩))
    go_ret2
    exact ⟨rfl, rfl⟩
  · have k1 : (s.size : Int) > 2 := by omega
    clear h2
    go_enter Tryd.func77, Tryd.ntmps77
    go_wp2_with (first
      | (go_at_call 84; (with_reducible refine (cb _).mono ?_); rintro e w1 ⟨rfl, rfl⟩)
      | (go_at_call 85; (with_reducible refine (cv _).mono ?_); rintro e w1 ⟨rfl, rfl⟩))
    go_ret2
    exact ⟨rfl, rfl⟩
theorem bare_16 (s : ByteArray) (hs : s.size ≤ 3000000) (l : List UInt8) (hl : s.data.toList = l) : (allD true l = false → ∀ wq, Calls Tryd.prog 84 #[.string s, .int .i64 16] wq fun e w' => e = .returned (.tuple #[.string (B []), .bool false]) ∧ wq = w') ∧
    (allD true l = true → ∀ wq, Calls Tryd.prog 84 #[.string s, .int .i64 16] wq fun e w' => e = .returned (.tuple #[.string (B (strip0 l)), .bool true]) ∧ wq = w') := by
  subst hl
  have c := fun wq => bare_walk wq true s hs
  constructor
  · intro h wq
    have c1 := c wq
    rw [h, if_neg Bool.false_ne_true] at c1
    exact c1
  · intro h wq
    have c1 := c wq
    rw [h, if_pos rfl] at c1
    exact c1
theorem pow_16 : rad true ^ 16 = 18446744073709551616 := by decide
theorem pow_20 : rad false ^ 20 = 100000000000000000000 := by decide
theorem pow_19 : rad false ^ 19 = 10000000000000000000 := by decide
/-- Word, the document's. -/
theorem rword_walk (w : World) (s : ByteArray) (hs : s.size ≤ 3000000) :
    Calls Tryd.prog 77 #[.string s] w (RwP (.tuple #[.int .u64 ((wordP s.data.toList).1 : Nat), .int .i64 (wordP s.data.toList).2]) w) := by
  have hlen : s.data.toList.length = s.size := by rw [Array.length_toList]; rfl
  have hix := index_at s
  by_cases hex : 2 < s.size ∧ s.data.toList[0]? = some 48 ∧ s.data.toList[1]? = some 120
  · obtain ⟨h2, x0, x1⟩ := hex
    have hp : Lib.hasPrefix s.data.toList [48, 120] = true := by
      match hl : s.data.toList with
      | [] => rw [hl] at x0; cases x0
      | [a] => rw [hl] at x1; cases x1
      | a :: b :: r =>
        rw [hl] at x0 x1
        simp at x0 x1
        subst x0 x1
        simp [Lib.hasPrefix]
    have ht : Lib.trimPrefix s.data.toList [48, 120] = s.data.toList.drop 2 := by
      unfold Lib.trimPrefix; rw [if_pos hp]; rfl
    have he : (s.extract 2 s.size).data.toList = s.data.toList.drop 2 := by
      rw [Lib.extract_data, List.take_of_length_le (by rw [List.length_drop]; omega)]
    have hes : (s.extract 2 s.size).size ≤ 3000000 := by
      have := congrArg List.length he
      rw [List.length_drop, Array.length_toList] at this
      have e : (s.extract 2 s.size).size = (s.extract 2 s.size).data.size := rfl
      omega
    unfold wordP
    rw [hp, ht]
    obtain ⟨cb0, cb1⟩ := bare_16 (s.extract 2 s.size) hes _ he
    have q0 := fun W => hix 0 48 x0 W
    have q1 := fun W => hix 1 120 x1 W
    by_cases hd : allD true (s.data.toList.drop 2) = true
    · rw [if_pos hd]
      have hall := allD_all hd
      have hst := strip_valb true (s.data.toList.drop 2)
      by_cases hl : 16 < (strip0 (s.data.toList.drop 2)).length
      · have hv := strip_big true hall 16 (by decide) hl
        rw [pow_16, hst] at hv
        rw [if_neg (by omega)]
        exact rw_h_long w s hs h2 q0 q1 _ (cb1 hd) (by rw [B_size]; omega)
      · have hv := strip_small true hall 16 (by omega)
        rw [pow_16, hst] at hv
        rw [if_pos (by omega)]
        refine rw_h_ok w s hs h2 q0 q1 _ (cb1 hd) (by rw [B_size]; omega) _ (by omega) (by omega) (fun wq => value_h wq (B (strip0 (s.data.toList.drop 2))) ?_ ?_ _ ?_ (by omega))
        · rw [B_size]; have := strip_len (s.data.toList.drop 2); rw [List.length_drop] at this; omega
        · rw [B_data0]; exact strip_all true _ hall
        · rw [B_data0]; exact hst
    · rw [if_neg hd]
      exact rw_h_bad w s hs h2 q0 q1 _ (cb0 (by simpa using hd))
  · have hno : NoHex s := by
      by_cases h2 : 2 < s.size
      · obtain ⟨a, ha⟩ : ∃ a, s.data.toList[0]? = some a := ⟨_, List.getElem?_eq_getElem (by omega)⟩
        obtain ⟨b, hb⟩ : ∃ b, s.data.toList[1]? = some b := ⟨_, List.getElem?_eq_getElem (by omega)⟩
        by_cases h48 : a = 48
        · subst h48
          have h120 : ¬ b = 120 := by rintro rfl; exact hex ⟨h2, ha, hb⟩
          refine .inr (.inr ⟨h2, fun W => hix 0 48 ha W, b.toNat, ?_, fun W => hix 1 b hb W⟩)
          exact beq_eq_false_iff_ne.2 (fun e => h120 (UInt8.toNat_inj.1 (by have : (120 : UInt8).toNat = 120 := rfl
                                                                            omega)))
        · refine .inr (.inl ⟨h2, a.toNat, ?_, fun W => hix 0 a ha W⟩)
          exact beq_eq_false_iff_ne.2 (fun e => h48 (UInt8.toNat_inj.1 (by have : (48 : UInt8).toNat = 48 := rfl
                                                                           omega)))
      · exact .inl (by omega)
    obtain ⟨cb0, cb1⟩ := bare_10 s hs _ rfl
    have key : (wordP s.data.toList) = if allD false s.data.toList = true then (if val false s.data.toList ≤ 18446744073709551615 then (val false s.data.toList, 0) else (0, 161)) else (0, 160) := by
      unfold wordP
      cases hp : Lib.hasPrefix s.data.toList [48, 120] with
      | false =>
        have ht : Lib.trimPrefix s.data.toList [48, 120] = s.data.toList := by unfold Lib.trimPrefix; rw [hp]; rfl
        rw [ht]
      | true =>
        have : s.data.toList = [48, 120] := by
          match hl : s.data.toList with
          | [] => rw [hl] at hp; simp [Lib.hasPrefix] at hp
          | [a] => rw [hl] at hp; simp [Lib.hasPrefix] at hp
          | [a, b] => rw [hl] at hp; simp [Lib.hasPrefix] at hp; rw [← hp.1, ← hp.2]
          | a :: b :: d :: r =>
            rw [hl] at hp hex hlen
            simp [Lib.hasPrefix] at hp
            simp at hlen
            exact absurd ⟨by omega, by rw [← hp.1]; rfl, by rw [← hp.2]; rfl⟩ hex
        rw [this]
        decide
    rw [key]
    by_cases hd : allD false s.data.toList = true
    · rw [if_pos hd]
      have hall := allD_all hd
      have hst := strip_valb false s.data.toList
      have hsl := strip_len s.data.toList
      have hsa := strip_all false _ hall
      have ok : val false s.data.toList ≤ 18446744073709551615 → ∀ wq, Calls Tryd.prog 85 #[.string (B (strip0 s.data.toList)), .int .i64 10] wq fun e w' => e = .returned (.int .u64 (val false s.data.toList : Nat)) ∧ wq = w' := fun hv wq =>
        value_d wq (B (strip0 s.data.toList)) (by rw [B_size]; omega) (by rw [B_data0]; exact hsa) _ (by rw [B_data0]; exact hst) hv
      rcases Nat.lt_trichotomy (strip0 s.data.toList).length 20 with hl | hl | hl
      · have hv := strip_small false hall 19 (by omega)
        rw [pow_19, hst] at hv
        rw [if_pos (by omega)]
        exact rw_d_ok w s hs hno _ (cb1 hd) (by rw [B_size]; omega) (by rw [B_size]; exact beq_eq_false_iff_ne.2 (by omega)) _ (by omega) (by omega) (ok (by omega))
      · have hg := fun W => gtr_run (strip0 s.data.toList) hsa hl W
        rw [hst] at hg
        by_cases hv : val false s.data.toList ≤ 18446744073709551615
        · rw [if_pos hv]
          rw [decide_eq_false (by omega)] at hg
          exact rw_d_eq w s hs hno _ (cb1 hd) (by rw [B_size]; omega) (by rw [B_size]; exact beq_iff_eq.2 (by omega)) hg _ (by omega) (by omega) (ok hv)
        · rw [if_neg hv]
          rw [decide_eq_true (by omega)] at hg
          exact rw_d_big w s hs hno _ (cb1 hd) (by rw [B_size]; omega) (by rw [B_size]; exact beq_iff_eq.2 (by omega)) hg
      · have hv := strip_big false hall 20 (by decide) hl
        rw [pow_20, hst] at hv
        rw [if_neg (by omega)]
        exact rw_d_long w s hs hno _ (cb1 hd) (by rw [B_size]; omega)
    · rw [if_neg hd]
      exact rw_d_bad w s hs hno _ (cb0 (by simpa using hd))
end Go.Proofs.YtigaacbaaopfmaaDoor.sh
