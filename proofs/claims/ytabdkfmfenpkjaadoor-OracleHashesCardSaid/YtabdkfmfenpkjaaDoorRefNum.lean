/- The document's numbers of four digits: what its xor, times, down, digits and whole answer, said of the numbers. -/
import Derived.Test.YtabdkfmfenpkjaaDoorRef
import Derived.Laws.Bits64
namespace Go.Proofs.YtabdkfmfenpkjaaDoor.ref
open Go.RowKit
set_option linter.unusedVariables false
/-- A number by its digits. -/
def numD (v : Int) : Value := num (v % 65536) (v / 65536 % 65536) (v / 65536 / 65536 % 65536) (v / 65536 / 65536 / 65536 % 65536)
theorem digits_val (w : World) (v : Int) (hv : 0 ≤ v ∧ v < 18446744073709551616) :
    Calls Tryd.prog 17 #[.int .u64 v] w fun e w' => e = .returned (numD v) ∧ Below w.heap.size w w' := digits_walk v w hv
theorem whole_val (w : World) (v : Int) (hv : 0 ≤ v ∧ v < 18446744073709551616) :
    Calls Tryd.prog 20 #[numD v] w fun e w' => e = .returned (.int .u64 v) ∧ Below w.heap.size w w' := by
  have h : (((v / 65536 / 65536 / 65536 % 65536 * 65536 + v / 65536 / 65536 % 65536) * 65536 + v / 65536 % 65536) * 65536 + v % 65536) = v := by omega
  have := whole_walk (v % 65536) (v / 65536 % 65536) (v / 65536 / 65536 % 65536) (v / 65536 / 65536 / 65536 % 65536) w (by omega) (by omega) (by omega) (by omega)
  rw [h] at this
  exact this
theorem num_eq (a b c d v : Int) (h : v = a + 65536 * b + 4294967296 * c + 281474976710656 * d) (ha : 0 ≤ a ∧ a < 65536) (hb : 0 ≤ b ∧ b < 65536) (hc : 0 ≤ c ∧ c < 65536) (hd : 0 ≤ d ∧ d < 65536) : num a b c d = numD v := by
  unfold numD num
  have e0 : v % 65536 = a := by omega
  have e1 : v / 65536 % 65536 = b := by omega
  have e2 : v / 65536 / 65536 % 65536 = c := by omega
  have e3 : v / 65536 / 65536 / 65536 % 65536 = d := by omega
  rw [e0, e1, e2, e3]
theorem down29_val (w : World) (v : Int) (hv : 0 ≤ v ∧ v < 18446744073709551616) :
    Calls Tryd.prog 19 #[numD v, .int .i64 29] w fun e w' => e = .returned (numD (v / 536870912)) ∧ Below w.heap.size w w' := by
  have := down29_walk (v % 65536) (v / 65536 % 65536) (v / 65536 / 65536 % 65536) (v / 65536 / 65536 / 65536 % 65536) w (by omega) (by omega) (by omega) (by omega) (by omega) (by omega) (by omega) (by omega)
  exact this.mono fun e w' ⟨he, hb⟩ => ⟨he.trans (congrArg Ending.returned (num_eq _ _ _ _ (v / 536870912) (by omega) (by omega) (by omega) (by omega) (by omega))), hb⟩
theorem down31_val (w : World) (v : Int) (hv : 0 ≤ v ∧ v < 18446744073709551616) :
    Calls Tryd.prog 19 #[numD v, .int .i64 31] w fun e w' => e = .returned (numD (v / 2147483648)) ∧ Below w.heap.size w w' := by
  have := down31_walk (v % 65536) (v / 65536 % 65536) (v / 65536 / 65536 % 65536) (v / 65536 / 65536 / 65536 % 65536) w (by omega) (by omega) (by omega) (by omega) (by omega) (by omega) (by omega) (by omega)
  exact this.mono fun e w' ⟨he, hb⟩ => ⟨he.trans (congrArg Ending.returned (num_eq _ _ _ _ (v / 2147483648) (by omega) (by omega) (by omega) (by omega) (by omega))), hb⟩
theorem down32_val (w : World) (v : Int) (hv : 0 ≤ v ∧ v < 18446744073709551616) :
    Calls Tryd.prog 19 #[numD v, .int .i64 32] w fun e w' => e = .returned (numD (v / 4294967296)) ∧ Below w.heap.size w w' := by
  have := down32_walk (v % 65536) (v / 65536 % 65536) (v / 65536 / 65536 % 65536) (v / 65536 / 65536 / 65536 % 65536) w (by omega) (by omega) (by omega) (by omega) (by omega) (by omega) (by omega) (by omega)
  exact this.mono fun e w' ⟨he, hb⟩ => ⟨he.trans (congrArg Ending.returned (num_eq _ _ _ _ (v / 4294967296) (by omega) (by omega) (by omega) (by omega) (by omega))), hb⟩
theorem xor_small (a b : Nat) (ha : a < 65536) (hb : b < 65536) : bits .xor .i64 (a : Int) (b : Int) = ((a ^^^ b : Nat) : Int) := by
  have hx : a ^^^ b < 2 ^ 16 := Nat.xor_lt_two_pow (by omega) (by omega)
  have h1 : (BitVec.ofInt 64 (a : Int)).toNat = a := by
    rw [BitVec.ofInt_natCast, BitVec.toNat_ofNat]; exact Nat.mod_eq_of_lt (by omega)
  have h2 : (BitVec.ofInt 64 (b : Int)).toNat = b := by
    rw [BitVec.ofInt_natCast, BitVec.toNat_ofNat]; exact Nat.mod_eq_of_lt (by omega)
  show IntKind.i64.wrap ((BitVec.ofInt 64 (a : Int) ^^^ BitVec.ofInt 64 (b : Int)).toNat : Int) = _
  rw [BitVec.toNat_xor, h1, h2, IntKind.wrap_i64]
  omega
theorem xor_val (w : World) (x y : Int) (hx : 0 ≤ x ∧ x < 18446744073709551616) (hy : 0 ≤ y ∧ y < 18446744073709551616) :
    Calls Tryd.prog 16 #[numD x, numD y] w fun e w' => e = .returned (numD (bits .xor .u64 x y)) ∧ Below w.heap.size w w' := by
  obtain ⟨a, rfl⟩ := Int.eq_ofNat_of_zero_le hx.1
  obtain ⟨b, rfl⟩ := Int.eq_ofNat_of_zero_le hy.1
  have h := xor_walk ((a : Int) % 65536) ((a : Int) / 65536 % 65536) ((a : Int) / 65536 / 65536 % 65536) ((a : Int) / 65536 / 65536 / 65536 % 65536) ((b : Int) % 65536) ((b : Int) / 65536 % 65536) ((b : Int) / 65536 / 65536 % 65536) ((b : Int) / 65536 / 65536 / 65536 % 65536) w
  have hm : ∀ u v : Nat, (u ^^^ v) % 65536 = u % 65536 ^^^ v % 65536 := fun u v => Nat.xor_mod_two_pow (n := 16)
  have hd : ∀ u v : Nat, (u ^^^ v) / 65536 = u / 65536 ^^^ v / 65536 := fun u v => Nat.xor_div_two_pow (n := 16)
  have e : ∀ u v : Nat, bits .xor .i64 ((u : Int) % 65536) ((v : Int) % 65536) = ((u ^^^ v : Nat) : Int) % 65536 := by
    intro u v
    have h1 := xor_small (u % 65536) (v % 65536) (Nat.mod_lt _ (by omega)) (Nat.mod_lt _ (by omega))
    rw [← hm] at h1
    rw [show ((u : Int) % 65536) = ((u % 65536 : Nat) : Int) by omega, show ((v : Int) % 65536) = ((v % 65536 : Nat) : Int) by omega, h1]
    omega
  have d : ∀ u : Nat, (u : Int) / 65536 = ((u / 65536 : Nat) : Int) := fun u => by omega
  have g1 : bits .xor .i64 ((a : Int) / 65536 % 65536) ((b : Int) / 65536 % 65536) = ((a ^^^ b : Nat) : Int) / 65536 % 65536 := by rw [d a, d b, e, d (a ^^^ b), hd]
  have g2 : bits .xor .i64 ((a : Int) / 65536 / 65536 % 65536) ((b : Int) / 65536 / 65536 % 65536) = ((a ^^^ b : Nat) : Int) / 65536 / 65536 % 65536 := by rw [d a, d b, d, d, e, d (a ^^^ b), hd, d, hd]
  have g3 : bits .xor .i64 ((a : Int) / 65536 / 65536 / 65536 % 65536) ((b : Int) / 65536 / 65536 / 65536 % 65536) = ((a ^^^ b : Nat) : Int) / 65536 / 65536 / 65536 % 65536 := by rw [d a, d b, d, d, d, d, e, d (a ^^^ b), hd, d, hd, d, hd]
  refine h.mono fun _ w' ⟨he, hb⟩ => ⟨he.trans (congrArg Ending.returned ?_), hb⟩
  rw [e a b, g1, g2, g3, bits_xor_u64_nat a b (by omega) (by omega), numD]
end Go.Proofs.YtabdkfmfenpkjaaDoor.ref
