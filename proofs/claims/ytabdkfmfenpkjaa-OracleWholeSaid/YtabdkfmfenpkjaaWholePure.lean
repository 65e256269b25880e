/- Proves the pure statement behind OracleWhole: a hash is put together again of its tag and home, and of its bits; top bits go on by one bit; for every 64-bit number. -/
import Derived.Test.YtabdkfmfenpkjaaFWhole
import Derived.OpenShut
namespace Go.Proofs.Ytabdkfmfenpkjaa.Pure
open Go.RowKit Go.Proofs.Ytabdkfmfenpkjaa.FWhole Go.Proofs.YtabdkfmfenpkjaaW.PrintWords Go.Proofs.YtabdkfmfenpkjaaW.PrintLast Go.Proofs.YtabdkfmfenpkjaaW.PrintMore
namespace Whole

theorem and_nat (a b : Nat) (ha : a < 18446744073709551616) (hb : b < 18446744073709551616) :
    Go.bits .and .u64 (a : Int) (b : Int) = ((a &&& b : Nat) : Int) := by
  have hx : a &&& b < 2 ^ 64 := Nat.and_lt_two_pow _ (by omega)
  have h1 : (BitVec.ofInt 64 (a : Int)).toNat = a := by
    rw [BitVec.ofInt_natCast, BitVec.toNat_ofNat]; exact Nat.mod_eq_of_lt (by omega)
  have h2 : (BitVec.ofInt 64 (b : Int)).toNat = b := by
    rw [BitVec.ofInt_natCast, BitVec.toNat_ofNat]; exact Nat.mod_eq_of_lt (by omega)
  show IntKind.u64.wrap ((BitVec.ofInt 64 (a : Int) &&& BitVec.ofInt 64 (b : Int)).toNat : Int) = _
  rw [BitVec.toNat_and, h1, h2, IntKind.wrap_u64]
  omega
theorem and_127 (x : Nat) (hx : x < 18446744073709551616) : Go.bits .and .u64 (x : Int) 127 = ((x % 128 : Nat) : Int) := by
  have h := and_nat x 127 hx (by omega)
  rw [show (x &&& 127) = x % 128 from Nat.and_two_pow_sub_one_eq_mod x 7] at h
  exact h
theorem and_1 (x : Nat) (hx : x < 18446744073709551616) : Go.bits .and .u64 (x : Int) 1 = ((x % 2 : Nat) : Int) := by
  have h := and_nat x 1 hx (by omega)
  rw [show (x &&& 1) = x % 2 from Nat.and_two_pow_sub_one_eq_mod x 1] at h
  exact h
theorem w64 {n : Nat} (h : n ≤ 9223372036854775807) : wrap64 (n : Int) = n := by unfold wrap64; omega
theorem shr_nat (x n : Nat) (hn : n ≤ 64) : shr .u64 (x : Int) (n : Int) = ((x / 2 ^ n : Nat) : Int) := by
  unfold shr
  rw [Int.toNat_natCast, show IntKind.u64.bits = 64 from rfl, Nat.min_eq_left hn, Int.natCast_ediv, Int.natCast_pow]
  rfl
theorem div_lt {x : Nat} (hx : x < 18446744073709551616) (n : Nat) : x / 2 ^ n < 18446744073709551616 := Nat.lt_of_le_of_lt (Nat.div_le_self _ _) hx
def bitN (x n : Nat) : Nat := x / 2 ^ (63 - n) % 2
theorem bitN_lt (x n : Nat) : bitN x n < 2 := Nat.mod_lt _ (by decide)
theorem tag_f (x : Nat) (hx : x < 18446744073709551616) : oracle_Tag.f (x : Int) = some ((x % 128 : Nat) : Int) := by
  unfold oracle_Tag.f
  rw [and_127 x hx, w64 (by omega)]
theorem bit_f (x n : Nat) (hx : x < 18446744073709551616) (hn : n ≤ 63) : oracle_Bit.f (x : Int) (n : Int) = some ((bitN x n : Nat) : Int) := by
  unfold oracle_Bit.f
  have e : wrap64 (63 - (n : Int)) = ((63 - n : Nat) : Int) := by unfold wrap64; omega
  rw [if_neg (by omega), if_neg (by omega), e, if_pos (by omega), shr_nat x _ (by omega), and_1 _ (div_lt hx _), w64 (by omega)]
  rfl
theorem bit_lo (x : Int) (n : Int) (h : n < 0) : oracle_Bit.f x n = some 0 := by
  unfold oracle_Bit.f
  rw [if_pos h]
theorem bit_hi (x : Int) (n : Int) (h : n > 63) : oracle_Bit.f x n = some 0 := by
  unfold oracle_Bit.f
  rw [if_neg (by omega), if_pos h]
theorem top_f (x n : Nat) (h1 : 1 ≤ n) (hn : n ≤ 6) (hx : x < 18446744073709551616) : oracle_Top.f (x : Int) (n : Int) = some ((x / 2 ^ (64 - n) : Nat) : Int) := by
  unfold oracle_Top.f
  have e : wrap64 (64 - (n : Int)) = ((64 - n : Nat) : Int) := by unfold wrap64; omega
  have hle : x / 2 ^ (64 - n) ≤ 9223372036854775807 := by
    have h2 : 2 ^ 1 ≤ 2 ^ (64 - n) := Nat.pow_le_pow_right (by decide) (by omega)
    have h3 : x / 2 ^ (64 - n) ≤ x / 2 ^ 1 := Nat.div_le_div_left h2 (by decide)
    omega
  rw [if_neg (by omega), if_neg (by omega), e, if_pos (by omega), shr_nat x _ (by omega), w64 hle]
theorem top_lo (x n : Int) (h : n < 1) : oracle_Top.f x n = some 0 := by
  unfold oracle_Top.f
  rw [if_pos h]
theorem top_hi (x n : Int) (h : n > 6) : oracle_Top.f x n = some 0 := by
  unfold oracle_Top.f
  rw [if_neg (by omega), if_pos h]
theorem dbl {q b : Nat} (hq : q ≤ 63) (hb : b < 2) : wrap64 (wrap64 (2 * (q : Int)) + (b : Int)) = ((2 * q + b : Nat) : Int) := by
  have e : wrap64 (2 * (q : Int)) = ((2 * q : Nat) : Int) := by
    have := w64 (n := 2 * q) (by omega)
    rw [← this]
    rfl
  rw [e, ← Int.natCast_add, w64 (by omega)]
theorem top_le {x i : Nat} (hx : x < 18446744073709551616) (hi : i ≤ 6) : x / 2 ^ (64 - i) ≤ 63 := by
  have h2 : 2 ^ i ≤ 2 ^ 6 := Nat.pow_le_pow_right (by decide) hi
  have h3 : x / 2 ^ (64 - i) < 2 ^ i := by
    apply Nat.div_lt_of_lt_mul
    rw [← Nat.pow_add, show 64 - i + i = 64 by omega]
    exact hx
  exact Nat.le_of_lt_succ (Nat.lt_of_lt_of_le h3 h2)
/-- One bit more at the front. -/
theorem top_succ (x n : Nat) (hn : n ≤ 63) : x / 2 ^ (64 - (n + 1)) = 2 * (x / 2 ^ (64 - n)) + bitN x n := by
  unfold bitN
  have e : 64 - n = (63 - n) + 1 := by omega
  rw [show 64 - (n + 1) = 63 - n by omega, e, Nat.pow_succ, ← Nat.div_div_eq_div_mul]
  omega

def pre (x n : Nat) : Nat := x / 2 ^ (64 - n)
theorem pre_succ (x n : Nat) (hn : n ≤ 63) : pre x (n + 1) = 2 * pre x n + bitN x n := top_succ x n hn
theorem pre_lt {x n : Nat} (hx : x < 18446744073709551616) (hn : n ≤ 64) : pre x n < 2 ^ n := by
  unfold pre
  apply Nat.div_lt_of_lt_mul
  rw [← Nat.pow_add, show 64 - n + n = 64 by omega]
  exact hx
theorem pre_64 (x : Nat) : pre x 64 = x := by
  unfold pre
  rw [show 64 - 64 = 0 by rfl, Nat.pow_zero, Nat.div_one]
theorem step64 {q b : Nat} (h : 2 * q + b < 18446744073709551616) : IntKind.u64.wrap (IntKind.u64.wrap (2 * (q : Int)) + IntKind.u64.wrap (b : Int)) = ((2 * q + b : Nat) : Int) := by
  rw [IntKind.wrap_u64, IntKind.wrap_u64, IntKind.wrap_u64]
  omega
theorem ends (k x : Nat) : larderlaw04_OracleWhole.l0 (k + 1) (x : Int) ((pre x 64 : Nat) : Int) (64 : Int) = some true := by
  simp only [larderlaw04_OracleWhole.l0]
  rw [pre_64, if_neg (by decide), if_pos rfl, top_lo _ _ (by decide), top_hi _ _ (by decide), bit_hi _ _ (by decide), bit_lo _ _ (by decide)]
  simp only [Option.bind_some, if_true]
  rfl
theorem j2_some (k : Nat) (x v i b : Int) : larderlaw04_OracleWhole.j2 (k + 1) x v i b false = (if i < 6 then ((oracle_Top.f x (wrap64 (i + 1))).bind fun t105 => ((oracle_Top.f x i).bind fun t106 => (if t105 = (wrap64 ((wrap64 (2 * t106)) + b)) then (larderlaw04_OracleWhole.l0 k x (IntKind.u64.wrap ((IntKind.u64.wrap (2 * v)) + (IntKind.u64.wrap (b)))) (wrap64 (i + 1))) else (some false)))) else (larderlaw04_OracleWhole.l0 k x (IntKind.u64.wrap ((IntKind.u64.wrap (2 * v)) + (IntKind.u64.wrap (b)))) (wrap64 (i + 1)))) := by
  simp only [larderlaw04_OracleWhole.j2]
  rw [if_neg (by decide)]
theorem top_any (x n : Nat) (hx : x < 18446744073709551616) (hn : n ≤ 6) : oracle_Top.f (x : Int) (n : Int) = some ((pre x n : Nat) : Int) := by
  by_cases h : 1 ≤ n
  · exact top_f x n h hn hx
  · obtain rfl : n = 0 := by omega
    rw [top_lo _ _ (by omega)]
    have : pre x 0 = 0 := by have := pre_lt hx (show 0 ≤ 64 by omega); omega
    rw [this]
    rfl
theorem pow64 : (2 : Nat) ^ 64 = 18446744073709551616 := by decide
theorem pre_small {x n : Nat} (hx : x < 18446744073709551616) (hn : n ≤ 64) : pre x n < 18446744073709551616 := by
  have h2 : 2 ^ n ≤ 2 ^ 64 := Nat.pow_le_pow_right (by decide) hn
  rw [pow64] at h2
  exact Nat.lt_of_lt_of_le (pre_lt hx hn) h2
theorem next_v {x i : Nat} (hx : x < 18446744073709551616) (hi : i < 64) :
    IntKind.u64.wrap (IntKind.u64.wrap (2 * ((pre x i : Nat) : Int)) + IntKind.u64.wrap ((bitN x i : Nat) : Int)) = ((pre x (i + 1) : Nat) : Int) := by
  have hs := pre_succ x i (by omega)
  have hp := pre_small hx (show i + 1 ≤ 64 by omega)
  rw [hs] at hp
  rw [step64 hp, hs]
theorem next_t {x i : Nat} (hx : x < 18446744073709551616) (hi : i < 6) :
    ((pre x (i + 1) : Nat) : Int) = wrap64 (wrap64 (2 * ((pre x i : Nat) : Int)) + ((bitN x i : Nat) : Int)) := by
  have hs := pre_succ x i (by omega)
  have h := dbl (q := pre x i) (top_le hx (by omega)) (bitN_lt x i)
  rw [h, hs]
theorem next_i {i : Nat} (hi : i < 64) : wrap64 ((i : Int) + 1) = ((i + 1 : Nat) : Int) := by unfold wrap64; omega
theorem t2 (x i : Nat) (p0 b p1 : Int) (e3 : i < 6 → p1 = wrap64 (wrap64 (2 * p0) + b)) (e4 : i < 6 → oracle_Top.f (x : Int) ((i + 1 : Nat) : Int) = some p1) (e5 : i < 6 → oracle_Top.f (x : Int) (i : Int) = some p0) (l : Option Bool) :
   (if (i : Int) < 6 then (oracle_Top.f (x : Int) ((i + 1 : Nat) : Int)).bind fun t105 => (oracle_Top.f (x : Int) (i : Int)).bind fun t106 => if t105 = wrap64 (wrap64 (2 * t106) + b) then l else some false else l) = l := by
  by_cases h6 : i < 6
  · have h6' : (i : Int) < 6 := by clear e3 e4 e5; omega
    rw [if_pos h6', e4 h6, e5 h6]
    simp only [Option.bind_some]
    exact if_pos (e3 h6)
  · have h6' : ¬ (i : Int) < 6 := by clear e3 e4 e5; omega
    exact if_neg h6'
theorem t1 (k x i : Nat) (p0 b p1 : Int) (e1 : wrap64 ((i : Int) + 1) = ((i + 1 : Nat) : Int)) (e2 : IntKind.u64.wrap (IntKind.u64.wrap (2 * p0) + IntKind.u64.wrap b) = p1)  (e3 : i < 6 → p1 = wrap64 (wrap64 (2 * p0) + b)) (e4 : i < 6 → oracle_Top.f (x : Int) ((i + 1 : Nat) : Int) = some p1) (e5 : i < 6 → oracle_Top.f (x : Int) (i : Int) = some p0) :
    larderlaw04_OracleWhole.j2 (k + 1) (x : Int) p0 (i : Int) b false = larderlaw04_OracleWhole.l0 k (x : Int) p1 ((i + 1 : Nat) : Int) := by
  rw [j2_some, e1, e2]
  exact t2 x i p0 b p1 e3 e4 e5 _
theorem round2 (k x i : Nat) (hx : x < 18446744073709551616) (hi : i < 64) :
    larderlaw04_OracleWhole.j2 (k + 1) (x : Int) ((pre x i : Nat) : Int) (i : Int) ((bitN x i : Nat) : Int) false = larderlaw04_OracleWhole.l0 k (x : Int) ((pre x (i + 1) : Nat) : Int) ((i + 1 : Nat) : Int) :=
  t1 k x i _ _ _ (next_i hi) (next_v hx hi) (fun h => next_t hx h) (fun h => top_any x (i + 1) hx (by clear hi; omega)) (fun h => top_any x i hx (by clear hi; omega))
theorem round_ (k x i : Nat) (hx : x < 18446744073709551616) (hi : i < 64) :
    larderlaw04_OracleWhole.l0 (k + 2) (x : Int) ((pre x i : Nat) : Int) (i : Int) = larderlaw04_OracleWhole.l0 k (x : Int) ((pre x (i + 1) : Nat) : Int) ((i + 1 : Nat) : Int) := by
  rw [← round2 k x i hx hi]
  have hbb : bitN x i = 0 ∨ bitN x i = 1 := by have hb := bitN_lt x i; omega
  have hbf := bit_f x i hx (show i ≤ 63 by omega)
  have hi' : (i : Int) < 64 := by omega
  generalize ((pre x i : Nat) : Int) = p0 at *
  generalize bitN x i = b at *
  simp only [larderlaw04_OracleWhole.l0]
  rw [if_pos hi', hbf]
  simp only [Option.bind_some]
  rcases hbb with h | h
  · rw [h]; exact if_pos rfl
  · rw [h]; exact if_neg (by decide)
theorem loop (d : Nat) : ∀ (k x i : Nat), x < 18446744073709551616 → i + d = 64 → 2 * d < k → larderlaw04_OracleWhole.l0 k (x : Int) ((pre x i : Nat) : Int) (i : Int) = some true := by
  induction d with
  | zero =>
    intro k x i hx hd hk
    obtain ⟨k, rfl⟩ : ∃ m, k = m + 1 := ⟨k - 1, by omega⟩
    obtain rfl : i = 64 := by omega
    exact ends k x
  | succ d ih =>
    intro k x i hx hd hk
    obtain ⟨k, rfl⟩ : ∃ m, k = m + 2 := ⟨k - 2, by omega⟩
    rw [round_ k x i hx (by omega)]
    exact ih k x (i + 1) hx (by omega) (by omega)
theorem home_f (x : Nat) : oracle_Home.f (x : Int) = some ((x / 128 : Nat) : Int) := by
  unfold oracle_Home.f
  rw [Int.natCast_ediv]; rfl
theorem rejoin (x : Nat) (hx : x < 18446744073709551616) : IntKind.u64.wrap (IntKind.u64.wrap (((x / 128 : Nat) : Int) * 128) + IntKind.u64.wrap ((x % 128 : Nat) : Int)) = (x : Int) := by
  rw [IntKind.wrap_u64, IntKind.wrap_u64, IntKind.wrap_u64]
  omega
end Whole
open Whole
/-- The pure law. -/
theorem OracleWhole : larderlaw04_OracleWhole.Pure := by
  intro a0 h0
  have hb := bounds_u64 h0
  obtain ⟨x, rfl⟩ := Int.eq_ofNat_of_zero_le hb.1
  have hx : x < 18446744073709551616 := by omega
  refine ⟨200, ?_⟩
  unfold larderlaw04_OracleWhole.f
  rw [tag_f x hx]
  simp only [Option.bind_some]
  rw [if_neg (by omega), if_neg (by omega), home_f x]
  simp only [Option.bind_some]
  rw [if_neg (by omega), rejoin x hx, bne_self_eq_false]
  simp only [larderlaw04_OracleWhole.j0]
  rw [if_neg (by decide)]
  have h := loop 64 199 x 0 hx (by omega) (by omega)
  have : pre x 0 = 0 := by have := pre_lt hx (show 0 ≤ 64 by omega); omega
  rw [this] at h
  exact h

end Go.Proofs.Ytabdkfmfenpkjaa.Pure
