/- Proves the pure statement behind OracleParts: Tag, Home, Top and Bit of the program are the reference's, for every 64-bit number and every depth. -/
import Derived.Test.YtabdkfmfenpkjaaPOraclePartsx1
import Derived.OpenShut
namespace Go.Proofs.Ytabdkfmfenpkjaa.Pure
open Go.RowKit Go.Proofs.Ytabdkfmfenpkjaa.POracleParts Go.Proofs.YtabdkfmfenpkjaaW.PrintWords Go.Proofs.YtabdkfmfenpkjaaW.PrintLast Go.Proofs.YtabdkfmfenpkjaaW.PrintMore
namespace Parts

theorem and_nat (a b : Nat) (ha : a < 18446744073709551616) (hb : b < 18446744073709551616) :
    Go.bits .and .u64 (a : Int) (b : Int) = ((a &&& b : Nat) : Int) := by
  have hx : a &&& b < 2 ^ 64 := Nat.and_lt_two_pow _ (by omega)
  have h1 : (BitVec.ofInt 64 (a : Int)).toNat = a := by
    rw [BitVec.ofInt_natCast, BitVec.toNat_ofNat]; exact Nat.mod_eq_of_lt (by omega)
  have h2 : (BitVec.ofInt 64 (b : Int)).toNat = b := by
    rw [BitVec.ofInt_natCast, BitVec.toNat_ofNat]; exact Nat.mod_eq_of_lt (by omega)
  show IntKind.u64.wrap ((BitVec.ofInt 64 (a : Int) &&& BitVec.ofInt 64 (b : Int)).toNat : Int) = _
  rw [BitVec.toNat_and, h1, h2, IntKind.wrap_u64]
  omega
theorem and_127 (x : Nat) (hx : x < 18446744073709551616) : Go.bits .and .u64 (x : Int) 127 = ((x % 128 : Nat) : Int) := by
  have h := and_nat x 127 hx (by omega)
  rw [show (x &&& 127) = x % 128 from Nat.and_two_pow_sub_one_eq_mod x 7] at h
  exact h
theorem and_1 (x : Nat) (hx : x < 18446744073709551616) : Go.bits .and .u64 (x : Int) 1 = ((x % 2 : Nat) : Int) := by
  have h := and_nat x 1 hx (by omega)
  rw [show (x &&& 1) = x % 2 from Nat.and_two_pow_sub_one_eq_mod x 1] at h
  exact h
theorem w64 {n : Nat} (h : n ≤ 9223372036854775807) : wrap64 (n : Int) = n := by unfold wrap64; omega
theorem shr_nat (x n : Nat) (hn : n ≤ 64) : shr .u64 (x : Int) (n : Int) = ((x / 2 ^ n : Nat) : Int) := by
  unfold shr
  rw [Int.toNat_natCast, show IntKind.u64.bits = 64 from rfl, Nat.min_eq_left hn, Int.natCast_ediv, Int.natCast_pow]
  rfl
theorem div_lt {x : Nat} (hx : x < 18446744073709551616) (n : Nat) : x / 2 ^ n < 18446744073709551616 := Nat.lt_of_le_of_lt (Nat.div_le_self _ _) hx
def bitN (x n : Nat) : Nat := x / 2 ^ (63 - n) % 2
theorem bitN_lt (x n : Nat) : bitN x n < 2 := Nat.mod_lt _ (by decide)
theorem tag_f (x : Nat) (hx : x < 18446744073709551616) : oracle_Tag.f (x : Int) = some ((x % 128 : Nat) : Int) := by
  unfold oracle_Tag.f
  rw [and_127 x hx, w64 (by omega)]
theorem bit_f (x n : Nat) (hx : x < 18446744073709551616) (hn : n ≤ 63) : oracle_Bit.f (x : Int) (n : Int) = some ((bitN x n : Nat) : Int) := by
  unfold oracle_Bit.f
  have e : wrap64 (63 - (n : Int)) = ((63 - n : Nat) : Int) := by unfold wrap64; omega
  rw [if_neg (by omega), if_neg (by omega), e, if_pos (by omega), shr_nat x _ (by omega), and_1 _ (div_lt hx _), w64 (by omega)]
  rfl
theorem bit_lo (x : Int) (n : Int) (h : n < 0) : oracle_Bit.f x n = some 0 := by
  unfold oracle_Bit.f
  rw [if_pos h]
theorem bit_hi (x : Int) (n : Int) (h : n > 63) : oracle_Bit.f x n = some 0 := by
  unfold oracle_Bit.f
  rw [if_neg (by omega), if_pos h]
theorem top_f (x n : Nat) (h1 : 1 ≤ n) (hn : n ≤ 6) (hx : x < 18446744073709551616) : oracle_Top.f (x : Int) (n : Int) = some ((x / 2 ^ (64 - n) : Nat) : Int) := by
  unfold oracle_Top.f
  have e : wrap64 (64 - (n : Int)) = ((64 - n : Nat) : Int) := by unfold wrap64; omega
  have hle : x / 2 ^ (64 - n) ≤ 9223372036854775807 := by
    have h2 : 2 ^ 1 ≤ 2 ^ (64 - n) := Nat.pow_le_pow_right (by decide) (by omega)
    have h3 : x / 2 ^ (64 - n) ≤ x / 2 ^ 1 := Nat.div_le_div_left h2 (by decide)
    omega
  rw [if_neg (by omega), if_neg (by omega), e, if_pos (by omega), shr_nat x _ (by omega), w64 hle]
theorem top_lo (x n : Int) (h : n < 1) : oracle_Top.f x n = some 0 := by
  unfold oracle_Top.f
  rw [if_pos h]
theorem top_hi (x n : Int) (h : n > 6) : oracle_Top.f x n = some 0 := by
  unfold oracle_Top.f
  rw [if_neg (by omega), if_pos h]
theorem dbl {q b : Nat} (hq : q ≤ 63) (hb : b < 2) : wrap64 (wrap64 (2 * (q : Int)) + (b : Int)) = ((2 * q + b : Nat) : Int) := by
  have e : wrap64 (2 * (q : Int)) = ((2 * q : Nat) : Int) := by
    have := w64 (n := 2 * q) (by omega)
    rw [← this]
    rfl
  rw [e, ← Int.natCast_add, w64 (by omega)]
theorem top_le {x i : Nat} (hx : x < 18446744073709551616) (hi : i ≤ 6) : x / 2 ^ (64 - i) ≤ 63 := by
  have h2 : 2 ^ i ≤ 2 ^ 6 := Nat.pow_le_pow_right (by decide) hi
  have h3 : x / 2 ^ (64 - i) < 2 ^ i := by
    apply Nat.div_lt_of_lt_mul
    rw [← Nat.pow_add, show 64 - i + i = 64 by omega]
    exact hx
  exact Nat.le_of_lt_succ (Nat.lt_of_lt_of_le h3 h2)
/-- One bit more at the front. -/
theorem top_succ (x n : Nat) (hn : n ≤ 63) : x / 2 ^ (64 - (n + 1)) = 2 * (x / 2 ^ (64 - n)) + bitN x n := by
  unfold bitN
  have e : 64 - n = (63 - n) + 1 := by omega
  rw [show 64 - (n + 1) = 63 - n by omega, e, Nat.pow_succ, ← Nat.div_div_eq_div_mul]
  omega

theorem home_f (x : Nat) : oracle_Home.f (x : Int) = some ((x / 128 : Nat) : Int) := by
  unfold oracle_Home.f
  rw [Int.natCast_ediv]; rfl
theorem rtag_f (x : Nat) : larderref04_Tag.f (x : Int) = some ((x % 128 : Nat) : Int) := by
  unfold larderref04_Tag.f
  rw [show Int.tmod (x : Int) 128 = ((x % 128 : Nat) : Int) from rfl, w64 (by omega)]
theorem rhome_f (x : Nat) (hx : x < 18446744073709551616) : larderref04_Home.f (x : Int) = some ((x / 128 : Nat) : Int) := by
  unfold larderref04_Home.f
  rw [show Int.tdiv (x : Int) 128 = ((x / 128 : Nat) : Int) from rfl, IntKind.wrap_u64]
  congr 1
  omega
theorem rbit_l (d : Nat) : ∀ (k x y i n : Nat), d = n - i → i ≤ n → n ≤ 63 → d < k → y = x * 2 ^ i % 18446744073709551616 →
    larderref04_Bit.l0 k (y : Int) (n : Int) (i : Int) = some ((x * 2 ^ n % 18446744073709551616 / 9223372036854775808 : Nat) : Int) := by
  induction d with
  | zero =>
    intro k x y i n hd hi hn hk hy
    obtain ⟨k, rfl⟩ : ∃ m, k = m + 1 := ⟨k - 1, by omega⟩
    simp only [larderref04_Bit.l0]
    obtain rfl : i = n := by omega
    rw [if_neg (by omega), show Int.tdiv (y : Int) 9223372036854775808 = ((y / 9223372036854775808 : Nat) : Int) from rfl, ← hy, IntKind.wrap_u64]
    congr 1
    have : y < 18446744073709551616 := by omega
    unfold wrap64
    omega
  | succ d ih =>
    intro k x y i n hd hi hn hk hy
    obtain ⟨k, rfl⟩ : ∃ m, k = m + 1 := ⟨k - 1, by omega⟩
    simp only [larderref04_Bit.l0]
    have e1 : wrap64 ((i : Int) + 1) = ((i + 1 : Nat) : Int) := by unfold wrap64; omega
    have e2 : IntKind.u64.wrap (Int.tmod (y : Int) 9223372036854775808 * 2) = ((y % 9223372036854775808 * 2 : Nat) : Int) := by
      rw [show Int.tmod (y : Int) 9223372036854775808 = ((y % 9223372036854775808 : Nat) : Int) from rfl, IntKind.wrap_u64]
      omega
    rw [if_pos (by omega), e1, e2]
    refine ih k x _ (i + 1) n (by omega) (by omega) hn (by omega) ?_
    rw [hy, Nat.pow_succ, ← Nat.mul_assoc]
    generalize x * 2 ^ i = z
    omega
theorem bit_is (x n : Nat) (hn : n ≤ 63) : x * 2 ^ n % 18446744073709551616 / 9223372036854775808 = bitN x n := by
  unfold bitN
  have e : 9223372036854775808 = 2 ^ (63 - n) * 2 ^ n := by rw [← Nat.pow_add, show 63 - n + n = 63 by omega]
  rw [show (18446744073709551616 : Nat) = 9223372036854775808 * 2 by rfl, Nat.mod_mul_right_div_self, e, Nat.mul_div_mul_right _ _ (Nat.two_pow_pos n)]
theorem rbit_f (x n k : Nat) (hx : x < 18446744073709551616) (hn : n ≤ 63) (hk : n + 2 ≤ k) : larderref04_Bit.f k (x : Int) (n : Int) = some ((bitN x n : Nat) : Int) := by
  obtain ⟨k, rfl⟩ : ∃ m, k = m + 1 := ⟨k - 1, by omega⟩
  unfold larderref04_Bit.f
  rw [if_neg (by omega)]
  simp only [larderref04_Bit.j0]
  rw [if_neg (by simp; omega), ← bit_is x n hn]
  exact rbit_l n k x x 0 n (by omega) (by omega) hn (by omega) (by omega)
theorem rbit_no (x a : Int) (k : Nat) (h : a < 0 ∨ a > 63) (hk : 1 ≤ k) : larderref04_Bit.f k x a = some 0 := by
  obtain ⟨k, rfl⟩ : ∃ m, k = m + 1 := ⟨k - 1, by omega⟩
  unfold larderref04_Bit.f
  rcases h with h | h
  · rw [if_pos h]; simp only [larderref04_Bit.j0]; rfl
  · rw [if_neg (by omega)]; simp only [larderref04_Bit.j0]; rw [if_pos (by simpa using h)]
theorem rtop_l (d : Nat) : ∀ (k x i n : Nat), x < 18446744073709551616 → d = n - i → i ≤ n → n ≤ 6 → d + 100 ≤ k →
    larderref04_Top.l0 k (x : Int) (n : Int) ((x / 2 ^ (64 - i) : Nat) : Int) (i : Int) = some ((x / 2 ^ (64 - n) : Nat) : Int) := by
  induction d with
  | zero =>
    intro k x i n hx hd hi hn hk
    obtain ⟨k, rfl⟩ : ∃ m, k = m + 1 := ⟨k - 1, by omega⟩
    simp only [larderref04_Top.l0]
    obtain rfl : i = n := by omega
    rw [if_neg (by omega)]
  | succ d ih =>
    intro k x i n hx hd hi hn hk
    obtain ⟨k, rfl⟩ : ∃ m, k = m + 1 := ⟨k - 1, by omega⟩
    simp only [larderref04_Top.l0]
    rw [if_pos (by omega), rbit_f x i k hx (by omega) (by omega)]
    simp only [Option.bind_some]
    have e1 : wrap64 ((i : Int) + 1) = ((i + 1 : Nat) : Int) := by unfold wrap64; omega
    have e2 : wrap64 (wrap64 (2 * ((x / 2 ^ (64 - i) : Nat) : Int)) + ((bitN x i : Nat) : Int)) = ((x / 2 ^ (64 - (i + 1)) : Nat) : Int) := by
      rw [top_succ x i (by omega)]
      exact dbl (top_le hx (by omega)) (bitN_lt x i)
    rw [e1, e2]
    exact ih k x (i + 1) n hx (by omega) (by omega) hn (by omega)
theorem rtop_f (x n k : Nat) (hx : x < 18446744073709551616) (hn : n ≤ 6) (hk : 107 ≤ k) : larderref04_Top.f k (x : Int) (n : Int) = some ((x / 2 ^ (64 - n) : Nat) : Int) := by
  unfold larderref04_Top.f
  rw [if_neg (by omega)]
  have h := rtop_l n k x 0 n hx (by omega) (by omega) hn (by omega)
  have e : x / 2 ^ (64 - 0) = 0 := Nat.div_eq_of_lt (by simpa using hx)
  rw [e] at h
  exact h
theorem rtop_lo (x a : Int) (k : Nat) (h : a ≤ 0) (hk : 1 ≤ k) : larderref04_Top.f k x a = some 0 := by
  obtain ⟨k, rfl⟩ : ∃ m, k = m + 1 := ⟨k - 1, by omega⟩
  unfold larderref04_Top.f
  rw [if_neg (by omega)]
  simp only [larderref04_Top.l0]
  rw [if_neg (by omega)]
theorem rtop_hi (x a : Int) (k : Nat) (h : a > 6) : larderref04_Top.f k x a = some 0 := by
  unfold larderref04_Top.f
  rw [if_pos h]

end Parts
open Parts
/-- The pure law. -/
theorem OracleParts : larderlaw04_OracleParts.Pure := by
  intro a0 a1 h0 _
  have hb := bounds_u64 h0
  obtain ⟨x, rfl⟩ := Int.eq_ofNat_of_zero_le hb.1
  have hx : x < 18446744073709551616 := by omega
  refine ⟨200, ?_⟩
  have key : ∃ t b, oracle_Top.f (x : Int) a1 = some t ∧ larderref04_Top.f 199 (x : Int) a1 = some t ∧ oracle_Bit.f (x : Int) a1 = some b ∧ larderref04_Bit.f 199 (x : Int) a1 = some b := by
    by_cases c1 : a1 < 0
    · exact ⟨0, 0, top_lo _ _ (by omega), rtop_lo _ _ _ (by omega) (by omega), bit_lo _ _ c1, rbit_no _ _ _ (.inl c1) (by omega)⟩
    · obtain ⟨n, rfl⟩ := Int.eq_ofNat_of_zero_le (show 0 ≤ a1 by omega)
      have ht : ∃ t, oracle_Top.f (x : Int) (n : Int) = some t ∧ larderref04_Top.f 199 (x : Int) (n : Int) = some t := by
        by_cases c2 : n ≤ 6
        · by_cases c3 : 1 ≤ n
          · exact ⟨_, top_f x n c3 c2 hx, rtop_f x n 199 hx c2 (by omega)⟩
          · exact ⟨0, top_lo _ _ (by omega), rtop_lo _ _ _ (by omega) (by omega)⟩
        · exact ⟨0, top_hi _ _ (by omega), rtop_hi _ _ _ (by omega)⟩
      have hbb : ∃ b, oracle_Bit.f (x : Int) (n : Int) = some b ∧ larderref04_Bit.f 199 (x : Int) (n : Int) = some b := by
        by_cases c2 : n ≤ 63
        · exact ⟨_, bit_f x n hx c2, rbit_f x n 199 hx c2 (by omega)⟩
        · exact ⟨0, bit_hi _ _ (by omega), rbit_no _ _ _ (.inr (by omega)) (by omega)⟩
      obtain ⟨t, t1, t2⟩ := ht
      obtain ⟨b, b1, b2⟩ := hbb
      exact ⟨t, b, t1, t2, b1, b2⟩
  obtain ⟨t, b, t1, t2, b1, b2⟩ := key
  unfold larderlaw04_OracleParts.f
  rw [tag_f x hx, rtag_f x, home_f x, rhome_f x hx]
  simp only [Option.bind_some, if_true, bne_self_eq_false]
  simp only [larderlaw04_OracleParts.j0]
  rw [if_neg (by decide), t1, t2, b1, b2]
  simp

end Go.Proofs.Ytabdkfmfenpkjaa.Pure
