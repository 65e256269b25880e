/- The mixer in plain numbers: it is one to one in its seed and in each byte of its key; and the walk's answer is it. -/
import Derived.Test.YtabdkfmfenpkjaaDoorMix
namespace Go.Proofs.YtabdkfmfenpkjaaDoor.OrMath
def M : Nat := 18446744073709551616
def kA : Nat := 13234230157428861123
def kB : Nat := 11329751410908088055
def mul (x k : Nat) : Nat := x * k % M
def shx (x s : Nat) : Nat := x ^^^ x / 2 ^ s
def mixStep (h c : Nat) : Nat := shx (mul (h ^^^ c) kB) 31
def mixEnd (h : Nat) : Nat := shx (mul (shx h 29) kA) 32
def mixGo (h : Nat) (l : List Nat) : Nat := l.foldl mixStep h
def mix (seed : Nat) (l : List Nat) : Nat := mixEnd (mixGo (seed ^^^ mul (1 + l.length) kA) l)

theorem M_eq : M = 2 ^ 64 := by unfold M; rfl
theorem M_pos : 0 < M := by unfold M; omega
theorem tb_high {x i : Nat} (hx : x < M) (hi : 64 ≤ i) : x.testBit i = false := by
  apply Nat.testBit_lt_two_pow
  rw [M_eq] at hx
  exact Nat.lt_of_lt_of_le hx (Nat.pow_le_pow_right (by decide) hi)
theorem lt_xor {x y : Nat} (hx : x < M) (hy : y < M) : x ^^^ y < M := by
  rw [M_eq] at *
  exact Nat.xor_lt_two_pow hx hy
theorem shx_lt {x : Nat} (s : Nat) (hx : x < M) : shx x s < M := lt_xor hx (Nat.lt_of_le_of_lt (Nat.div_le_self _ _) hx)
theorem mul_lt (x k : Nat) : mul x k < M := Nat.mod_lt _ M_pos
theorem shx_inj {k : Nat} (hk : 0 < k) {x y : Nat} (hx : x < M) (hy : y < M) (h : shx x k = shx y k) : x = y := by
  have hb : ∀ d i, 64 - i ≤ d → x.testBit i = y.testBit i := by
    intro d
    induction d with
    | zero =>
      intro i hi
      rw [tb_high hx (by omega), tb_high hy (by omega)]
    | succ d ih =>
      intro i hi
      have h1 := congrArg (fun z => z.testBit i) h
      simp only [shx, Nat.testBit_xor, Nat.testBit_div_two_pow] at h1
      by_cases h64 : 64 ≤ i
      · exact ih i (by omega)
      · have h2 := ih (i + k) (by omega)
        rw [h2] at h1
        revert h1
        cases x.testBit i <;> cases y.testBit i <;> cases y.testBit (i + k) <;> simp
  apply Nat.eq_of_testBit_eq
  intro i
  exact hb 64 i (by omega)
theorem mul_inj (a b : Nat) (hab : a * b % M = 1) {x y : Nat} (hx : x < M) (hy : y < M) (h : mul x a = mul y a) : x = y := by
  have e : ∀ z, z < M → mul z a * b % M = z := by
    intro z hz
    unfold mul
    rw [Nat.mod_mul_mod, Nat.mul_assoc, ← Nat.mul_mod_mod, hab, Nat.mul_one, Nat.mod_eq_of_lt hz]
  rw [← e x hx, ← e y hy, h]
theorem mulA_inj {x y : Nat} (hx : x < M) (hy : y < M) (h : mul x kA = mul y kA) : x = y := mul_inj kA 1295998937641175019 (by unfold kA M; rfl) hx hy h
theorem mulB_inj {x y : Nat} (hx : x < M) (hy : y < M) (h : mul x kB = mul y kB) : x = y := mul_inj kB 11986966857307544263 (by unfold kB M; rfl) hx hy h
theorem xor_inj_left {x y c : Nat} (h : x ^^^ c = y ^^^ c) : x = y := by
  have := congrArg (· ^^^ c) h
  simpa [Nat.xor_assoc] using this
theorem xor_inj_right {x y c : Nat} (h : c ^^^ x = c ^^^ y) : x = y := by
  rw [Nat.xor_comm c x, Nat.xor_comm c y] at h
  exact xor_inj_left h
theorem step_lt (h c : Nat) : mixStep h c < M := shx_lt _ (mul_lt _ _)
theorem step_inj_h {h h' c : Nat} (hh : h < M) (hh' : h' < M) (hc : c < M) (e : mixStep h c = mixStep h' c) : h = h' :=
  xor_inj_left (mulB_inj (lt_xor hh hc) (lt_xor hh' hc) (shx_inj (by decide) (mul_lt _ _) (mul_lt _ _) e))
theorem step_inj_c {h c c' : Nat} (hh : h < M) (hc : c < M) (hc' : c' < M) (e : mixStep h c = mixStep h c') : c = c' :=
  xor_inj_right (mulB_inj (lt_xor hh hc) (lt_xor hh hc') (shx_inj (by decide) (mul_lt _ _) (mul_lt _ _) e))
theorem end_inj {h h' : Nat} (hh : h < M) (hh' : h' < M) (e : mixEnd h = mixEnd h') : h = h' :=
  shx_inj (by decide) hh hh' (mulA_inj (shx_lt _ hh) (shx_lt _ hh') (shx_inj (by decide) (mul_lt _ _) (mul_lt _ _) e))
theorem end_lt (h : Nat) : mixEnd h < M := shx_lt _ (mul_lt _ _)
theorem go_nil (h : Nat) : mixGo h [] = h := by unfold mixGo; rw [List.foldl_nil]
theorem go_cons (h c : Nat) (l : List Nat) : mixGo h (c :: l) = mixGo (mixStep h c) l := by unfold mixGo; rw [List.foldl_cons]
theorem go_append (h : Nat) (l l' : List Nat) : mixGo h (l ++ l') = mixGo (mixGo h l) l' := by unfold mixGo; rw [List.foldl_append]
attribute [irreducible] mixStep mixGo mixEnd
theorem go_lt (l : List Nat) : ∀ {h : Nat}, h < M → mixGo h l < M := by
  induction l with
  | nil => intro h hh; rw [go_nil]; exact hh
  | cons c l ih => intro h _; rw [go_cons]; exact ih (step_lt h c)
theorem go_inj (l : List Nat) (hl : ∀ c ∈ l, c < M) : ∀ {h h' : Nat}, h < M → h' < M → mixGo h l = mixGo h' l → h = h' := by
  induction l with
  | nil => intro h h' _ _ e; rw [go_nil, go_nil] at e; exact e
  | cons c l ih =>
    intro h h' hh hh' e
    rw [go_cons, go_cons] at e
    exact step_inj_h hh hh' (hl c List.mem_cons_self) (ih (fun x hx => hl x (List.mem_cons_of_mem _ hx)) (step_lt h c) (step_lt h' c) e)
theorem mix_lt (s : Nat) (l : List Nat) : mix s l < M := end_lt _
theorem mix_apart {s s' : Nat} {l : List Nat} (hl : ∀ c ∈ l, c < M) (hs : s < M) (hs' : s' < M) : mix s l = mix s' l ↔ s = s' := by
  refine ⟨fun e => ?_, fun e => by rw [e]⟩
  have h1 := lt_xor hs (mul_lt (1 + l.length) kA)
  have h2 := lt_xor hs' (mul_lt (1 + l.length) kA)
  exact xor_inj_left (go_inj l hl h1 h2 (end_inj (go_lt l h1) (go_lt l h2) e))
theorem mix_one {s x y : Nat} {p q : List Nat} (hq : ∀ c ∈ q, c < M) (hx : x < M) (hy : y < M) (hs : s < M) :
    mix s (p ++ [x] ++ q) = mix s (p ++ [y] ++ q) ↔ x = y := by
  refine ⟨fun e => ?_, fun e => by rw [e]⟩
  have hlen : (p ++ [x] ++ q).length = (p ++ [y] ++ q).length := by simp
  have ea : ∀ (g z : Nat), mixGo g (p ++ [z] ++ q) = mixGo (mixStep (mixGo g p) z) q := fun g z => by
    rw [go_append, go_append, go_cons, go_nil]
  unfold mix at e
  rw [hlen, ea, ea] at e
  generalize hg : s ^^^ mul (1 + (p ++ [y] ++ q).length) kA = g at e
  have h1 : g < M := by rw [← hg]; exact lt_xor hs (mul_lt _ _)
  have e1 := end_inj (go_lt q (step_lt _ x)) (go_lt q (step_lt _ y)) e
  exact step_inj_c (go_lt p h1) hx hy (go_inj q hq (step_lt _ x) (step_lt _ y) e1)
end Go.Proofs.YtabdkfmfenpkjaaDoor.OrMath
namespace Go.Proofs.YtabdkfmfenpkjaaDoor.Mix
open Go.RowKit OrMath
theorem xor_cast {a b : Nat} (ha : a < M) (hb : b < M) : bits .xor .u64 (a : Int) (b : Int) = ((a ^^^ b : Nat) : Int) := by
  unfold M at ha hb
  exact bits_xor_u64_nat a b ha hb
theorem wrap_cast (a : Nat) : IntKind.u64.wrap (a : Int) = ((a % M : Nat) : Int) := by
  rw [IntKind.wrap_u64]
  unfold M
  omega
theorem step_cast {h : Nat} (c : UInt8) (hh : h < M) : istep (h : Int) c = ((mixStep h c.toNat : Nat) : Int) := by
  have hc : c.toNat < M := Nat.lt_of_lt_of_le c.toNat_lt (by unfold M; omega)
  unfold istep
  rw [wrap_cast, Nat.mod_eq_of_lt hc, xor_cast hh hc]
  have e1 : IntKind.u64.wrap (((h ^^^ c.toNat : Nat) : Int) * 11329751410908088055) = ((mul (h ^^^ c.toNat) kB : Nat) : Int) := by
    rw [← show (((h ^^^ c.toNat) * kB : Nat) : Int) = ((h ^^^ c.toNat : Nat) : Int) * 11329751410908088055 from by rw [Int.natCast_mul]; rfl, wrap_cast]
    rfl
  rw [e1]
  have hm := mul_lt (h ^^^ c.toNat) kB
  have e2 : ((mul (h ^^^ c.toNat) kB : Nat) : Int) / 2147483648 = ((mul (h ^^^ c.toNat) kB / 2147483648 : Nat) : Int) := by omega
  rw [e2, xor_cast hm (Nat.lt_of_le_of_lt (Nat.div_le_self _ _) hm), mixStep, shx]
theorem end_cast {h : Nat} (hh : h < M) : iend (h : Int) = ((mixEnd h : Nat) : Int) := by
  unfold iend
  have e0 : ((h : Nat) : Int) / 536870912 = ((h / 536870912 : Nat) : Int) := by omega
  rw [e0, xor_cast hh (Nat.lt_of_le_of_lt (Nat.div_le_self _ _) hh)]
  have e1 : IntKind.u64.wrap (((h ^^^ h / 536870912 : Nat) : Int) * 13234230157428861123) = ((mul (shx h 29) kA : Nat) : Int) := by
    rw [← show (((h ^^^ h / 536870912) * kA : Nat) : Int) = ((h ^^^ h / 536870912 : Nat) : Int) * 13234230157428861123 from by rw [Int.natCast_mul]; rfl, wrap_cast]
    rfl
  rw [e1]
  have hm := mul_lt (shx h 29) kA
  have e2 : ((mul (shx h 29) kA : Nat) : Int) / 4294967296 = ((mul (shx h 29) kA / 4294967296 : Nat) : Int) := by omega
  rw [e2, xor_cast hm (Nat.lt_of_le_of_lt (Nat.div_le_self _ _) hm), mixEnd]
  rfl
theorem go_cast (l : List UInt8) : ∀ {h : Nat}, h < M → l.foldl istep (h : Int) = ((mixGo h (l.map UInt8.toNat) : Nat) : Int) := by
  induction l with
  | nil => intro h _; rw [List.map_nil, go_nil]; rfl
  | cons c l ih =>
    intro h hh
    rw [List.map_cons, go_cons, List.foldl_cons, step_cast c hh]
    exact ih (step_lt h _)
theorem start_cast {s n : Nat} (hs : s < M) (hn : n < 9223372036854775807) : istart (s : Int) n = ((s ^^^ mul (1 + n) kA : Nat) : Int) := by
  unfold istart
  have e0 : wrap64 (1 + (n : Int)) = ((1 + n : Nat) : Int) := by
    rw [wrap64]; omega
  have e1 : (1 + n) % M = 1 + n := Nat.mod_eq_of_lt (by unfold M; omega)
  rw [e0, wrap_cast, e1]
  have e2 : IntKind.u64.wrap (13234230157428861123 * ((1 + n : Nat) : Int)) = ((mul (1 + n) kA : Nat) : Int) := by
    rw [← show (((1 + n) * kA : Nat) : Int) = 13234230157428861123 * ((1 + n : Nat) : Int) from by rw [Int.natCast_mul, Int.mul_comm]; rfl, wrap_cast]
    rfl
  rw [e2, xor_cast hs (mul_lt _ _)]
/-- THE ANSWER IN PLAIN NUMBERS. -/
theorem imix_cast {s : Nat} {l : List UInt8} (hs : s < M) (hl : l.length < 9223372036854775807) : imix (s : Int) l = ((mix s (l.map UInt8.toNat) : Nat) : Int) := by
  unfold imix
  rw [start_cast hs hl, go_cast l (lt_xor hs (mul_lt _ _)), end_cast (go_lt _ (lt_xor hs (mul_lt _ _)))]
  unfold mix
  rw [List.length_map]
theorem bytes_lt (l : List UInt8) : ∀ c ∈ l.map UInt8.toNat, c < M := by
  intro c hc
  obtain ⟨u, _, rfl⟩ := List.mem_map.1 hc
  exact Nat.lt_of_lt_of_le u.toNat_lt (by unfold M; omega)
theorem imix_apart {a b : Int} {l : List UInt8} (ha : 0 ≤ a ∧ a < 18446744073709551616) (hb : 0 ≤ b ∧ b < 18446744073709551616) (hl : l.length < 9223372036854775807) : imix a l = imix b l ↔ a = b := by
  obtain ⟨x, rfl⟩ := Int.eq_ofNat_of_zero_le ha.1
  obtain ⟨y, rfl⟩ := Int.eq_ofNat_of_zero_le hb.1
  have hx : x < M := by unfold M; omega
  have hy : y < M := by unfold M; omega
  rw [imix_cast hx hl, imix_cast hy hl, Int.ofNat_inj, Int.ofNat_inj]
  exact mix_apart (bytes_lt l) hx hy
theorem imix_one {s : Int} {x y : UInt8} {p q : List UInt8} (hs : 0 ≤ s ∧ s < 18446744073709551616) (hl : (p ++ [x] ++ q).length < 9223372036854775807) : imix s (p ++ [x] ++ q) = imix s (p ++ [y] ++ q) ↔ x = y := by
  obtain ⟨a, rfl⟩ := Int.eq_ofNat_of_zero_le hs.1
  have ha : a < M := by unfold M; omega
  have hl' : (p ++ [y] ++ q).length < 9223372036854775807 := by simpa using hl
  rw [imix_cast ha hl, imix_cast ha hl', Int.ofNat_inj]
  simp only [List.map_append, List.map_cons, List.map_nil]
  rw [mix_one (bytes_lt q) (Nat.lt_of_lt_of_le x.toNat_lt (by unfold M; omega)) (Nat.lt_of_lt_of_le y.toNat_lt (by unfold M; omega)) ha]
  exact ⟨fun h => UInt8.toNat_inj.1 h, fun h => by rw [h]⟩
end Go.Proofs.YtabdkfmfenpkjaaDoor.Mix
