/- The document's product of two numbers is their product modulo 2^64. -/
import Derived.Test.YtabdkfmfenpkjaaDoorRefNum
import Derived.Test.YtabdkfmfenpkjaaDoorRefTimes
namespace Go.Proofs.YtabdkfmfenpkjaaDoor.ref
open Go.RowKit Go.Proofs.YtabdkfmfenpkjaaDoorW.PrintWords
theorem prod (a0 a1 a2 a3 b0 b1 b2 b3 : Int) : (a0 + 65536*a1 + 4294967296*a2 + 281474976710656*a3) * (b0 + 65536*b1 + 4294967296*b2 + 281474976710656*b3) =
    a0*b0 + 65536*(a0*b1 + a1*b0) + 4294967296*(a0*b2 + a1*b1 + a2*b0) + 281474976710656*(a0*b3+a1*b2+a2*b1+a3*b0) + 18446744073709551616*((a1*b3+a2*b2+a3*b1) + 65536*(a2*b3+a3*b2) + 4294967296*(a3*b3)) := by
  grind
theorem lin (p00 p01 p02 p03 p10 p11 p12 p20 p21 p30 t01 t02 t03 t10 t11 t12 t20 t21 t30 K X : Int)
   (e01 : p01 + p00 / 65536 = t01) (e02 : p02 + t01 / 65536 = t02) (e03 : p03 + t02/65536 = t03)
   (e10 : t01 % 65536 + p10 = t10) (e11 : t02 % 65536 + p11 + t10 / 65536 = t11) (e12 : t03 % 65536 + p12 + t11 / 65536 = t12)
   (e20 : t11 % 65536 + p20 = t20) (e21 : t12 % 65536 + p21 + t20 / 65536 = t21) (e30 : t21 % 65536 + p30 = t30)
   (hX : X = p00 + 65536*(p01 + p10) + 4294967296*(p02 + p11 + p20) + 281474976710656*(p03+p12+p21+p30) + 18446744073709551616*K) :
   X % 18446744073709551616 = p00 % 65536 + 65536 * (t10 % 65536) + 4294967296 * (t20 % 65536) + 281474976710656 * (t30 % 65536) := by
  omega
def dg : Int → Nat → Int
  | v, 0 => v % 65536
  | v, k + 1 => dg (v / 65536) k
theorem dg_ok : ∀ (k : Nat) (v : Int), 0 ≤ dg v k ∧ dg v k < 65536
  | 0, v => by show 0 ≤ v % 65536 ∧ v % 65536 < 65536; omega
  | k + 1, v => dg_ok k (v / 65536)
theorem numD_dg (v : Int) : numD v = num (dg v 0) (dg v 1) (dg v 2) (dg v 3) := rfl
theorem sum_dg (v : Int) (h : 0 ≤ v ∧ v < 18446744073709551616) : v = dg v 0 + 65536 * dg v 1 + 4294967296 * dg v 2 + 281474976710656 * dg v 3 := by
  show v = v % 65536 + 65536 * (v / 65536 % 65536) + 4294967296 * (v / 65536 / 65536 % 65536) + 281474976710656 * (v / 65536 / 65536 / 65536 % 65536)
  omega
theorem outer_eqs (A B : Nat → Int) (p00 p01 p02 p03 p10 p11 p12 p20 p21 p30 t01 t02 t03 t10 t11 t12 t20 t21 t30 : Int)
   (h00 : A 0 * B 0 = p00) (h01 : A 0 * B 1 = p01) (h02 : A 0 * B 2 = p02) (h03 : A 0 * B 3 = p03) (h10 : A 1 * B 0 = p10) (h11 : A 1 * B 1 = p11) (h12 : A 1 * B 2 = p12) (h20 : A 2 * B 0 = p20) (h21 : A 2 * B 1 = p21) (h30 : A 3 * B 0 = p30)
   (e01 : p01 + p00 / 65536 = t01) (e02 : p02 + t01 / 65536 = t02) (e03 : p03 + t02/65536 = t03)
   (e10 : t01 % 65536 + p10 = t10) (e11 : t02 % 65536 + p11 + t10 / 65536 = t11) (e12 : t03 % 65536 + p12 + t11 / 65536 = t12)
   (e20 : t11 % 65536 + p20 = t20) (e21 : t12 % 65536 + p21 + t20 / 65536 = t21) (e30 : t21 % 65536 + p30 = t30) :
   outer A B 4 0 = p00 % 65536 ∧ outer A B 4 1 = t10 % 65536 ∧ outer A B 4 2 = t20 % 65536 ∧ outer A B 4 3 = t30 % 65536 := by
  simp [outer, inner, tstep, tval, h00, h01, h02, h03, h10, h11, h12, h20, h21, h30, e01, e02, e03, e10, e11, e12, e20, e21, e30]
theorem times_val (w : World) (x y z : Int) (hx : 0 ≤ x ∧ x < 18446744073709551616) (hy : 0 ≤ y ∧ y < 18446744073709551616) (hz : (x * y) % 18446744073709551616 = z) :
    Calls Tryd.prog 18 #[numD x, numD y] w fun e w' => e = .returned (numD z) ∧ Below w.heap.size w w' := by
  have W := times_walk (dg x) (dg y) (fun k => dg_ok k x) (fun k => dg_ok k y) w
  have sx := sum_dg x hx
  have sy := sum_dg y hy
  rw [numD_dg x, numD_dg y]
  rw [sx, sy, prod] at hz
  have o0 := (outer_ok (A := dg x) (B := dg y) (fun k => dg_ok k x) (fun k => dg_ok k y) 4) 0
  have o1 := (outer_ok (A := dg x) (B := dg y) (fun k => dg_ok k x) (fun k => dg_ok k y) 4) 1
  have o2 := (outer_ok (A := dg x) (B := dg y) (fun k => dg_ok k x) (fun k => dg_ok k y) 4) 2
  have o3 := (outer_ok (A := dg x) (B := dg y) (fun k => dg_ok k x) (fun k => dg_ok k y) 4) 3
  obtain ⟨q0, q1, q2, q3⟩ := outer_eqs (dg x) (dg y) _ _ _ _ _ _ _ _ _ _ _ _ _ _ _ _ _ _ _ rfl rfl rfl rfl rfl rfl rfl rfl rfl rfl rfl rfl rfl rfl rfl rfl rfl rfl rfl
  have hl := lin _ _ _ _ _ _ _ _ _ _ _ _ _ _ _ _ _ _ _ _ _ rfl rfl rfl rfl rfl rfl rfl rfl rfl (rfl : dg x 0 * dg y 0 + 65536 * (dg x 0 * dg y 1 + dg x 1 * dg y 0) + 4294967296 * (dg x 0 * dg y 2 + dg x 1 * dg y 1 + dg x 2 * dg y 0) + 281474976710656 * (dg x 0 * dg y 3 + dg x 1 * dg y 2 + dg x 2 * dg y 1 + dg x 3 * dg y 0) +
        18446744073709551616 * (dg x 1 * dg y 3 + dg x 2 * dg y 2 + dg x 3 * dg y 1 + 65536 * (dg x 2 * dg y 3 + dg x 3 * dg y 2) + 4294967296 * (dg x 3 * dg y 3)) = _)
  rw [hz, ← q0, ← q1, ← q2, ← q3] at hl
  exact W.mono fun e w' ⟨he, hb⟩ => ⟨he.trans (congrArg Ending.returned (num_eq _ _ _ _ z hl o0 o1 o2 o3)), hb⟩
end Go.Proofs.YtabdkfmfenpkjaaDoor.ref
