/- A word of 64 bits as text: the library's base 16, the program's and the document's, walked. -/
import Derived.Test.YtigaacbaaopfmaaDoorBlt
namespace Go.Proofs.YtigaacbaaopfmaaDoor.sh
open Go.RowKit
set_option linter.unusedVariables false
/-- A number's digits to the base 16. -/
def hexW (u : Nat) : List UInt8 := if h : u < 16 then [hexd u] else hexW (u / 16) ++ [hexd (u % 16)]
theorem hexW_small {u : Nat} (h : u < 16) : hexW u = [hexd u] := by rw [hexW, dif_pos h]
theorem hexW_big {u : Nat} (h : ¬ u < 16) : hexW u = hexW (u / 16) ++ [hexd (u % 16)] := by
  conv => lhs; rw [hexW, dif_neg h]
theorem hexW_len : ∀ (k u : Nat), u < 16 ^ (k + 1) → (hexW u).length ≤ k + 1
  | 0, u, h => by rw [hexW_small (by omega)]; simp
  | k + 1, u, h => by
    by_cases hu : u < 16
    · rw [hexW_small hu]; simp
    · rw [hexW_big hu]
      have := hexW_len k (u / 16) (by rw [Nat.pow_succ] at h; omega)
      simp only [List.length_append, List.length_cons, List.length_nil]
      omega
theorem hexW_len16 {u : Nat} (h : u < 18446744073709551616) : (hexW u).length ≤ 16 := hexW_len 15 u (by omega)
theorem and15w (u : Nat) (h : u < 18446744073709551616) : bits BinOp.and IntKind.u64 (u : Int) 15 = ((u % 16 : Nat) : Int) := by
  have e : (BitVec.ofInt 64 (u : Int) &&& BitVec.ofInt 64 15).toNat = u % 16 := by
    rw [BitVec.toNat_and]
    have h1 : (BitVec.ofInt 64 (u : Int)).toNat = u := by rw [BitVec.toNat_ofInt]; omega
    have h2 : (BitVec.ofInt 64 15).toNat = 15 := by decide
    rw [h1, h2]
    exact Nat.and_two_pow_sub_one_eq_mod u 4
  show IntKind.u64.wrap ((BitVec.ofInt 64 (u : Int) &&& BitVec.ofInt 64 15).toNat : Int) = _
  rw [e]
  unfold IntKind.wrap
  have hs : IntKind.u64.signed = false := rfl
  have hb : IntKind.u64.bits = 64 := rfl
  simp only [hs, hb]
  simp
  omega
set_option maxHeartbeats 2000000 in
theorem pow2_walk (w : World) : Calls Tryd.prog 104 #[.int .i64 16] w fun e w' => e = .returned (.bool true) ∧ w' = w := by
  go_enter Tryd.func104, Tryd.ntmps104
  go_wp2
  go_ret
  exact ⟨rfl, rfl⟩
set_option maxHeartbeats 2000000 in
theorem tz_walk (w : World) (h : w.cell? ⟨6, 15, none⟩ = some (.int .u8 4)) : Calls Tryd.prog 117 #[.int .u64 16] w fun e w' => e = .returned (.int .i64 4) ∧ w' = w := by
  have e1 : IntKind.u64.wrap (bits BinOp.and IntKind.u64 16 (IntKind.u64.wrap (-16)) * 285870213051353865) / 288230376151711744 = 15 := by decide +kernel
  go_enter Tryd.func117, Tryd.ntmps117
  go_wp2
  go_ret
  exact ⟨rfl, rfl⟩
set_option maxHeartbeats 2000000 in
theorem tzs_walk (w : World) (h : w.cell? ⟨6, 15, none⟩ = some (.int .u8 4)) : Calls Tryd.prog 105 #[.int .u64 16] w fun e w' => e = .returned (.int .i64 4) ∧ w' = w := by
  go_enter Tryd.func105, Tryd.ntmps105
  go_wp2_with (go_at_call 117; (with_reducible refine (tz_walk _ h).mono ?_); rintro e w1 ⟨rfl, rfl⟩)
  go_ret
  exact ⟨rfl, rfl⟩
abbrev dgs36 : ByteArray := { data := #[48, 49, 50, 51, 52, 53, 54, 55, 56, 57, 97, 98, 99, 100, 101, 102, 103, 104, 105, 106, 107, 108, 109, 110, 111, 112, 113, 114, 115, 116, 117, 118, 119, 120, 121, 122] }
theorem dgs36_at (v : Nat) (hv : v < 16) (W : World) : (Instr.index 9 (.string dgs36) (.int .u64 (v : Int))).run Tryd.prog W = .ok (.int .u8 (hexd v).toNat) W := by
  have : ∀ v : Fin 16, (dgs36.data.toList[v.val]'(Nat.lt_of_lt_of_le v.isLt (by decide))) = hexd v.val := by decide
  rw [run_index_string (h := Tryd.underlying9), dif_pos (by show 0 ≤ (v : Int) ∧ (v : Int) < 36; omega)]
  have h := this ⟨v, hv⟩
  simp only at h
  rw [← h]
  rfl

theorem zero160 : Tryd.zeroCells160 = madeCells #[.int .u8 0] 65 := by kernel_rfl
theorem len160 : Tryd.prog.arrayLen 160 = 65 := by kernel_rfl
theorem elem160 : Tryd.prog.elem 160 = 5 := by kernel_rfl
theorem slice160 (W : World) (b k : Nat) (hk : k < 65) : (Instr.sliceAt 160 (.pointer (some ⟨b, 0, none⟩)) (some (.int .i64 (k : Int))) none none).run Tryd.prog W = .ok (.slice (some ⟨b, k, none⟩) (65 - k) (65 - k)) W := by
  have hu : Tryd.prog.underlying 160 = some (.array (Tryd.prog.arrayLen 160) (Tryd.prog.elem 160)) := by rw [len160, elem160]; exact Tryd.underlying160
  rw [run_sliceAt_array_l W 160 ⟨b, 0, none⟩ hu .i64 (k : Int) (by omega) (by rw [len160]; omega), elem160, Tryd.sizeOf5, len160]
  have h2 : (⟨b, 0, none⟩ : Addr).add k = ⟨b, k, none⟩ := by unfold Addr.add; split <;> simp_all
  simp only [Result.andThen, slicedAt, Int.toNat_natCast, Nat.mul_one, h2]
  rw [if_neg (by omega)]
theorem conv_row {W : World} {b i : Nat} {f : Nat → Value} {l : List UInt8} (h : W.rowIs b 160 65 f) (hl : i + l.length = 65) (hf : ∀ (j : Nat) (c : UInt8), l[j]? = some c → f (i + j) = .int .u8 (c.toNat : Int)) :
    (convert 61 9 (.slice (some ⟨b, i, none⟩) l.length l.length)).run Tryd.prog W = .ok (.string (B l)) W := by
  refine run_convert_bytes_back W 61 9 5 ⟨b, i, none⟩ l.length l Tryd.underlying61 Tryd.underlying5 Tryd.underlying9 (fun j hj => ?_)
  have hadd : (⟨b, i, none⟩ : Addr).add j = ⟨b, i + j, none⟩ := by unfold Addr.add; split <;> simp_all
  rw [hadd, h.cell (by omega), hf j _ (List.getElem?_eq_getElem hj)]
set_option maxHeartbeats 8000000 in
set_option maxRecDepth 100000 in
theorem formatBits_walk (w : World) (u : Nat) (hu : u < 18446744073709551616) (h : w.cell? ⟨6, 15, none⟩ = some (.int .u8 4)) :
    Calls Tryd.prog 91 #[.slice none 0 0, .int .u64 u, .int .i64 16, .bool false, .bool false] w fun e w' => e = .returned (.tuple #[.slice none 0 0, .string (B (hexW u))]) ∧ Below w.heap.size w w' := by
  have hlen := hexW_len16 hu
  obtain ⟨R, hR⟩ : ∃ R, hexW u = R := ⟨_, rfl⟩
  rw [hR] at hlen ⊢
  have hz : ∀ o, (w.alloc o).cell? ⟨6, 15, none⟩ = some (.int .u8 4) := fun o => cell_below h ((Below.refl w.heap.size w).alloc (Nat.le_refl _) o) (Nat.le_refl _)
  go_enter Tryd.func91, Tryd.ntmps91
  go_wp2_with (first
    | (go_at_call 104; (with_reducible refine (pow2_walk _).mono ?_); rintro e w1 ⟨rfl, rfl⟩)
    | (go_at_call 105; (with_reducible refine (tzs_walk _ (hz _)).mono ?_); rintro e w1 ⟨rfl, rfl⟩))
  go_loopg [1, 13] u (fun g v1 v13 wr => ∃ (i : Nat) (S : List UInt8) (f : Nat → Value), v1 = .int .u64 g ∧ v13 = .int .i64 i ∧ i + S.length = 65 ∧ g < 18446744073709551616 ∧ Aside0 (R = hexW g ++ S) ∧ wr.rowIs w.heap.size 160 65 f ∧ (∀ (j : Nat) (c : UInt8), S[j]? = some c → f (i + j) = .int .u8 (c.toNat : Int)) ∧ Below w.heap.size w wr)
  case atStart => exact ⟨65, [], fun _ => .int .u8 0, rfl, rfl, rfl, hu, ⟨by rw [← hR]; simp⟩, by rw [zero160]; exact World.rowIs_made w (.int .u8 0) 65 160, fun j c hj => by simp at hj, (Below.refl _ _).alloc (Nat.le_refl _) _⟩
  case round =>
    obtain ⟨i, S, f, rfl, rfl, hiS, hg, hA, row, hS, hB⟩ := hrel
    clear hz h hR hu
    have hSl : S.length + (hexW gk).length ≤ 16 := by
      have := congrArg List.length hA.out
      rw [List.length_append] at this
      omega
    obtain ⟨k, rfl⟩ : ∃ k, i = k + 1 := ⟨i - 1, by omega⟩
    have hk : k < 65 := by omega
    have hk1 : ((k + 1 : Nat) : Int) - 1 = (k : Int) := by omega
    have hkc := row.cell hk
    have hkf := row.frozen k
    by_cases hbig : gk < 16
    · have hlt : ¬ ((gk : Int) ≥ 16) := by omega
      have hidx := fun W => dgs36_at gk hbig W
      have hd := hexW_small hbig
      have row' := row.set k (.int .u8 (hexd gk).toNat)
      have hR' : Aside0 (R = hexd gk :: S) := ⟨by rw [hA.out, hd]; rfl⟩
      have hconv := conv_row (i := k) (l := R) row' (by rw [hR'.out, List.length_cons]; omega) (fun j c hj => by
        rw [hR'.out] at hj
        match j, hj with
        | 0, hj => simp at hj; subst hj; simp
        | j + 1, hj =>
          simp only [List.getElem?_cons_succ] at hj
          have := hS j c hj
          have hne : k + (j + 1) ≠ k := by omega
          simp only [hne, if_false]
          rw [show k + (j + 1) = k + 1 + j by omega]; exact this)
      have hRl : R.length = 65 - k := by rw [hR'.out, List.length_cons]; omega
      rw [hRl] at hconv
      have hsl := fun W => slice160 W w.heap.size k hk
      clear hS hA hSl hd
      go_wp2
      go_ret2
      exact ⟨rfl, hB.setCell (p := ⟨w.heap.size, k, none⟩) (Nat.le_refl _) _⟩
    · have hlt : ((gk : Int) ≥ 16) := by omega
      have hidx := fun W => dgs36_at (gk % 16) (by omega) W
      have hand := and15w gk hg
      have hmod : ((gk % 16 : Nat) : Int) = (gk : Int) % 16 := by omega
      rw [hmod] at hidx hand
      clear hmod
      have hR' : Aside0 (R = hexW (gk / 16) ++ hexd (gk % 16) :: S) := ⟨by rw [hA.out, hexW_big hbig, List.append_assoc]; rfl⟩
      have row' := row.set k (.int .u8 (hexd (gk % 16)).toNat)
      have HS : Aside0 (∀ (j : Nat) (c : UInt8), (hexd (gk % 16) :: S)[j]? = some c → (if k + j = k then Value.int .u8 ((hexd (gk % 16)).toNat : Int) else f (k + j)) = .int .u8 (c.toNat : Int)) := ⟨fun j c hj => by
        match j, hj with
        | 0, hj => simp at hj; subst hj; simp
        | j + 1, hj =>
          simp only [List.getElem?_cons_succ] at hj
          have := hS j c hj
          have hne : k + (j + 1) ≠ k := by omega
          simp only [hne, if_false]
          rw [show k + (j + 1) = k + 1 + j by omega]; exact this⟩
      clear hS hA hSl
      generalize hexd (gk % 16) = x at hidx hR' row' HS
      go_wp2
      go_roundg (gk / 16)
      case measure => omega
      case rel => exact ⟨k, x :: S, _, by go_num, by go_num, by simp only [List.length_cons]; omega, by omega, hR', row', HS.out, hB.setCell (p := ⟨w.heap.size, k, none⟩) (Nat.le_refl _) _⟩
end Go.Proofs.YtigaacbaaopfmaaDoor.sh
