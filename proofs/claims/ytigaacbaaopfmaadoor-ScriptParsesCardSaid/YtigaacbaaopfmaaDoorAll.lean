/- Are the bytes of a text digits to the base: walked. -/
import Derived.Test.YtigaacbaaopfmaaDoorNum
import Derived.Laws.RangeAny
namespace Go.Proofs.YtigaacbaaopfmaaDoor.sh
open Go.RowKit
set_option linter.unusedVariables false
/-- A digit to the base 10 (b: 16). -/
def isD (b : Bool) (c : UInt8) : Bool := decide (48 ≤ c.toNat ∧ c.toNat ≤ 57) || b && (decide (97 ≤ c.toNat ∧ c.toNat ≤ 102) || decide (65 ≤ c.toNat ∧ c.toNat ≤ 70))
def allD (b : Bool) (l : List UInt8) : Bool := !l.isEmpty && l.all (isD b)
def base (b : Bool) : Int := if b then 16 else 10
theorem all_no {b : Bool} {s : ByteArray} {p : Nat} (hp : p < s.size) (h : isD b (s[p]'hp) = false) : allD b s.data.toList = false := by
  have : s.data.toList.all (isD b) = false := by
    rw [List.all_eq_false]
    exact ⟨s[p]'hp, by
      have : s[p]'hp = s.data.toList[p]'(by simpa using hp) := rfl
      rw [this]; exact List.getElem_mem _, by rw [h]; simp⟩
  unfold allD; rw [this]; simp
theorem all_yes {b : Bool} {s : ByteArray} (h : (s.data.toList.take s.size).all (isD b) = true) : allD b s.data.toList = !s.data.toList.isEmpty := by
  unfold allD
  rw [List.take_of_length_le (by simp)] at h
  rw [h, Bool.and_true]
theorem all_step {b : Bool} {s : ByteArray} {p : Nat} (hp : p < s.size) (hd : isD b (s[p]'hp) = true) (h : (s.data.toList.take p).all (isD b) = true) : (s.data.toList.take (p + 1)).all (isD b) = true := by
  rw [take_snoc s p hp, List.all_append, h]
  have : s[p]'hp = s.data.toList[p]'(by simpa using hp) := rfl
  rw [← this]; simp [hd]
theorem isEmpty_iff (s : ByteArray) : s.data.toList.isEmpty = s.toList.isEmpty := by rw [ByteArray.toList_eq]
set_option maxHeartbeats 4000000 in
theorem all_walk (w : World) (s : ByteArray) (b : Bool) (hs : s.size ≤ 3000000) : Calls Tryd.prog 92 #[.string s, .int .i64 (base b)] w fun e w' => e = .returned (.bool (allD b s.data.toList)) ∧ Below w.heap.size w w' := by
  have hend := fun p => run_next_end (P := Tryd.prog) w s p 0
  obtain ⟨R, hR⟩ : ∃ R, allD b s.data.toList = R := ⟨_, rfl⟩
  rw [hR]
  have HR : Aside0 (allD b s.data.toList = R) := ⟨hR⟩
  clear hR
  obtain ⟨bb, hbb⟩ : ∃ x, base b = x := ⟨_, rfl⟩
  rw [hbb]
  have HB : Aside0 (base b = bb) := ⟨hbb⟩
  have hb16 : (bb == 16) = b := by rw [← hbb]; cases b <;> decide
  clear hbb
  go_enter Tryd.func92, Tryd.ntmps92
  go_wp2
  go_loopg [6] s.size (fun g v6 wr => ∃ p, p + g = s.size ∧ wr = w.iter s p ∧ Aside0 ((s.data.toList.take p).all (isD b) = true))
  case atStart => exact ⟨0, by omega, rfl, ⟨by simp⟩⟩
  case round =>
    obtain ⟨p, hpg, rfl, hA⟩ := hrel
    by_cases hp : p < s.size
    · obtain ⟨g, rfl⟩ : ∃ g, gk = g + 1 := ⟨gk - 1, by omega⟩
      by_cases ha : (s[p]'hp).toNat < 128
      · have hn := run_next_ascii (P := Tryd.prog) w s p 0 hp ha
        have HD : ∀ d, isD b (s[p]'hp) = d → (d = true → Aside0 ((s.data.toList.take (p + 1)).all (isD b) = true)) ∧ (d = false → Aside0 (R = false)) := fun d hd =>
          ⟨fun e => ⟨all_step hp (hd.trans e) hA.out⟩, fun e => ⟨HR.out.symm.trans (all_no hp (hd.trans e))⟩⟩
        unfold isD at HD
        generalize (s[p]'hp).toNat = c at hn HD
        by_cases hdig : 48 ≤ c ∧ c ≤ 57
        · have h1 : (48 : Int) ≤ c := by omega
          have h2 : (c : Int) ≤ 57 := by omega
          have A := (HD true (by simp [hdig])).1 rfl
          clear HD hA hend
          go_wp2
          go_roundg g
          case measure => omega
          case rel => exact ⟨p + 1, by omega, rfl, A⟩
        · have no : b = false ∨ ¬ (97 ≤ c ∧ c ≤ 102 ∨ 65 ≤ c ∧ c ≤ 70) → Aside0 (R = false) := fun h => (HD false (by
            rcases h with h | h
            · simp [h]; omega
            · simp; omega)).2 rfl
          have yes : b = true → (97 ≤ c ∧ c ≤ 102 ∨ 65 ≤ c ∧ c ≤ 70) → Aside0 ((s.data.toList.take (p + 1)).all (isD b) = true) := fun e h => (HD true (by simp [e]; omega)).1 rfl
          clear HD hA hend
          cases b with
          | false =>
            have A := no (Or.inl rfl)
            clear no yes
            by_cases h1 : c < 48
            · have h1' : ¬ (48 : Int) ≤ c := by omega
              go_wp2
              go_ret
              exact ⟨by rw [A.out]; rfl, (Below.refl _ _).alloc (Nat.le_refl _) _⟩
            · have h1' : (48 : Int) ≤ c := by omega
              have h2' : ¬ (c : Int) ≤ 57 := by omega
              go_wp2
              go_ret
              exact ⟨by rw [A.out]; rfl, (Below.refl _ _).alloc (Nat.le_refl _) _⟩
          | true =>
            by_cases hy : 97 ≤ c ∧ c ≤ 102 ∨ 65 ≤ c ∧ c ≤ 70
            · have A := yes rfl hy
              clear no yes
              have h1' : (48 : Int) ≤ c := by omega
              have h2' : ¬ (c : Int) ≤ 57 := by omega
              by_cases h3 : 97 ≤ c
              · have h3' : (97 : Int) ≤ c := by omega
                have h4' : (c : Int) ≤ 102 := by omega
                go_wp2
                go_roundg g
                case measure => omega
                case rel => exact ⟨p + 1, by omega, rfl, A⟩
              · have h3' : ¬ (97 : Int) ≤ c := by omega
                have h4' : (65 : Int) ≤ c := by omega
                have h5' : (c : Int) ≤ 70 := by omega
                go_wp2
                go_roundg g
                case measure => omega
                case rel => exact ⟨p + 1, by omega, rfl, A⟩
            · have A := no (Or.inr hy)
              clear no yes
              rcases (by omega : c < 48 ∨ (57 < c ∧ c < 65) ∨ (70 < c ∧ c < 97) ∨ 102 < c) with h | h | h | h
              · have k0 : ¬ (48 : Int) ≤ c := by omega
                have k1 : ¬ (97 : Int) ≤ c := by omega
                have k2 : ¬ (65 : Int) ≤ c := by omega
                go_wp2
                go_ret
                exact ⟨by rw [A.out]; rfl, (Below.refl _ _).alloc (Nat.le_refl _) _⟩
              · have k0 : (48 : Int) ≤ c := by omega
                have k1 : ¬ (c : Int) ≤ 57 := by omega
                have k2 : ¬ (97 : Int) ≤ c := by omega
                have k3 : ¬ (65 : Int) ≤ c := by omega
                go_wp2
                go_ret
                exact ⟨by rw [A.out]; rfl, (Below.refl _ _).alloc (Nat.le_refl _) _⟩
              · have k0 : (48 : Int) ≤ c := by omega
                have k1 : ¬ (c : Int) ≤ 57 := by omega
                have k2 : ¬ (97 : Int) ≤ c := by omega
                have k3 : (65 : Int) ≤ c := by omega
                have k4 : ¬ (c : Int) ≤ 70 := by omega
                go_wp2
                go_ret
                exact ⟨by rw [A.out]; rfl, (Below.refl _ _).alloc (Nat.le_refl _) _⟩
              · have k0 : (48 : Int) ≤ c := by omega
                have k1 : ¬ (c : Int) ≤ 57 := by omega
                have k2 : (97 : Int) ≤ c := by omega
                have k3 : ¬ (c : Int) ≤ 102 := by omega
                have k4 : (65 : Int) ≤ c := by omega
                have k5 : ¬ (c : Int) ≤ 70 := by omega
                go_wp2
                go_ret
                exact ⟨by rw [A.out]; rfl, (Below.refl _ _).alloc (Nat.le_refl _) _⟩
      · obtain ⟨h1, h2⟩ := decode_high s p hp (by omega)
        have hn := run_next_any (P := Tryd.prog) w s p 0 hp
        have A : Aside0 (R = false) := ⟨HR.out.symm.trans (all_no hp (by unfold isD; simp; omega))⟩
        generalize Utf8.decode s p = d at hn h1 h2
        obtain ⟨r, n⟩ := d
        simp only at hn h1 h2
        have h1' : (48 : Int) ≤ r := by omega
        have h2' : ¬ (r : Int) ≤ 57 := by omega
        have h3' : ¬ (r : Int) ≤ 102 := by omega
        have h4' : ¬ (r : Int) ≤ 70 := by omega
        have h5' : (97 : Int) ≤ r := by omega
        clear hA hend
        cases b <;> (go_wp2; go_ret; exact ⟨by rw [A.out]; rfl, (Below.refl _ _).alloc (Nat.le_refl _) _⟩)
    · obtain rfl : p = s.size := by omega
      have hn := hend s.size hp
      have HF := all_yes hA.out
      rw [HR.out] at HF
      have HF0 : Aside0 (R = !s.toList.isEmpty) := ⟨by rw [HF, isEmpty_iff]⟩
      clear HF hA hend
      go_wp2
      go_ret
      exact ⟨by rw [HF0.out]; rfl, (Below.refl _ _).alloc (Nat.le_refl _) _⟩
end Go.Proofs.YtigaacbaaopfmaaDoor.sh
