/- Answers' lines: the document's table of names, walked. -/
import Derived.Test.YtigaacbaaopfmaaDoorByt
namespace Go.Proofs.YtigaacbaaopfmaaDoor.sh
open Go.RowKit
set_option linter.unusedVariables false
def nmR (i : Nat) : ByteArray := if i = 0 then nm 0 else if i = 1 then nm 15 else nm (i - 1)
def opR (i : Nat) : Int := if i ≤ 1 then 0 else (i : Int) - 1
/-- What the document's table holds. -/
def RTab (w : World) (b : Nat) : Prop := ∀ i, i < 16 → w.cell? ⟨b, i * 4, none⟩ = some (.string (nmR i)) ∧ w.cell? ⟨b, i * 4 + 1, none⟩ = some (.int .i64 (opR i))
set_option maxHeartbeats 8000000 in
set_option maxRecDepth 100000 in
theorem rows_walk (w : World) : Calls Tryd.prog 56 #[] w fun e w' => ∃ b, e = .returned (.slice (some ⟨b, 0, none⟩) 16 16) ∧ Below w.heap.size w w' ∧ RTab w' b := by
  go_enter Tryd.func56, Tryd.ntmps56
  go_wp2
  go_ret
  refine ⟨w.heap.size, rfl, (Below.refl _ _).alloc (Nat.le_refl _) _, fun i hi => ?_⟩
  match i, hi with
  | 0, _ => exact ⟨by simp [nmR, nm, names, B], by simp [opR]⟩
  | 1, _ => exact ⟨by simp [nmR, nm, names, B], by simp [opR]⟩
  | 2, _ => exact ⟨by simp [nmR, nm, names, B], by simp [opR]⟩
  | 3, _ => exact ⟨by simp [nmR, nm, names, B], by simp [opR]⟩
  | 4, _ => exact ⟨by simp [nmR, nm, names, B], by simp [opR]⟩
  | 5, _ => exact ⟨by simp [nmR, nm, names, B], by simp [opR]⟩
  | 6, _ => exact ⟨by simp [nmR, nm, names, B], by simp [opR]⟩
  | 7, _ => exact ⟨by simp [nmR, nm, names, B], by simp [opR]⟩
  | 8, _ => exact ⟨by simp [nmR, nm, names, B], by simp [opR]⟩
  | 9, _ => exact ⟨by simp [nmR, nm, names, B], by simp [opR]⟩
  | 10, _ => exact ⟨by simp [nmR, nm, names, B], by simp [opR]⟩
  | 11, _ => exact ⟨by simp [nmR, nm, names, B], by simp [opR]⟩
  | 12, _ => exact ⟨by simp [nmR, nm, names, B], by simp [opR]⟩
  | 13, _ => exact ⟨by simp [nmR, nm, names, B], by simp [opR]⟩
  | 14, _ => exact ⟨by simp [nmR, nm, names, B], by simp [opR]⟩
  | 15, _ => exact ⟨by simp [nmR, nm, names, B], by simp [opR]⟩
  | n + 16, h => exact absurd h (by omega)
set_option maxHeartbeats 8000000 in
set_option maxRecDepth 100000 in
theorem name_walk (w : World) (op : Int) : Calls Tryd.prog 32 #[.int .i64 op] w fun e w' => e = .returned (.string (nameP op)) ∧ Below w.heap.size w w' := by
  have cr := rows_walk w
  obtain ⟨R, hR⟩ : ∃ R, nameP op = R := ⟨_, rfl⟩
  rw [hR]
  have HR : Aside0 (nameP op = R) := ⟨hR⟩
  clear hR
  go_enter Tryd.func32, Tryd.ntmps32
  go_wp2_with (go_at_call 56; (with_reducible refine cr.mono ?_); rintro e w1 ⟨b, rfl, bel1, tab⟩)
  go_loopg [4] 16 (fun g v4 wr => ∃ i : Nat, v4 = .int .i64 i ∧ i + g = 16 ∧ wr = w1 ∧ ∀ j, j < i → 0 < op → opR j ≠ op)
  case atStart => exact ⟨0, rfl, by omega, rfl, fun j hj => by omega⟩
  case round =>
    obtain ⟨i, rfl, hig, rfl, hno⟩ := hrel
    by_cases hi : i < 16
    · have hlt : (i : Int) < 16 := by omega
      obtain ⟨g, rfl⟩ : ∃ g, gk = g + 1 := ⟨gk - 1, by omega⟩
      obtain ⟨t0, t1⟩ := tab i hi
      have HNO : Aside0 (∀ j, j < i → 0 < op → opR j ≠ op) := ⟨hno⟩
      clear hno
      by_cases h0 : 0 < op
      · obtain ⟨q, hq⟩ : ∃ q, opR i = q := ⟨_, rfl⟩
        rw [hq] at t1
        have HQ : Aside0 (opR i = q) := ⟨hq⟩
        clear hq
        by_cases h1 : q = op
        · subst h1
          have HF : Aside0 (R = nmR i) := ⟨by
            have h2 := HQ.out
            unfold opR at h2
            have h3 : ¬ i ≤ 1 := by
              intro h; rw [if_pos h] at h2; omega
            rw [if_neg h3] at h2
            rw [← HR.out, nameP, if_pos (by omega), nmR, if_neg (by omega), if_neg (by omega)]
            congr 1; omega⟩
          go_wp2
          go_ret
          exact ⟨by rw [HF.out]; rfl, bel1⟩
        · have h1' : (q == op) = false := by simpa using h1
          go_wp2
          go_roundg g
          case measure => omega
          case rel => exact ⟨i + 1, by go_num, by omega, rfl, fun j hj h => by
            by_cases e : j = i
            · rw [e, HQ.out]; exact h1
            · exact HNO.out j (by omega) h⟩
      · go_wp2
        go_roundg g
        case measure => omega
        case rel => exact ⟨i + 1, by go_num, by omega, rfl, fun j hj h => absurd h (by omega)⟩
    · obtain rfl : i = 16 := by omega
      have HF : Aside0 (R = B []) := ⟨by
        rw [← HR.out, nameP, if_neg]
        intro h
        exact hno (op.toNat + 1) (by omega) (by omega) (by unfold opR; rw [if_neg (by omega)]; omega)⟩
      clear hno
      go_wp2
      go_ret
      exact ⟨by rw [HF.out]; rfl, bel1⟩
end Go.Proofs.YtigaacbaaopfmaaDoor.sh
