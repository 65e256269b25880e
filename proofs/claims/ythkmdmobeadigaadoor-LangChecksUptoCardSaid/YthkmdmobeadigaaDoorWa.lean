/- Letters, digits, words, names: the program's and the document's, walked. -/
import Derived.Test.YthkmdmobeadigaaDoorLb
import Derived.Test.YthkmdmobeadigaaDoorLp
namespace Go.Proofs.YthkmdmobeadigaaDoor.lg
open Go.RowKit
set_option linter.unusedVariables false
set_option linter.unusedSimpArgs false
theorem letB_eq (c : UInt8) : letB c = decide ((97 ≤ (c.toNat : Int) ∧ (c.toNat : Int) ≤ 122) ∨ (65 ≤ (c.toNat : Int) ∧ (c.toNat : Int) ≤ 90) ∨ (c.toNat : Int) = 95) := by
  unfold letB
  rw [Bool.eq_iff_iff]
  simp only [Bool.or_eq_true, Bool.and_eq_true, decide_eq_true_eq, beq_iff_eq, UInt8.le_iff_toNat_le, ← UInt8.toNat_inj, or_assoc]
  simp only [UInt8.reduceToNat]
  omega
theorem digB_eq (c : UInt8) : digB c = decide (48 ≤ (c.toNat : Int) ∧ (c.toNat : Int) ≤ 57) := by
  unfold digB
  rw [Bool.eq_iff_iff]
  simp only [Bool.and_eq_true, decide_eq_true_eq, UInt8.le_iff_toNat_le]
  simp only [UInt8.reduceToNat]
  omega
theorem ret_bool {a b : Bool} (h : a = b) : Ending.returned (.bool a) = .returned (.bool b) := by rw [h]
/-- What a function of one answer leaves that makes nothing. -/
def IsB (b : Bool) (w : World) (e : Ending) (w' : World) : Prop := e = .returned (.bool b) ∧ w = w'
theorem letter_walk (w : World) (c : UInt8) : Calls Tryd.prog 48 #[.int .u8 (c.toNat : Int)] w (IsB (letB c) w) := by
  rw [letB_eq]
  go_enter Tryd.func48, Tryd.ntmps48
  go_wp2
  all_goals
    go_ret
    exact ⟨ret_bool (by first | rfl | (rw [Bool.eq_iff_iff]; first | (simp; done) | (simp; omega) | omega)), rfl⟩
theorem rletter_walk (w : World) (c : UInt8) : Calls Tryd.prog 55 #[.int .u8 (c.toNat : Int)] w (IsB (letB c) w) := by
  rw [letB_eq]
  go_enter Tryd.func55, Tryd.ntmps55
  go_wp2
  all_goals
    go_ret
    exact ⟨ret_bool (by first | rfl | (rw [Bool.eq_iff_iff]; first | (simp; done) | (simp; omega) | omega)), rfl⟩
theorem digit_walk (w : World) (c : UInt8) : Calls Tryd.prog 49 #[.int .u8 (c.toNat : Int)] w (IsB (digB c) w) := by
  rw [digB_eq]
  go_enter Tryd.func49, Tryd.ntmps49
  go_wp2
  all_goals
    go_ret
    exact ⟨ret_bool (by first | rfl | (rw [Bool.eq_iff_iff]; first | (simp; done) | (simp; omega) | omega)), rfl⟩
theorem rdigit_walk (w : World) (c : UInt8) : Calls Tryd.prog 53 #[.int .u8 (c.toNat : Int)] w (IsB (digB c) w) := by
  rw [digB_eq]
  go_enter Tryd.func53, Tryd.ntmps53
  go_wp2
  all_goals
    go_ret
    exact ⟨ret_bool (by first | rfl | (rw [Bool.eq_iff_iff]; first | (simp; done) | (simp; omega) | omega)), rfl⟩
/-- The tables of the program: its words, what a statement's and an expression's kind uses. -/
def wordAt (k : Nat) : ByteArray := B (wordsL.getD k [])
def wordCells : Array Value := #[.string (wordAt 0), .string (wordAt 1), .string (wordAt 2), .string (wordAt 3), .string (wordAt 4), .string (wordAt 5), .string (wordAt 6), .string (wordAt 7), .string (wordAt 8), .string (wordAt 9), .string (wordAt 10), .string (wordAt 11), .string (wordAt 12)]
def Words (w : World) : Prop := ∃ t fr, w.heap[0]? = some (.cells wordCells t fr)
theorem Words.below {w w' : World} (h : Words w) (k : Below w.heap.size w w') : Words w' := by
  obtain ⟨t, fr, h⟩ := h
  exact ⟨t, fr, (k.block 0 (Array.getElem?_eq_some_iff.1 h).1).trans h⟩
theorem word_index (W : World) : ∀ k, k < 13 → (Instr.index 132 (.agg wordCells) (.int .i64 ((k : Nat) : Int))).run Tryd.prog W = .ok (.string (wordAt k)) W
  | 0, _ => by kernel_rfl
  | 1, _ => by kernel_rfl
  | 2, _ => by kernel_rfl
  | 3, _ => by kernel_rfl
  | 4, _ => by kernel_rfl
  | 5, _ => by kernel_rfl
  | 6, _ => by kernel_rfl
  | 7, _ => by kernel_rfl
  | 8, _ => by kernel_rfl
  | 9, _ => by kernel_rfl
  | 10, _ => by kernel_rfl
  | 11, _ => by kernel_rfl
  | 12, _ => by kernel_rfl
  | k + 13, h => by omega
theorem toList_data (s : ByteArray) : s.toList = s.data.toList := by rw [← B_of s, B_toList]; simp [B]
theorem wordB_false {s : List UInt8} (h : ∀ k, k < 13 → (wordsL.getD k []) ≠ s) : wordB s = false := by
  unfold wordB
  rw [List.any_eq_false]
  intro w hw
  obtain ⟨k, hk, rfl⟩ := List.mem_iff_getElem.1 hw
  have hk13 : k < 13 := hk
  have := h k hk13
  rw [List.getD_eq_getElem?_getD, List.getElem?_eq_getElem hk] at this
  simpa using this
theorem wordB_true {s : List UInt8} {k : Nat} (hk : k < 13) (h : (wordsL.getD k []) = s) : wordB s = true := by
  unfold wordB
  rw [List.any_eq_true]
  have hk' : k < wordsL.length := hk
  refine ⟨wordsL[k], List.getElem_mem hk', ?_⟩
  rw [← h, List.getD_eq_getElem?_getD, List.getElem?_eq_getElem hk']
  simp
theorem size132 : (Tryd.prog.info? 132).map (·.size) = some 13 := by kernel_rfl
set_option maxHeartbeats 1000000 in
theorem isWord_walk (w : World) (s : ByteArray) (hw : Words w) : Calls Tryd.prog 50 #[.string s] w (IsB (wordB s.data.toList) w) := by
  obtain ⟨t, fr, hw⟩ := hw
  obtain ⟨cs, hcs⟩ : ∃ cs, wordCells = cs := ⟨_, rfl⟩
  have hi := word_index
  have hz : wordCells.size = 13 := rfl
  rw [hcs] at hw hi hz
  clear hcs
  have hs132 : (Tryd.prog.info? 132).map (·.size) = some cs.size := by rw [hz]; exact size132
  have ht := toList_data
  obtain ⟨r, hr⟩ : ∃ r, wordB s.data.toList = r := ⟨_, rfl⟩
  rw [hr]
  have HR : Aside0 (wordB s.data.toList = r ∧ cs.size = 13) := ⟨hr, hz⟩
  have HT : Aside0 (∀ s : ByteArray, s.toList = s.data.toList) := ⟨ht⟩
  clear hr hz ht
  go_enter Tryd.func50, Tryd.ntmps50
  go_wp2_with (refine wpList_load_row rfl _ _ rfl 0 rfl t _ fr _ hw Tryd.underlying132 rfl hs132 ?_)
  clear hs132 hw
  go_loopg [6] 13 (fun g v wr => w = wr ∧ ∃ k : Nat, v = .int .i64 k ∧ k + g = 13 ∧ Aside0 (∀ j, j < k → (wordsL.getD j []) ≠ s.data.toList))
  case atStart => exact ⟨rfl, 0, rfl, by omega, ⟨fun j hj => by omega⟩⟩
  case round =>
    obtain ⟨rfl, k, rfl, hkg, hF⟩ := hrel
    by_cases hk : k < 13
    · have hlt : (k : Int) < 13 := by omega
      obtain ⟨q, rfl⟩ : ∃ q, gk = q + 1 := ⟨gk - 1, by omega⟩
      have hik := hi w k hk
      clear hi
      by_cases he : (wordsL.getD k []) = s.data.toList
      · have hb : ((wordAt k).toList == s.toList) = true := by rw [HT.out, HT.out, wordAt]; simpa [B] using he
        have hr : r = true := by rw [← HR.out.1]; exact wordB_true hk he
        have HRR : Aside0 (r = true) := ⟨hr⟩
        clear hr he
        go_wp2
        go_ret
        exact ⟨ret_bool HRR.out.symm, rfl⟩
      · have hb : ((wordAt k).toList == s.toList) = false := by rw [HT.out, HT.out, wordAt]; simpa [B] using he
        have HE : Aside0 (¬ (wordsL.getD k []) = s.data.toList) := ⟨he⟩
        clear he
        go_wp2
        go_roundg q
        case measure => omega
        case rel => exact ⟨rfl, k + 1, by go_num, by omega, ⟨fun j hj => by
          by_cases e : j = k
          · subst e; exact HE.out
          · exact hF.out j (by omega)⟩⟩
    · obtain rfl : k = 13 := by omega
      have hr : r = false := by rw [← HR.out.1]; exact wordB_false hF.out
      have HRR : Aside0 (r = false) := ⟨hr⟩
      clear hr hi
      go_wp2
      go_ret
      exact ⟨ret_bool HRR.out.symm, rfl⟩
end Go.Proofs.YthkmdmobeadigaaDoor.lg
