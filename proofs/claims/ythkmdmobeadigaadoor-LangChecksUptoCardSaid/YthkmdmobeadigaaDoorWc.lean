/- Names or nothing; ranks: the program's and the document's, walked. -/
import Derived.Test.YthkmdmobeadigaaDoorWb
namespace Go.Proofs.YthkmdmobeadigaaDoor.lg
open Go.RowKit
set_option linter.unusedVariables false
set_option linter.unusedSimpArgs false
theorem isEmpty_toList (s : ByteArray) : s.data.toList.isEmpty = decide (s.toList = []) := by
  rw [toList_data]; cases s.data.toList <;> simp
theorem named_walk (w : World) (s : ByteArray) (must : Bool) (hs : s.size ≤ 100000000) (hw : Words w) : Calls Tryd.prog 105 #[.string s, .bool must] w (IsB (namedB s.data.toList must) w) := by
  cases must with
  | true =>
    have c := isName_walk w s hs hw
    show Calls Tryd.prog 105 #[.string s, .bool true] w (IsB (nameB s.data.toList) w)
    go_enter Tryd.func105, Tryd.ntmps105
    go_wp2_with (go_at_call 24; (with_reducible refine c.mono ?_); rintro e w' ⟨rfl, rfl⟩)
    go_ret
    exact ⟨rfl, rfl⟩
  | false =>
    show Calls Tryd.prog 105 #[.string s, .bool false] w (IsB s.data.toList.isEmpty w)
    rw [← toList_data]
    go_enter Tryd.func105, Tryd.ntmps105
    go_wp2
    go_ret
    exact ⟨ret_bool (by cases s.toList <;> simp), rfl⟩
/-- What a function of one number leaves that makes nothing. -/
def IsN (n : Int) (w : World) (e : Ending) (w' : World) : Prop := e = .returned (.int .i64 n) ∧ w = w'
theorem bytes_of {s : ByteArray} {l : List UInt8} (h : s.data.toList = l) : s = B l := by rw [← h, B_of]
theorem bytes1 {s : ByteArray} {a : UInt8} (h : s.data.toList = [a]) : s = ⟨#[a]⟩ := bytes_of h
theorem bytes2 {s : ByteArray} {a b : UInt8} (h : s.data.toList = [a, b]) : s = ⟨#[a, b]⟩ := bytes_of h
set_option maxHeartbeats 1000000 in
theorem rank_walk (w : World) (s : ByteArray) : Calls Tryd.prog 104 #[.string s] w (IsN (rankP s.data.toList) w) := by
  by_cases h0 : s.data.toList = [124, 124] ∨ s.data.toList = [38, 38] ∨ s.data.toList = [61, 61] ∨ s.data.toList = [33, 61] ∨ s.data.toList = [60] ∨ s.data.toList = [60, 61] ∨ s.data.toList = [62] ∨ s.data.toList = [62, 61] ∨ s.data.toList = [43] ∨ s.data.toList = [45] ∨ s.data.toList = [42] ∨ s.data.toList = [47] ∨ s.data.toList = [37]
  · rcases h0 with h | h | h | h | h | h | h | h | h | h | h | h | h
    all_goals
      first | (obtain rfl := bytes1 h) | (obtain rfl := bytes2 h)
      clear h
      go_enter Tryd.func104, Tryd.ntmps104
      go_wp2
      go_ret
      exact ⟨rfl, rfl⟩
  · simp only [not_or] at h0
    obtain ⟨h1, h2, h3, h4, h5, h6, h7, h8, h9, h10, h11, h12, h13⟩ := h0
    have hr : rankP s.data.toList = -1 := by simp [rankP, h1, h2, h3, h4, h5, h6, h7, h8, h9, h10, h11, h12, h13]
    rw [hr]
    clear hr
    rw [← toList_data] at h1 h2 h3 h4 h5 h6 h7 h8 h9 h10 h11 h12 h13
    replace h1 := beq_eq_false_iff_ne.2 h1
    replace h2 := beq_eq_false_iff_ne.2 h2
    replace h3 := beq_eq_false_iff_ne.2 h3
    replace h4 := beq_eq_false_iff_ne.2 h4
    replace h5 := beq_eq_false_iff_ne.2 h5
    replace h6 := beq_eq_false_iff_ne.2 h6
    replace h7 := beq_eq_false_iff_ne.2 h7
    replace h8 := beq_eq_false_iff_ne.2 h8
    replace h9 := beq_eq_false_iff_ne.2 h9
    replace h10 := beq_eq_false_iff_ne.2 h10
    replace h11 := beq_eq_false_iff_ne.2 h11
    replace h12 := beq_eq_false_iff_ne.2 h12
    replace h13 := beq_eq_false_iff_ne.2 h13
    go_enter Tryd.func104, Tryd.ntmps104
    go_wp2
    go_ret
    exact ⟨rfl, rfl⟩
end Go.Proofs.YthkmdmobeadigaaDoor.lg
