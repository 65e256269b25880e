/- Names: the program's and the document's, walked; ranks. -/
import Derived.Test.YthkmdmobeadigaaDoorWa
namespace Go.Proofs.YthkmdmobeadigaaDoor.lg
open Go.RowKit
set_option linter.unusedVariables false
set_option linter.unusedSimpArgs false
def okB (x : UInt8) : Bool := letB x || digB x
theorem nameB_first {s : List UInt8} {c : UInt8} (h : s[0]? = some c) (hl : letB c = false) : nameB s = false := by
  cases s with
  | nil => rfl
  | cons x r => simp at h; subst h; simp [nameB, hl]
theorem nameB_bad {s : List UInt8} {k : Nat} {c : UInt8} (h : s[k]? = some c) (hl : okB c = false) : nameB s = false := by
  cases s with
  | nil => rfl
  | cons x r =>
    have hm : c ∈ x :: r := List.mem_of_getElem? h
    have : ((x :: r).all fun x => letB x || digB x) = false := by
      rw [List.all_eq_false]
      exact ⟨c, hm, by unfold okB at hl; simp [hl]⟩
    simp [nameB, this]
theorem nameB_good {s : List UInt8} {c : UInt8} (h : s[0]? = some c) (hl : letB c = true) (ha : ∀ (j : Nat) (x : UInt8), s[j]? = some x → okB x = true) : nameB s = !wordB s := by
  cases s with
  | nil => cases h
  | cons x r =>
    simp at h; subst h
    have : ((x :: r).all fun x => letB x || digB x) = true := by
      rw [List.all_eq_true]
      intro y hy
      obtain ⟨j, hj⟩ := List.mem_iff_getElem?.1 hy
      exact ha j y hj
    simp only [nameB, hl, this, Bool.true_and]
theorem digit_no_letter (c : UInt8) (h : digB c = true) : letB c = false := by
  rw [digB_eq] at h; rw [letB_eq]
  simp only [decide_eq_true_eq] at h
  simp only [decide_eq_false_iff_not]
  omega
theorem letter_ok {c : UInt8} (h : letB c = true) : okB c = true := by unfold okB; rw [h]; rfl
theorem ok_of {c : UInt8} (h : letB c = false) (hd : digB c = false) : okB c = false := by unfold okB; rw [h, hd]; rfl
set_option maxHeartbeats 1000000 in
theorem isName_walk (w : World) (s : ByteArray) (hs : s.size ≤ 100000000) (hw : Words w) : Calls Tryd.prog 24 #[.string s] w (IsB (nameB s.data.toList) w) := by
  obtain ⟨r, hr⟩ : ∃ r, nameB s.data.toList = r := ⟨_, rfl⟩
  rw [hr]
  have HR : Aside0 (nameB s.data.toList = r) := ⟨hr⟩
  clear hr
  have cw := isWord_walk w s hw
  by_cases h0 : s.size = 0
  · have h1 : s.toList = [] := by rw [toList_data]; exact List.eq_nil_of_length_eq_zero (by simpa using h0)
    have HRR : Aside0 (r = false) := ⟨by rw [← HR.out, ← toList_data, h1]; rfl⟩
    clear cw hw
    go_enter Tryd.func24, Tryd.ntmps24
    go_wp2
    go_ret
    exact ⟨ret_bool HRR.out.symm, rfl⟩
  have h1 : ¬ s.toList = [] := by
    rw [toList_data]; intro e; exact h0 (by have := congrArg List.length e; simpa using this)
  have h2 : s.toList.isEmpty = false := by simpa using h1
  have h0' : 0 < s.size := by omega
  have hidx0 : ∀ W, (Instr.index 9 (.string s) (.int .i64 0)).run Tryd.prog W = .ok (.int .u8 (s.data.toList[0]'h0').toNat) W := by
    intro W
    rw [run_index_string (h := Tryd.underlying9), dif_pos (by omega)]
    rfl
  have HE0 : Aside0 (s.data.toList[0]? = some (s.data.toList[0]'h0')) := ⟨List.getElem?_eq_getElem _⟩
  generalize (s.data.toList[0]'h0') = c0 at hidx0 HE0
  have cl0 := letter_walk w c0
  obtain ⟨bl, hbl⟩ : ∃ b, letB c0 = b := ⟨_, rfl⟩
  rw [hbl] at cl0
  have HL : Aside0 (letB c0 = bl) := ⟨hbl⟩
  clear hbl
  cases bl with
  | false =>
    have HRR : Aside0 (r = false) := ⟨by rw [← HR.out]; exact nameB_first HE0.out HL.out⟩
    clear cw hw
    go_enter Tryd.func24, Tryd.ntmps24
    go_wp2_with (go_at_call 48; (with_reducible refine cl0.mono ?_); rintro e w' ⟨rfl, rfl⟩)
    go_ret
    exact ⟨ret_bool HRR.out.symm, rfl⟩
  | true =>
    obtain ⟨bw, hbw⟩ : ∃ b, wordB s.data.toList = b := ⟨_, rfl⟩
    rw [hbw] at cw
    have HW : Aside0 (wordB s.data.toList = bw) := ⟨hbw⟩
    clear hbw hw
    go_enter Tryd.func24, Tryd.ntmps24
    go_wp2_with (go_at_call 48; (with_reducible refine cl0.mono ?_); rintro e w' ⟨rfl, rfl⟩)
    clear cl0 hidx0
    go_loopg [14] s.size (fun g v wr => w = wr ∧ ∃ k : Nat, v = .int .i64 k ∧ k + g = s.size ∧ Aside0 (∀ (j : Nat) (x : UInt8), j < k → s.data.toList[j]? = some x → okB x = true))
    case atStart => exact ⟨rfl, 0, rfl, by omega, ⟨fun j x hj => by omega⟩⟩
    case round =>
      obtain ⟨rfl, k, rfl, hkg, hF⟩ := hrel
      by_cases hk : k < s.size
      · have hlt : (k : Int) < (s.size : Int) := by omega
        obtain ⟨q, rfl⟩ : ∃ q, gk = q + 1 := ⟨gk - 1, by omega⟩
        have hidx : ∀ W, (Instr.index 9 (.string s) (.int .i64 k)).run Tryd.prog W = .ok (.int .u8 (s.data.toList[k]'hk).toNat) W := by
          intro W
          rw [run_index_string (h := Tryd.underlying9), dif_pos (by omega)]
          rfl
        have HEK : Aside0 (s.data.toList[k]? = some (s.data.toList[k]'hk)) := ⟨List.getElem?_eq_getElem _⟩
        generalize (s.data.toList[k]'hk) = c at hidx HEK
        have cl := letter_walk w c
        have cd := digit_walk w c
        obtain ⟨bl, hbl⟩ : ∃ b, letB c = b := ⟨_, rfl⟩
        obtain ⟨bd, hbd⟩ : ∃ b, digB c = b := ⟨_, rfl⟩
        rw [hbl] at cl
        rw [hbd] at cd
        have HB : Aside0 (letB c = bl ∧ digB c = bd) := ⟨hbl, hbd⟩
        clear hbl hbd cw
        have next : okB c = true → Aside0 (∀ (j : Nat) (x : UInt8), j < k + 1 → s.data.toList[j]? = some x → okB x = true) := fun ho => ⟨fun j x hj hx => by
          by_cases e : j = k
          · subst e; obtain rfl := Option.some.inj (hx.symm.trans HEK.out); exact ho
          · exact hF.out j x (by omega) hx⟩
        have stop : okB c = false → Aside0 (r = false) := fun ho => ⟨by rw [← HR.out]; exact nameB_bad HEK.out ho⟩
        have N : (bl = true ∨ bd = true) → Aside0 (∀ (j : Nat) (x : UInt8), j < k + 1 → s.data.toList[j]? = some x → okB x = true) := fun h => next (by unfold okB; rw [HB.out.1, HB.out.2]; rcases h with h | h <;> simp [h])
        have S : (bl = false ∧ bd = false) → Aside0 (r = false) := fun h => stop (by unfold okB; rw [HB.out.1, HB.out.2, h.1, h.2]; rfl)
        clear next stop
        cases bl with
        | true =>
          have A := N (.inl rfl)
          clear N S cd
          go_wp2_with (go_at_call 48; (with_reducible refine cl.mono ?_); rintro e w' ⟨rfl, rfl⟩)
          go_roundg q
          case measure => omega
          case rel => exact ⟨rfl, k + 1, by go_num, by omega, A⟩
        | false =>
          cases bd with
          | true =>
            have A := N (.inr rfl)
            clear N S
            go_wp2_with (first | (go_at_call 48; (with_reducible refine cl.mono ?_); rintro e w' ⟨rfl, rfl⟩) | (go_at_call 49; (with_reducible refine cd.mono ?_); rintro e w' ⟨rfl, rfl⟩))
            go_roundg q
            case measure => omega
            case rel => exact ⟨rfl, k + 1, by go_num, by omega, A⟩
          | false =>
            have A := S ⟨rfl, rfl⟩
            clear N S
            go_wp2_with (first | (go_at_call 48; (with_reducible refine cl.mono ?_); rintro e w' ⟨rfl, rfl⟩) | (go_at_call 49; (with_reducible refine cd.mono ?_); rintro e w' ⟨rfl, rfl⟩))
            go_ret
            exact ⟨ret_bool A.out.symm, rfl⟩
      · obtain rfl : k = s.size := by omega
        have hlt : ¬ (s.size : Int) < (s.size : Int) := by omega
        have A : Aside0 (r = !bw) := ⟨by
          rw [← HR.out, ← HW.out]
          exact nameB_good HE0.out HL.out (fun j x hx => hF.out j x (by have := (List.getElem?_eq_some_iff.1 hx).1; simpa using this) hx)⟩
        go_wp2_with (go_at_call 50; (with_reducible refine cw.mono ?_); rintro e w' ⟨rfl, rfl⟩)
        go_ret
        exact ⟨ret_bool A.out.symm, rfl⟩
end Go.Proofs.YthkmdmobeadigaaDoor.lg
