/- What Parse gives fits, is cleaned, and is not heavier than its text. Plain Lean. -/
import Derived.Test.YtigaacbaaopfmaaDoorRk
set_option linter.unusedSimpArgs false
namespace Go.Proofs.YtigaacbaaopfmaaDoor.sh
open Go.RowKit
set_option linter.unusedVariables false
/-- The lengths, one more each. -/
def sumW (l : List (List UInt8)) : Nat := (l.map fun x => x.length + 1).sum
theorem sumW_cons (x : List UInt8) (l : List (List UInt8)) : sumW (x :: l) = x.length + 1 + sumW l := by simp [sumW]
theorem wordsG_sum : ∀ (l : List UInt8) (cur : Option (List UInt8)), sumW (wordsG cur l) ≤ (match cur with | some x => x.length | none => 0) + l.length + 1
  | [], none => by simp [wordsG, sumW]
  | [], some x => by simp [wordsG, sumW]
  | c :: l, none => by
    rw [wordsG]
    split
    · simp [sumW]
    · split
      · have := wordsG_sum l none; simp at this ⊢; omega
      · have := wordsG_sum l (some [c]); simp at this ⊢; omega
  | c :: l, some x => by
    rw [wordsG]
    split
    · have := wordsG_sum l none; rw [sumW_cons]; simp at this ⊢; omega
    · have := wordsG_sum l (some (x ++ [c])); simp at this ⊢; omega
theorem wordsL_sum (l : List UInt8) : sumW (wordsL l) ≤ l.length + 1 := by
  have := wordsG_sum l none
  simpa [wordsL] using this
theorem linesG_sum : ∀ (l cur : List UInt8), sumW (linesG cur l) ≤ cur.length + l.length + 1
  | [], cur => by
    rw [linesG]
    split
    · simp [sumW]
    · simp [sumW]
  | c :: l, cur => by
    rw [linesG]
    split
    · have := linesG_sum l []; rw [sumW_cons]; simp at this ⊢; omega
    · have := linesG_sum l (cur ++ [c]); simp at this ⊢; omega
theorem linesL_sum (l : List UInt8) : sumW (linesL l) ≤ l.length + 1 := by
  have := linesG_sum l []
  simpa [linesL] using this
theorem numP_ok (s : List UInt8) : In64 (numP s).1 ∧ ((numP s).2 = 0 ∨ (numP s).2 = 160 ∨ (numP s).2 = 161) := by
  unfold numP In64
  split
  · simp
  · split
    · split
      · split
        · simp; omega
        · simp
      · simp
    · split
      · split
        · simp; omega
        · simp
      · simp
theorem wordP_ok (s : List UInt8) : (wordP s).1 < 18446744073709551616 ∧ ((wordP s).2 = 0 ∨ (wordP s).2 = 160 ∨ (wordP s).2 = 161) := by
  unfold wordP
  split
  · split
    · simp; omega
    · simp
  · simp
theorem pairs_le : ∀ l : List UInt8, (pairs l).length ≤ l.length
  | [] => by simp [pairs]
  | [x] => by simp [pairs]
  | x :: y :: l => by have := pairs_le l; simp [pairs]; omega
theorem bytesV_le (s : List UInt8) : ((bytesV s).getD []).length ≤ s.length := by
  unfold bytesV
  split
  · simp
  · split
    · simp
    · split
      · simpa using pairs_le s
      · simp
theorem takeE_cases (fm : UInt8) (s : List UInt8) : takeE fm s = 0 ∨ takeE fm s = 160 ∨ takeE fm s = 161 := by
  unfold takeE
  split
  · exact (numP_ok s).2
  · split
    · exact (wordP_ok s).2
    · split <;> simp
theorem fieldsG_err (form : List UInt8) : ∀ (ws : List (List UInt8)) (i : Nat) (f : Fld), (fieldsG form i f ws).2 = 0 ∨ (fieldsG form i f ws).2 = 160 ∨ (fieldsG form i f ws).2 = 161
  | [], i, f => .inl rfl
  | s :: r, i, f => by
    rw [fieldsG]
    split
    · exact fieldsG_err form r _ _
    · exact takeE_cases _ _
theorem readF_err (k : Nat) (ws : List (List UInt8)) : (readF k ws).2 = 0 ∨ (readF k ws).2 = 160 ∨ (readF k ws).2 = 161 := by
  unfold readF
  split
  · exact fieldsG_err _ _ _ _
  · exact .inr (.inl rfl)
/-- How many of a form's letters, from one on, are of a kind: 0 a number, 1 a word, 2 bytes. -/
def kindF (c : UInt8) : Nat := if c = 110 then 0 else if c = 119 then 1 else 2
def cntF (form : List UInt8) (t : Nat) : Nat → Nat → Nat
  | _, 0 => 0
  | i, n + 1 => (if kindF (form.getD i 110) = t then 1 else 0) + cntF form t (i + 1) n
structure FI (f : Fld) (a b c wt : Nat) : Prop where
  n : f.n.length = a
  w : f.w.length = b
  b : f.b.length = c
  ni : Ins f.n
  wi : ∀ x ∈ f.w, x < 18446744073709551616
  bi : (f.b.map List.length).sum ≤ wt
theorem fieldsG_inv (form : List UInt8) : ∀ (ws : List (List UInt8)) (i : Nat) (f : Fld) (a b c wt : Nat), FI f a b c wt →
    FI (fieldsG form i f ws).1 (a + cntF form 0 i ws.length) (b + cntF form 1 i ws.length) (c + cntF form 2 i ws.length) (wt + (ws.map List.length).sum) ∨ (fieldsG form i f ws).2 ≠ 0
  | [], i, f, a, b, c, wt, h => .inl (by simpa [fieldsG, cntF] using h)
  | s :: r, i, f, a, b, c, wt, h => by
    rw [fieldsG]
    split
    · next he =>
      have key : FI (takeF (form.getD i 110) s f) (a + if kindF (form.getD i 110) = 0 then 1 else 0) (b + if kindF (form.getD i 110) = 1 then 1 else 0) (c + if kindF (form.getD i 110) = 2 then 1 else 0) (wt + s.length) := by
        unfold takeF kindF
        obtain ⟨h1, h2, h3, h4, h5, h6⟩ := h
        split
        · refine ⟨by simp [h1], by simp [h2], by simp [h3], ?_, h5, by simp; omega⟩
          intro x hx
          rcases List.mem_append.1 hx with hx | hx
          · exact h4 x hx
          · simp at hx; subst hx; exact (numP_ok s).1
        · split
          · refine ⟨by simp [h1], by simp [h2], by simp [h3], h4, ?_, by simp; omega⟩
            intro x hx
            rcases List.mem_append.1 hx with hx | hx
            · exact h5 x hx
            · simp at hx; subst hx; exact (wordP_ok s).1
          · refine ⟨by simp [h1], by simp [h2], by simp [h3], h4, h5, ?_⟩
            have := bytesV_le s
            simp
            omega
      have ih := fieldsG_inv form r (i + 1) _ _ _ _ _ key
      rcases ih with ih | ih
      · left
        simp only [List.length_cons, cntF, List.map_cons, List.sum_cons, ← Nat.add_assoc]
        exact ih
      · exact .inr ih
    · next he => exact .inr he
theorem sum_le {ws : List (List UInt8)} : (ws.map List.length).sum + ws.length = sumW ws := by
  induction ws with
  | nil => rfl
  | cons x l ih => rw [sumW_cons, ← ih]; simp; omega
/-- What one line's reading gives. -/
theorem readF_inv {k : Nat} {ws : List (List UInt8)} (he : (readF k ws).2 = 0) : FI (readF k ws).1 (cntF (forms.getD k []) 0 0 ws.length) (cntF (forms.getD k []) 1 0 ws.length) (cntF (forms.getD k []) 2 0 ws.length) (ws.map List.length).sum ∧ fitsF k ws.length = true := by
  unfold readF at he ⊢
  split at he
  · next hf =>
    rw [if_pos hf]
    have h := fieldsG_inv (forms.getD k []) ws 0 F0 0 0 0 0 ⟨rfl, rfl, rfl, fun x hx => by simp [F0] at hx, fun x hx => by simp [F0] at hx, by simp [F0]⟩
    rcases h with h | h
    · exact ⟨by simpa using h, hf⟩
    · exact absurd he h
  · cases he
theorem headD_in {l : List Int} (h : Ins l) : In64 (l.headD 0) := by
  cases l with
  | nil => exact zero64
  | cons x r => exact h x (List.mem_cons_self ..)
theorem headD_u {l : List Nat} (h : ∀ x ∈ l, x < 18446744073709551616) : l.headD 0 < 18446744073709551616 := by
  cases l with
  | nil => exact zeroU
  | cons x r => exact h x (List.mem_cons_self ..)
theorem getD1_u {l : List Nat} (h : ∀ x ∈ l, x < 18446744073709551616) : l.getD 1 0 < 18446744073709551616 := by
  match l with
  | [] => exact zeroU
  | [x] => exact zeroU
  | x :: y :: r => exact h y (by simp)
theorem bb_len (l : List (List UInt8)) : (l.headD []).length + (l.getD 1 []).length ≤ (l.map List.length).sum := by
  match l with
  | [] => simp
  | [x] => simp
  | x :: y :: r => simp
/-- A command that has been read fits; its weight. -/
theorem cmdF_fits {k : Nat} {ws : List (List UInt8)} (hz : sumW ws ≤ 1500000) (he : (readF k ws).2 = 0) : (cmdF k (readF k ws).1).Fits ∧ cmW (cmdF k (readF k ws).1) ≤ 10 + sumW ws := by
  obtain ⟨h, -⟩ := readF_inv he
  have hs := @sum_le ws
  generalize (readF k ws).1 = f at h
  obtain ⟨h1, h2, h3, h4, h5, h6⟩ := h
  have hb := bb_len f.b
  have hc : f.n.length ≤ ws.length := by
    rw [h1]
    have : ∀ (form : List UInt8) (n i : Nat), cntF form 0 i n ≤ n := by
      intro form n
      induction n with
      | zero => intro i; simp [cntF]
      | succ n ih => intro i; have := ih (i + 1); rw [cntF]; split <;> omega
    exact this _ _ _
  have n0 : Ins [] := fun x hx => by cases hx
  unfold cmdF
  split
  · refine ⟨⟨zero64, headD_in h4, headD_u h5, zeroU, by simp, by simp, fun x hx => h4 x (List.mem_of_mem_tail hx), by simp; omega, n0, by simp⟩, ?_⟩
    simp only [cmW, List.length_nil, List.length_tail]; omega
  · split
    · refine ⟨⟨zero64, zero64, zeroU, zeroU, by simp, by simp, n0, by simp, h4, by dsimp only; omega⟩, ?_⟩
      simp only [cmW, List.length_nil]; omega
    · refine ⟨⟨headD_in h4, zero64, headD_u h5, getD1_u h5, by dsimp only; omega, by dsimp only; omega, n0, by simp, n0, by simp⟩, ?_⟩
      simp only [cmW, List.length_nil]; omega
/-- A command that has been read is clean. -/
theorem cmdF_clean {k : Nat} (hk : 1 ≤ k) (hk2 : k ≤ 14) {ws : List (List UInt8)} (he : (readF k ws).2 = 0) : hasLine (cmdF k (readF k ws).1) = true ∧ clC (cmdF k (readF k ws).1) = cmdF k (readF k ws).1 := by
  obtain ⟨h, hf⟩ := readF_inv he
  generalize (readF k ws).1 = f at h
  obtain ⟨h1, h2, h3, -, -, -⟩ := h
  refine ⟨?_, ?_⟩
  · unfold hasLine cmdF
    split
    · simp
    · split
      · simp
      · simp; omega
  · have hks : k = 1 ∨ k = 2 ∨ k = 3 ∨ k = 4 ∨ k = 5 ∨ k = 6 ∨ k = 7 ∨ k = 8 ∨ k = 9 ∨ k = 10 ∨ k = 11 ∨ k = 12 ∨ k = 13 ∨ k = 14 := by omega
    have fix : moreOf k = false → ws.length = (forms.getD k []).length := fun hm => by
      unfold fitsF at hf
      rw [hm, Bool.or_false, Bool.and_eq_true] at hf
      exact of_decide_eq_true hf.2
    by_cases hm : moreOf k = true
    · have : k = 1 ∨ k = 10 := by unfold moreOf at hm; simpa using hm
      rcases this with rfl | rfl <;> rfl
    · have hl := fix (by simpa using hm)
      rw [hl] at h1 h2 h3
      clear fix hf he hl hk hk2
      obtain ⟨n, w, b⟩ := f
      dsimp only at h1 h2 h3
      rcases hks with rfl | rfl | rfl | rfl | rfl | rfl | rfl | rfl | rfl | rfl | rfl | rfl | rfl | rfl
      · exact absurd rfl hm
      all_goals try exact absurd rfl hm
      all_goals
        simp only [forms, cntF, kindF, List.getD_cons_succ, List.getD_cons_zero, List.length_cons, List.length_nil] at h1 h2 h3
        rcases n with _ | ⟨n0, _ | ⟨n1, n⟩⟩ <;> rcases w with _ | ⟨w0, _ | ⟨w1, _ | ⟨w2, w⟩⟩⟩ <;> rcases b with _ | ⟨b0, _ | ⟨b1, _ | ⟨b2, b⟩⟩⟩ <;> simp at h1 h2 h3 <;> simp [clC, cmdF]
theorem findFrom_is (l : List UInt8) : ∀ (g k : Nat), k + g ≤ 16 → findFrom l k g < 0 ∨ ∃ j : Nat, j < 16 ∧ findFrom l k g = (j : Int) ∧ names.getD j [] = l
  | 0, k, _ => .inl (by simp [findFrom])
  | g + 1, k, hk => by
    rw [findFrom]
    split
    · next h => exact .inr ⟨k, by omega, rfl, h⟩
    · exact findFrom_is l g (k + 1) (by omega)
theorem names_three : ∀ i : Fin 16, 3 ≤ (names.getD i.val []).length := by decide
theorem findP_is {x : List UInt8} (h : ¬ findP x < 0) : ∃ j : Nat, j < 16 ∧ findP x = (j : Int) ∧ 3 ≤ x.length := by
  rcases findFrom_is x 16 0 (by omega) with h1 | ⟨j, h1, h2, h3⟩
  · exact absurd h1 h
  · exact ⟨j, h1, h2, by rw [← h3]; exact names_three ⟨j, h1⟩⟩
structure Rd (sc : Sc) (acc : Nat) : Prop where
  lim : In64 sc.limit
  ov : ∀ x ∈ sc.over, x.2 < 18446744073709551616
  cm : ∀ c ∈ sc.cmds, c.Fits ∧ hasLine c = true ∧ clC c = c
  wt : 5 * (ovsW sc.over + cmsW sc.cmds) ≤ 14 * acc
theorem Rd.more {sc : Sc} {a b : Nat} (h : Rd sc a) (hab : a ≤ b) : Rd sc b := ⟨h.lim, h.ov, h.cm, by have := h.wt; omega⟩
theorem parseG_inv : ∀ (ls : List (List UInt8)) (i : Nat) (begun : Bool) (sc : Sc) (acc : Nat), Rd sc acc → sumW ls ≤ 1200000 →
    ((parseG i begun sc ls).2.2 = 0 ∧ (parseG i begun sc ls).2.1 = 0 ∧ Rd (parseG i begun sc ls).1 (acc + sumW ls)) ∨
    ((parseG i begun sc ls).1 = S0 ∧ 0 < (parseG i begun sc ls).2.1 ∧ ((parseG i begun sc ls).2.2 = 160 ∨ (parseG i begun sc ls).2.2 = 161))
  | [], i, begun, sc, acc, h, hz => by
    rw [parseG]
    split
    · exact .inl ⟨rfl, rfl, h.more (by omega)⟩
    · exact .inr ⟨rfl, by simp, .inl rfl⟩
  | l :: r, i, begun, sc, acc, h, hz => by
    rw [sumW_cons] at hz
    have hsum := wordsL_sum l
    rw [parseG]
    split
    · have ih := parseG_inv r (i + 1) begun sc acc h (by omega)
      rcases ih with ⟨h1, h2, h3⟩ | ih
      · exact .inl ⟨h1, h2, h3.more (by rw [sumW_cons]; omega)⟩
      · exact .inr ih
    · next x ws hw =>
      rw [hw, sumW_cons] at hsum
      split
      · exact .inr ⟨rfl, by simp, .inl rfl⟩
      · next hb =>
        obtain ⟨j, hj, hf, h3⟩ := findP_is (x := x) (fun e => hb (.inl e))
        rw [hf, Int.toNat_natCast]
        split
        · next he =>
          obtain ⟨fi, -⟩ := readF_inv he
          have hs := @sum_le ws
          have hbb := bb_len (readF j ws).1.b
          have hbi := fi.bi
          have next : ∀ (bg : Bool) (sc2 : Sc), Rd sc2 (acc + (l.length + 1)) →
              ((parseG (i + 1) bg sc2 r).2.2 = 0 ∧ (parseG (i + 1) bg sc2 r).2.1 = 0 ∧ Rd (parseG (i + 1) bg sc2 r).1 (acc + sumW (l :: r))) ∨
              ((parseG (i + 1) bg sc2 r).1 = S0 ∧ 0 < (parseG (i + 1) bg sc2 r).2.1 ∧ ((parseG (i + 1) bg sc2 r).2.2 = 160 ∨ (parseG (i + 1) bg sc2 r).2.2 = 161)) := fun bg sc2 h2 => by
            have ih := parseG_inv r (i + 1) bg sc2 _ h2 (by omega)
            rw [sumW_cons, ← Nat.add_assoc]
            exact ih
          split
          · exact next _ _ ⟨headD_in fi.ni, h.ov, h.cm, by have := h.wt; dsimp only; omega⟩
          · next h0 =>
            split
            · refine next _ _ ⟨h.lim, fun y hy => ?_, h.cm, ?_⟩
              · rcases List.mem_append.1 hy with hy | hy
                · exact h.ov y hy
                · simp only [List.mem_singleton] at hy; subst hy; exact headD_u fi.wi
              · have := h.wt
                dsimp only
                rw [ovsW_append]
                simp only [ovsW, ovW]
                omega
            · next h15 =>
              have hj1 : 1 ≤ j := by omega
              have hj2 : j ≤ 14 := by omega
              obtain ⟨c1, c2⟩ := cmdF_fits (by omega) he
              refine next _ _ ⟨h.lim, h.ov, fun y hy => ?_, ?_⟩
              · rcases List.mem_append.1 hy with hy | hy
                · exact h.cm y hy
                · simp only [List.mem_singleton] at hy; subst hy; exact ⟨c1, cmdF_clean hj1 hj2 he⟩
              · have := h.wt
                dsimp only
                rw [cmsW_append]
                simp only [cmsW]
                omega
        · next he =>
          refine .inr ⟨rfl, by simp, ?_⟩
          rcases readF_err j ws with h1 | h1
          · exact absurd h1 he
          · exact h1
/-- What Parse answers. -/
theorem parseP_inv (t : List UInt8) : ((parseP t).2.2 = 0 ∧ (parseP t).2.1 = 0 ∧ (parseP t).1.Ok ∧ cleanS (parseP t).1 = (parseP t).1 ∧ t.length ≤ 1048576) ∨
    ((parseP t).1 = S0 ∧ (0 < (parseP t).2.1 ∨ 1048576 < t.length) ∧ ((parseP t).2.2 = 160 ∨ (parseP t).2.2 = 161)) := by
  unfold parseP
  split
  · next h => exact .inr ⟨rfl, .inr h, .inl rfl⟩
  · next h =>
    have hl := linesL_sum t
    rcases parseG_inv (linesL t) 0 false S0 0 ⟨zero64, fun x hx => by simp [S0] at hx, fun x hx => by simp [S0] at hx, by simp [S0, ovsW, cmsW]⟩ (by omega) with ⟨h1, h2, h3⟩ | ⟨h1, h2, h3⟩
    · refine .inl ⟨h1, h2, ⟨h3.lim, by have := h3.wt; omega, h3.ov, fun c hc => (h3.cm c hc).1⟩, ?_, by omega⟩
      have hc := h3.cm
      generalize (parseG 0 false S0 (linesL t)).1 = s at hc
      unfold cleanS
      rw [List.filter_eq_self.2 (fun c hm => (hc c hm).2.1), List.map_congr_left (g := id) (fun c hm => (hc c hm).2.2), List.map_id]
    · exact .inr ⟨h1, .inl h2, h3⟩
end Go.Proofs.YtigaacbaaopfmaaDoor.sh
