/- What is shown is guessed; the document's Read as a plain function is the program's. -/
import Derived.Test.YtigaacbaaopfmaaDoorGu
namespace Go.Proofs.YtigaacbaaopfmaaDoor.sh
set_option linter.unusedVariables false
theorem opG_name (k : Nat) (h : 1 ≤ k ∧ k ≤ 14) : opG (names.getD k []) = k := by
  have hf := findP_name ⟨k, by omega⟩
  have hf : findP (names.getD k []) = (k : Int) := hf
  unfold opG
  rw [hf, if_pos (by omega), Int.toNat_natCast]
  unfold opOf
  rw [if_neg (by omega)]
theorem guess_mk (l : List UInt8) (k : Nat) (h : 1 ≤ k ∧ k ≤ 14) (ws : List (List UInt8)) (hs : splitL l = names.getD k [] :: ws) : guessP (splitL l) = guessR k ws := by
  rw [hs]
  show guessR (opG (names.getD k [])) ws = _
  rw [opG_name k h]
/-- What is shown is guessed. -/
theorem guess_show (a : Ans) (hi : In64 a.err ∧ In64 a.n ∧ In64 a.off) (h : 1 ≤ a.op ∧ a.op ≤ 14) : guessP (splitL (showL a)) = tidyC a := by
  obtain ⟨k, hk⟩ : ∃ k : Nat, a.op = k := ⟨a.op.toNat, by omega⟩
  have hk14 : 1 ≤ k ∧ k ≤ 14 := by omega
  rw [showL_k a k hk14 hk]
  have hn := noB_names ⟨k, by omega⟩
  by_cases he : a.err ≠ 0
  · have ht : tailL a = 32 :: (wError ++ 32 :: Lib.itoa a.err) := by unfold tailL; rw [if_pos he]; rfl
    rw [ht, guess_mk _ k hk14 [wError, Lib.itoa a.err] (split3 hn (by decide) (noB_itoa _))]
    unfold tidyC
    rw [if_pos he, hk]
    simp [guessR, numP_itoa _ hi.1]
  · have he' : a.err = 0 := by simpa using he
    unfold tailL tidyC
    rw [if_neg he, if_neg he, hk]
    rcases ops14 hk14 with rfl | rfl | rfl | rfl | rfl | rfl | rfl | rfl | rfl | rfl | rfl | rfl | rfl | rfl
    case inr.inl =>
      cases hy : a.yes
      · exact guess_mk _ 2 hk14 [wNo] (split2 hn (by decide))
      · have := guess_mk (names.getD 2 [] ++ (32 :: (wYes ++ 32 :: bytesL a.elem.data.toList))) 2 hk14 [wYes, bytesL a.elem.data.toList] (split3 hn (by decide) (noB_bytesL _))
        simp only [guessR, wYes, wError, byt_bytesL] at this
        simp only [bytesP_L]
        exact this
    case inr.inr.inl =>
      cases hy : a.yes
      · exact guess_mk _ 3 hk14 [wOld] (split2 hn (by decide))
      · exact guess_mk _ 3 hk14 [wNew] (split2 hn (by decide))
    case inr.inr.inr.inl =>
      cases hy : a.yes
      · exact guess_mk _ 4 hk14 [wNo] (split2 hn (by decide))
      · exact guess_mk _ 4 hk14 [wYes] (split2 hn (by decide))
    case inr.inr.inr.inr.inr.inl =>
      show guessP (splitL (names.getD 6 [] ++ [])) = _
      rw [List.append_nil]
      exact guess_mk _ 6 hk14 [] (split_one _ hn)
    case inr.inr.inr.inr.inr.inr.inr.inr.inr.inl =>
      show guessP (splitL (names.getD 10 [] ++ [])) = _
      rw [List.append_nil]
      exact guess_mk _ 10 hk14 [] (split_one _ hn)
    case inr.inr.inr.inr.inr.inr.inr.inr.inl =>
      cases hy : a.yes
      · exact guess_mk _ 9 hk14 [wDone] (split2 hn (by decide))
      · have := guess_mk (names.getD 9 [] ++ (32 :: (wPair ++ 32 :: (bytesL a.key.data.toList ++ 32 :: bytesL a.elem.data.toList)))) 9 hk14 [wPair, bytesL a.key.data.toList, bytesL a.elem.data.toList] (split4 hn (by decide) (noB_bytesL _) (noB_bytesL _))
        simp only [guessR, wPair, wRule, byt_bytesL] at this
        simp only [bytesP_L]
        exact this
    case inr.inr.inr.inr.inr.inr.inr.inr.inr.inr.inr.inr.inr =>
      by_cases hz : a.n = 0
      · have := guess_mk (names.getD 14 [] ++ 32 :: wFine) 14 hk14 [wFine] (split2 hn (by decide))
        simp only [hz]
        exact this
      · have := guess_mk (names.getD 14 [] ++ (32 :: (wRule ++ 32 :: (Lib.itoa a.n ++ 32 :: Lib.itoa a.off)))) 14 hk14 [wRule, Lib.itoa a.n, Lib.itoa a.off] (split4 hn (by decide) (noB_itoa _) (noB_itoa _))
        simp only [guessR, wPair, wRule, numP_itoa _ hi.2.1, numP_itoa _ hi.2.2] at this
        simp only [hz]
        exact this
    all_goals
      refine (guess_mk _ _ hk14 [Lib.itoa a.n] (split2 hn (noB_itoa _))).trans ?_
      simp only [guessR, numP_itoa _ hi.2.1]
      rfl
theorem opG_in (h : List UInt8) : (1 ≤ opG h ∧ opG h ≤ 14) ∨ opG h = 0 := by
  have := findP_in h
  unfold opG opOf
  split
  · split
    · right; rfl
    · left; omega
  · right; rfl
theorem guessR_in (op : Int) (ws : List (List UInt8)) (ho : In64 op) : In64 (guessR op ws).err ∧ In64 (guessR op ws).n ∧ In64 (guessR op ws).off ∧ ((guessR op ws).op = op) := by
  have z := z64
  unfold guessR
  repeat' split
  all_goals first
    | exact ⟨z, z, z, rfl⟩
    | exact ⟨(numP_in _).1, z, z, rfl⟩
    | exact ⟨z, (numP_in _).1, z, rfl⟩
    | exact ⟨z, (numP_in _).1, (numP_in _).1, rfl⟩
    | (rename_i e; exact ⟨z, z, z, e.symm⟩)
    | (rename_i e; exact ⟨z, (numP_in _).1, (numP_in _).1, e.symm⟩)
/-- The document's Read. -/
def refR (l : List UInt8) : Option Ans := if l = [] ∨ showL (guessP (splitL l)) ≠ l then none else some (guessP (splitL l))
theorem ref_read (l : List UInt8) : refR l = readO l := by
  unfold refR
  cases h : readO l with
  | some a =>
    obtain ⟨hs, ht, hk, i1, i2, i3, _⟩ := show_read h
    have hg := guess_show a ⟨i1, i2, i3⟩ hk
    rw [hs, ht] at hg
    rw [hg, hs, if_neg]
    rintro (e | e)
    · subst e
      have := hs
      obtain ⟨k, hkk⟩ : ∃ k : Nat, a.op = k := ⟨a.op.toNat, by omega⟩
      rw [showL_k a k (by omega) hkk] at this
      have h2 : ∀ i : Fin 15, 1 ≤ i.val → names.getD i.val [] ≠ [] := by decide
      exact h2 ⟨k, by omega⟩ (by show 1 ≤ k; omega) (List.append_eq_nil_iff.1 this).1
    · exact e rfl
  | none =>
    rw [if_pos]
    by_cases hl : l = []
    · exact Or.inl hl
    · right
      intro e
      cases hs : splitL l with
      | nil => exact splitL_ne l hs
      | cons x ws =>
        have hgp : guessP (splitL l) = guessR (opG x) ws := by rw [hs]; rfl
        rw [hgp] at e
        have ho := opG_in x
        have hin := guessR_in (opG x) ws ⟨by omega, by omega⟩
        rcases ho with ho | ho
        · have hr := read_show (guessR (opG x) ws) ⟨hin.1, hin.2.1, hin.2.2.1⟩ (by rw [hin.2.2.2]; exact ho)
          rw [e, h] at hr
          cases hr
        · rw [ho] at hin e
          have : showL (guessR 0 ws) = [] := by
            have hn : nameL (guessR 0 ws).op = [] := by rw [hin.2.2.2]; rfl
            unfold showL
            rw [if_pos hn]
          rw [this] at e
          exact hl e.symm
end Go.Proofs.YtigaacbaaopfmaaDoor.sh
