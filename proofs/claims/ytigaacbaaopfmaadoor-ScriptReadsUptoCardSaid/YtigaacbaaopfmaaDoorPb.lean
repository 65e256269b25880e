/- Plain laws of answers' lines: what is shown is read, and what is read is shown. -/
import Derived.Test.YtigaacbaaopfmaaDoorPa
namespace Go.Proofs.YtigaacbaaopfmaaDoor.sh
set_option linter.unusedVariables false
/-- The answer with zeros where its line says nothing. -/
def tidyC (a : Ans) : Ans :=
  if a.err ≠ 0 then { A0 a.op with err := a.err }
  else if a.op = 6 ∨ a.op = 10 then A0 a.op
  else if a.op = 2 then (if a.yes then { A0 2 with yes := true, elem := a.elem } else A0 2)
  else if a.op = 4 then { A0 4 with yes := a.yes }
  else if a.op = 3 then { A0 3 with yes := a.yes }
  else if a.op = 9 then (if a.yes then { A0 9 with yes := true, key := a.key, elem := a.elem } else A0 9)
  else if a.op = 14 then (if a.n = 0 then A0 14 else { A0 14 with n := a.n, off := a.off })
  else { A0 a.op with n := a.n }
def tidyA (a : Ans) : Option Ans := if 1 ≤ a.op ∧ a.op ≤ 14 then some (tidyC a) else none
theorem bytesP_L (s : ByteArray) : bytesP s = bytesL s.data.toList := by
  have h := bytesP_B s.data.toList
  rw [B_of] at h; exact h
theorem byt_bytesL (s : ByteArray) : byt (bytesL s.data.toList) = s := by
  unfold byt; rw [bytesV_bytesL]; exact B_of s
theorem nameL_k (k : Nat) (h : 1 ≤ k ∧ k ≤ 14) : nameL (k : Int) = names.getD k [] := by
  unfold nameL; rw [if_pos (by omega), Int.toNat_natCast]
theorem readO_mk (l : List UInt8) (k : Nat) (h : 1 ≤ k ∧ k ≤ 14) (ws : List (List UInt8)) (hs : splitL l = names.getD k [] :: ws) : readO l = restO k ws := by
  have hf := findP_name ⟨k, by omega⟩
  unfold readO
  rw [hs]
  simp only [List.headD_cons, List.tail_cons, hf]
  rw [if_pos (by omega)]
theorem ops14 {k : Nat} (h : 1 ≤ k ∧ k ≤ 14) : k = 1 ∨ k = 2 ∨ k = 3 ∨ k = 4 ∨ k = 5 ∨ k = 6 ∨ k = 7 ∨ k = 8 ∨ k = 9 ∨ k = 10 ∨ k = 11 ∨ k = 12 ∨ k = 13 ∨ k = 14 := by omega
theorem split2 {x y : List UInt8} (hx : noB x = true) (hy : noB y = true) : splitL (x ++ 32 :: y) = [x, y] := by rw [split_more x y hx, split_one y hy]
theorem split3 {x y z : List UInt8} (hx : noB x = true) (hy : noB y = true) (hz : noB z = true) : splitL (x ++ 32 :: (y ++ 32 :: z)) = [x, y, z] := by rw [split_more x _ hx, split2 hy hz]
theorem split4 {x y z u : List UInt8} (hx : noB x = true) (hy : noB y = true) (hz : noB z = true) (hu : noB u = true) : splitL (x ++ 32 :: (y ++ 32 :: (z ++ 32 :: u))) = [x, y, z, u] := by rw [split_more x _ hx, split3 hy hz hu]
theorem showL_k (a : Ans) (k : Nat) (hk : 1 ≤ k ∧ k ≤ 14) (ha : a.op = k) : showL a = names.getD k [] ++ tailL a := by
  unfold showL
  rw [ha, nameL_k k hk]
  have : ∀ i : Fin 15, 1 ≤ i.val → names.getD i.val [] ≠ [] := by decide
  rw [if_neg (this ⟨k, by omega⟩ hk.1)]
/-- What is shown is read. -/
theorem read_show (a : Ans) (hi : In64 a.err ∧ In64 a.n ∧ In64 a.off) (h : 1 ≤ a.op ∧ a.op ≤ 14) : readO (showL a) = some (tidyC a) := by
  obtain ⟨k, hk⟩ : ∃ k : Nat, a.op = k := ⟨a.op.toNat, by omega⟩
  have hk14 : 1 ≤ k ∧ k ≤ 14 := by omega
  rw [showL_k a k hk14 hk]
  have hn := noB_names ⟨k, by omega⟩
  by_cases he : a.err ≠ 0
  · have ht : tailL a = 32 :: (wError ++ 32 :: Lib.itoa a.err) := by unfold tailL; rw [if_pos he]; rfl
    rw [ht, readO_mk _ k hk14 [wError, Lib.itoa a.err] (split3 hn (by decide) (noB_itoa _))]
    unfold tidyC
    rw [if_pos he, hk]
    simp only [restO, if_true, strictN_itoa _ hi.1, numP_itoa _ hi.1, okA]
    simp [he]
  · have he' : a.err = 0 := by simpa using he
    unfold tailL tidyC
    rw [if_neg he, if_neg he, hk]
    rcases ops14 hk14 with rfl | rfl | rfl | rfl | rfl | rfl | rfl | rfl | rfl | rfl | rfl | rfl | rfl | rfl
    case inr.inl =>
      cases hy : a.yes
      · exact readO_mk _ 2 hk14 [wNo] (split2 hn (by decide))
      · have := readO_mk (names.getD 2 [] ++ (32 :: (wYes ++ 32 :: bytesL a.elem.data.toList))) 2 hk14 [wYes, bytesL a.elem.data.toList] (split3 hn (by decide) (noB_bytesL _))
        simp only [restO, wYes, wError, strictB_bytesL, okA, byt_bytesL] at this
        simp only [bytesP_L]
        exact this
    case inr.inr.inl =>
      cases hy : a.yes
      · exact readO_mk _ 3 hk14 [wOld] (split2 hn (by decide))
      · exact readO_mk _ 3 hk14 [wNew] (split2 hn (by decide))
    case inr.inr.inr.inl =>
      cases hy : a.yes
      · exact readO_mk _ 4 hk14 [wNo] (split2 hn (by decide))
      · exact readO_mk _ 4 hk14 [wYes] (split2 hn (by decide))
    case inr.inr.inr.inr.inr.inl =>
      show readO (names.getD 6 [] ++ []) = _
      rw [List.append_nil]
      exact readO_mk _ 6 hk14 [] (split_one _ hn)
    case inr.inr.inr.inr.inr.inr.inr.inr.inr.inl =>
      show readO (names.getD 10 [] ++ []) = _
      rw [List.append_nil]
      exact readO_mk _ 10 hk14 [] (split_one _ hn)
    case inr.inr.inr.inr.inr.inr.inr.inr.inl =>
      cases hy : a.yes
      · exact readO_mk _ 9 hk14 [wDone] (split2 hn (by decide))
      · have := readO_mk (names.getD 9 [] ++ (32 :: (wPair ++ 32 :: (bytesL a.key.data.toList ++ 32 :: bytesL a.elem.data.toList)))) 9 hk14 [wPair, bytesL a.key.data.toList, bytesL a.elem.data.toList] (split4 hn (by decide) (noB_bytesL _) (noB_bytesL _))
        simp only [restO, wPair, wRule, strictB_bytesL, okA, byt_bytesL] at this
        simp only [bytesP_L]
        exact this
    case inr.inr.inr.inr.inr.inr.inr.inr.inr.inr.inr.inr.inr =>
      by_cases hz : a.n = 0
      · have := readO_mk (names.getD 14 [] ++ 32 :: wFine) 14 hk14 [wFine] (split2 hn (by decide))
        simp only [hz]
        exact this
      · have := readO_mk (names.getD 14 [] ++ (32 :: (wRule ++ 32 :: (Lib.itoa a.n ++ 32 :: Lib.itoa a.off)))) 14 hk14 [wRule, Lib.itoa a.n, Lib.itoa a.off] (split4 hn (by decide) (noB_itoa _) (noB_itoa _))
        simp only [restO, wPair, wRule, strictN_itoa _ hi.2.1, strictN_itoa _ hi.2.2, numP_itoa _ hi.2.1, numP_itoa _ hi.2.2, okA] at this
        have hb : (a.n != 0) = true := by simpa using hz
        rw [hb] at this
        simp only [hz]
        exact this
    all_goals
      refine (readO_mk _ _ hk14 [Lib.itoa a.n] (split2 hn (noB_itoa _))).trans ?_
      simp only [restO, strictN_itoa _ hi.2.1, numP_itoa _ hi.2.1, okA]
      rfl
theorem okA_some {b : Bool} {x a : Ans} (h : okA b x = some a) : b = true ∧ x = a := by
  unfold okA at h
  split at h
  · next e => exact ⟨e, Option.some.inj h⟩
  · cases h
theorem readO_inv {l : List UInt8} {a : Ans} (h : readO l = some a) : ∃ k ws, (1 ≤ k ∧ k ≤ 14) ∧ l = joinL (names.getD k [] :: ws) ∧ restO (k : Int) ws = some a := by
  unfold readO at h
  split at h
  · next hk =>
    obtain ⟨k, hkk⟩ : ∃ k : Nat, findP ((splitL l).headD []) = k := ⟨(findP ((splitL l).headD [])).toNat, by omega⟩
    rw [hkk] at h hk
    refine ⟨k, _, by omega, ?_, h⟩
    rw [findP_of hkk]
    have hj := join_split l
    cases hs : splitL l with
    | nil => exact absurd hs (splitL_ne l)
    | cons x xs => rw [hs] at hj; exact hj.symm
  · cases h
theorem bytesP_byt {y : List UInt8} (h : strictB y = true) : bytesP (byt y) = y := by
  unfold byt; rw [bytesP_B]; exact strictB_of h
def Shown (l : List UInt8) (a : Ans) : Prop := showL a = l ∧ tidyC a = a ∧ (1 ≤ a.op ∧ a.op ≤ 14) ∧ In64 a.err ∧ In64 a.n ∧ In64 a.off ∧ a.key.size ≤ l.length ∧ a.elem.size ≤ l.length
theorem z64 : In64 0 := ⟨by decide, by decide⟩
theorem pack {k : Nat} {a : Ans} {l : List UInt8} (hk : 1 ≤ k ∧ k ≤ 14) (ho : a.op = k) (hs : names.getD k [] ++ tailL a = l) (ht : tidyC a = a) (h1 : In64 a.err) (h2 : In64 a.n) (h3 : In64 a.off) (h4 : a.key.size ≤ l.length) (h5 : a.elem.size ≤ l.length) : Shown l a :=
  ⟨(showL_k a k hk ho).trans hs, ht, by omega, h1, h2, h3, h4, h5⟩
theorem byt_len (y : List UInt8) : (byt y).size ≤ y.length := by
  unfold byt; rw [B_size]; exact bytesV_len y
theorem show_read1 {k : Nat} (hk : 1 ≤ k ∧ k ≤ 14) {x : List UInt8} {a : Ans} (h : restO (k : Int) [x] = some a) : Shown (joinL [names.getD k [], x]) a := by
  rcases ops14 hk with rfl | rfl | rfl | rfl | rfl | rfl | rfl | rfl | rfl | rfl | rfl | rfl | rfl | rfl
  case inr.inl =>
    obtain ⟨h1, rfl⟩ := okA_some (b := decide (x = wNo)) (x := A0 2) h
    obtain rfl := of_decide_eq_true h1
    exact pack hk rfl rfl rfl z64 z64 z64 (Nat.zero_le _) (Nat.zero_le _)
  case inr.inr.inl =>
    have h : (if x = wNew then some { A0 3 with yes := true } else okA (decide (x = wOld)) (A0 3)) = some a := h
    split at h
    · next e =>
      subst e
      obtain rfl := Option.some.inj h
      exact pack hk rfl rfl rfl z64 z64 z64 (Nat.zero_le _) (Nat.zero_le _)
    · obtain ⟨h1, rfl⟩ := okA_some h
      obtain rfl := of_decide_eq_true h1
      exact pack hk rfl rfl rfl z64 z64 z64 (Nat.zero_le _) (Nat.zero_le _)
  case inr.inr.inr.inl =>
    have h : (if x = wYes then some { A0 4 with yes := true } else okA (decide (x = wNo)) (A0 4)) = some a := h
    split at h
    · next e =>
      subst e
      obtain rfl := Option.some.inj h
      exact pack hk rfl rfl rfl z64 z64 z64 (Nat.zero_le _) (Nat.zero_le _)
    · obtain ⟨h1, rfl⟩ := okA_some h
      obtain rfl := of_decide_eq_true h1
      exact pack hk rfl rfl rfl z64 z64 z64 (Nat.zero_le _) (Nat.zero_le _)
  case inr.inr.inr.inr.inr.inl => cases h
  case inr.inr.inr.inr.inr.inr.inr.inr.inl =>
    obtain ⟨h1, rfl⟩ := okA_some (b := decide (x = wDone)) (x := A0 9) h
    obtain rfl := of_decide_eq_true h1
    exact pack hk rfl rfl rfl z64 z64 z64 (Nat.zero_le _) (Nat.zero_le _)
  case inr.inr.inr.inr.inr.inr.inr.inr.inr.inl => cases h
  case inr.inr.inr.inr.inr.inr.inr.inr.inr.inr.inr.inr.inr =>
    obtain ⟨h1, rfl⟩ := okA_some (b := decide (x = wFine)) (x := A0 14) h
    obtain rfl := of_decide_eq_true h1
    exact pack hk rfl rfl rfl z64 z64 z64 (Nat.zero_le _) (Nat.zero_le _)
  all_goals
    obtain ⟨h1, rfl⟩ := okA_some (b := strictN x) (x := { A0 _ with n := (numP x).1 }) h
    refine pack hk rfl ?_ rfl z64 (numP_in x).1 z64 (Nat.zero_le _) (Nat.zero_le _)
    have e := strictN_of h1
    show _ ++ 32 :: Lib.itoa (numP x).1 = _
    rw [e]; rfl
theorem show_read2 {k : Nat} (hk : 1 ≤ k ∧ k ≤ 14) {x y : List UInt8} {a : Ans} (h : restO (k : Int) [x, y] = some a) : Shown (joinL [names.getD k [], x, y]) a := by
  have h : (if x = wError then okA (strictN y && ((numP y).1 != 0)) { A0 k with err := (numP y).1 } else if (k : Int) = 2 ∧ x = wYes then okA (strictB y) { A0 2 with yes := true, elem := byt y } else none) = some a := h
  split at h
  · next e =>
    subst e
    obtain ⟨h1, rfl⟩ := okA_some h
    rw [Bool.and_eq_true] at h1
    have hne : (numP y).1 ≠ 0 := by simpa using h1.2
    refine pack hk rfl ?_ ?_ (numP_in y).1 z64 z64 (Nat.zero_le _) (Nat.zero_le _)
    · unfold tailL
      rw [if_pos hne, strictN_of h1.1]; rfl
    · unfold tidyC
      rw [if_pos hne]
  · split at h
    · next e =>
      obtain ⟨e1, rfl⟩ := e
      obtain rfl : k = 2 := by omega
      obtain ⟨h1, rfl⟩ := okA_some h
      refine pack hk rfl ?_ rfl z64 z64 z64 (Nat.zero_le _) (Nat.le_trans (byt_len y) (by simp [joinL]; omega))
      show names.getD 2 [] ++ ([32, 121, 101, 115] ++ (32 :: bytesP (byt y))) = _
      rw [bytesP_byt h1]; rfl
    · cases h
theorem show_read3 {k : Nat} (hk : 1 ≤ k ∧ k ≤ 14) {x y u : List UInt8} {a : Ans} (h : restO (k : Int) [x, y, u] = some a) : Shown (joinL [names.getD k [], x, y, u]) a := by
  have h : (if (k : Int) = 9 ∧ x = wPair then okA (strictB y && strictB u) { A0 9 with yes := true, key := byt y, elem := byt u } else if (k : Int) = 14 ∧ x = wRule then okA (strictN y && strictN u && ((numP y).1 != 0)) { A0 14 with n := (numP y).1, off := (numP u).1 } else none) = some a := h
  split at h
  · next e =>
    obtain ⟨e1, rfl⟩ := e
    obtain rfl : k = 9 := by omega
    obtain ⟨h1, rfl⟩ := okA_some h
    rw [Bool.and_eq_true] at h1
    refine pack hk rfl ?_ rfl z64 z64 z64 (Nat.le_trans (byt_len y) (by simp [joinL]; omega)) (Nat.le_trans (byt_len u) (by simp [joinL]; omega))
    show names.getD 9 [] ++ ([32, 112, 97, 105, 114] ++ (32 :: bytesP (byt y)) ++ (32 :: bytesP (byt u))) = _
    rw [bytesP_byt h1.1, bytesP_byt h1.2]; simp [joinL, wPair]
  · split at h
    · next e =>
      obtain ⟨e1, rfl⟩ := e
      obtain rfl : k = 14 := by omega
      obtain ⟨h1, rfl⟩ := okA_some h
      simp only [Bool.and_eq_true] at h1
      have hne : (numP y).1 ≠ 0 := by simpa using h1.2
      refine pack hk rfl ?_ ?_ z64 (numP_in y).1 (numP_in u).1 (Nat.zero_le _) (Nat.zero_le _)
      · show names.getD 14 [] ++ (if (numP y).1 = 0 then _ else [32, 114, 117, 108, 101] ++ (32 :: Lib.itoa (numP y).1) ++ (32 :: Lib.itoa (numP u).1)) = _
        rw [if_neg hne, strictN_of h1.1.1, strictN_of h1.1.2]; simp [joinL, wRule]
      · show (if (numP y).1 = 0 then _ else _) = _
        rw [if_neg hne]
    · cases h
/-- What is read is shown. -/
theorem show_read {l : List UInt8} {a : Ans} (h : readO l = some a) : Shown l a := by
  obtain ⟨k, ws, hk, rfl, hr⟩ := readO_inv h
  match ws, hr with
  | [], hr =>
    obtain ⟨h1, rfl⟩ := okA_some (b := decide ((k : Int) = 6 ∨ (k : Int) = 10)) (x := A0 k) hr
    have h1 := of_decide_eq_true h1
    refine pack hk rfl ?_ ?_ z64 z64 z64 (Nat.zero_le _) (Nat.zero_le _)
    · unfold tailL
      rw [if_neg (fun h => h rfl), if_pos h1, List.append_nil]; rfl
    · unfold tidyC
      rw [if_neg (fun h => h rfl), if_pos h1]
  | [x], hr => exact show_read1 hk hr
  | [x, y], hr => exact show_read2 hk hr
  | [x, y, u], hr => exact show_read3 hk hr
end Go.Proofs.YtigaacbaaopfmaaDoor.sh
