/- Plain laws of numbers and bytes as text: what is printed is read. -/
import Derived.Test.YtigaacbaaopfmaaDoorRr
namespace Go.Proofs.YtigaacbaaopfmaaDoor.sh
set_option linter.unusedVariables false
theorem valF_append (b : Bool) : ∀ (l m : List UInt8) (a : Nat), valF b a (l ++ m) = valF b (valF b a l) m
  | [], m, a => rfl
  | c :: r, m, a => valF_append b r m _
theorem dig_ok (u : Nat) (h : u < 10) : isD false (UInt8.ofNat (48 + u)) = true ∧ hv (UInt8.ofNat (48 + u)) = u := by
  have e : (UInt8.ofNat (48 + u)).toNat = 48 + u := by rw [UInt8.toNat_ofNat']; omega
  refine ⟨?_, ?_⟩
  · unfold isD; simp; omega
  · rw [hv_dig (by omega), e]; omega
theorem dec_ne (u : Nat) : Lib.decDigits u ≠ [] := by
  rw [Lib.decDigits]
  split <;> simp
theorem dec_all : ∀ (k u : Nat), u ≤ k → (Lib.decDigits u).all (isD false) = true
  | 0, u, h => by
    rw [Lib.decDigits, dif_pos (by omega)]
    have := (dig_ok u (by omega)).1
    simp only [List.all_cons, List.all_nil, Bool.and_true]
    exact this
  | k + 1, u, h => by
    rw [Lib.decDigits]
    split
    · next h1 =>
      have := (dig_ok u h1).1
      simp only [List.all_cons, List.all_nil, Bool.and_true]
      exact this
    · next h1 =>
      rw [List.all_append, dec_all k (u / 10) (by omega)]
      have := (dig_ok (u % 10) (by omega)).1
      simp only [List.all_cons, List.all_nil, Bool.and_true, Bool.true_and]
      exact this
theorem dec_val : ∀ (k u : Nat), u ≤ k → val false (Lib.decDigits u) = u
  | 0, u, h => by
    rw [Lib.decDigits, dif_pos (by omega)]
    have := (dig_ok u (by omega)).2
    show 0 * rad false + hv _ = u
    omega
  | k + 1, u, h => by
    rw [Lib.decDigits]
    split
    · next h1 =>
      have := (dig_ok u h1).2
      show 0 * rad false + hv _ = u
      omega
    · next h1 =>
      have ih := dec_val k (u / 10) (by omega)
      unfold val at ih ⊢
      rw [valF_append, ih]
      have := (dig_ok (u % 10) (by omega)).2
      show (u / 10) * 10 + hv _ = u
      omega
theorem dec_allD (u : Nat) : allD false (Lib.decDigits u) = true := by
  unfold allD
  rw [dec_all u u (Nat.le_refl _), Bool.and_true]
  have := dec_ne u
  cases h : Lib.decDigits u with
  | nil => exact absurd h this
  | cons _ _ => rfl
theorem numP_itoa (n : Int) (hn : In64 n) : numP (Lib.itoa n) = (n, 0) := by
  unfold In64 at hn
  unfold Lib.itoa
  by_cases h : n < 0
  · rw [if_pos h, numP, if_pos rfl, if_pos (dec_allD _), dec_val _ _ (Nat.le_refl _), if_pos (by omega)]
    congr 1; omega
  · rw [if_neg h]
    have hd := dec_allD n.toNat
    have hv := dec_val _ n.toNat (Nat.le_refl _)
    cases hl : Lib.decDigits n.toNat with
    | nil => exact absurd hl (dec_ne _)
    | cons c t =>
      rw [hl] at hd hv
      have hc : c ≠ 45 := by
        intro e
        subst e
        unfold allD at hd
        simp [isD] at hd
      rw [numP, if_neg hc, if_pos hd, hv, if_pos (by omega)]
      congr 1; omega
theorem strictN_itoa (n : Int) (hn : In64 n) : strictN (Lib.itoa n) = true := by
  unfold strictN; rw [numP_itoa n hn]; simp
theorem strictN_of {l : List UInt8} (h : strictN l = true) : Lib.itoa (numP l).1 = l := by
  unfold strictN at h
  simp at h
  exact h.2
theorem hexd_ok : ∀ v : Fin 16, isD true (hexd v.val) = true ∧ hv (hexd v.val) = v.val := by decide
theorem hexd_D (v : Nat) (h : v < 16) : isD true (hexd v) = true := (hexd_ok ⟨v, h⟩).1
theorem hexd_v (v : Nat) (h : v < 16) : hv (hexd v) = v := (hexd_ok ⟨v, h⟩).2
theorem hexL_all : ∀ l : List UInt8, (hexL l).all (isD true) = true
  | [] => rfl
  | c :: l => by
    have hc := c.toNat_lt
    show (hexd (c.toNat / 16) :: hexd (c.toNat % 16) :: hexL l).all (isD true) = true
    rw [List.all_cons, List.all_cons, hexd_D _ (by omega), hexd_D _ (by omega), hexL_all l]; rfl
theorem pairs_hexL : ∀ l : List UInt8, pairs (hexL l) = l
  | [] => rfl
  | c :: l => by
    have hc := c.toNat_lt
    show UInt8.ofNat (16 * hv (hexd (c.toNat / 16)) + hv (hexd (c.toNat % 16))) :: pairs (hexL l) = c :: l
    rw [hexd_v _ (by omega), hexd_v _ (by omega), pairs_hexL l]
    congr 1
    rw [show 16 * (c.toNat / 16) + c.toNat % 16 = c.toNat by omega]
    exact UInt8.ofNat_toNat
theorem bytesV_bytesL (l : List UInt8) : bytesV (bytesL l) = some l := by
  unfold bytesL
  by_cases h : l = []
  · subst h; rfl
  · rw [if_neg h]
    have hlen := hexL_length l
    have hp : 0 < l.length := List.length_pos_iff.2 h
    have hne : hexL l ≠ [45] := fun e => by rw [e] at hlen; simp at hlen; omega
    have hh : ¬ ((hexL l).head? = some 39 ∧ (hexL l).tail ≠ []) := fun e => by
      have ha := hexL_all l
      cases hl : hexL l with
      | nil => rw [hl] at e; simp at e
      | cons x t =>
        rw [hl] at e ha
        simp at e
        rw [List.all_cons, e.1] at ha
        revert ha
        simp [isD]
    have ha : allD true (hexL l) = true := by
      unfold allD
      rw [hexL_all, Bool.and_true]
      cases hl : hexL l with
      | nil => rw [hl] at hlen; simp at hlen; omega
      | cons _ _ => rfl
    unfold bytesV
    rw [if_neg hne, if_neg hh, if_pos ⟨ha, by omega⟩, pairs_hexL]
theorem strictB_bytesL (l : List UInt8) : strictB (bytesL l) = true := by
  unfold strictB; rw [bytesV_bytesL]; simp
theorem strictB_of {l : List UInt8} (h : strictB l = true) : bytesL ((bytesV l).getD []) = l := by
  unfold strictB at h
  simp at h
  exact h.2
/-- No blank in it. -/
def noB (l : List UInt8) : Bool := l.all fun c => c != 32
theorem noB_of {l : List UInt8} {b : Bool} (h : l.all (isD b) = true) : noB l = true := by
  unfold noB
  rw [List.all_eq_true] at h ⊢
  intro x hx
  have := h x hx
  simp only [bne_iff_ne, ne_eq]
  intro e
  subst e
  cases b <;> simp [isD] at this
theorem noB_itoa (n : Int) : noB (Lib.itoa n) = true := by
  unfold Lib.itoa
  have h := fun u => noB_of (dec_all u u (Nat.le_refl _))
  split
  · have h2 := h n.natAbs
    unfold noB at h2 ⊢
    rw [List.all_cons, h2]; rfl
  · exact h _
theorem noB_bytesL (l : List UInt8) : noB (bytesL l) = true := by
  unfold bytesL
  split
  · rfl
  · exact noB_of (hexL_all l)
theorem split_one : ∀ x : List UInt8, noB x = true → splitL x = [x]
  | [], _ => splitL_nil
  | c :: r, h => by
    unfold noB at h
    rw [List.all_cons, Bool.and_eq_true] at h
    have hc : c ≠ 32 := by simpa using h.1
    rw [splitL_cons, if_neg hc, split_one r h.2]; rfl
theorem split_more : ∀ (x r : List UInt8), noB x = true → splitL (x ++ 32 :: r) = x :: splitL r
  | [], r, _ => by rw [List.nil_append, splitL_cons, if_pos rfl]
  | c :: x, r, h => by
    unfold noB at h
    rw [List.all_cons, Bool.and_eq_true] at h
    have hc : c ≠ 32 := by simpa using h.1
    rw [List.cons_append, splitL_cons, if_neg hc, split_more x r h.2]; rfl
/-- Pieces put together again. -/
def joinL : List (List UInt8) → List UInt8
  | [] => []
  | [x] => x
  | x :: y :: r => x ++ 32 :: joinL (y :: r)
theorem join_pre (c : UInt8) (l : List (List UInt8)) (h : l ≠ []) : joinL (pre c l) = c :: joinL l := by
  match l, h with
  | [x], _ => rfl
  | x :: y :: r, _ => rfl
theorem join_split : ∀ l : List UInt8, joinL (splitL l) = l
  | [] => by rw [splitL_nil]; rfl
  | c :: r => by
    rw [splitL_cons]
    split
    · next h =>
      subst h
      have ih := join_split r
      cases hs : splitL r with
      | nil => exact absurd hs (splitL_ne r)
      | cons y ys =>
        rw [hs] at ih
        show [] ++ 32 :: joinL (y :: ys) = _
        rw [ih]; rfl
    · rw [join_pre _ _ (splitL_ne r), join_split r]
theorem findP_name : ∀ i : Fin 16, findP (names.getD i.val []) = i.val := by decide
theorem findP_of {l : List UInt8} {i : Nat} (h : findP l = (i : Int)) : names.getD i [] = l := by
  have key : ∀ g k, k + g = 16 → ∀ i : Nat, findFrom l k g = (i : Int) → names.getD i [] = l := by
    intro g
    induction g with
    | zero => intro k _ i h; unfold findFrom at h; omega
    | succ g ih =>
      intro k hk i h
      rw [findFrom] at h
      split at h
      · next e =>
        have : i = k := by omega
        rw [this]; exact e
      · exact ih (k + 1) (by omega) i h
  exact key 16 0 rfl i h
theorem noB_names : ∀ i : Fin 16, noB (names.getD i.val []) = true := by decide
end Go.Proofs.YtigaacbaaopfmaaDoor.sh
