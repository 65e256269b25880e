/- A text spread by blanks, tabs, empty lines and remarks says what it said: plain Lean. -/
import Derived.Test.YtigaacbaaopfmaaDoorLh
namespace Go.Proofs.YtigaacbaaopfmaaDoor.sh
open Go.RowKit
set_option linter.unusedVariables false
set_option linter.unusedSimpArgs false
/-- Does the list say something here? -/
def hitS (how : List Int) (c : UInt8) : Bool := !how.isEmpty && (c == 32 || c == 10)
def kS (how : List Int) (n : Nat) (c : UInt8) : Int := if hitS how c = true then how.getD (n % how.length) 0 else 0
def preS (k : Int) (c : UInt8) : List UInt8 := if k = 5 ∧ c = 10 then [32, 35, 108, 105, 109, 105, 116, 32, 55, 32, 255] else []
def postS (k : Int) (c : UInt8) : List UInt8 :=
  if k = 1 then [9] else if k = 2 then [32, 32] else if k = 3 ∧ c = 10 then [10] else if k = 4 ∧ c = 10 then [9, 32, 35, 32, 108, 101, 110, 32, 49, 10] else []
def outS (how : List Int) (n : Nat) (c : UInt8) : List UInt8 := preS (kS how n c) c ++ [c] ++ postS (kS how n c) c
def nxtS (how : List Int) (n : Nat) (c : UInt8) : Nat := if hitS how c = true then n + 1 else n
def spL (how : List Int) : Nat → List UInt8 → List UInt8
  | _, [] => []
  | n, c :: r => outS how n c ++ spL how (nxtS how n c) r
def cntS (how : List Int) : Nat → List UInt8 → Nat
  | n, [] => n
  | n, c :: r => cntS how (nxtS how n c) r
theorem spL_append (how : List Int) : ∀ (a b : List UInt8) (n : Nat), spL how n (a ++ b) = spL how n a ++ spL how (cntS how n a) b
  | [], b, n => rfl
  | c :: a, b, n => by
    rw [List.cons_append, spL, spL, spL_append how a b, cntS, List.append_assoc]
theorem cntS_append (how : List Int) : ∀ (a b : List UInt8) (n : Nat), cntS how n (a ++ b) = cntS how (cntS how n a) b
  | [], b, n => rfl
  | c :: a, b, n => by rw [List.cons_append, cntS, cntS_append how a b, cntS]
theorem cntS_le (how : List Int) : ∀ (a : List UInt8) (n : Nat), cntS how n a ≤ n + a.length
  | [], n => by simp [cntS]
  | c :: a, n => by
    have := cntS_le how a (nxtS how n c)
    have h2 : nxtS how n c ≤ n + 1 := by unfold nxtS; split <;> omega
    rw [cntS, List.length_cons]
    omega
theorem outS_len (how : List Int) (n : Nat) (c : UInt8) : (outS how n c).length ≤ 12 := by
  unfold outS preS postS
  generalize kS how n c = k
  by_cases h5 : k = 5
  · subst h5
    simp only [List.length_append]
    split <;> simp
  · have e : (if k = 5 ∧ c = 10 then ([32, 35, 108, 105, 109, 105, 116, 32, 55, 32, 255] : List UInt8) else []) = [] := if_neg (fun h => h5 h.1)
    rw [e]
    repeat' split
    all_goals simp
theorem spL_len (how : List Int) : ∀ (a : List UInt8) (n : Nat), (spL how n a).length ≤ 12 * a.length
  | [], n => by simp [spL]
  | c :: a, n => by
    have := spL_len how a (nxtS how n c)
    have := outS_len how n c
    rw [spL, List.length_append, List.length_cons]
    omega
theorem scan_wb (ws : List (List UInt8)) (r : List UInt8) : scan ws none false (32 :: r) = scan ws none false r ∧ scan ws none false (9 :: r) = scan ws none false r := by
  constructor
  · rw [scan, if_neg (by decide), if_neg (by simp), if_neg (by decide), if_pos (by decide)]
  · rw [scan, if_neg (by decide), if_neg (by simp), if_neg (by decide), if_pos (by decide)]
theorem scan_nl (ws : List (List UInt8)) (r : List UInt8) : scan ws none false (10 :: r) = emit ws ++ scan [] none false r := by
  rw [scan]; simp [fin]
theorem scan_hash (l r : List UInt8) (ws : List (List UInt8)) (h : ∀ c ∈ l, c ≠ 10) : scan ws none false (35 :: (l ++ 10 :: r)) = emit ws ++ scan [] none false r := by
  have e : scan ws none false (35 :: (l ++ 10 :: r)) = scan ws none true (l ++ 10 :: r) := by
    rw [scan, if_neg (by decide), if_neg (by simp), if_pos rfl]
  rw [e, scan_feed l ws none true r h, scan_rem l ws h]
/-- What stands behind a blank or an end of line changes nothing. -/
theorem scan_post (k : Int) (c : UInt8) (ws : List (List UInt8)) (r : List UInt8) (h : c = 10 → ws = []) : scan ws none false (postS k c ++ r) = scan ws none false r := by
  unfold postS
  split
  · exact (scan_wb ws r).2
  · split
    · show scan ws none false (32 :: 32 :: r) = _
      rw [(scan_wb ws _).1, (scan_wb ws _).1]
    · split
      · next hc =>
        have := h hc.2
        subst this
        show scan [] none false (10 :: r) = _
        rw [scan_nl]; rfl
      · split
        · next hc =>
          have := h hc.2
          subst this
          show scan [] none false (9 :: 32 :: 35 :: ([32, 108, 101, 110, 32, 49] ++ 10 :: r)) = _
          rw [(scan_wb [] _).2, (scan_wb [] _).1, scan_hash _ _ _ (by decide)]; rfl
        · rfl
/-- A remark at the end of the line, the end of the line. -/
theorem scan_pre (k : Int) (ws : List (List UInt8)) (x r : List UInt8) : scan ws (some x) false (preS k 10 ++ 10 :: r) = (ws ++ [x]) :: scan [] none false r := by
  unfold preS
  split
  · show scan ws (some x) false (32 :: 35 :: ([108, 105, 109, 105, 116, 32, 55, 32, 255] ++ 10 :: r)) = _
    rw [scan_blank, scan_hash _ _ _ (by decide)]
    unfold emit
    rw [if_neg (by simp)]
    rfl
  · exact scan_end ws x r
theorem hit_tok (how : List Int) {c : UInt8} (h : 36 ≤ c.toNat) : hitS how c = false := by
  unfold hitS
  have e1 : (c == 32) = false := beq_eq_false_iff_ne.2 (fun e => by subst e; exact absurd h (by decide))
  have e2 : (c == 10) = false := beq_eq_false_iff_ne.2 (fun e => by subst e; exact absurd h (by decide))
  rw [e1, e2]; simp
theorem out_tok (how : List Int) (n : Nat) {c : UInt8} (h : 36 ≤ c.toNat) : outS how n c = [c] ∧ nxtS how n c = n := by
  have e := hit_tok how h
  unfold outS nxtS kS
  rw [e]
  exact ⟨by simp [preS, postS], by simp⟩
theorem sp_tok (how : List Int) : ∀ (t r : List UInt8) (n : Nat), (∀ c ∈ t, 36 ≤ c.toNat) → spL how n (t ++ r) = t ++ spL how n r
  | [], r, n, h => rfl
  | c :: t, r, n, h => by
    obtain ⟨e1, e2⟩ := out_tok how n (h c (List.mem_cons_self ..))
    rw [List.cons_append, spL, e1, e2, sp_tok how t r n (fun y hy => h y (List.mem_cons_of_mem _ hy))]
    rfl
theorem sp_blank (how : List Int) (n : Nat) (r : List UInt8) : ∃ n' k, spL how n (32 :: r) = 32 :: (postS k 32 ++ spL how n' r) :=
  ⟨nxtS how n 32, kS how n 32, by rw [spL, outS, preS, if_neg (by intro h; exact absurd h.2 (by decide))]; simp⟩
theorem sp_end (how : List Int) (n : Nat) (r : List UInt8) : ∃ n' k, spL how n (10 :: r) = preS k 10 ++ 10 :: (postS k 10 ++ spL how n' r) :=
  ⟨nxtS how n 10, kS how n 10, by rw [spL, outS]; simp⟩
theorem scan_sp_tail (how : List Int) : ∀ (l : List (List UInt8)) (ws : List (List UInt8)) (x r : List UInt8) (n : Nat), (∀ y ∈ l, okT y) → ∃ n', scan ws (some x) false (spL how n (tail32 l ++ 10 :: r)) = (ws ++ x :: l) :: scan [] none false (spL how n' r)
  | [], ws, x, r, n, h => by
    obtain ⟨n', k, e⟩ := sp_end how n r
    exact ⟨n', by
      show scan ws (some x) false (spL how n (10 :: r)) = _
      rw [e, scan_pre, scan_post k 10 [] _ (fun _ => rfl)]⟩
  | y :: l, ws, x, r, n, h => by
    obtain ⟨n1, k, e⟩ := sp_blank how n (y ++ (tail32 l ++ 10 :: r))
    have hy := h y (List.mem_cons_self ..)
    obtain ⟨n', e2⟩ := scan_sp_tail how l (ws ++ [x]) y r n1 (fun z hz => h z (List.mem_cons_of_mem _ hz))
    refine ⟨n', ?_⟩
    have e3 : tail32 (y :: l) ++ 10 :: r = 32 :: (y ++ (tail32 l ++ 10 :: r)) := by
      show (32 :: y) ++ tail32 l ++ 10 :: r = _
      rw [List.append_assoc]; rfl
    rw [e3, e, scan_blank, scan_post k 32 _ _ (fun e => absurd e (by decide)), sp_tok how y _ n1 hy.2, scan_tok hy, e2, List.append_assoc]
    rfl
theorem scan_sp_one (how : List Int) {x : List UInt8} {l : List (List UInt8)} (hx : okT x) (hl : ∀ y ∈ l, okT y) (r : List UInt8) (n : Nat) : ∃ n', scan [] none false (spL how n (x ++ tail32 l ++ 10 :: r)) = (x :: l) :: scan [] none false (spL how n' r) := by
  obtain ⟨n', e⟩ := scan_sp_tail how l [] x r n hl
  exact ⟨n', by rw [List.append_assoc, sp_tok how x _ n hx.2, scan_tok hx, e]; rfl⟩
theorem scan_sp_cmds (how : List Int) : ∀ (l : List Cm) (n : Nat), scan [] none false (spL how n (cmdsL l)) = (l.filter hasLine).map sigC
  | [], n => rfl
  | c :: r, n => by
    show scan [] none false (spL how n (cmdL c ++ cmdsL r)) = _
    cases h : hasLine c with
    | false => rw [cmdL_no h, List.nil_append, scan_sp_cmds how r, List.filter_cons, if_neg (by rw [h]; simp)]
    | true =>
      obtain ⟨n', e⟩ := scan_sp_one how (nameL_has h).2.1 (toks_ok c) (cmdsL r) n
      rw [cmdL_has h, List.append_assoc, List.singleton_append, e, scan_sp_cmds how r, List.filter_cons, if_pos h]
      rfl
theorem scan_sp_over (how : List Int) : ∀ (l : List (List UInt8 × Nat)) (r : List UInt8) (n : Nat), ∃ n', scan [] none false (spL how n (hashesL l ++ r)) = l.map sigO ++ scan [] none false (spL how n' r)
  | [], r, n => ⟨n, rfl⟩
  | x :: l, r, n => by
    have e : hashesL (x :: l) ++ r = [104, 97, 115, 104] ++ tail32 [bytesL x.1, wordL x.2] ++ 10 :: (hashesL l ++ r) := by
      simp [hashesL, hashL, tail32, bytL, wrdL]
    obtain ⟨n1, e1⟩ := scan_sp_one how (x := [104, 97, 115, 104]) (l := [bytesL x.1, wordL x.2]) (okT_nm (k := 15) (by omega)) (fun y hy => by
      simp only [List.mem_cons, List.not_mem_nil, or_false] at hy
      rcases hy with rfl | rfl
      · exact okT_bytesL _
      · exact okT_wordL _) (hashesL l ++ r) n
    obtain ⟨n', e2⟩ := scan_sp_over how l r n1
    exact ⟨n', by rw [e, e1, e2]; rfl⟩
theorem sig_spread (how : List Int) (s : Sc) (n : Nat) : sigL (spL how n (printL s)) = sigP s := by
  rw [sig_scan]
  have e : printL s = [108, 105, 109, 105, 116] ++ tail32 [Lib.itoa s.limit] ++ 10 :: (hashesL s.over ++ cmdsL s.cmds) := by
    simp [printL, limitL, tail32, numL]
  obtain ⟨n1, e1⟩ := scan_sp_one how (x := [108, 105, 109, 105, 116]) (l := [Lib.itoa s.limit]) (okT_nm (k := 0) (by omega)) (fun y hy => by
    simp only [List.mem_cons, List.not_mem_nil, or_false] at hy
    subst hy
    exact okT_itoa _) (hashesL s.over ++ cmdsL s.cmds) n
  obtain ⟨n2, e2⟩ := scan_sp_over how s.over (cmdsL s.cmds) n1
  rw [e, e1, e2, scan_sp_cmds]
  rfl
theorem parse_spread {s : Sc} (ok : s.Ok) (how : List Int) (h : (spL how 0 (printL s)).length ≤ 1048576) : parseP (spL how 0 (printL s)) = (cleanS s, 0, 0) :=
  parse_sig h (by rw [sig_spread]; exact run_sigP ok)
end Go.Proofs.YtigaacbaaopfmaaDoor.sh
