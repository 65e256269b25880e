/- What is printed is read again: plain Lean, no walk here. -/
import Derived.Test.YtigaacbaaopfmaaDoorPm
import Derived.Test.YtigaacbaaopfmaaDoorPg
import Derived.Test.YtigaacbaaopfmaaDoorMd
set_option linter.unusedSimpArgs false
namespace Go.Proofs.YtigaacbaaopfmaaDoor.sh
open Go.RowKit
set_option linter.unusedVariables false
/-- The words of the lines that say something. -/
def emit (l : List (List UInt8)) : List (List (List UInt8)) := if l = [] then [] else [l]
def fin (ws : List (List UInt8)) : Option (List UInt8) → List (List UInt8)
  | none => ws
  | some x => ws ++ [x]
def scan (ws : List (List UInt8)) (cur : Option (List UInt8)) (rem : Bool) : List UInt8 → List (List (List UInt8))
  | [] => emit (fin ws cur)
  | c :: r => if c = 10 then emit (fin ws cur) ++ scan [] none false r else if rem = true then scan ws cur true r else
    match cur with
    | none => if c = 35 then scan ws none true r else if blank c = true then scan ws none false r else scan ws (some [c]) false r
    | some x => if blank c = true then scan (ws ++ [x]) none false r else scan ws (some (x ++ [c])) false r
theorem scan_rem : ∀ (l : List UInt8) (ws : List (List UInt8)), (∀ c ∈ l, c ≠ 10) → scan ws none true l = emit ws
  | [], ws, _ => rfl
  | c :: r, ws, h => by
    rw [scan, if_neg (h c (List.mem_cons_self ..)), if_pos rfl]
    exact scan_rem r ws (fun x hx => h x (List.mem_cons_of_mem _ hx))
theorem scan_line : ∀ (l : List UInt8) (ws : List (List UInt8)) (cur : Option (List UInt8)), (∀ c ∈ l, c ≠ 10) → scan ws cur false l = emit (ws ++ wordsG cur l)
  | [], ws, none, _ => by simp [scan, fin, wordsG]
  | [], ws, some x, _ => by simp [scan, fin, wordsG]
  | c :: r, ws, none, h => by
    have hr : ∀ c ∈ r, c ≠ 10 := fun x hx => h x (List.mem_cons_of_mem _ hx)
    rw [scan, if_neg (h c (List.mem_cons_self ..)), if_neg (by simp), wordsG]
    split
    · rw [scan_rem r ws hr, List.append_nil]
    · split
      · exact scan_line r ws none hr
      · exact scan_line r ws (some [c]) hr
  | c :: r, ws, some x, h => by
    have hr : ∀ c ∈ r, c ≠ 10 := fun x hx => h x (List.mem_cons_of_mem _ hx)
    rw [scan, if_neg (h c (List.mem_cons_self ..)), if_neg (by simp), wordsG]
    split
    · rw [scan_line r (ws ++ [x]) none hr, List.append_assoc]; rfl
    · exact scan_line r ws (some (x ++ [c])) hr
theorem scan_feed : ∀ (l : List UInt8) (ws : List (List UInt8)) (cur : Option (List UInt8)) (rem : Bool) (r : List UInt8), (∀ c ∈ l, c ≠ 10) → scan ws cur rem (l ++ 10 :: r) = scan ws cur rem l ++ scan [] none false r
  | [], ws, cur, rem, r, _ => by
    cases cur with
    | none =>
      have e : scan ws none rem (10 :: r) = emit (fin ws none) ++ scan [] none false r := by rw [scan]; simp
      rw [List.nil_append, e]; rfl
    | some x =>
      have e : scan ws (some x) rem (10 :: r) = emit (fin ws (some x)) ++ scan [] none false r := by rw [scan]; simp
      rw [List.nil_append, e]; rfl
  | c :: l, ws, none, rem, r, h => by
    have hr : ∀ c ∈ l, c ≠ 10 := fun x hx => h x (List.mem_cons_of_mem _ hx)
    rw [List.cons_append, scan, scan, if_neg (h c (List.mem_cons_self ..)), if_neg (h c (List.mem_cons_self ..))]
    split
    · exact scan_feed l ws none true r hr
    · split
      · exact scan_feed l ws none true r hr
      · split
        · exact scan_feed l ws none false r hr
        · exact scan_feed l ws (some [c]) false r hr
  | c :: l, ws, some x, rem, r, h => by
    have hr : ∀ c ∈ l, c ≠ 10 := fun x hx => h x (List.mem_cons_of_mem _ hx)
    rw [List.cons_append, scan, scan, if_neg (h c (List.mem_cons_self ..)), if_neg (h c (List.mem_cons_self ..))]
    split
    · exact scan_feed l ws (some x) true r hr
    · split
      · exact scan_feed l (ws ++ [x]) none false r hr
      · exact scan_feed l ws (some (x ++ [c])) false r hr
/-- The words of a text, line by line, empty lines left out. -/
def sigL (t : List UInt8) : List (List (List UInt8)) := ((linesL t).map wordsL).filter fun x => decide (x ≠ [])
theorem sig_scanG : ∀ (t cur : List UInt8), (∀ c ∈ cur, c ≠ 10) → ((linesG cur t).map wordsL).filter (fun x => decide (x ≠ [])) = scan [] none false (cur ++ t)
  | [], cur, h => by
    rw [List.append_nil, scan_line cur [] none h, linesG, List.nil_append]
    split
    · next h0 => subst h0; rfl
    · unfold emit wordsL
      by_cases hw : wordsG none cur = []
      · simp [wordsL, hw]
      · simp [wordsL, hw]
  | c :: r, cur, h => by
    rw [linesG]
    split
    · next h10 =>
      subst h10
      rw [scan_feed cur [] none false r h, scan_line cur [] none h, List.map_cons, List.filter_cons, sig_scanG r [] (by simp)]
      unfold emit wordsL
      by_cases hw : wordsG none cur = []
      · simp [hw]
      · simp [hw]
    · next h10 =>
      rw [sig_scanG r (cur ++ [c]) (fun x hx => by
        rcases List.mem_append.1 hx with h1 | h1
        · exact h x h1
        · simp at h1; subst h1; exact h10), List.append_assoc]
      rfl
theorem sig_scan (t : List UInt8) : sigL t = scan [] none false t := by
  have := sig_scanG t [] (by simp)
  simpa [sigL, linesL] using this
/-- A script's lines, one after the other: what has been read. -/
def stepS (st : Bool × Sc) : List (List UInt8) → Option (Bool × Sc)
  | [] => some st
  | x :: ws =>
    if findP x < 0 ∨ (decide (findP x = 0) = st.1) ∨ (findP x = 15 ∧ st.2.cmds ≠ []) then none
    else if (readF (findP x).toNat ws).2 = 0 then
      (if findP x = 0 then some (true, ⟨(readF (findP x).toNat ws).1.n.headD 0, st.2.over, st.2.cmds⟩)
      else if findP x = 15 then some (st.1, ⟨st.2.limit, st.2.over ++ [((readF (findP x).toNat ws).1.b.headD [], (readF (findP x).toNat ws).1.w.headD 0)], st.2.cmds⟩)
      else some (st.1, ⟨st.2.limit, st.2.over, st.2.cmds ++ [cmdF (findP x) (readF (findP x).toNat ws).1]⟩))
    else none
def runS (st : Bool × Sc) : List (List (List UInt8)) → Option (Bool × Sc)
  | [] => some st
  | l :: r => (stepS st l).bind fun st' => runS st' r
theorem runS_append (st : Bool × Sc) : ∀ (a b : List (List (List UInt8))), runS st (a ++ b) = (runS st a).bind fun st' => runS st' b
  | [], b => rfl
  | l :: r, b => by
    rw [List.cons_append, runS, runS]
    cases stepS st l with
    | none => rfl
    | some st' => exact runS_append st' r b
theorem runS_filter : ∀ (a : List (List (List UInt8))) (st : Bool × Sc), runS st (a.filter fun x => decide (x ≠ [])) = runS st a
  | [], st => rfl
  | [] :: r, st => by
    rw [List.filter_cons, if_neg (by simp), runS_filter r st]; rfl
  | (x :: ws) :: r, st => by
    rw [List.filter_cons, if_pos (by simp), runS, runS]
    cases stepS st (x :: ws) with
    | none => rfl
    | some st' => exact runS_filter r st'
theorem parse_run : ∀ (ls : List (List UInt8)) (i : Nat) (st st' : Bool × Sc) (r : List (List UInt8)), runS st (ls.map wordsL) = some st' → parseG i st.1 st.2 (ls ++ r) = parseG (i + ls.length) st'.1 st'.2 r
  | [], i, st, st', r, h => by
    simp only [List.map_nil, runS, Option.some.injEq] at h
    subst h
    rfl
  | l :: ls, i, st, st', r, h => by
    rw [List.map_cons, runS] at h
    obtain ⟨s1, h1, h2⟩ := Option.bind_eq_some_iff.1 h
    have ih := parse_run ls (i + 1) s1 st' r h2
    rw [List.length_cons, show i + (ls.length + 1) = i + 1 + ls.length by omega, ← ih, List.cons_append]
    cases hw : wordsL l with
    | nil =>
      rw [hw] at h1
      simp only [stepS, Option.some.injEq] at h1
      subst h1
      exact pg_blank hw
    | cons x ws =>
      rw [hw] at h1
      rw [parseG, hw]
      simp only
      simp only [stepS] at h1
      split at h1
      · cases h1
      · next hb =>
        rw [if_neg hb]
        split at h1
        · next hf =>
          rw [if_pos hf]
          split at h1
          · next h0 =>
            rw [if_pos h0]
            simp only [Option.some.injEq] at h1
            subst h1
            rfl
          · next h0 =>
            rw [if_neg h0]
            split at h1
            · next h15 =>
              rw [if_pos h15]
              simp only [Option.some.injEq] at h1
              subst h1
              rfl
            · next h15 =>
              rw [if_neg h15]
              simp only [Option.some.injEq] at h1
              subst h1
              rfl
        · cases h1
theorem parse_sig {t : List UInt8} {s : Sc} (ht : t.length ≤ 1048576) (h : runS (false, S0) (sigL t) = some (true, s)) : parseP t = (s, 0, 0) := by
  unfold sigL at h
  rw [runS_filter] at h
  have := parse_run (linesL t) 0 (false, S0) (true, s) [] h
  rw [List.append_nil] at this
  unfold parseP
  rw [if_neg (by omega), this]
  simp [parseG]
/-- A word without a blank, a number sign, an end of line. -/
def okT (t : List UInt8) : Prop := t ≠ [] ∧ ∀ c ∈ t, 36 ≤ c.toNat
theorem okT_c {c : UInt8} (h : 36 ≤ c.toNat) : c ≠ 10 ∧ c ≠ 35 ∧ blank c = false := by
  refine ⟨fun e => ?_, fun e => ?_, ?_⟩
  · subst e; exact absurd h (by decide)
  · subst e; exact absurd h (by decide)
  · unfold blank
    simp only [Bool.or_eq_false_iff, beq_eq_false_iff_ne, ne_eq]
    exact ⟨fun e => by subst e; exact absurd h (by decide), fun e => by subst e; exact absurd h (by decide)⟩
theorem scan_tk0 : ∀ (t : List UInt8) (ws : List (List UInt8)) (x r : List UInt8), (∀ c ∈ t, 36 ≤ c.toNat) → scan ws (some x) false (t ++ r) = scan ws (some (x ++ t)) false r
  | [], ws, x, r, h => by simp
  | c :: t, ws, x, r, h => by
    obtain ⟨h1, h2, h3⟩ := okT_c (h c (List.mem_cons_self ..))
    rw [List.cons_append, scan, if_neg h1, if_neg (by simp)]
    rw [if_neg (by rw [h3]; simp), scan_tk0 t ws (x ++ [c]) r (fun y hy => h y (List.mem_cons_of_mem _ hy)), List.append_assoc]
    rfl
theorem scan_tok {t : List UInt8} (h : okT t) (ws : List (List UInt8)) (r : List UInt8) : scan ws none false (t ++ r) = scan ws (some t) false r := by
  obtain ⟨h0, h⟩ := h
  cases t with
  | nil => exact absurd rfl h0
  | cons c t =>
    obtain ⟨h1, h2, h3⟩ := okT_c (h c (List.mem_cons_self ..))
    rw [List.cons_append, scan, if_neg h1, if_neg (by simp)]
    rw [if_neg h2, if_neg (by rw [h3]; simp), scan_tk0 t ws [c] r (fun y hy => h y (List.mem_cons_of_mem _ hy))]
    rfl
theorem scan_blank (ws : List (List UInt8)) (x r : List UInt8) : scan ws (some x) false (32 :: r) = scan (ws ++ [x]) none false r := by
  rw [scan, if_neg (by decide), if_neg (by simp)]
  rw [if_pos (by decide)]
theorem scan_end (ws : List (List UInt8)) (x r : List UInt8) : scan ws (some x) false (10 :: r) = (ws ++ [x]) :: scan [] none false r := by
  have e : scan ws (some x) false (10 :: r) = emit (fin ws (some x)) ++ scan [] none false r := by rw [scan]; simp
  rw [e]
  unfold fin emit
  rw [if_neg (by simp)]
  rfl
/-- Words with a blank ahead of each. -/
def tail32 (l : List (List UInt8)) : List UInt8 := l.flatMap fun x => 32 :: x
theorem scan_tail : ∀ (l : List (List UInt8)) (ws : List (List UInt8)) (x r : List UInt8), (∀ y ∈ l, okT y) → scan ws (some x) false (tail32 l ++ 10 :: r) = (ws ++ x :: l) :: scan [] none false r
  | [], ws, x, r, h => scan_end ws x r
  | y :: l, ws, x, r, h => by
    show scan ws (some x) false ((32 :: y) ++ tail32 l ++ 10 :: r) = _
    rw [List.append_assoc, List.cons_append, scan_blank, scan_tok (h y (List.mem_cons_self ..)), scan_tail l (ws ++ [x]) y r (fun z hz => h z (List.mem_cons_of_mem _ hz)), List.append_assoc]
    rfl
theorem scan_one {x : List UInt8} {l : List (List UInt8)} (hx : okT x) (hl : ∀ y ∈ l, okT y) (r : List UInt8) : scan [] none false (x ++ tail32 l ++ 10 :: r) = (x :: l) :: scan [] none false r := by
  rw [List.append_assoc, scan_tok hx, scan_tail l [] x r hl]
  rfl
theorem okT_names : ∀ i : Fin 16, okT (names.getD i.val []) := by
  unfold okT
  decide
theorem okT_nm {k : Nat} (h : k < 16) : okT (names.getD k []) := okT_names ⟨k, h⟩
theorem isD_36 {b : Bool} {c : UInt8} (h : isD b c = true) : 36 ≤ c.toNat := by
  unfold isD at h
  simp at h
  omega
theorem okT_digits {b : Bool} {l : List UInt8} (h : allD b l = true) : okT l := by
  unfold allD at h
  simp only [Bool.and_eq_true, Bool.not_eq_true', List.all_eq_true] at h
  exact ⟨by intro e; subst e; simp at h, fun c hc => isD_36 (h.2 c hc)⟩
theorem okT_itoa (n : Int) : okT (Lib.itoa n) := by
  unfold Lib.itoa
  split
  · have h := okT_digits (dec_allD n.natAbs)
    exact ⟨by simp, fun c hc => by
      rcases List.mem_cons.1 hc with rfl | hc
      · decide
      · exact h.2 c hc⟩
  · exact okT_digits (dec_allD _)
theorem hexW_all : ∀ (k u : Nat), u ≤ k → (hexW u).all (isD true) = true
  | k, u, hk => by
    by_cases h : u < 16
    · rw [hexW_small h]; simp [hexd_D u h]
    · rw [hexW_big h, List.all_append, hexd_all u]
      cases k with
      | zero => omega
      | succ k => rw [hexW_all k (u / 16) (by omega)]; rfl
where hexd_all (u : Nat) : ([hexd (u % 16)] : List UInt8).all (isD true) = true := by simp [hexd_D (u % 16) (by omega)]
theorem hexW_ne (u : Nat) : hexW u ≠ [] := by
  by_cases h : u < 16
  · rw [hexW_small h]; simp
  · rw [hexW_big h]; simp
theorem hexW_allD (u : Nat) : allD true (hexW u) = true := by
  unfold allD
  rw [hexW_all u u (Nat.le_refl _)]
  simp [hexW_ne]
theorem hexW_val : ∀ (k u : Nat), u ≤ k → val true (hexW u) = u
  | k, u, hk => by
    by_cases h : u < 16
    · rw [hexW_small h]; simp [val, valF, hexd_v u h]
    · cases k with
      | zero => omega
      | succ k =>
        have ih := hexW_val k (u / 16) (by omega)
        rw [hexW_big h]
        unfold val at ih ⊢
        rw [valF_append, ih]
        simp only [valF, rad, if_true, hexd_v (u % 16) (by omega)]
        omega
theorem okT_wordL (u : Nat) : okT (wordL u) := by
  have h := okT_digits (hexW_allD u)
  refine ⟨by simp [wordL], fun c hc => ?_⟩
  simp only [wordL, List.mem_cons] at hc
  rcases hc with rfl | rfl | hc
  · decide
  · decide
  · exact h.2 c hc
theorem okT_bytesL (l : List UInt8) : okT (bytesL l) := by
  unfold bytesL
  split
  · exact ⟨by simp, by simp⟩
  · next h =>
    refine ⟨?_, fun c hc => isD_36 (List.all_eq_true.1 (hexL_all l) c hc)⟩
    intro e
    have := congrArg List.length e
    rw [hexL_length] at this
    simp only [List.length_nil] at this
    exact h (List.eq_nil_of_length_eq_zero (by omega))
theorem wordP_wordL (u : Nat) (h : u < 18446744073709551616) : wordP (wordL u) = (u, 0) := by
  have e1 : Lib.hasPrefix (wordL u) [48, 120] = true := by simp [wordL, Lib.hasPrefix]
  have e2 : Lib.trimPrefix (wordL u) [48, 120] = hexW u := by simp [wordL, Lib.trimPrefix, Lib.hasPrefix]
  unfold wordP
  rw [e1, e2, hexW_allD, hexW_val u u (Nat.le_refl _)]
  rw [if_pos rfl, if_pos (by omega)]
end Go.Proofs.YtigaacbaaopfmaaDoor.sh
