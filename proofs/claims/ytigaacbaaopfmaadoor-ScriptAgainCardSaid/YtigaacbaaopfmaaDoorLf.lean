/- A line that begins with no name behind a printed script: what Parse answers. Plain Lean. -/
import Derived.Test.YtigaacbaaopfmaaDoorRk
set_option linter.unusedSimpArgs false
namespace Go.Proofs.YtigaacbaaopfmaaDoor.sh
open Go.RowKit
set_option linter.unusedVariables false
theorem linesG_app (r : List UInt8) : ∀ (a cur : List UInt8), linesG cur (a ++ 10 :: r) = linesG cur (a ++ [10]) ++ linesG [] r
  | [], cur => by simp [linesG]
  | c :: a, cur => by
    rw [List.cons_append, List.cons_append, linesG, linesG]
    split
    · rw [linesG_app r a []]; rfl
    · exact linesG_app r a _
theorem linesG_cnt : ∀ (a cur : List UInt8), (linesG cur (a ++ [10])).length = (a ++ [10]).count 10
  | [], cur => by simp [linesG]
  | c :: a, cur => by
    rw [List.cons_append, linesG, List.count_cons]
    split
    · next h => rw [List.length_cons, linesG_cnt a []]; simp [h]
    · next h => rw [linesG_cnt a _]; simp [h]
theorem linesG_first (r : List UInt8) : ∀ (x cur : List UInt8), (∀ c ∈ x, c ≠ 10) → linesG cur (x ++ 10 :: r) = (cur ++ x) :: linesG [] r
  | [], cur, _ => by simp [linesG]
  | c :: x, cur, h => by
    rw [List.cons_append, linesG, if_neg (h c (List.mem_cons_self ..)), linesG_first r x _ (fun y hy => h y (List.mem_cons_of_mem _ hy))]
    simp
/-- Empty, or it ends with the end of a line. -/
def EndsL (l : List UInt8) : Prop := l = [] ∨ ∃ a, l = a ++ [10]
theorem EndsL.app {a b : List UInt8} (ha : EndsL a) (hb : EndsL b) : EndsL (a ++ b) := by
  rcases hb with rfl | ⟨x, rfl⟩
  · simpa using ha
  · exact .inr ⟨a ++ x, by simp⟩
theorem EndsL.flat {α : Type} {f : α → List UInt8} (h : ∀ x, EndsL (f x)) : ∀ l : List α, EndsL (l.flatMap f)
  | [] => .inl rfl
  | x :: l => by rw [List.flatMap_cons]; exact (h x).app (EndsL.flat h l)
theorem print_ends (s : Sc) : ∃ a, printL s = a ++ [10] := by
  have h1 : EndsL (hashesL s.over) := EndsL.flat (f := hashL) (fun x => .inr ⟨[104, 97, 115, 104] ++ bytL x.1 ++ wrdL x.2, rfl⟩) _
  have h2 : EndsL (cmdsL s.cmds) := EndsL.flat (f := cmdL) (fun x => by
    unfold cmdL
    split
    · exact .inl rfl
    · exact .inr ⟨_, rfl⟩) _
  have h3 : EndsL (limitL s.limit) := .inr ⟨_, rfl⟩
  have h := (h3.app h1).app h2
  rcases h with h | h
  · have := congrArg List.length h
    simp [limitL] at this
  · exact h
theorem no10 {t : List UInt8} (h : ∀ c ∈ t, 36 ≤ c.toNat) : t.count 10 = 0 := List.count_eq_zero.2 fun hm => absurd (h 10 hm) (by decide)
theorem tail_no10 : ∀ (l : List (List UInt8)), (∀ y ∈ l, okT y) → (tail32 l).count 10 = 0
  | [], _ => rfl
  | x :: l, h => by
    have e : tail32 (x :: l) = 32 :: (x ++ tail32 l) := rfl
    rw [e, List.count_cons, List.count_append, no10 (h x (List.mem_cons_self ..)).2, tail_no10 l (fun y hy => h y (List.mem_cons_of_mem _ hy))]
    rfl
theorem cnt_cmds : ∀ l : List Cm, (∀ c ∈ l, hasLine c = true) → (cmdsL l).count 10 = l.length
  | [], _ => rfl
  | c :: l, h => by
    have e : cmdsL (c :: l) = cmdL c ++ cmdsL l := rfl
    have hc := h c (List.mem_cons_self ..)
    rw [e, List.count_append, cnt_cmds l (fun y hy => h y (List.mem_cons_of_mem _ hy)), cmdL_has hc, List.count_append, List.count_append, no10 (nameL_has hc).2.1.2, tail_no10 _ (toks_ok c)]
    simp
    omega
theorem cnt_over : ∀ l : List (List UInt8 × Nat), (hashesL l).count 10 = l.length
  | [] => rfl
  | x :: l => by
    have e : hashesL (x :: l) = [104, 97, 115, 104] ++ tail32 [bytesL x.1, wordL x.2] ++ [10] ++ hashesL l := by simp [hashesL, hashL, tail32, bytL, wrdL]
    rw [e, List.count_append, cnt_over l, List.count_append, List.count_append, tail_no10 _ (fun y hy => by
      simp only [List.mem_cons, List.not_mem_nil, or_false] at hy
      rcases hy with rfl | rfl
      · exact okT_bytesL _
      · exact okT_wordL _)]
    simp
    omega
theorem cnt_print (s : Sc) (h : ∀ c ∈ s.cmds, hasLine c = true) : (printL s).count 10 = 1 + s.over.length + s.cmds.length := by
  have e : limitL s.limit = [108, 105, 109, 105, 116] ++ tail32 [Lib.itoa s.limit] ++ [10] := by simp [limitL, tail32, numL]
  unfold printL
  rw [List.count_append, List.count_append, cnt_cmds _ h, cnt_over, e, List.count_append, List.count_append, tail_no10 _ (fun y hy => by
    simp only [List.mem_cons, List.not_mem_nil, or_false] at hy
    subst hy
    exact okT_itoa _)]
  simp
theorem names_last : ∀ i : Fin 16, (names.getD i.val []).getLast? ≠ some 63 := by decide
theorem findFrom_none (l : List UInt8) (h : l.getLast? = some 63) : ∀ (g k : Nat), k + g ≤ 16 → findFrom l k g < 0
  | 0, k, _ => by simp [findFrom]
  | g + 1, k, hk => by
    rw [findFrom_no l k g (fun e => names_last ⟨k, by omega⟩ (by rw [← h, ← e]))]
    exact findFrom_none l h g (k + 1) (by omega)
theorem words_one {x : List UInt8} (h : okT x) : wordsL x = [x] := by
  have h1 : 1 ≤ x.length := by
    cases x with
    | nil => exact absurd rfl h.1
    | cons => simp
  unfold wordsL
  rw [wordsG_begin x.length x h1 (fun j hj => ⟨x[j], List.getElem?_eq_getElem hj, (okT_c (h.2 _ (List.getElem_mem _))).2.2⟩) (fun e => by
    have := List.mem_of_getElem? e
    exact (okT_c (h.2 _ this)).2.1 rfl)]
  simp [wordsG]
/-- The bad line is told by its number. -/
theorem parse_fault {g : Sc} (ok : g.Ok) (hl : ∀ c ∈ g.cmds, hasLine c = true) (name behind : List UInt8) (hn : ∀ c ∈ name, 65 ≤ c.toNat) :
    parseP (printL g ++ name ++ [63, 10] ++ behind) = (S0, if 1048576 < (printL g ++ name ++ [63, 10] ++ behind).length then 0 else 1 + g.over.length + g.cmds.length + 1, 160) := by
  unfold parseP
  split
  · rfl
  · obtain ⟨a, ha⟩ := print_ends g
    have hx : okT (name ++ [63]) := ⟨by simp, fun c hc => by
      rcases List.mem_append.1 hc with h | h
      · have := hn c h; omega
      · simp at h; subst h; decide⟩
    have e : printL g ++ name ++ [63, 10] ++ behind = a ++ 10 :: ((name ++ [63]) ++ 10 :: behind) := by rw [ha]; simp
    have hs := sig_print g
    have hr := run_sigP ok
    rw [← hs] at hr
    unfold sigL at hr
    rw [runS_filter] at hr
    have hp := parse_run (linesL (printL g)) 0 (false, S0) (true, cleanS g) (linesG [] ((name ++ [63]) ++ 10 :: behind)) hr
    have hc := linesG_cnt a []
    rw [← ha, cnt_print g hl] at hc
    rw [e]
    unfold linesL at hp ⊢
    rw [linesG_app, ← ha, hp, hc, linesG_first _ _ _ (fun c hc => (okT_c (hx.2 c hc)).1), List.nil_append, pg_bad (words_one hx) (.inl (findFrom_none _ (by simp) 16 0 (by omega)))]
    simp
theorem take_ok {s : Sc} (ok : s.Ok) (k : Nat) : Sc.Ok ⟨s.limit, s.over, s.cmds.take k⟩ := by
  have e := cmsW_take s.cmds k
  have e2 := ok.wt
  refine ⟨ok.lim, ?_, ok.ov, fun c hc => ok.cm c (List.mem_of_mem_take hc)⟩
  show ovsW s.over + cmsW (s.cmds.take k) ≤ 3000000
  omega
theorem clC_line {c : Cm} (h : hasLine c = true) : hasLine (clC c) = true := by
  have : (clC c).op = c.op := by
    unfold clC
    split
    · next h => exact h.symm
    · split
      · next h => exact h.symm
      · split <;> rfl
  unfold hasLine at h ⊢
  rw [this]; exact h
theorem clean_line (s : Sc) : ∀ c ∈ (cleanS s).cmds, hasLine c = true := fun c hc => by
  obtain ⟨d, hd, rfl⟩ := List.mem_map.1 hc
  exact clC_line (List.mem_filter.1 hd).2
end Go.Proofs.YtigaacbaaopfmaaDoor.sh
