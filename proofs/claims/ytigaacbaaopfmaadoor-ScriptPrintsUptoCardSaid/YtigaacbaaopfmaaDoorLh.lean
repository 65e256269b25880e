/- A script's text is read as the script without what has no line and what isn't used: plain Lean. -/
import Derived.Test.YtigaacbaaopfmaaDoorLg
set_option linter.unusedSimpArgs false
namespace Go.Proofs.YtigaacbaaopfmaaDoor.sh
open Go.RowKit
set_option linter.unusedVariables false
/-- The command with zeros where its Op uses nothing. -/
def clC (c : Cm) : Cm :=
  if c.op = 1 then ⟨1, 0, c.fields, [], c.u, 0, c.n, [], []⟩
  else if c.op = 10 then ⟨10, 0, [], c.hs, 0, 0, 0, [], []⟩
  else if c.op = 11 ∨ c.op = 14 then ⟨c.op, 0, [], [], 0, 0, 0, [], []⟩
  else ⟨c.op, c.h, [], [], if c.op = 6 ∨ c.op = 8 then c.u else 0, if c.op = 8 then c.v else 0, 0, if c.op = 2 ∨ c.op = 4 ∨ c.op = 12 ∨ c.op = 3 then c.key else [], if c.op = 3 then c.elem else []⟩
def hasLine (c : Cm) : Bool := decide (1 ≤ c.op ∧ c.op ≤ 14)
/-- The script of those commands that have a line. -/
def cleanS (s : Sc) : Sc := ⟨s.limit, s.over, (s.cmds.filter hasLine).map clC⟩
/-- A command's words, behind its name. -/
def toks (c : Cm) : List (List UInt8) :=
  if c.op = 1 then wordL c.u :: Lib.itoa c.n :: c.fields.map Lib.itoa
  else if c.op = 10 then c.hs.map Lib.itoa
  else if c.op = 3 then [Lib.itoa c.h, bytesL c.key, bytesL c.elem]
  else if c.op = 2 ∨ c.op = 4 ∨ c.op = 12 then [Lib.itoa c.h, bytesL c.key]
  else if c.op = 8 then [Lib.itoa c.h, wordL c.u, wordL c.v]
  else if c.op = 6 then [Lib.itoa c.h, wordL c.u]
  else if c.op = 11 ∨ c.op = 14 then []
  else [Lib.itoa c.h]
theorem tail32_map (l : List Int) : tail32 (l.map Lib.itoa) = numsL l := by
  unfold tail32 numsL
  rw [List.flatMap_map]
theorem lineL_toks (c : Cm) : lineL c = tail32 (toks c) := by
  unfold lineL toks
  repeat' split
  · show _ = (32 :: wordL c.u) ++ ((32 :: Lib.itoa c.n) ++ tail32 (c.fields.map Lib.itoa))
    rw [tail32_map]
    simp [wrdL, numL]
  · rw [tail32_map]
  all_goals simp [tail32, numL, wrdL, bytL]
theorem toks_ok (c : Cm) : ∀ t ∈ toks c, okT t := by
  have hi : ∀ l : List Int, ∀ t ∈ l.map Lib.itoa, okT t := fun l t ht => by
    obtain ⟨x, _, rfl⟩ := List.mem_map.1 ht
    exact okT_itoa x
  unfold toks
  intro t ht
  repeat' split at ht
  · simp only [List.mem_cons] at ht
    rcases ht with rfl | rfl | ht
    · exact okT_wordL _
    · exact okT_itoa _
    · exact hi _ t ht
  · exact hi _ t ht
  all_goals simp only [List.mem_cons, List.not_mem_nil, or_false] at ht
  all_goals first
    | (rcases ht with rfl | rfl | rfl <;> first | exact okT_itoa _ | exact okT_bytesL _ | exact okT_wordL _)
    | (rcases ht with rfl | rfl <;> first | exact okT_itoa _ | exact okT_bytesL _ | exact okT_wordL _)
    | (subst ht; exact okT_itoa _)
theorem nameL_has {c : Cm} (h : hasLine c = true) : nameL c.op = names.getD c.op.toNat [] ∧ okT (nameL c.op) ∧ findP (nameL c.op) = c.op := by
  unfold hasLine at h
  have h := of_decide_eq_true h
  have e : nameL c.op = names.getD c.op.toNat [] := by unfold nameL; rw [if_pos h]
  have h16 : c.op.toNat < 16 := by omega
  refine ⟨e, ?_, ?_⟩
  · rw [e]; exact okT_nm h16
  · rw [e]
    have := findP_name ⟨c.op.toNat, h16⟩
    rw [this]
    show ((c.op.toNat : Nat) : Int) = c.op
    omega
theorem nameL_no {c : Cm} (h : hasLine c = false) : nameL c.op = [] := by
  unfold hasLine at h
  unfold nameL
  rw [if_neg (of_decide_eq_false h)]
theorem cmdL_has {c : Cm} (h : hasLine c = true) : cmdL c = nameL c.op ++ tail32 (toks c) ++ [10] := by
  unfold cmdL
  rw [if_neg (nameL_has h).2.1.1, lineL_toks]
theorem cmdL_no {c : Cm} (h : hasLine c = false) : cmdL c = [] := by
  unfold cmdL
  rw [if_pos (nameL_no h)]
/-- The words of a script's text. -/
def sigO (x : List UInt8 × Nat) : List (List UInt8) := [[104, 97, 115, 104], bytesL x.1, wordL x.2]
def sigC (c : Cm) : List (List UInt8) := nameL c.op :: toks c
def sigP (s : Sc) : List (List (List UInt8)) := [[108, 105, 109, 105, 116], Lib.itoa s.limit] :: (s.over.map sigO ++ (s.cmds.filter hasLine).map sigC)
theorem scan_cmds : ∀ l : List Cm, scan [] none false (cmdsL l) = (l.filter hasLine).map sigC
  | [] => rfl
  | c :: r => by
    show scan [] none false (cmdL c ++ cmdsL r) = _
    cases h : hasLine c with
    | false => rw [cmdL_no h, List.nil_append, scan_cmds r, List.filter_cons, if_neg (by rw [h]; simp)]
    | true =>
      rw [cmdL_has h, List.append_assoc, List.singleton_append, scan_one (nameL_has h).2.1 (toks_ok c), scan_cmds r, List.filter_cons, if_pos h]
      rfl
theorem scan_over : ∀ (l : List (List UInt8 × Nat)) (r : List UInt8), scan [] none false (hashesL l ++ r) = l.map sigO ++ scan [] none false r
  | [], r => rfl
  | x :: l, r => by
    have e : hashesL (x :: l) ++ r = [104, 97, 115, 104] ++ tail32 [bytesL x.1, wordL x.2] ++ 10 :: (hashesL l ++ r) := by
      simp [hashesL, hashL, tail32, bytL, wrdL]
    rw [e, scan_one (x := [104, 97, 115, 104]) (okT_nm (k := 15) (by omega)) (fun y hy => by
      simp only [List.mem_cons, List.not_mem_nil, or_false] at hy
      rcases hy with rfl | rfl
      · exact okT_bytesL _
      · exact okT_wordL _), scan_over l r]
    rfl
theorem sig_print (s : Sc) : sigL (printL s) = sigP s := by
  rw [sig_scan]
  have e : printL s = [108, 105, 109, 105, 116] ++ tail32 [Lib.itoa s.limit] ++ 10 :: (hashesL s.over ++ cmdsL s.cmds) := by
    simp [printL, limitL, tail32, numL]
  rw [e, scan_one (x := [108, 105, 109, 105, 116]) (okT_nm (k := 0) (by omega)) (fun y hy => by
    simp only [List.mem_cons, List.not_mem_nil, or_false] at hy
    subst hy
    exact okT_itoa _), scan_over, scan_cmds]
  rfl
theorem fieldsG_nums (form : List UInt8) : ∀ (l : List Int) (i : Nat) (f : Fld), form.length ≤ i → Ins l → fieldsG form i f (l.map Lib.itoa) = (⟨f.n ++ l, f.w, f.b⟩, 0)
  | [], i, f, hi, h => by simp [fieldsG]
  | x :: l, i, f, hi, h => by
    have e : form.getD i 110 = 110 := by rw [List.getD_eq_getElem?_getD, List.getElem?_eq_none hi]; rfl
    have hx := numP_itoa x (h x (List.mem_cons_self ..))
    rw [List.map_cons, fieldsG, e]
    have et : takeE 110 (Lib.itoa x) = 0 := by unfold takeE; rw [if_pos rfl, hx]
    have ef : takeF 110 (Lib.itoa x) f = ⟨f.n ++ [x], f.w, f.b⟩ := by unfold takeF; rw [if_pos rfl, hx]
    rw [if_pos et, ef, fieldsG_nums form l (i + 1) _ (by omega) (fun y hy => h y (List.mem_cons_of_mem _ hy))]
    simp
/-- One word of a line is read. -/
theorem fg_n {form : List UInt8} {i : Nat} {f : Fld} {x : Int} {r : List (List UInt8)} (hf : form.getD i 110 = 110) (hx : In64 x) : fieldsG form i f (Lib.itoa x :: r) = fieldsG form (i + 1) ⟨f.n ++ [x], f.w, f.b⟩ r := by
  have h := numP_itoa x hx
  rw [fieldsG, hf]
  have et : takeE 110 (Lib.itoa x) = 0 := by unfold takeE; rw [if_pos rfl, h]
  have ef : takeF 110 (Lib.itoa x) f = ⟨f.n ++ [x], f.w, f.b⟩ := by unfold takeF; rw [if_pos rfl, h]
  rw [if_pos et, ef]
theorem fg_w {form : List UInt8} {i : Nat} {f : Fld} {x : Nat} {r : List (List UInt8)} (hf : form.getD i 110 = 119) (hx : x < 18446744073709551616) : fieldsG form i f (wordL x :: r) = fieldsG form (i + 1) ⟨f.n, f.w ++ [x], f.b⟩ r := by
  have h := wordP_wordL x hx
  rw [fieldsG, hf]
  have et : takeE 119 (wordL x) = 0 := by unfold takeE; rw [if_neg (by decide), if_pos rfl, h]
  have ef : takeF 119 (wordL x) f = ⟨f.n, f.w ++ [x], f.b⟩ := by unfold takeF; rw [if_neg (by decide), if_pos rfl, h]
  rw [if_pos et, ef]
theorem fg_b {form : List UInt8} {i : Nat} {f : Fld} {x : List UInt8} {r : List (List UInt8)} (hf : form.getD i 110 = 98) : fieldsG form i f (bytesL x :: r) = fieldsG form (i + 1) ⟨f.n, f.w, f.b ++ [x]⟩ r := by
  have h := bytesV_bytesL x
  rw [fieldsG, hf]
  have et : takeE 98 (bytesL x) = 0 := by unfold takeE; rw [if_neg (by decide), if_neg (by decide), h]; rfl
  have ef : takeF 98 (bytesL x) f = ⟨f.n, f.w, f.b ++ [x]⟩ := by unfold takeF; rw [if_neg (by decide), if_neg (by decide), h]; rfl
  rw [if_pos et, ef]
theorem read_cmd {c : Cm} (h : hasLine c = true) (fit : c.Fits) : (readF c.op.toNat (toks c)).2 = 0 ∧ cmdF c.op (readF c.op.toNat (toks c)).1 = clC c := by
  have hop := of_decide_eq_true h
  obtain ⟨op, hh, fields, hs, u, v, n, key, elem⟩ := c
  dsimp only at *
  have hops : op = 1 ∨ op = 2 ∨ op = 3 ∨ op = 4 ∨ op = 5 ∨ op = 6 ∨ op = 7 ∨ op = 8 ∨ op = 9 ∨ op = 10 ∨ op = 11 ∨ op = 12 ∨ op = 13 ∨ op = 14 := by omega
  have f1 := fit.h
  have f2 := fit.n
  have f3 := fit.u
  have f4 := fit.v
  have f5 := fit.fi
  have f6 := fit.hi
  dsimp only at f1 f2 f3 f4 f5 f6
  rcases hops with rfl | rfl | rfl | rfl | rfl | rfl | rfl | rfl | rfl | rfl | rfl | rfl | rfl | rfl
  · have e : readF (1 : Int).toNat (toks ⟨1, hh, fields, hs, u, v, n, key, elem⟩) = (⟨[n] ++ fields, [u], []⟩, 0) := by
      unfold readF
      rw [if_pos (by simp [toks, fitsF, forms, moreOf])]
      simp only [toks, if_true]
      rw [fg_w (by rfl) f3, fg_n (by rfl) f2, fieldsG_nums _ _ _ _ (by simp [forms]) f5]
      simp [F0]
    rw [e]
    exact ⟨rfl, by simp [cmdF, clC]⟩
  · have e : readF (2 : Int).toNat (toks ⟨2, hh, fields, hs, u, v, n, key, elem⟩) = (⟨[hh], [], [key]⟩, 0) := by
      unfold readF
      rw [if_pos (by simp [toks, fitsF, forms])]
      simp only [toks]
      rw [if_neg (by decide), if_neg (by decide), if_neg (by decide), if_pos (by decide), fg_n (by rfl) f1, fg_b (by rfl)]
      simp [F0, fieldsG]
    rw [e]
    exact ⟨rfl, by simp [cmdF, clC]⟩
  · have e : readF (3 : Int).toNat (toks ⟨3, hh, fields, hs, u, v, n, key, elem⟩) = (⟨[hh], [], [key, elem]⟩, 0) := by
      unfold readF
      rw [if_pos (by simp [toks, fitsF, forms])]
      simp only [toks]
      rw [if_neg (by decide), if_neg (by decide), if_pos (by decide), fg_n (by rfl) f1, fg_b (by rfl), fg_b (by rfl)]
      simp [F0, fieldsG]
    rw [e]
    exact ⟨rfl, by simp [cmdF, clC]⟩
  · have e : readF (4 : Int).toNat (toks ⟨4, hh, fields, hs, u, v, n, key, elem⟩) = (⟨[hh], [], [key]⟩, 0) := by
      unfold readF
      rw [if_pos (by simp [toks, fitsF, forms])]
      simp only [toks]
      rw [if_neg (by decide), if_neg (by decide), if_neg (by decide), if_pos (by decide), fg_n (by rfl) f1, fg_b (by rfl)]
      simp [F0, fieldsG]
    rw [e]
    exact ⟨rfl, by simp [cmdF, clC]⟩
  · have e : readF (5 : Int).toNat (toks ⟨5, hh, fields, hs, u, v, n, key, elem⟩) = (⟨[hh], [], []⟩, 0) := by
      unfold readF
      rw [if_pos (by simp [toks, fitsF, forms])]
      simp only [toks]
      rw [if_neg (by decide), if_neg (by decide), if_neg (by decide), if_neg (by decide), if_neg (by decide), if_neg (by decide), if_neg (by decide), fg_n (by rfl) f1]
      simp [F0, fieldsG]
    rw [e]
    exact ⟨rfl, by simp [cmdF, clC]⟩
  · have e : readF (6 : Int).toNat (toks ⟨6, hh, fields, hs, u, v, n, key, elem⟩) = (⟨[hh], [u], []⟩, 0) := by
      unfold readF
      rw [if_pos (by simp [toks, fitsF, forms])]
      simp only [toks]
      rw [if_neg (by decide), if_neg (by decide), if_neg (by decide), if_neg (by decide), if_neg (by decide), if_pos (by decide), fg_n (by rfl) f1, fg_w (by rfl) f3]
      simp [F0, fieldsG]
    rw [e]
    exact ⟨rfl, by simp [cmdF, clC]⟩
  · have e : readF (7 : Int).toNat (toks ⟨7, hh, fields, hs, u, v, n, key, elem⟩) = (⟨[hh], [], []⟩, 0) := by
      unfold readF
      rw [if_pos (by simp [toks, fitsF, forms])]
      simp only [toks]
      rw [if_neg (by decide), if_neg (by decide), if_neg (by decide), if_neg (by decide), if_neg (by decide), if_neg (by decide), if_neg (by decide), fg_n (by rfl) f1]
      simp [F0, fieldsG]
    rw [e]
    exact ⟨rfl, by simp [cmdF, clC]⟩
  · have e : readF (8 : Int).toNat (toks ⟨8, hh, fields, hs, u, v, n, key, elem⟩) = (⟨[hh], [u, v], []⟩, 0) := by
      unfold readF
      rw [if_pos (by simp [toks, fitsF, forms])]
      simp only [toks]
      rw [if_neg (by decide), if_neg (by decide), if_neg (by decide), if_neg (by decide), if_pos (by decide), fg_n (by rfl) f1, fg_w (by rfl) f3, fg_w (by rfl) f4]
      simp [F0, fieldsG]
    rw [e]
    exact ⟨rfl, by simp [cmdF, clC]⟩
  · have e : readF (9 : Int).toNat (toks ⟨9, hh, fields, hs, u, v, n, key, elem⟩) = (⟨[hh], [], []⟩, 0) := by
      unfold readF
      rw [if_pos (by simp [toks, fitsF, forms])]
      simp only [toks]
      rw [if_neg (by decide), if_neg (by decide), if_neg (by decide), if_neg (by decide), if_neg (by decide), if_neg (by decide), if_neg (by decide), fg_n (by rfl) f1]
      simp [F0, fieldsG]
    rw [e]
    exact ⟨rfl, by simp [cmdF, clC]⟩
  · have e : readF (10 : Int).toNat (toks ⟨10, hh, fields, hs, u, v, n, key, elem⟩) = (⟨hs, [], []⟩, 0) := by
      unfold readF
      rw [if_pos (by simp [toks, fitsF, forms, moreOf])]
      simp only [toks]
      rw [if_neg (by decide), if_pos (by decide), fieldsG_nums _ _ _ _ (by simp [forms]) f6]
      simp [F0]
    rw [e]
    exact ⟨rfl, by simp [cmdF, clC]⟩
  · exact ⟨by simp [toks, readF, fitsF, forms, fieldsG], by simp [cmdF, clC, toks, readF, fitsF, forms, fieldsG, F0]⟩
  · have e : readF (12 : Int).toNat (toks ⟨12, hh, fields, hs, u, v, n, key, elem⟩) = (⟨[hh], [], [key]⟩, 0) := by
      unfold readF
      rw [if_pos (by simp [toks, fitsF, forms])]
      simp only [toks]
      rw [if_neg (by decide), if_neg (by decide), if_neg (by decide), if_pos (by decide), fg_n (by rfl) f1, fg_b (by rfl)]
      simp [F0, fieldsG]
    rw [e]
    exact ⟨rfl, by simp [cmdF, clC]⟩
  · have e : readF (13 : Int).toNat (toks ⟨13, hh, fields, hs, u, v, n, key, elem⟩) = (⟨[hh], [], []⟩, 0) := by
      unfold readF
      rw [if_pos (by simp [toks, fitsF, forms])]
      simp only [toks]
      rw [if_neg (by decide), if_neg (by decide), if_neg (by decide), if_neg (by decide), if_neg (by decide), if_neg (by decide), if_neg (by decide), fg_n (by rfl) f1]
      simp [F0, fieldsG]
    rw [e]
    exact ⟨rfl, by simp [cmdF, clC]⟩
  · exact ⟨by simp [toks, readF, fitsF, forms, fieldsG], by simp [cmdF, clC, toks, readF, fitsF, forms, fieldsG, F0]⟩
theorem step_limit (st : Bool × Sc) (hb : st.1 = false) (x : Int) (hx : In64 x) : stepS st [[108, 105, 109, 105, 116], Lib.itoa x] = some (true, ⟨x, st.2.over, st.2.cmds⟩) := by
  have hf : findP [108, 105, 109, 105, 116] = 0 := findP_name ⟨0, by omega⟩
  have e : readF (0 : Int).toNat [Lib.itoa x] = (⟨[x], [], []⟩, 0) := by
    unfold readF
    rw [if_pos (by simp [fitsF, forms]), fg_n (by rfl) hx]
    simp [F0, fieldsG]
  simp only [stepS]
  rw [hf, if_neg (by rw [hb]; simp), e]
  simp
theorem step_hash (st : Bool × Sc) (hb : st.1 = true) (hc : st.2.cmds = []) (x : List UInt8 × Nat) (hx : x.2 < 18446744073709551616) : stepS st (sigO x) = some (true, ⟨st.2.limit, st.2.over ++ [x], st.2.cmds⟩) := by
  have hf : findP [104, 97, 115, 104] = 15 := findP_name ⟨15, by omega⟩
  have e : readF (15 : Int).toNat [bytesL x.1, wordL x.2] = (⟨[], [x.2], [x.1]⟩, 0) := by
    unfold readF
    rw [if_pos (by simp [fitsF, forms]), fg_b (by rfl), fg_w (by rfl) hx]
    simp [F0, fieldsG]
  unfold stepS sigO
  simp only
  rw [hf, if_neg (by rw [hb, hc]; simp), e]
  simp [hb]
theorem step_cmd (st : Bool × Sc) (hb : st.1 = true) (c : Cm) (h : hasLine c = true) (fit : c.Fits) : stepS st (sigC c) = some (true, ⟨st.2.limit, st.2.over, st.2.cmds ++ [clC c]⟩) := by
  have hop := of_decide_eq_true h
  obtain ⟨-, -, hf⟩ := nameL_has h
  obtain ⟨e1, e2⟩ := read_cmd h fit
  unfold stepS sigC
  simp only
  rw [hf, if_neg (by rw [hb]; simp; omega), if_pos e1, if_neg (by omega), if_neg (by omega), e2, hb]
theorem run_over : ∀ (l : List (List UInt8 × Nat)) (lim : Int) (ov : List (List UInt8 × Nat)), (∀ x ∈ l, x.2 < 18446744073709551616) → runS (true, ⟨lim, ov, []⟩) (l.map sigO) = some (true, ⟨lim, ov ++ l, []⟩)
  | [], lim, ov, h => by simp [runS]
  | x :: l, lim, ov, h => by
    rw [List.map_cons, runS, step_hash _ rfl rfl x (h x (List.mem_cons_self ..))]
    show runS (true, ⟨lim, ov ++ [x], []⟩) (l.map sigO) = _
    rw [run_over l lim (ov ++ [x]) (fun y hy => h y (List.mem_cons_of_mem _ hy)), List.append_assoc]
    rfl
theorem run_cmds : ∀ (l : List Cm) (lim : Int) (ov : List (List UInt8 × Nat)) (cs : List Cm), (∀ c ∈ l, hasLine c = true ∧ c.Fits) → runS (true, ⟨lim, ov, cs⟩) (l.map sigC) = some (true, ⟨lim, ov, cs ++ l.map clC⟩)
  | [], lim, ov, cs, h => by simp [runS]
  | x :: l, lim, ov, cs, h => by
    have hx := h x (List.mem_cons_self ..)
    rw [List.map_cons, runS, step_cmd _ rfl x hx.1 hx.2]
    show runS (true, ⟨lim, ov, cs ++ [clC x]⟩) (l.map sigC) = _
    rw [run_cmds l lim ov (cs ++ [clC x]) (fun y hy => h y (List.mem_cons_of_mem _ hy)), List.append_assoc]
    rfl
/-- A script's words are read as the script, cleaned. -/
theorem run_sigP {s : Sc} (ok : s.Ok) : runS (false, S0) (sigP s) = some (true, cleanS s) := by
  unfold sigP
  rw [runS, step_limit _ rfl _ ok.lim]
  show runS (true, ⟨s.limit, [], []⟩) (s.over.map sigO ++ (s.cmds.filter hasLine).map sigC) = _
  rw [runS_append, run_over s.over s.limit [] ok.ov]
  show runS (true, ⟨s.limit, [] ++ s.over, []⟩) ((s.cmds.filter hasLine).map sigC) = _
  rw [run_cmds _ _ _ _ (fun c hc => by
    have := List.mem_filter.1 hc
    exact ⟨this.2, ok.cm c this.1⟩)]
  simp [cleanS]
/-- What is printed is read as the script, cleaned. -/
theorem parse_print {s : Sc} (ok : s.Ok) (h : (printL s).length ≤ 1048576) : parseP (printL s) = (cleanS s, 0, 0) :=
  parse_sig h (by rw [sig_print]; exact run_sigP ok)
end Go.Proofs.YtigaacbaaopfmaaDoor.sh
