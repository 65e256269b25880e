/- What a script's text says: the steps of it, in plain Lean; and how a script that is being read lies in memory. -/
import Derived.Test.YtigaacbaaopfmaaDoorCd
import Derived.Test.YtigaacbaaopfmaaDoorSm
set_option linter.unusedSimpArgs false
namespace Go.Proofs.YtigaacbaaopfmaaDoor.sh
open Go.RowKit
set_option linter.unusedVariables false
theorem linesG_len : ∀ (l cur : List UInt8), (linesG cur l).length ≤ cur.length + l.length ∧ ∀ x ∈ linesG cur l, x.length ≤ cur.length + l.length
  | [], cur => by
    unfold linesG
    split
    · exact ⟨by simp, by simp⟩
    · next h =>
      refine ⟨?_, ?_⟩
      · have : 1 ≤ cur.length := List.length_pos_iff.2 h
        simp; omega
      · intro x hx; simp at hx; subst hx; simp
  | c :: r, cur => by
    rw [linesG]
    split
    · have ih := linesG_len r []
      refine ⟨?_, ?_⟩
      · have := ih.1; simp at this ⊢; omega
      · intro x hx
        rcases List.mem_cons.1 hx with h | h
        · subst h; omega
        · have := ih.2 x h; simp at this ⊢; omega
    · have ih := linesG_len r (cur ++ [c])
      simp only [List.length_append, List.length_cons, List.length_nil] at ih ⊢
      exact ⟨by omega, fun x hx => by have := ih.2 x hx; omega⟩
theorem linesL_len (l : List UInt8) : (linesL l).length ≤ l.length ∧ ∀ x ∈ linesL l, x.length ≤ l.length := by
  have := linesG_len l []
  simpa [linesL] using this
def curL : Option (List UInt8) → Nat
  | none => 0
  | some x => x.length
theorem wordsG_len : ∀ (l : List UInt8) (cur : Option (List UInt8)), (∀ x, cur = some x → 1 ≤ x.length) → (wordsG cur l).length ≤ curL cur + l.length ∧ ∀ x ∈ wordsG cur l, x.length ≤ curL cur + l.length
  | [], none, _ => by simp [wordsG]
  | [], some x, h => by
    have := h x rfl
    refine ⟨by simp [wordsG, curL]; omega, fun y hy => ?_⟩
    simp [wordsG] at hy; subst hy; simp [curL]
  | c :: r, none, _ => by
    rw [wordsG]
    split
    · simp
    · split
      · have ih := wordsG_len r none (by simp)
        simp only [curL, List.length_cons] at ih ⊢
        exact ⟨by omega, fun y hy => by have := ih.2 y hy; omega⟩
      · have ih := wordsG_len r (some [c]) (by simp)
        simp only [curL, List.length_cons, List.length_nil] at ih ⊢
        exact ⟨by omega, fun y hy => by have := ih.2 y hy; omega⟩
  | c :: r, some x, h => by
    have h1 := h x rfl
    rw [wordsG]
    split
    · have ih := wordsG_len r none (by simp)
      simp only [curL, List.length_cons] at ih ⊢
      refine ⟨by omega, fun y hy => ?_⟩
      rcases List.mem_cons.1 hy with h | h
      · subst h; omega
      · have := ih.2 y h; omega
    · have ih := wordsG_len r (some (x ++ [c])) (by simp)
      simp only [curL, List.length_append, List.length_cons, List.length_nil] at ih ⊢
      exact ⟨by omega, fun y hy => by have := ih.2 y hy; omega⟩
theorem wordsL_len (l : List UInt8) : (wordsL l).length ≤ l.length ∧ ∀ x ∈ wordsL l, x.length ≤ l.length := by
  have := wordsG_len l none (by simp)
  simpa [wordsL, curL] using this
/-- Behind the form only numbers follow. -/
theorem fieldsG_more (form : List UInt8) : ∀ (r : List (List UInt8)) (i : Nat) (f g : Fld), form.length ≤ i → fieldsG form i f r = (g, 0) → g.w = f.w ∧ g.b = f.b ∧ (f.n ≠ [] → g.n ≠ []) ∧ g.n.length = f.n.length + r.length
  | [], i, f, g, hi, h => by
    simp [fieldsG] at h
    subst h
    simp
  | s :: r, i, f, g, hi, h => by
    have e : form.getD i 110 = 110 := by rw [List.getD_eq_getElem?_getD, List.getElem?_eq_none hi]; rfl
    rw [fieldsG, e] at h
    split at h
    · have ih := fieldsG_more form r (i + 1) _ g (by omega) h
      simp only [takeF, if_true] at ih
      refine ⟨ih.1, ih.2.1, fun _ => ih.2.2.1 (by simp), ?_⟩
      have := ih.2.2.2
      simp at this ⊢; omega
    · next h1 => simp at h; exact absurd h.2 h1
theorem fieldsG_step {form : List UInt8} {i : Nat} {f g : Fld} {s : List UInt8} {r : List (List UInt8)} (h : fieldsG form i f (s :: r) = (g, 0)) : fieldsG form (i + 1) (takeF (form.getD i 110) s f) r = (g, 0) := by
  rw [fieldsG] at h
  split at h
  · exact h
  · next h1 => simp at h; exact absurd h.2 h1
theorem fits1 {k n m : Nat} (h : fitsF k n = true) (hm : moreOf k = false) (hf : (forms.getD k []).length = m) : n = m := by
  unfold fitsF at h
  rw [hm, hf] at h
  simp at h
  exact h.2
/-- What a row's fields are like. -/
def ShapeF (k : Nat) (f : Fld) : Prop := if k = 0 then f.n.length = 1 else if k = 15 then f.b.length = 1 ∧ f.w.length = 1 else CmOk (opOf k) f
theorem readF_shape (k : Nat) (hk : k < 16) (ws : List (List UInt8)) (f : Fld) (h : readF k ws = (f, 0)) : ShapeF k f := by
  unfold readF at h
  split at h
  case isFalse => simp at h
  case isTrue hf =>
  by_cases hm : moreOf k = true
  · have hk2 : k = 1 ∨ k = 10 := by simpa [moreOf] using hm
    rcases hk2 with rfl | rfl
    · match ws, h, hf with
      | [], h, hf => simp [fitsF, forms] at hf
      | [a], h, hf => simp [fitsF, forms] at hf
      | a :: b :: r, h, hf =>
        have h3 := fieldsG_more _ _ _ _ _ (by decide) (fieldsG_step (fieldsG_step h))
        obtain ⟨h4, h5, h6, h7⟩ := h3
        refine ⟨h6 (by simp [takeF, forms, F0]), ?_, ?_⟩
        · rw [h4]; rfl
        · rw [h5]; rfl
    · have h3 := fieldsG_more _ _ _ _ _ (by decide) h
      exact ⟨h3.1, h3.2.1⟩
  · have hm2 : moreOf k = false := by simpa using hm
    have len := fits1 hf hm2 rfl
    clear hf
    match k, hk with
    | 0, _ => match ws, len, h with
      | [a], _, h => have := fieldsG_step h; simp [fieldsG] at this; subst this; rfl
    | 1, _ => exact absurd hm2 (by decide)
    | 2, _ => match ws, len, h with
      | [a, b], _, h => have := fieldsG_step (fieldsG_step h); simp [fieldsG] at this; subst this; exact ⟨by simp [takeF, forms, F0], by simp [takeF, forms, F0]⟩
    | 3, _ => match ws, len, h with
      | [a, b, c], _, h => have := fieldsG_step (fieldsG_step (fieldsG_step h)); simp [fieldsG] at this; subst this; exact ⟨by simp [takeF, forms, F0], by simp [takeF, forms, F0]⟩
    | 4, _ => match ws, len, h with
      | [a, b], _, h => have := fieldsG_step (fieldsG_step h); simp [fieldsG] at this; subst this; exact ⟨by simp [takeF, forms, F0], by simp [takeF, forms, F0]⟩
    | 5, _ => match ws, len, h with
      | [a], _, h => have := fieldsG_step h; simp [fieldsG] at this; subst this; exact ⟨by simp [takeF, forms, F0], by simp [takeF, forms, F0]⟩
    | 6, _ => match ws, len, h with
      | [a, b], _, h => have := fieldsG_step (fieldsG_step h); simp [fieldsG] at this; subst this; exact ⟨by simp [takeF, forms, F0], by simp [takeF, forms, F0]⟩
    | 7, _ => match ws, len, h with
      | [a], _, h => have := fieldsG_step h; simp [fieldsG] at this; subst this; exact ⟨by simp [takeF, forms, F0], by simp [takeF, forms, F0]⟩
    | 8, _ => match ws, len, h with
      | [a, b, c], _, h => have := fieldsG_step (fieldsG_step (fieldsG_step h)); simp [fieldsG] at this; subst this; exact ⟨by simp [takeF, forms, F0], by simp [takeF, forms, F0]⟩
    | 9, _ => match ws, len, h with
      | [a], _, h => have := fieldsG_step h; simp [fieldsG] at this; subst this; exact ⟨by simp [takeF, forms, F0], by simp [takeF, forms, F0]⟩
    | 10, _ => exact absurd hm2 (by decide)
    | 11, _ => match ws, len, h with
      | [], _, h => simp [fieldsG, F0] at h; subst h; exact ⟨by decide, by decide⟩
    | 12, _ => match ws, len, h with
      | [a, b], _, h => have := fieldsG_step (fieldsG_step h); simp [fieldsG] at this; subst this; exact ⟨by simp [takeF, forms, F0], by simp [takeF, forms, F0]⟩
    | 13, _ => match ws, len, h with
      | [a], _, h => have := fieldsG_step h; simp [fieldsG] at this; subst this; exact ⟨by simp [takeF, forms, F0], by simp [takeF, forms, F0]⟩
    | 14, _ => match ws, len, h with
      | [], _, h => simp [fieldsG, F0] at h; subst h; exact ⟨by decide, by decide⟩
    | 15, _ => match ws, len, h with
      | [a, b], _, h => have := fieldsG_step (fieldsG_step h); simp [fieldsG] at this; subst this; exact ⟨rfl, rfl⟩
    | n + 16, h2 => omega
/-- The steps of a script's text. -/
theorem pg_blank {i : Nat} {begun : Bool} {sc : Sc} {l : List UInt8} {r : List (List UInt8)} (h : wordsL l = []) : parseG i begun sc (l :: r) = parseG (i + 1) begun sc r := by
  rw [parseG, h]
theorem pg_bad {i : Nat} {begun : Bool} {sc : Sc} {l x : List UInt8} {ws r : List (List UInt8)} (h : wordsL l = x :: ws) (hb : findP x < 0 ∨ (decide (findP x = 0) = begun) ∨ (findP x = 15 ∧ sc.cmds ≠ [])) : parseG i begun sc (l :: r) = (S0, i + 1, 160) := by
  rw [parseG, h]
  simp only
  rw [if_pos hb]
theorem pg_err {i k : Nat} {begun : Bool} {sc : Sc} {l x : List UInt8} {ws r : List (List UInt8)} {f : Fld} {er : Int} (h : wordsL l = x :: ws) (hk : findP x = (k : Int)) (hb : ¬ (findP x < 0 ∨ (decide (findP x = 0) = begun) ∨ (findP x = 15 ∧ sc.cmds ≠ []))) (hf : readF k ws = (f, er)) (he : ¬ er = 0) : parseG i begun sc (l :: r) = (S0, i + 1, er) := by
  rw [parseG, h]
  simp only
  rw [if_neg hb, hk, Int.toNat_natCast, hf, if_neg he]
theorem pg_limit {i : Nat} {begun : Bool} {sc : Sc} {l x : List UInt8} {ws r : List (List UInt8)} {f : Fld} (h : wordsL l = x :: ws) (hk : findP x = 0) (hb : ¬ (findP x < 0 ∨ (decide (findP x = 0) = begun) ∨ (findP x = 15 ∧ sc.cmds ≠ []))) (hf : readF 0 ws = (f, 0)) : parseG i begun sc (l :: r) = parseG (i + 1) true ⟨f.n.headD 0, sc.over, sc.cmds⟩ r := by
  rw [parseG, h]
  simp only
  rw [if_neg hb, hk]
  simp only [Int.toNat_zero, hf, if_true]
theorem pg_hash {i : Nat} {begun : Bool} {sc : Sc} {l x : List UInt8} {ws r : List (List UInt8)} {f : Fld} (h : wordsL l = x :: ws) (hk : findP x = 15) (hb : ¬ (findP x < 0 ∨ (decide (findP x = 0) = begun) ∨ (findP x = 15 ∧ sc.cmds ≠ []))) (hf : readF 15 ws = (f, 0)) : parseG i begun sc (l :: r) = parseG (i + 1) begun ⟨sc.limit, sc.over ++ [(f.b.headD [], f.w.headD 0)], sc.cmds⟩ r := by
  rw [parseG, h]
  simp only
  rw [if_neg hb, hk]
  have e : (15 : Int).toNat = 15 := rfl
  rw [e, hf]
  simp
theorem pg_cmd {i k : Nat} {begun : Bool} {sc : Sc} {l x : List UInt8} {ws r : List (List UInt8)} {f : Fld} (h : wordsL l = x :: ws) (hk : findP x = (k : Int)) (h0 : k ≠ 0) (h15 : k ≠ 15) (hb : ¬ (findP x < 0 ∨ (decide (findP x = 0) = begun) ∨ (findP x = 15 ∧ sc.cmds ≠ []))) (hf : readF k ws = (f, 0)) : parseG i begun sc (l :: r) = parseG (i + 1) begun ⟨sc.limit, sc.over, sc.cmds ++ [cmdF (k : Int) f]⟩ r := by
  rw [parseG, h]
  simp only
  rw [if_neg hb, hk, Int.toNat_natCast, hf]
  simp only [if_true]
  rw [if_neg (by omega), if_neg (by omega)]
theorem size30 : (Tryd.prog.info? 30).map (·.size) = some 3 := by kernel_rfl
theorem info34 : (Tryd.prog.info? 34).map (fun i => (i.zero, i.size, i.bytes)) = some (some (.agg #[.string ⟨#[]⟩, .int .u64 0]), 2, 24) := by kernel_rfl
theorem info37 : (Tryd.prog.info? 37).map (fun i => (i.zero, i.size, i.bytes)) = some (some (.agg #[.int .i64 0, .int .i64 0, .slice none 0 0, .slice none 0 0, .int .u64 0, .int .u64 0, .int .i64 0, .string ⟨#[]⟩, .string ⟨#[]⟩]), 9, 120) := by kernel_rfl
theorem SL.set {w : World} {E base p i : Nat} {v u : Value} {xs : List Value} (h : SL w E base v xs) (hp : p < base) : SL (w.setCell ⟨p, i, none⟩ u) E base v xs := by
  rcases h with h | ⟨g, o, c, cur, fr, h1, h2, h3, h4, h5⟩
  · exact .inl h
  · exact .inr ⟨g, o, c, cur, fr, h1, h2, h3, (heap_setCell_other w ⟨p, i, none⟩ g u (by show g ≠ p; omega)).trans h4, h5⟩
theorem SL.alloc {w : World} {E base : Nat} {v : Value} {xs : List Value} (h : SL w E base v xs) (o : Obj) : SL (w.alloc o) E base v xs := h.below ((Below.refl _ w).alloc (Nat.le_refl _) o) (Nat.le_refl _)
theorem SL.app {w w3 : World} {E E' base b n size : Nat} {v v' : Value} {xs xs' : List Value} {o : Obj} (h : SL w E base v xs) (h' : w.ownsRow b E' size v' n xs') (hE : E ≠ E') (hg : (w.alloc o).grownBy w3 v'.ownBlock) : SL w3 E base v xs :=
  (h.alloc o).grown (E' := E') hg (fun g e => own_type (h'.alloc o) g e) hE
theorem SL.at {w : World} {E base g o n c : Nat} {xs : List Value} {j : Nat} {u : Value} (h : SL w E base (.slice (some ⟨g, o, none⟩) n c) xs) (hj : xs[j]? = some u) : w.cell? ⟨g, o + j, none⟩ = some u := by
  obtain ⟨ao, c', h1, h2, h3⟩ := h.split
  rcases h3 with ⟨rfl, _, _⟩ | ⟨g', o', rfl, h4, h5, h6⟩
  · cases h1
  · simp only [Value.slice.injEq, Option.some.injEq, Addr.mk.injEq, and_true] at h1
    obtain ⟨⟨rfl, rfl⟩, _, _⟩ := h1
    exact h6 j u hj
theorem grown_blk2 {w w3 : World} {p E base n size : Nat} {v : Value} {xs : List Value} {o : Obj} (hp : p < w.heap.size) (h : w.ownsRow base E size v n xs) (hb : p < base) (o' : Obj) (hg : (w.alloc o').grownBy w3 v.ownBlock) (hblk : w.heap[p]? = some o) : w3.heap[p]? = some o := by
  rw [hg.block p (by simp; omega) (fun e => by have := (h.lt p e.symm).1; omega), ← hblk]
  exact heap_alloc_old w _ hp
/-- A script that is being read: in block p, its lists from base on. -/
structure Ss (w : World) (p base : Nat) (vo vc : Value) (cs : List Value) (sc : Sc) : Prop where
  blk : w.heap[p]? = some (.cells #[.int .i64 sc.limit, vo, vc] 30 (0, 0))
  ro : w.ownsRow base 34 2 vo sc.over.length (ovC sc.over)
  rc : w.ownsRow base 37 9 vc sc.cmds.length cs
  cm : CmA w base cs sc.cmds
  hp : p < base
section
variable {w w3 : World} {p base : Nat} {vo vc v3 : Value} {cs : List Value} {sc : Sc}
theorem Ss.lt (h : Ss w p base vo vc cs sc) : p < w.heap.size := (Array.getElem?_eq_some_iff.1 h.blk).1
theorem Ss.below {w' : World} {k : Nat} (h : Ss w p base vo vc cs sc) (hb : Below k w w') (hk : w.heap.size ≤ k) : Ss w' p base vo vc cs sc :=
  ⟨(hb.block p (by have := h.lt; omega)).trans h.blk, own_bel h.ro hb hk, own_bel h.rc hb hk, h.cm.stay (fun v xs k => k.below hb hk), h.hp⟩
theorem Ss.cells (h : Ss w p base vo vc cs sc) : w.cell? ⟨p, 0, none⟩ = some (.int .i64 sc.limit) ∧ w.cell? ⟨p, 1, none⟩ = some vo ∧ w.cell? ⟨p, 2, none⟩ = some vc ∧ w.frozen? ⟨p, 0, none⟩ = false ∧ w.frozen? ⟨p, 1, none⟩ = false ∧ w.frozen? ⟨p, 2, none⟩ = false := by
  have hb := h.blk
  refine ⟨?_, ?_, ?_, ?_, ?_, ?_⟩ <;> first | (unfold World.cell?; rw [hb]; rfl) | (unfold World.frozen?; rw [hb]; rfl)
theorem Ss.putLimit (h : Ss w p base vo vc cs sc) (x : Int) : Ss (w.setCell ⟨p, 0, none⟩ (.int .i64 x)) p base vo vc cs ⟨x, sc.over, sc.cmds⟩ :=
  ⟨set_blk h.blk, own_set h.ro h.hp, own_set h.rc h.hp, h.cm.stay (fun v xs k => k.set h.hp), h.hp⟩
theorem Ss.putOver (h : Ss w p base vo vc cs sc) (x : List UInt8) (n : Nat) {o : Obj} (hg : (w.alloc o).grownBy w3 vo.ownBlock) (ho : w3.ownsRow base 34 2 v3 (sc.over.length + 1) (ovC sc.over ++ [.string (B x), .int .u64 (n : Int)])) : Ss (w3.setCell ⟨p, 1, none⟩ v3) p base v3 vc cs ⟨sc.limit, sc.over ++ [(x, n)], sc.cmds⟩ := by
  have hb := set_blk (i := 1) (u := v3) (grown_blk2 h.lt h.ro h.hp o hg h.blk)
  refine ⟨hb, own_set ?_ h.hp, own_set (own_other (h.rc.alloc o) (h.ro.alloc o) (by decide) hg) h.hp, h.cm.stay (fun v xs k => (k.app h.ro (by decide) hg).set h.hp), h.hp⟩
  rw [ovC_append, List.length_append]
  exact ho
theorem Ss.putCmd (h : Ss w p base vo vc cs sc) (c : Cm) (vf vh : Value) (hf : SL w 3 base vf (iv c.fields)) (hh : SL w 3 base vh (iv c.hs)) {o : Obj} (hg : (w.alloc o).grownBy w3 vc.ownBlock) (ho : w3.ownsRow base 37 9 v3 (sc.cmds.length + 1) (cs ++ cmC c vf vh)) : Ss (w3.setCell ⟨p, 2, none⟩ v3) p base vo v3 (cs ++ cmC c vf vh) ⟨sc.limit, sc.over, sc.cmds ++ [c]⟩ := by
  have hb := set_blk (i := 2) (u := v3) (grown_blk2 h.lt h.rc h.hp o hg h.blk)
  have st : ∀ v xs, SL w 3 base v xs → SL (w3.setCell ⟨p, 2, none⟩ v3) 3 base v xs := fun v xs k => (k.app h.rc (by decide) hg).set h.hp
  refine ⟨hb, own_set (own_other (h.ro.alloc o) (h.rc.alloc o) (by decide) hg) h.hp, own_set ?_ h.hp, (h.cm.stay st).more (st _ _ hf) (st _ _ hh), h.hp⟩
  rw [List.length_append]
  exact ho
end
theorem Ss.fresh (w : World) (p base : Nat) (hp : p < base) (h : w.heap[p]? = some (.cells #[.int .i64 0, .slice none 0 0, .slice none 0 0] 30 (0, 0))) : Ss w p base (.slice none 0 0) (.slice none 0 0) [] S0 :=
  ⟨h, World.ownsRow_nil _ _ _ _, World.ownsRow_nil _ _ _ _, rfl, hp⟩
/-- A script that was read, its lists of the call's own. -/
def ScO (w : World) (base : Nat) (v : Value) (s : Sc) : Prop := ∃ vo vc cs, v = .agg #[.int .i64 s.limit, vo, vc] ∧ w.ownsRow base 34 2 vo s.over.length (ovC s.over) ∧ w.ownsRow base 37 9 vc s.cmds.length cs ∧ CmA w base cs s.cmds
theorem ScO.scv {w : World} {base : Nat} {v : Value} {s : Sc} (h : ScO w base v s) : ScV w v s := by
  obtain ⟨vo, vc, cs, h1, h2, h3, h4⟩ := h
  exact ⟨vo, vc, cs, h1, own_sv h2, own_sv h3, h4.cmv⟩
def zero30 : Array Value := #[.int .i64 0, .slice none 0 0, .slice none 0 0]
theorem ScO.zero (w : World) (base : Nat) : ScO w base (.agg zero30) S0 := ⟨_, _, [], rfl, World.ownsRow_nil _ _ _ _, World.ownsRow_nil _ _ _ _, rfl⟩
/-- What Parse leaves. -/
def ParseP (r : Sc × Nat × Int) (w : World) (e : Ending) (w' : World) : Prop := ∃ v, e = .returned (.tuple #[v, .int .i64 (r.2.1 : Int), .int .i64 r.2.2]) ∧ ScO w' w.heap.size v r.1 ∧ Below w.heap.size w w'
theorem results_cell_tmp2 {P : Program} {fn : Func} {p q r : Tmp} {ty : TypeId} (h : fn.results = #[.cell p ty, .tmp q, .tmp r]) (tmps : Array Value) (w : World) (g : Nat) (t : TypeId) (cs : Array Value) (fr : Nat × Nat) (d : TypeDesc) (v u : Value)
    (hp : tmps.getD p undef = .pointer (some ⟨g, 0, none⟩)) (hv : tmps.getD q undef = v) (hu2 : tmps.getD r undef = u) (hg : w.heap[g]? = some (.cells cs t fr))
    (hu : P.underlying ty = some d) (hd : (match d with | .struct _ | .array _ _ => true | _ => false) = true) (hi : (P.info? ty).map (·.size) = some cs.size) :
    (results fn tmps).run P w = .ok (.tuple #[.agg cs, v, u]) w := by
  have hp' : tmps[p]?.getD undef = .pointer (some ⟨g, 0, none⟩) := by simpa using hp
  have hv' : tmps[q]?.getD undef = v := by simpa using hv
  have hu' : tmps[r]?.getD undef = u := by simpa using hu2
  simp [results, h, hp', hv', hu', asAddr, run_loadVar_row w g t ty cs fr d hg hu hd hi]
end Go.Proofs.YtigaacbaaopfmaaDoor.sh
