/- Words for the walks of Parse. -/
import Derived.Test.YtigaacbaaopfmaaDoorPg
import Derived.StillTailTactics
import Derived.Deep.DeepCutAuto
import Derived.Deep.RegionHeld3
import Derived.Deep.RegionLaw
set_option linter.unusedSimpArgs false
namespace Go.Proofs.YtigaacbaaopfmaaDoor.sh
open Go.RowKit
set_option linter.unusedVariables false
theorem slice74 (W : World) (g n c : Nat) (hn : 1 ≤ n) (hc : n ≤ c) : (Instr.slice 74 (.slice (some ⟨g, 0, none⟩) n c) (some (.int .i64 1)) none none).run Tryd.prog W = .ok (.slice (some ⟨g, if c = 1 then 0 else 1, none⟩) (n - 1) (c - 1)) W := by
  rw [run_slice_l (P := Tryd.prog) W 74 (some ⟨g, 0, none⟩) n c under74 .i64 1 (by decide) (by omega), elem74, Tryd.sizeOf9]
  simp [Result.andThen, sliced]
  by_cases h : c = 1
  · subst h; simp
  · simp [h, Addr.add]
theorem two_allocs (w : World) (A F : Obj) (k : Nat) (hk : w.heap.size = k) : ∀ W, (w.alloc A).alloc F = W →
    W.heap[k]? = some A ∧ W.heap[k + 1]? = some F ∧ W.heap.size = k + 2 ∧ Below k w W := by
  rintro W rfl
  subst hk
  refine ⟨?_, ?_, by simp only [alsize], ((Below.refl _ w).alloc (Nat.le_refl _) _).alloc (by simp) _⟩
  · rw [heap_alloc_old _ _ (by simp only [alsize]; omega)]; exact heap_alloc_new _ _
  · have := heap_alloc_new (w.alloc A) F; simp only [alsize] at this; exact this
theorem all_zero30 : zero30.all (·.oneCell') = true := by simp [zero30, Value.oneCell']
theorem Rowz.cells {w : World} (h : Rowz w) (i : Nat) (hi : i < 16) : w.cell? ⟨0, i * 4, none⟩ = some (.string (nm i)) ∧ w.cell? ⟨0, i * 4 + 1, none⟩ = some (.int .i64 (opOf i)) ∧ w.cell? ⟨0, i * 4 + 2, none⟩ = some (.string (formOf i)) ∧ w.cell? ⟨0, i * 4 + 3, none⟩ = some (.bool (moreOf i)) := by
  obtain ⟨cs, t, fr, h1, h2, h3⟩ := h
  obtain ⟨a0, a1, a2, a3⟩ := h3 i hi
  refine ⟨?_, ?_, ?_, ?_⟩ <;> (unfold World.cell?; rw [h1]; assumption)
/-- The fields in block g, behind the call of read. -/
def CutF (T b : Nat) (w3 : World) (f : Fld) (er : Int) (v12 v13 : Value) (wx : World) : Prop := ∃ g vn vw vb, v12 = .pointer (some ⟨g, 0, none⟩) ∧ w3.heap.size ≤ g ∧ v13 = .int .i64 er ∧ Below w3.heap.size w3 wx ∧ wx.heap[g]? = some (.cells #[vn, vw, vb] T (0, 0)) ∧ Rows3 wx b vn vw vb f
theorem Rows3.alloc {w : World} {b : Nat} {vn vw vb : Value} {f : Fld} (h : Rows3 w b vn vw vb f) (o : Obj) : Rows3 (w.alloc o) b vn vw vb f := h.below ((Below.refl _ w).alloc (Nat.le_refl _) o) (Nat.le_refl _)
theorem cut_a {T k : Nat} {w3 w4 : World} {vn vw vb : Value} {f : Fld} {er : Int} (hB : Below w3.heap.size w3 w4) (hR : Rows3 w4 w3.drew.heap.size vn vw vb f) (hk : k + 2 ≤ w3.heap.size) : CutF T (k + 2) w3 f er (.pointer (some ⟨w4.heap.size, 0, none⟩)) (.int .i64 er) (w4.alloc (.cells #[vn, vw, vb] T)) :=
  ⟨_, _, _, _, rfl, hB.size, rfl, hB.alloc hB.size _, heap_alloc_new _ _, (hR.mono (show k + 2 ≤ w3.heap.size from hk)).alloc _⟩
theorem cut_b {T k : Nat} {w3 w4 : World} {vn vw vb : Value} {f : Fld} {er : Int} (hB : Below (w3.alloc (.cells #[.slice none 0 0, .slice none 0 0, .slice none 0 0] T)).heap.size (w3.alloc (.cells #[.slice none 0 0, .slice none 0 0, .slice none 0 0] T)) w4) (hR : Rows3 w4 (w3.alloc (.cells #[.slice none 0 0, .slice none 0 0, .slice none 0 0] T)).drew.heap.size vn vw vb f) (hk : k + 2 ≤ w3.heap.size) :
    CutF T (k + 2) w3 f er (.pointer (some ⟨w3.heap.size, 0, none⟩)) (.int .i64 er) (((w4.setCell ⟨w3.heap.size, 0, none⟩ vn).setCell ⟨w3.heap.size, 1, none⟩ vw).setCell ⟨w3.heap.size, 2, none⟩ vb) := by
  have hR2 : Rows3 w4 (w3.heap.size + 1) vn vw vb f := hR.mono (by show w3.heap.size + 1 ≤ (w3.alloc _).heap.size; rw [alsize]; exact Nat.le_refl _)
  refine ⟨w3.heap.size, vn, vw, vb, rfl, Nat.le_refl _, rfl, ?_, ?_, ?_⟩
  · have h0 : Below w3.heap.size w3 w4 := ((Below.refl _ w3).alloc (Nat.le_refl _) _).trans (hB.mono (by rw [alsize]; omega))
    exact below_set (below_set (below_set h0 (Nat.le_refl _) _) (Nat.le_refl _) _) (Nat.le_refl _) _
  · exact Bx.full3 (Bx.below (Bx.new w3 _ T 3 rfl) hB) _ _ _
  · exact (((hR2.set (p := w3.heap.size) (by omega)).set (p := w3.heap.size) (by omega)).set (p := w3.heap.size) (by omega)).mono (by omega)
theorem put_block {w w3 : World} {p i b base E n size : Nat} {v u : Value} {xs : List Value} {o : Obj} (h : w.ownsRow base E size v n xs) (hg : (w.alloc o).grownBy w3 v.ownBlock) (hb : b < base) (hbw : b < w.heap.size) (hne : b ≠ p) : (w3.setCell ⟨p, i, none⟩ u).heap[b]? = w.heap[b]? := by
  rw [heap_setCell_other w3 ⟨p, i, none⟩ b u hne, hg.block b (by simp; omega) (fun e => by have := (h.lt b e.symm).1; omega)]
  exact heap_alloc_old w o hbw
theorem step_new {w W : World} {ops : Array Oper} {o' : Oper} {a : Act} {K : Act → World → Prop} {Q : Exit → Act → World → Prop} {E' : Prop} {T E size bytes : Nat} {z : Value} (hgd : o'.guard = none) (s x : Operand)
    (ho : o'.op = .call { callee := .builtin .append, args := #[s, x], argTypes := #[T, T] }) (hT : Tryd.prog.underlying T = some (.slice E))
    (hE : (Tryd.prog.info? E).map (fun i => (i.zero, i.size, i.bytes)) = some (some z, size, bytes)) (hzs : z.cells.size = size) (hsz : 0 < size)
    (base n : Nat) (v : Value) (xs : List Value) (m c : Nat) (news : List Value) (hl : news.length = m * size) (hown : w.ownsRow base E size v n xs) (hsv : a.eval s = v) (hx : a.eval x = .slice (some ⟨w.heap.size, 0, none⟩) m c)
    (h1 : ∀ u ∈ news, u.oneCell' = true) (h63 : n + m ≤ maxLen) (hby : (n + m) * bytes ≤ 140737488355328) (hbase : base ≤ w.heap.size) (hW : W = w.alloc (.cells news.toArray E))
    (h : ∀ v' w', w'.ownsRow base E size v' (n + m) (xs ++ news) → (w.alloc (.cells news.toArray E)).grownBy w' v.ownBlock → K (a.put o'.dst v') w') :
    if Region.wanted o' (yielded ops a.tmps) = true then Oper.wp Tryd.prog o' a W K Q else E' := by
  subst hW
  have hw : Region.wanted o' (yielded ops a.tmps) = true := by simp [Region.wanted, hgd]
  rw [if_pos hw]
  obtain ⟨i, hi, hz0, hz1, hz2⟩ := info_parts hE
  refine wp_append_own (P := Tryd.prog) _ s x T ho base E i z size bytes hT hi hz0 hz1 hz2 hzs hsz v n xs hsv (hown.alloc _) ⟨w.heap.size, 0, none⟩ m c news hx hl (fun j u hj => ?_) h1 h63 hby (by simp; omega) (fun v' w' h2 h3 _ => h v' w' h2 h3)
  have hadd : (⟨w.heap.size, 0, none⟩ : Addr).add j = ⟨w.heap.size, j, none⟩ := by unfold Addr.add; split <;> simp_all
  rw [hadd]
  have hb : (w.alloc (.cells news.toArray E)).heap[w.heap.size]? = some (.cells news.toArray E) := Array.getElem?_push_size
  rw [cell_of_row _ _ _ _ _ _ hb]
  simpa using hj
theorem own_setRow {w : World} {base E size n k : Nat} {v : Value} {xs : List Value} {cells : Array Value} (h : w.ownsRow base E size v n xs) (hk : k < base) : (w.setRow k cells).ownsRow base E size v n xs := by
  refine ⟨h.1, ?_⟩
  rcases h.2 with h1 | ⟨g, cap, cur, h1, h2, h3, h4⟩
  · exact .inl h1
  · exact .inr ⟨g, cap, cur, h1, h2, (setRow_other w k g _ (by omega)).trans h3, h4⟩
theorem SL.setRow {w : World} {E base k : Nat} {v : Value} {xs : List Value} {cells : Array Value} (h : SL w E base v xs) (hk : k < base) : SL (w.setRow k cells) E base v xs := by
  rcases h with h | ⟨g, o, c, cur, fr, h1, h2, h3, h4, h5⟩
  · exact .inl h
  · exact .inr ⟨g, o, c, cur, fr, h1, h2, h3, (setRow_other w k g _ (by omega)).trans h4, h5⟩
theorem CmA.mono {w : World} {base b : Nat} (hb : b ≤ base) : ∀ {cs : List Cm} {xs : List Value}, CmA w base xs cs → CmA w b xs cs
  | [], xs, k => k
  | c :: r, xs, ⟨vf, vh, rest, h1, h2, h3, h4⟩ => ⟨vf, vh, rest, h1, h2.mono hb, h3.mono hb, CmA.mono hb h4⟩
/-- The script, copied into the result's block. -/
theorem Ss.out {w : World} {p b k : Nat} {vo vc : Value} {cs : List Value} {sc : Sc} {cells : Array Value} (h : Ss w p b vo vc cs sc) (hk : k < b) : ScO (w.setRow k cells) k (.agg #[.int .i64 sc.limit, vo, vc]) sc :=
  ⟨vo, vc, cs, rfl, own_mono (own_setRow h.ro hk) (by omega), own_mono (own_setRow h.rc hk) (by omega), (h.cm.stay (fun v xs k => k.setRow hk)).mono (by omega)⟩
theorem all_30 (x : Int) (a1 a2 : Option Addr) (n1 n2 m1 m2 : Nat) : (#[Value.int .i64 x, .slice a1 n1 m1, .slice a2 n2 m2] : Array Value).all (·.oneCell') = true := by simp [Value.oneCell']
theorem grown_cell {w w3 : World} {o : Obj} {base E n size b i T : Nat} {v u : Value} {xs : List Value} (h : w.ownsRow base E size v n xs) (hg : (w.alloc o).grownBy w3 v.ownBlock) (hb : ∃ cs fr, w.heap[b]? = some (.cells cs T fr)) (hT : T ≠ E) (hc : w.cell? ⟨b, i, none⟩ = some u) : w3.cell? ⟨b, i, none⟩ = some u := by
  obtain ⟨cs, fr, hb⟩ := hb
  have hlt : b < w.heap.size := (Array.getElem?_eq_some_iff.1 hb).1
  have e : w3.heap[b]? = w.heap[b]? := by
    rw [hg.block b (by simp; omega) (fun e => by
      obtain ⟨cur, fr2, h2⟩ := own_type h b e.symm
      rw [hb] at h2
      simp only [Option.some.injEq, Obj.cells.injEq] at h2
      exact hT h2.2.1)]
    exact heap_alloc_old w o hlt
  exact (World.cell?_of_block (a := ⟨b, i, none⟩) e).trans hc
theorem set_far {w : World} {b p i j : Nat} {u v : Value} (h : w.cell? ⟨b, i, none⟩ = some u) (hne : b ≠ p) : (w.setCell ⟨p, j, none⟩ v).cell? ⟨b, i, none⟩ = some u :=
  (World.cell?_of_block (w := w) (a := ⟨b, i, none⟩) (heap_setCell_other w ⟨p, j, none⟩ b v hne)).trans h
/-- The script behind a line. -/
def CutS (p b k : Nat) (w : World) (vl : Value) (ls : List (List UInt8)) (sc : Sc) (wx : World) : Prop := ∃ vo vc cs, Ss wx p b vo vc cs sc ∧ wx.heap[k]? = some (.cells #[.int .i64 0, .slice none 0 0, .slice none 0 0] 30 (0, 0)) ∧ SL wx 9 b vl (ss ls) ∧ Below k w wx
theorem sl_slice {w : World} {E base : Nat} {v : Value} {xs : List Value} (h : SL w E base v xs) : ∃ a c, v = .slice a xs.length c := by
  obtain ⟨ao, c, h1, _⟩ := h.split
  exact ⟨ao, c, h1⟩
theorem setRow_below {w wx : World} {k : Nat} {cells : Array Value} (h : Below k w wx) : Below k w (wx.setRow k cells) := h.trans ⟨rfl, rfl, rfl, by simp, fun z hz => setRow_other wx k z _ (by omega)⟩
end Go.Proofs.YtigaacbaaopfmaaDoor.sh
