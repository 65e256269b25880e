/- A command of a line's fields: the program's, walked. -/
import Derived.Test.YtigaacbaaopfmaaDoorFr
import Derived.Laws.Tables
import Derived.Deep.MidRow
import Derived.Deep.CutBlock
set_option linter.unusedSimpArgs false
namespace Go.Proofs.YtigaacbaaopfmaaDoor.sh
open Go.RowKit
set_option linter.unusedVariables false
theorem size37 : (Tryd.prog.info? 37).map (·.size) = some 9 := by kernel_rfl
/-- What command leaves. -/
def CmdP (c : Cm) (b : Nat) (w : World) (e : Ending) (w' : World) : Prop := ∃ vf vh, e = .returned (.agg (cmC c vf vh).toArray) ∧ SL w' 3 b vf (iv c.fields) ∧ SL w' 3 b vh (iv c.hs) ∧ Below w.heap.size w w'
theorem SL.hd {w : World} {E base : Nat} {v : Value} {xs : List Value} (h : SL w E base v xs) : ∃ ao c g o, v = .slice ao xs.length c ∧ (xs.length = 0 ∨ ao = some ⟨g, o, none⟩) ∧ (ao = none → c = 0) ∧ xs.length ≤ c ∧ (xs.length = 0 ∨ g < w.heap.size) ∧ ∀ (j : Nat) (u : Value), xs[j]? = some u → w.cell? ⟨g, o + j, none⟩ = some u := by
  obtain ⟨ao, c, h1, h2, h3⟩ := h.split
  rcases h3 with ⟨rfl, rfl, rfl⟩ | ⟨g, o, rfl, h3, h4, h5⟩
  · exact ⟨none, 0, 0, 0, h1, Or.inl rfl, fun _ => rfl, h2, Or.inl rfl, fun j u hu => by simp at hu⟩
  · exact ⟨_, c, g, o, h1, Or.inr rfl, (fun e => by cases e), h2, Or.inr h4, h5⟩
/-- The command's variable. -/
def cmX (c : Cm) (vf vh : Value) : Array Value := #[.int .i64 c.op, .int .i64 c.h, vf, vh, .int .u64 (c.u : Int), .int .u64 (c.v : Int), .int .i64 c.n, .string (B c.key), .string (B c.elem)]
abbrev cmA (c : Cm) : Array Value := cmX c (.slice none 0 0) (.slice none 0 0)
structure CmW (w : World) (k : Nat) (vn vw vb : Value) (cs : Array Value) : Prop where
  blk : w.heap[k + 3]? = some (.cells cs 37 (0, 0))
  res : Bx w (k + 2) 9 37
  c0 : w.cell? ⟨k + 1, 0, none⟩ = some vn
  c1 : w.cell? ⟨k + 1, 1, none⟩ = some vw
  c2 : w.cell? ⟨k + 1, 2, none⟩ = some vb
section
variable {w : World} {k : Nat} {vn vw vb : Value} {cs : Array Value}
theorem CmW.cold (h : CmW w k vn vw vb cs) (i : Nat) : w.frozen? ⟨k + 3, i, none⟩ = false := by
  unfold World.frozen?; rw [h.blk]; rfl
theorem CmW.lt (h : CmW w k vn vw vb cs) : k + 3 < w.heap.size := (Array.getElem?_eq_some_iff.1 h.blk).1
theorem CmW.cell (h : CmW w k vn vw vb cs) (i : Nat) : w.cell? ⟨k + 3, i, none⟩ = cs[i]? := cell_of_row w (k + 3) i _ _ _ h.blk
theorem CmW.alloc (h : CmW w k vn vw vb cs) (o : Obj) : CmW (w.alloc o) k vn vw vb cs := by
  have hb := (Below.refl w.heap.size w).alloc (Nat.le_refl _) o
  have hl := h.lt
  exact ⟨(heap_alloc_old w o h.lt).trans h.blk, h.res.old o, (hb.cell (p := ⟨k + 1, 0, none⟩) (by show k + 1 < w.heap.size; omega)).trans h.c0, (hb.cell (p := ⟨k + 1, 1, none⟩) (by show k + 1 < w.heap.size; omega)).trans h.c1, (hb.cell (p := ⟨k + 1, 2, none⟩) (by show k + 1 < w.heap.size; omega)).trans h.c2⟩
theorem CmW.set (h : CmW w k vn vw vb cs) (i : Nat) (u : Value) : CmW (w.setCell ⟨k + 3, i, none⟩ u) k vn vw vb (cs.setIfInBounds i u) := by
  refine ⟨set_blk h.blk, h.res.setO i u (by omega), ?_, ?_, ?_⟩
  · exact (World.cell?_of_block (w := w) (a := ⟨k + 1, 0, none⟩) (heap_setCell_other w ⟨k + 3, i, none⟩ (k + 1) u (by show k + 1 ≠ k + 3; omega))).trans h.c0
  · exact (World.cell?_of_block (w := w) (a := ⟨k + 1, 1, none⟩) (heap_setCell_other w ⟨k + 3, i, none⟩ (k + 1) u (by show k + 1 ≠ k + 3; omega))).trans h.c1
  · exact (World.cell?_of_block (w := w) (a := ⟨k + 1, 2, none⟩) (heap_setCell_other w ⟨k + 3, i, none⟩ (k + 1) u (by show k + 1 ≠ k + 3; omega))).trans h.c2
theorem CmW.drew (h : CmW w k vn vw vb cs) : CmW w.drew k vn vw vb cs := ⟨h.blk, h.res, h.c0, h.c1, h.c2⟩
end
def C0 (op : Int) : Cm := ⟨op, 0, [], [], 0, 0, 0, [], []⟩
theorem four_allocs (w : World) (A F Z C : Obj) (k : Nat) (hk : w.heap.size = k) : ∀ W, (((w.alloc A).alloc F).alloc Z).alloc C = W →
    W.heap[k]? = some A ∧ W.heap[k + 1]? = some F ∧ W.heap[k + 2]? = some Z ∧ W.heap[k + 3]? = some C ∧ W.heap.size = k + 4 ∧ Below k w W := by
  rintro W rfl
  subst hk
  refine ⟨?_, ?_, ?_, ?_, by simp only [alsize], ((((Below.refl _ w).alloc (Nat.le_refl _) _).alloc (by simp) _).alloc (by simp only [alsize]; omega) _).alloc (by simp only [alsize]; omega) _⟩
  · rw [heap_alloc_old _ _ (by simp only [alsize]; omega), heap_alloc_old _ _ (by simp only [alsize]; omega), heap_alloc_old _ _ (by simp only [alsize]; omega)]; exact heap_alloc_new _ _
  · rw [heap_alloc_old _ _ (by simp only [alsize]; omega), heap_alloc_old _ _ (by simp only [alsize]; omega)]; have := heap_alloc_new (w.alloc A) F; simp only [alsize] at this; exact this
  · rw [heap_alloc_old _ _ (by simp only [alsize]; omega)]; have := heap_alloc_new ((w.alloc A).alloc F) Z; simp only [alsize] at this; exact this
  · have := heap_alloc_new (((w.alloc A).alloc F).alloc Z) C; simp only [alsize] at this; exact this
theorem cmw_begin (w : World) (a0 a1 a2 a3 vn vw vb : Value) (op : Int) (k : Nat) (hk : w.heap.size = k) : ∀ W, (((w.alloc (.cells #[a0, a1, a2, a3] 82)).alloc (.cells #[vn, vw, vb] 79)).alloc (.cells #[.int .i64 0, .int .i64 0, .slice none 0 0, .slice none 0 0, .int .u64 0, .int .u64 0, .int .i64 0, .string ⟨#[]⟩, .string ⟨#[]⟩] 37)).alloc (.cells #[.int .i64 op, .int .i64 0, .slice none 0 0, .slice none 0 0, .int .u64 0, .int .u64 0, .int .i64 0, .string ⟨#[]⟩, .string ⟨#[]⟩] 37) = W →
    CmW W k vn vw vb (cmA (C0 op)) ∧ W.cell? ⟨k, 1, none⟩ = some a1 ∧ Below k w W := by
  intro W hW
  obtain ⟨h0, h1, h2, h3, h4, h5⟩ := four_allocs w _ _ _ _ k hk W hW
  refine ⟨⟨h3, ⟨_, h2, rfl⟩, ?_, ?_, ?_⟩, ?_, h5⟩
  · unfold World.cell?; rw [h1]; rfl
  · unfold World.cell?; rw [h1]; rfl
  · unfold World.cell?; rw [h1]; rfl
  · unfold World.cell?; rw [h0]; rfl
theorem all_cmX (c : Cm) (a1 a2 : Option Addr) (n1 n2 m1 m2 : Nat) : (cmX c (.slice a1 n1 m1) (.slice a2 n2 m2)).all (·.oneCell') = true := by simp [cmX, Value.oneCell']
set_option maxHeartbeats 4000000 in
set_option maxRecDepth 100000 in
theorem cmd_gen (w : World) (x0 x2 : ByteArray) (x3 : Bool) (op : Int) (h1 : (op == 1) = false) (h10 : (op == 10) = false) (vn vw vb : Value) (b : Nat) (f : Fld) (h : Rows3 w b vn vw vb f) (hw : f.w.length ≤ 2) (hbl : f.b.length ≤ 2) :
    Calls Tryd.prog 47 #[.agg #[.string x0, .int .i64 op, .string x2, .bool x3], .agg #[vn, vw, vb]] w (CmdP ⟨op, f.n.headD 0, [], [], f.w.headD 0, f.w.getD 1 0, 0, f.b.headD [], f.b.getD 1 []⟩ b w) := by
  obtain ⟨an, cn, gn, on, rfl, hn1, hn2, hn3, hn4, hn5⟩ := (SL.of_own h.rn).hd
  obtain ⟨aw, cw, gw, ow, rfl, hw1, hw2, hw3, hw4, hw5⟩ := (SL.of_own h.rw).hd
  obtain ⟨ab, cb, gb, ob, rfl, hb1, hb2, hb3, hb4, hb5⟩ := (SL.of_own h.rb).hd
  clear h
  obtain ⟨fn, fw, fb⟩ := f
  simp only at *
  rw [iv_len] at hn1 hn3 hn4 ⊢
  rw [uv_len] at hw1 hw3 hw4 ⊢
  rw [ss_len] at hb1 hb3 hb4 ⊢
  obtain ⟨k, hk⟩ : ∃ k, w.heap.size = k := ⟨_, rfl⟩
  rw [hk] at hn4 hw4 hb4
  obtain ⟨ln, hln⟩ : ∃ n, fn.length = n := ⟨_, rfl⟩
  obtain ⟨lw, hlw⟩ : ∃ n, fw.length = n := ⟨_, rfl⟩
  obtain ⟨lb, hlb⟩ : ∃ n, fb.length = n := ⟨_, rfl⟩
  rw [hln] at hn1 hn3 hn4 ⊢
  rw [hlw] at hw1 hw3 hw4 hw ⊢
  rw [hlb] at hb1 hb3 hb4 hbl ⊢
  obtain ⟨Q, hQ⟩ : ∃ Q, CmdP ⟨op, fn.headD 0, [], [], fw.headD 0, fw.getD 1 0, 0, fb.headD [], fb.getD 1 []⟩ b w = Q := ⟨_, rfl⟩
  have HF : Aside0 (∀ (c : Cm) (w' : World), c = ⟨op, fn.headD 0, [], [], fw.headD 0, fw.getD 1 0, 0, fb.headD [], fb.getD 1 []⟩ → Below k w w' → Q (.returned (.agg (cmA c))) w') := ⟨fun c w' h1 h2 => by subst h1 hk; rw [← hQ]; exact ⟨.slice none 0 0, .slice none 0 0, rfl, SL.nil _ _ _, SL.nil _ _ _, h2⟩⟩
  rw [hQ]
  have HW : Aside0 (∀ (j x : Nat) (wr : World), fw[j]? = some x → Below k w wr → wr.cell? ⟨gw, ow + j, none⟩ = some (.int .u64 (x : Int))) := ⟨fun j x wr hx hB => by
    have hlt : j < lw := by rw [← hlw]; exact (List.getElem?_eq_some_iff.1 hx).1
    rw [hB.cell (p := ⟨gw, ow + j, none⟩) (by show gw < k; rcases hw4 with h | h; omega; exact h)]
    exact hw5 j _ (by rw [uv, List.getElem?_map, hx]; rfl)⟩
  have HBb : Aside0 (∀ (j : Nat) (x : List UInt8) (wr : World), fb[j]? = some x → Below k w wr → wr.cell? ⟨gb, ob + j, none⟩ = some (.string (B x))) := ⟨fun j x wr hx hB => by
    have hlt : j < lb := by rw [← hlb]; exact (List.getElem?_eq_some_iff.1 hx).1
    rw [hB.cell (p := ⟨gb, ob + j, none⟩) (by show gb < k; rcases hb4 with h | h; omega; exact h)]
    exact hb5 j _ (by rw [ss, List.getElem?_map, hx]; rfl)⟩
  have HN : Aside0 (∀ (x : Int) (wr : World), fn[0]? = some x → Below k w wr → wr.cell? ⟨gn, on, none⟩ = some (.int .i64 x)) := ⟨fun x wr hx hB => by
    have hlt : 0 < ln := by rw [← hln]; exact (List.getElem?_eq_some_iff.1 hx).1
    rw [hB.cell (p := ⟨gn, on, none⟩) (by show gn < k; rcases hn4 with h | h; omega; exact h)]
    exact hn5 0 _ (by rw [iv, List.getElem?_map, hx]; rfl)⟩
  have HL : Aside0 (fn.length = ln ∧ fw.length = lw ∧ fb.length = lb) := ⟨hln, hlw, hlb⟩
  clear hn5 hw5 hb5 hn4 hw4 hb4 hQ hln hlw hlb hn2 hw2 hb2
  go_enter Tryd.func47, Tryd.ntmps47
  go_upto_region 2 with fail
  generalize hW : (((w.alloc (.cells #[.string x0, .int .i64 op, .string x2, .bool x3] 82)).alloc (.cells #[.slice an ln cn, .slice aw lw cw, .slice ab lb cb] 79)).alloc (.cells #[.int .i64 0, .int .i64 0, .slice none 0 0, .slice none 0 0, .int .u64 0, .int .u64 0, .int .i64 0, .string ⟨#[]⟩, .string ⟨#[]⟩] 37)).alloc (.cells #[.int .i64 op, .int .i64 0, .slice none 0 0, .slice none 0 0, .int .u64 0, .int .u64 0, .int .i64 0, .string ⟨#[]⟩, .string ⟨#[]⟩] 37) = W
  obtain ⟨hC, hop, hB⟩ := cmw_begin w _ _ _ _ _ _ _ op k hk W hW
  clear hW
  have c0 := hC.c0
  have hlt0 := hC.lt
  by_cases hn0 : 0 < ln
  · have hn0' : (ln : Int) > 0 := by omega
    obtain ⟨y, hy⟩ : ∃ y, fn[0]? = some y := ⟨_, List.getElem?_eq_getElem (by rw [HL.out.1]; exact hn0)⟩
    obtain rfl : an = some ⟨gn, on, none⟩ := by rcases hn1 with h | h; omega; exact h
    have hcy := HN.out y W hy hB
    have hc1 := (hC.cell 1).trans rfl
    have hz1 := hC.cold 1
    have hd : fn.headD 0 = y := by cases fn with
      | nil => cases hy
      | cons a r => simp at hy; simp [hy]
    rw [hd] at HF
    clear hd hy
    go_upto_region 11 with fail
    have hC2 := hC.set 1 (.int .i64 y)
    have hB2 := below_set (b := k + 3) (i := 1) hB (by omega) (.int .i64 y)
    generalize W.setCell ⟨k + 3, 1, none⟩ (.int .i64 y) = W2 at hC2 hB2 ⊢
    have hcw := hC2.c1
    clear c0 hop hlt0
    go_wp2
    go_loopg [50] lw (fun q v50 wr => ∃ (i u v : Nat), v50 = .int .i64 i ∧ i + q = lw ∧ CmW wr k (.slice (some ⟨gn, on, none⟩) ln cn) (.slice aw lw cw) (.slice ab lb cb) (cmA ⟨op, y, [], [], u, v, 0, [], []⟩) ∧ Below k w wr ∧ Aside0 (u = (if 0 < i then fw.headD 0 else 0) ∧ v = (if 1 < i then fw.getD 1 0 else 0)))
    case atStart => exact ⟨0, 0, 0, rfl, by omega, hC2, hB2, ⟨rfl, rfl⟩⟩
    case round =>
      clear hC hB hC2 hB2 hcw
      obtain ⟨i, u, v, rfl, hiq, hC, hB, hA⟩ := hrel
      by_cases hi : i < lw
      · have hil : (i : Int) < (lw : Int) := by omega
        obtain ⟨x, hx⟩ : ∃ x, fw[i]? = some x := ⟨_, List.getElem?_eq_getElem (by rw [HL.out.2.1]; exact hi)⟩
        obtain rfl : aw = some ⟨gw, ow, none⟩ := by rcases hw1 with h | h; omega; exact h
        have hcx := HW.out i x wr hx hB
        obtain ⟨q, rfl⟩ : ∃ q, gk = q + 1 := ⟨gk - 1, by omega⟩
        have hlt := hC.lt
        have hi2 : i = 0 ∨ i = 1 := by omega
        rcases hi2 with rfl | rfl
        · have hx1 : fw.headD 0 = x := by cases fw with
            | nil => cases hx
            | cons a r => simp at hx; simp [hx]
          have A1 : Aside0 (x = (if 0 < 0 + 1 then fw.headD 0 else 0) ∧ v = (if 1 < 0 + 1 then fw.getD 1 0 else 0)) := ⟨by rw [if_pos (by omega), hx1], by rw [if_neg (by omega)]; have := hA.out.2; rw [if_neg (by omega)] at this; exact this⟩
          have hcc := (hC.cell 4).trans rfl
          have hcz := hC.cold 4
          clear hx1 hx hA
          rw [Nat.add_zero] at hcx
          go_wp2
          go_roundg q
          case measure => omega
          case rel => exact ⟨0 + 1, x, v, by go_num, by omega, (hC.set 4 _).alloc _, (below_set (b := k + 3) hB (by omega) _).alloc (by simp; omega) _, A1⟩
        · have hx1 : fw.getD 1 0 = x := by rw [List.getD_eq_getElem?_getD, hx]; rfl
          have A1 : Aside0 (u = (if 0 < 1 + 1 then fw.headD 0 else 0) ∧ x = (if 1 < 1 + 1 then fw.getD 1 0 else 0)) := ⟨by have := hA.out.1; rw [if_pos (by omega)] at this; rw [if_pos (by omega)]; exact this, by rw [if_pos (by omega), hx1]⟩
          have hcc := (hC.cell 5).trans rfl
          have hcz := hC.cold 5
          clear hx1 hx hA
          go_wp2
          go_roundg q
          case measure => omega
          case rel => exact ⟨1 + 1, u, x, by go_num, by omega, (hC.set 5 _).alloc _, (below_set (b := k + 3) hB (by omega) _).alloc (by simp; omega) _, A1⟩
      · obtain rfl : i = lw := by omega
        have hil : ¬ (i : Int) < (i : Int) := by omega
        have A2 : Aside0 (u = fw.headD 0 ∧ v = fw.getD 1 0) := ⟨by
          have := hA.out; have hl := HL.out.2.1
          cases fw with
          | nil => simp at hl; subst hl; simpa using this
          | cons a r => cases r with
            | nil => simp at hl; subst hl; simpa using this
            | cons c r => simp at hl; rw [if_pos (by omega), if_pos (by omega)] at this; exact this⟩
        have hcb := hC.c2
        clear hA
        go_wp2
        go_loopg [67] lb (fun q v67 wr => ∃ (j : Nat) (s t : List UInt8), v67 = .int .i64 j ∧ j + q = lb ∧ CmW wr k (.slice (some ⟨gn, on, none⟩) ln cn) (.slice aw i cw) (.slice ab lb cb) (cmA ⟨op, y, [], [], u, v, 0, s, t⟩) ∧ Below k w wr ∧ Aside0 (s = (if 0 < j then fb.headD [] else []) ∧ t = (if 1 < j then fb.getD 1 [] else [])))
        case atStart => exact ⟨0, [], [], rfl, by omega, hC, hB, ⟨rfl, rfl⟩⟩
        case round =>
          clear hC hB hcb
          obtain ⟨j, s, t, rfl, hjq, hC, hB, hA⟩ := hrel
          by_cases hj : j < lb
          · have hjl : (j : Int) < (lb : Int) := by omega
            obtain ⟨x, hx⟩ : ∃ x, fb[j]? = some x := ⟨_, List.getElem?_eq_getElem (by rw [HL.out.2.2]; exact hj)⟩
            obtain rfl : ab = some ⟨gb, ob, none⟩ := by rcases hb1 with h | h; omega; exact h
            have hcx := HBb.out j x wr hx hB
            obtain ⟨q, rfl⟩ : ∃ q, gk = q + 1 := ⟨gk - 1, by omega⟩
            have hlt := hC.lt
            have hj2 : j = 0 ∨ j = 1 := by omega
            rcases hj2 with rfl | rfl
            · have hx1 : fb.headD [] = x := by cases fb with
                | nil => cases hx
                | cons a r => simp at hx; simp [hx]
              have A1 : Aside0 (x = (if 0 < 0 + 1 then fb.headD [] else []) ∧ t = (if 1 < 0 + 1 then fb.getD 1 [] else [])) := ⟨by rw [if_pos (by omega), hx1], by rw [if_neg (by omega)]; have := hA.out.2; rw [if_neg (by omega)] at this; exact this⟩
              have hcc := (hC.cell 7).trans rfl
              have hcz := hC.cold 7
              clear hx1 hx hA
              rw [Nat.add_zero] at hcx
              go_wp2
              go_roundg q
              case measure => omega
              case rel => exact ⟨0 + 1, x, t, by go_num, by omega, (hC.set 7 _).alloc _, (below_set (b := k + 3) hB (by omega) _).alloc (by simp; omega) _, A1⟩
            · have hx1 : fb.getD 1 [] = x := by rw [List.getD_eq_getElem?_getD, hx]; rfl
              have A1 : Aside0 (s = (if 0 < 1 + 1 then fb.headD [] else []) ∧ x = (if 1 < 1 + 1 then fb.getD 1 [] else [])) := ⟨by have := hA.out.1; rw [if_pos (by omega)] at this; rw [if_pos (by omega)]; exact this, by rw [if_pos (by omega), hx1]⟩
              have hcc := (hC.cell 8).trans rfl
              have hcz := hC.cold 8
              clear hx1 hx hA
              go_wp2
              go_roundg q
              case measure => omega
              case rel => exact ⟨1 + 1, s, x, by go_num, by omega, (hC.set 8 _).alloc _, (below_set (b := k + 3) hB (by omega) _).alloc (by simp; omega) _, A1⟩
          · obtain rfl : j = lb := by omega
            have hjl : ¬ (j : Int) < (j : Int) := by omega
            have A3 : Aside0 (s = fb.headD [] ∧ t = fb.getD 1 []) := ⟨by
              have := hA.out; have hl := HL.out.2.2
              cases fb with
              | nil => simp at hl; subst hl; simpa using this
              | cons a r => cases r with
                | nil => simp at hl; subst hl; simpa using this
                | cons c r => simp at hl; rw [if_pos (by omega), if_pos (by omega)] at this; exact this⟩
            clear hA
            obtain ⟨rs, hr1, hr2⟩ := hC.res
            have hbk := hC.blk
            go_wp2_with (first
              | (refine wpList_load_row rfl _ _ rfl (k + 3) rfl 37 _ _ _ hbk Tryd.underlying37 rfl size37 ?_)
              | (refine wpList_store_row rfl _ _ _ rfl (k + 2) _ rfl rfl 37 _ hr1 size37 hr2 (all_cmX ⟨op, y, [], [], u, v, 0, s, t⟩ none none 0 0 0 0) ?_))
            refine bodyPost_ret (v := .agg (cmA ⟨op, y, [], [], u, v, 0, s, t⟩)) ?_ rfl (HF.out _ _ (by rw [A2.out.1, A2.out.2, A3.out.1, A3.out.2]) (hB.trans ?_))
            · exact results_cell_row (p := 4) rfl _ _ (k + 2) 37 (cmA ⟨op, y, [], [], u, v, 0, s, t⟩) (0, 0) _ rfl (setRow_heap _ _ _ _ _ _ hr1) Tryd.underlying37 rfl size37
            · exact ⟨rfl, rfl, rfl, by simp, fun z hz => setRow_other wr (k + 2) z _ (by omega)⟩
  · have hn0' : ¬ (ln : Int) > 0 := by omega
    obtain rfl : ln = 0 := by omega
    have hd : fn.headD 0 = 0 := by have := HL.out.1; cases fn with
      | nil => rfl
      | cons a r => simp at this
    rw [hd] at HF
    clear hd
    go_upto_region 11 with fail
    have hC2 := hC
    have hB2 := hB
    have hcw := hC2.c1
    clear c0 hop hlt0
    go_wp2
    go_loopg [50] lw (fun q v50 wr => ∃ (i u v : Nat), v50 = .int .i64 i ∧ i + q = lw ∧ CmW wr k (.slice an 0 cn) (.slice aw lw cw) (.slice ab lb cb) (cmA ⟨op, 0, [], [], u, v, 0, [], []⟩) ∧ Below k w wr ∧ Aside0 (u = (if 0 < i then fw.headD 0 else 0) ∧ v = (if 1 < i then fw.getD 1 0 else 0)))
    case atStart => exact ⟨0, 0, 0, rfl, by omega, hC2, hB2, ⟨rfl, rfl⟩⟩
    case round =>
      clear hC hB hC2 hB2 hcw
      obtain ⟨i, u, v, rfl, hiq, hC, hB, hA⟩ := hrel
      by_cases hi : i < lw
      · have hil : (i : Int) < (lw : Int) := by omega
        obtain ⟨x, hx⟩ : ∃ x, fw[i]? = some x := ⟨_, List.getElem?_eq_getElem (by rw [HL.out.2.1]; exact hi)⟩
        obtain rfl : aw = some ⟨gw, ow, none⟩ := by rcases hw1 with h | h; omega; exact h
        have hcx := HW.out i x wr hx hB
        obtain ⟨q, rfl⟩ : ∃ q, gk = q + 1 := ⟨gk - 1, by omega⟩
        have hlt := hC.lt
        have hi2 : i = 0 ∨ i = 1 := by omega
        rcases hi2 with rfl | rfl
        · have hx1 : fw.headD 0 = x := by cases fw with
            | nil => cases hx
            | cons a r => simp at hx; simp [hx]
          have A1 : Aside0 (x = (if 0 < 0 + 1 then fw.headD 0 else 0) ∧ v = (if 1 < 0 + 1 then fw.getD 1 0 else 0)) := ⟨by rw [if_pos (by omega), hx1], by rw [if_neg (by omega)]; have := hA.out.2; rw [if_neg (by omega)] at this; exact this⟩
          have hcc := (hC.cell 4).trans rfl
          have hcz := hC.cold 4
          clear hx1 hx hA
          rw [Nat.add_zero] at hcx
          go_wp2
          go_roundg q
          case measure => omega
          case rel => exact ⟨0 + 1, x, v, by go_num, by omega, (hC.set 4 _).alloc _, (below_set (b := k + 3) hB (by omega) _).alloc (by simp; omega) _, A1⟩
        · have hx1 : fw.getD 1 0 = x := by rw [List.getD_eq_getElem?_getD, hx]; rfl
          have A1 : Aside0 (u = (if 0 < 1 + 1 then fw.headD 0 else 0) ∧ x = (if 1 < 1 + 1 then fw.getD 1 0 else 0)) := ⟨by have := hA.out.1; rw [if_pos (by omega)] at this; rw [if_pos (by omega)]; exact this, by rw [if_pos (by omega), hx1]⟩
          have hcc := (hC.cell 5).trans rfl
          have hcz := hC.cold 5
          clear hx1 hx hA
          go_wp2
          go_roundg q
          case measure => omega
          case rel => exact ⟨1 + 1, u, x, by go_num, by omega, (hC.set 5 _).alloc _, (below_set (b := k + 3) hB (by omega) _).alloc (by simp; omega) _, A1⟩
      · obtain rfl : i = lw := by omega
        have hil : ¬ (i : Int) < (i : Int) := by omega
        have A2 : Aside0 (u = fw.headD 0 ∧ v = fw.getD 1 0) := ⟨by
          have := hA.out; have hl := HL.out.2.1
          cases fw with
          | nil => simp at hl; subst hl; simpa using this
          | cons a r => cases r with
            | nil => simp at hl; subst hl; simpa using this
            | cons c r => simp at hl; rw [if_pos (by omega), if_pos (by omega)] at this; exact this⟩
        have hcb := hC.c2
        clear hA
        go_wp2
        go_loopg [67] lb (fun q v67 wr => ∃ (j : Nat) (s t : List UInt8), v67 = .int .i64 j ∧ j + q = lb ∧ CmW wr k (.slice an 0 cn) (.slice aw i cw) (.slice ab lb cb) (cmA ⟨op, 0, [], [], u, v, 0, s, t⟩) ∧ Below k w wr ∧ Aside0 (s = (if 0 < j then fb.headD [] else []) ∧ t = (if 1 < j then fb.getD 1 [] else [])))
        case atStart => exact ⟨0, [], [], rfl, by omega, hC, hB, ⟨rfl, rfl⟩⟩
        case round =>
          clear hC hB hcb
          obtain ⟨j, s, t, rfl, hjq, hC, hB, hA⟩ := hrel
          by_cases hj : j < lb
          · have hjl : (j : Int) < (lb : Int) := by omega
            obtain ⟨x, hx⟩ : ∃ x, fb[j]? = some x := ⟨_, List.getElem?_eq_getElem (by rw [HL.out.2.2]; exact hj)⟩
            obtain rfl : ab = some ⟨gb, ob, none⟩ := by rcases hb1 with h | h; omega; exact h
            have hcx := HBb.out j x wr hx hB
            obtain ⟨q, rfl⟩ : ∃ q, gk = q + 1 := ⟨gk - 1, by omega⟩
            have hlt := hC.lt
            have hj2 : j = 0 ∨ j = 1 := by omega
            rcases hj2 with rfl | rfl
            · have hx1 : fb.headD [] = x := by cases fb with
                | nil => cases hx
                | cons a r => simp at hx; simp [hx]
              have A1 : Aside0 (x = (if 0 < 0 + 1 then fb.headD [] else []) ∧ t = (if 1 < 0 + 1 then fb.getD 1 [] else [])) := ⟨by rw [if_pos (by omega), hx1], by rw [if_neg (by omega)]; have := hA.out.2; rw [if_neg (by omega)] at this; exact this⟩
              have hcc := (hC.cell 7).trans rfl
              have hcz := hC.cold 7
              clear hx1 hx hA
              rw [Nat.add_zero] at hcx
              go_wp2
              go_roundg q
              case measure => omega
              case rel => exact ⟨0 + 1, x, t, by go_num, by omega, (hC.set 7 _).alloc _, (below_set (b := k + 3) hB (by omega) _).alloc (by simp; omega) _, A1⟩
            · have hx1 : fb.getD 1 [] = x := by rw [List.getD_eq_getElem?_getD, hx]; rfl
              have A1 : Aside0 (s = (if 0 < 1 + 1 then fb.headD [] else []) ∧ x = (if 1 < 1 + 1 then fb.getD 1 [] else [])) := ⟨by have := hA.out.1; rw [if_pos (by omega)] at this; rw [if_pos (by omega)]; exact this, by rw [if_pos (by omega), hx1]⟩
              have hcc := (hC.cell 8).trans rfl
              have hcz := hC.cold 8
              clear hx1 hx hA
              go_wp2
              go_roundg q
              case measure => omega
              case rel => exact ⟨1 + 1, s, x, by go_num, by omega, (hC.set 8 _).alloc _, (below_set (b := k + 3) hB (by omega) _).alloc (by simp; omega) _, A1⟩
          · obtain rfl : j = lb := by omega
            have hjl : ¬ (j : Int) < (j : Int) := by omega
            have A3 : Aside0 (s = fb.headD [] ∧ t = fb.getD 1 []) := ⟨by
              have := hA.out; have hl := HL.out.2.2
              cases fb with
              | nil => simp at hl; subst hl; simpa using this
              | cons a r => cases r with
                | nil => simp at hl; subst hl; simpa using this
                | cons c r => simp at hl; rw [if_pos (by omega), if_pos (by omega)] at this; exact this⟩
            clear hA
            obtain ⟨rs, hr1, hr2⟩ := hC.res
            have hbk := hC.blk
            go_wp2_with (first
              | (refine wpList_load_row rfl _ _ rfl (k + 3) rfl 37 _ _ _ hbk Tryd.underlying37 rfl size37 ?_)
              | (refine wpList_store_row rfl _ _ _ rfl (k + 2) _ rfl rfl 37 _ hr1 size37 hr2 (all_cmX ⟨op, 0, [], [], u, v, 0, s, t⟩ none none 0 0 0 0) ?_))
            refine bodyPost_ret (v := .agg (cmA ⟨op, 0, [], [], u, v, 0, s, t⟩)) ?_ rfl (HF.out _ _ (by rw [A2.out.1, A2.out.2, A3.out.1, A3.out.2]) (hB.trans ?_))
            · exact results_cell_row (p := 4) rfl _ _ (k + 2) 37 (cmA ⟨op, 0, [], [], u, v, 0, s, t⟩) (0, 0) _ rfl (setRow_heap _ _ _ _ _ _ hr1) Tryd.underlying37 rfl size37
            · exact ⟨rfl, rfl, rfl, by simp, fun z hz => setRow_other wr (k + 2) z _ (by omega)⟩
theorem slice35 (W : World) (g n c : Nat) (hn : 1 ≤ n) (hc : n ≤ c) : (Instr.slice 35 (.slice (some ⟨g, 0, none⟩) n c) (some (.int .i64 1)) none none).run Tryd.prog W = .ok (.slice (some (if c = 1 then ⟨g, 0, none⟩ else ⟨g, 1, none⟩)) (n - 1) (c - 1)) W := by
  have elem35 : Tryd.prog.elem 35 = 3 := by kernel_rfl
  have under35 : Tryd.prog.underlying 35 = some (.slice (Tryd.prog.elem 35)) := by rw [elem35]; exact Tryd.underlying35
  rw [run_slice_l (P := Tryd.prog) W 35 (some ⟨g, 0, none⟩) n c under35 .i64 1 (by decide) (by omega), elem35, Tryd.sizeOf3]
  simp [Result.andThen, sliced]
  by_cases h : c = 1
  · subst h; simp
  · simp [h, Addr.add]
set_option maxHeartbeats 4000000 in
set_option maxRecDepth 100000 in
theorem cmd_rel (w : World) (x0 x2 : ByteArray) (x3 : Bool) (vn vw vb : Value) (b : Nat) (f : Fld) (h : Rows3 w b vn vw vb f) :
    Calls Tryd.prog 47 #[.agg #[.string x0, .int .i64 10, .string x2, .bool x3], .agg #[vn, vw, vb]] w (CmdP ⟨10, 0, [], f.n, 0, 0, 0, [], []⟩ b w) := by
  have hs := SL.of_own h.rn
  obtain ⟨an, cn, rfl⟩ := own_slice h.rn
  obtain ⟨aw, cw, rfl⟩ := own_slice h.rw
  obtain ⟨ab, cb, rfl⟩ := own_slice h.rb
  clear h
  obtain ⟨k, hk⟩ : ∃ k, w.heap.size = k := ⟨_, rfl⟩
  obtain ⟨Q, hQ⟩ : ∃ Q, CmdP ⟨10, 0, [], f.n, 0, 0, 0, [], []⟩ b w = Q := ⟨_, rfl⟩
  have HF : Aside0 (∀ (w' : World), Below k w w' → Q (.returned (.agg (cmX (C0 10) (.slice none 0 0) (.slice an f.n.length cn)))) w') := ⟨fun w' h2 => by subst hk; rw [← hQ]; exact ⟨.slice none 0 0, _, rfl, SL.nil _ _ _, hs.below h2 (Nat.le_refl _), h2⟩⟩
  rw [hQ]
  clear hQ hs
  generalize f.n.length = ln at *
  generalize f.w.length = lw
  generalize f.b.length = lb
  go_enter Tryd.func47, Tryd.ntmps47
  go_upto_region 2 with fail
  generalize hW : (((w.alloc (.cells #[.string x0, .int .i64 10, .string x2, .bool x3] 82)).alloc (.cells #[.slice an ln cn, .slice aw lw cw, .slice ab lb cb] 79)).alloc (.cells #[.int .i64 0, .int .i64 0, .slice none 0 0, .slice none 0 0, .int .u64 0, .int .u64 0, .int .i64 0, .string ⟨#[]⟩, .string ⟨#[]⟩] 37)).alloc (.cells #[.int .i64 10, .int .i64 0, .slice none 0 0, .slice none 0 0, .int .u64 0, .int .u64 0, .int .i64 0, .string ⟨#[]⟩, .string ⟨#[]⟩] 37) = W
  obtain ⟨hC, hop, hB⟩ := cmw_begin w _ _ _ _ _ _ _ 10 k hk W hW
  clear hW
  have c0 := hC.c0
  have hlt0 := hC.lt
  have hc3 := (hC.cell 3).trans rfl
  have hz3 := hC.cold 3
  go_upto_region 8 with fail
  have hC2 := hC.set 3 (.slice an ln cn)
  have hB2 := below_set (b := k + 3) (i := 3) hB (by omega) (.slice an ln cn)
  generalize W.setCell ⟨k + 3, 3, none⟩ (.slice an ln cn) = W2 at hC2 hB2 ⊢
  obtain ⟨rs, hr1, hr2⟩ := hC2.res
  have hbk : W2.heap[k + 3]? = some (.cells (cmX (C0 10) (.slice none 0 0) (.slice an ln cn)) 37 (0, 0)) := hC2.blk
  clear hC hop c0 hlt0 hc3 hz3 hC2 hB
  go_wp2_with (first
    | (refine wpList_load_row rfl _ _ rfl (k + 3) rfl 37 _ _ _ hbk Tryd.underlying37 rfl size37 ?_)
    | (refine wpList_store_row rfl _ _ _ rfl (k + 2) _ rfl rfl 37 _ hr1 size37 hr2 (all_cmX (C0 10) none an 0 ln 0 cn) ?_))
  refine bodyPost_ret (v := .agg (cmX (C0 10) (.slice none 0 0) (.slice an ln cn))) ?_ rfl (HF.out _ (hB2.trans ?_))
  · exact results_cell_row (p := 4) rfl _ _ (k + 2) 37 (cmX (C0 10) (.slice none 0 0) (.slice an ln cn)) (0, 0) _ rfl (setRow_heap _ _ _ _ _ _ hr1) Tryd.underlying37 rfl size37
  · exact ⟨rfl, rfl, rfl, by simp, fun z hz => setRow_other W2 (k + 2) z _ (by omega)⟩
set_option maxHeartbeats 4000000 in
set_option maxRecDepth 100000 in
theorem cmd_make (w : World) (x0 x2 : ByteArray) (x3 : Bool) (vn vw vb : Value) (b : Nat) (n0 : Int) (nr : List Int) (u0 : Nat) (ur : List Nat) (fb : List (List UInt8)) (h : Rows3 w b vn vw vb ⟨n0 :: nr, u0 :: ur, fb⟩) :
    Calls Tryd.prog 47 #[.agg #[.string x0, .int .i64 1, .string x2, .bool x3], .agg #[vn, vw, vb]] w (CmdP ⟨1, 0, nr, [], u0, 0, n0, [], []⟩ b w) := by
  have hs := SL.of_own h.rn
  obtain ⟨ab, cb, rfl⟩ := own_slice h.rb
  rcases h.rn.2 with ⟨_, h2⟩ | ⟨gn, cn, cur, rfl, h2, h3, h4, h5, h6, h7⟩
  · simp at h2
  rcases h.rw.2 with ⟨_, k2⟩ | ⟨gw, cw, curw, rfl, k2, k3, k4, k5, k6, k7⟩
  · simp at k2
  have hcn := h.rn.cellAt 0 (by simp)
  have hcw := h.rw.cellAt 0 (by simp)
  have hgn : gn < w.heap.size := (Array.getElem?_eq_some_iff.1 h3).1
  have hgw : gw < w.heap.size := (Array.getElem?_eq_some_iff.1 k3).1
  have hsl := fun W => slice35 W gn (nr.length + 1) cn (by omega) (by simpa using h4)
  have ht := SL.tail hs
  clear h h2 h3 h4 h5 h6 h7 k2 k3 k4 k5 k6 k7 hs
  obtain ⟨k, hk⟩ : ∃ k, w.heap.size = k := ⟨_, rfl⟩
  obtain ⟨at', hat⟩ : ∃ a, (if cn = 1 then (⟨gn, 0, none⟩ : Addr) else ⟨gn, 1, none⟩) = a := ⟨_, rfl⟩
  rw [hat] at hsl ht
  obtain ⟨Q, hQ⟩ : ∃ Q, CmdP ⟨1, 0, nr, [], u0, 0, n0, [], []⟩ b w = Q := ⟨_, rfl⟩
  have HF : Aside0 (∀ (w' : World), Below k w w' → Q (.returned (.agg (cmX ⟨1, 0, nr, [], u0, 0, n0, [], []⟩ (.slice (some at') nr.length (cn - 1)) (.slice none 0 0)))) w') := ⟨fun w' h2 => by
    subst hk
    rw [← hQ]
    have h3 : SL w 3 b (.slice (some at') nr.length (cn - 1)) (iv nr) := by
      have : SL w 3 b (.slice (some at') (iv nr).length (cn - 1)) (iv nr) := ht
      rw [iv_len] at this
      exact this
    exact ⟨_, .slice none 0 0, rfl, h3.below h2 (Nat.le_refl _), SL.nil _ _ _, h2⟩⟩
  rw [hQ]
  simp only [List.length_cons] at hsl ⊢
  rw [Nat.add_sub_cancel] at hsl
  rw [hk] at hgn hgw
  clear hQ ht hat
  generalize nr.length = ln at *
  generalize ur.length = lw
  generalize fb.length = lb
  go_enter Tryd.func47, Tryd.ntmps47
  go_upto_region 2 with fail
  generalize hW : (((w.alloc (.cells #[.string x0, .int .i64 1, .string x2, .bool x3] 82)).alloc (.cells #[.slice (some ⟨gn, 0, none⟩) (ln + 1) cn, .slice (some ⟨gw, 0, none⟩) (lw + 1) cw, .slice ab lb cb] 79)).alloc (.cells #[.int .i64 0, .int .i64 0, .slice none 0 0, .slice none 0 0, .int .u64 0, .int .u64 0, .int .i64 0, .string ⟨#[]⟩, .string ⟨#[]⟩] 37)).alloc (.cells #[.int .i64 1, .int .i64 0, .slice none 0 0, .slice none 0 0, .int .u64 0, .int .u64 0, .int .i64 0, .string ⟨#[]⟩, .string ⟨#[]⟩] 37) = W
  obtain ⟨hC, hop, hB⟩ := cmw_begin w _ _ _ _ _ _ _ 1 k hk W hW
  clear hW
  have c0 := hC.c0
  have c1 := hC.c1
  have hlt0 := hC.lt
  have e4 : W.cell? ⟨k + 1 + 1 + 1, 4, none⟩ = some (.int .u64 0) := (hC.cell 4).trans rfl
  have z4 : W.frozen? ⟨k + 1 + 1 + 1, 4, none⟩ = false := hC.cold 4
  have e6 : W.cell? ⟨k + 1 + 1 + 1, 6, none⟩ = some (.int .i64 0) := (hC.cell 6).trans rfl
  have z6 : W.frozen? ⟨k + 1 + 1 + 1, 6, none⟩ = false := hC.cold 6
  have e2 : W.cell? ⟨k + 1 + 1 + 1, 2, none⟩ = some (.slice none 0 0) := (hC.cell 2).trans rfl
  have z2 : W.frozen? ⟨k + 1 + 1 + 1, 2, none⟩ = false := hC.cold 2
  have q1 : W.cell? ⟨gn, 0, none⟩ = some (.int .i64 n0) := (hB.cell (p := ⟨gn, 0, none⟩) hgn).trans hcn
  have q2 : W.cell? ⟨gw, 0, none⟩ = some (.int .u64 (u0 : Int)) := (hB.cell (p := ⟨gw, 0, none⟩) hgw).trans hcw
  clear hcn hcw
  go_upto_region 4 with fail
  go_region
  have hC2 : CmW (((W.setCell ⟨k + 1 + 1 + 1, 4, none⟩ (.int .u64 (u0 : Int))).setCell ⟨k + 1 + 1 + 1, 6, none⟩ (.int .i64 n0)).setCell ⟨k + 1 + 1 + 1, 2, none⟩ (.slice (some at') ln (cn - 1))).drew k (.slice (some ⟨gn, 0, none⟩) (ln + 1) cn) (.slice (some ⟨gw, 0, none⟩) (lw + 1) cw) (.slice ab lb cb) (cmX ⟨1, 0, nr, [], u0, 0, n0, [], []⟩ (.slice (some at') ln (cn - 1)) (.slice none 0 0)) := (((hC.set 4 (.int .u64 (u0 : Int))).set 6 (.int .i64 n0)).set 2 (.slice (some at') ln (cn - 1))).drew
  have hB2 : Below k w (((W.setCell ⟨k + 1 + 1 + 1, 4, none⟩ (.int .u64 (u0 : Int))).setCell ⟨k + 1 + 1 + 1, 6, none⟩ (.int .i64 n0)).setCell ⟨k + 1 + 1 + 1, 2, none⟩ (.slice (some at') ln (cn - 1))).drew := (below_set (below_set (below_set hB (by omega) _) (by omega) _) (by omega) _).drew
  generalize (((W.setCell ⟨k + 1 + 1 + 1, 4, none⟩ (.int .u64 (u0 : Int))).setCell ⟨k + 1 + 1 + 1, 6, none⟩ (.int .i64 n0)).setCell ⟨k + 1 + 1 + 1, 2, none⟩ (.slice (some at') ln (cn - 1))).drew = W2 at hC2 hB2 ⊢
  obtain ⟨rs, hr1, hr2⟩ := hC2.res
  have hbk := hC2.blk
  clear hC hop c0 c1 hlt0 e4 z4 e6 z6 e2 z2 q1 q2 hC2 hB hsl
  go_wp2_with (first
    | (refine wpList_load_row rfl _ _ rfl (k + 3) rfl 37 _ _ _ hbk Tryd.underlying37 rfl size37 ?_)
    | (refine wpList_store_row rfl _ _ _ rfl (k + 2) _ rfl rfl 37 _ hr1 size37 hr2 (all_cmX ⟨1, 0, nr, [], u0, 0, n0, [], []⟩ (some at') none ln 0 (cn - 1) 0) ?_))
  refine bodyPost_ret (v := .agg (cmX ⟨1, 0, nr, [], u0, 0, n0, [], []⟩ (.slice (some at') ln (cn - 1)) (.slice none 0 0))) ?_ rfl (HF.out _ (hB2.trans ?_))
  · exact results_cell_row (p := 4) rfl _ _ (k + 2) 37 (cmX ⟨1, 0, nr, [], u0, 0, n0, [], []⟩ (.slice (some at') ln (cn - 1)) (.slice none 0 0)) (0, 0) _ rfl (setRow_heap _ _ _ _ _ _ hr1) Tryd.underlying37 rfl size37
  · exact ⟨rfl, rfl, rfl, by simp, fun z hz => setRow_other W2 (k + 2) z _ (by omega)⟩
/-- What a command's row asks of its fields. -/
def CmOk (op : Int) (f : Fld) : Prop := if op = 1 then f.n ≠ [] ∧ f.w.length = 1 ∧ f.b = [] else if op = 10 then f.w = [] ∧ f.b = [] else f.w.length ≤ 2 ∧ f.b.length ≤ 2
theorem command_walk (w : World) (x0 x2 : ByteArray) (x3 : Bool) (op : Int) (vn vw vb : Value) (b : Nat) (f : Fld) (h : Rows3 w b vn vw vb f) (hok : CmOk op f) :
    Calls Tryd.prog 47 #[.agg #[.string x0, .int .i64 op, .string x2, .bool x3], .agg #[vn, vw, vb]] w (CmdP (cmdF op f) b w) := by
  unfold CmOk at hok
  unfold cmdF
  by_cases h1 : op = 1
  · subst h1
    rw [if_pos rfl] at hok ⊢
    obtain ⟨fn, fw, fb⟩ := f
    obtain ⟨n0, nr, rfl⟩ := List.exists_cons_of_ne_nil hok.1
    obtain ⟨u0, rfl⟩ : ∃ u, fw = [u] := List.length_eq_one_iff.1 hok.2.1
    exact cmd_make w x0 x2 x3 vn vw vb b n0 nr u0 [] fb h
  · rw [if_neg h1] at hok ⊢
    by_cases h10 : op = 10
    · subst h10
      rw [if_pos rfl]
      exact cmd_rel w x0 x2 x3 vn vw vb b f h
    · rw [if_neg h10] at hok ⊢
      exact cmd_gen w x0 x2 x3 op (by simpa using h1) (by simpa using h10) vn vw vb b f h hok.1 hok.2
end Go.Proofs.YtigaacbaaopfmaaDoor.sh
