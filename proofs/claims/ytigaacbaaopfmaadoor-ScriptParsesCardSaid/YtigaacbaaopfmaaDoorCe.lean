/- A command of a line's fields: the document's, walked. -/
import Derived.Test.YtigaacbaaopfmaaDoorPg
namespace Go.Proofs.YtigaacbaaopfmaaDoor.sh
open Go.RowKit
set_option linter.unusedVariables false
set_option linter.unusedSimpArgs false
def Z37 : Obj := .cells #[.int .i64 0, .int .i64 0, .slice none 0 0, .slice none 0 0, .int .u64 0, .int .u64 0, .int .i64 0, .string ⟨#[]⟩, .string ⟨#[]⟩] 37
theorem cmw_begin2 (w : World) (vn vw vb : Value) (op : Int) (k : Nat) (hk : w.heap.size = k + 1) : ∀ W, ((w.alloc (.cells #[vn, vw, vb] 106)).alloc (.cells #[.int .i64 0, .int .i64 0, .slice none 0 0, .slice none 0 0, .int .u64 0, .int .u64 0, .int .i64 0, .string ⟨#[]⟩, .string ⟨#[]⟩] 37)).alloc (.cells #[.int .i64 op, .int .i64 0, .slice none 0 0, .slice none 0 0, .int .u64 0, .int .u64 0, .int .i64 0, .string ⟨#[]⟩, .string ⟨#[]⟩] 37) = W →
    CmW W k vn vw vb (cmA (C0 op)) ∧ Below (k + 1) w W := by
  rintro W rfl
  have s1 : (w.alloc (.cells #[vn, vw, vb] 106)).heap.size = k + 2 := by rw [alsize, hk]
  have hF := heap_alloc_new w (.cells #[vn, vw, vb] 106)
  rw [hk] at hF
  refine ⟨⟨?_, ?_, ?_, ?_, ?_⟩, (((Below.refl _ w).alloc (by omega) _).alloc (by simp only [alsize]; omega) _).alloc (by simp only [alsize]; omega) _⟩
  · have := heap_alloc_new ((w.alloc (.cells #[vn, vw, vb] 106)).alloc (.cells #[.int .i64 0, .int .i64 0, .slice none 0 0, .slice none 0 0, .int .u64 0, .int .u64 0, .int .i64 0, .string ⟨#[]⟩, .string ⟨#[]⟩] 37)) (.cells #[.int .i64 op, .int .i64 0, .slice none 0 0, .slice none 0 0, .int .u64 0, .int .u64 0, .int .i64 0, .string ⟨#[]⟩, .string ⟨#[]⟩] 37)
    rw [alsize, s1] at this
    exact this
  · have := Bx.old (Bx.new (w.alloc (.cells #[vn, vw, vb] 106)) #[.int .i64 0, .int .i64 0, .slice none 0 0, .slice none 0 0, .int .u64 0, .int .u64 0, .int .i64 0, .string ⟨#[]⟩, .string ⟨#[]⟩] 37 9 rfl) (.cells #[.int .i64 op, .int .i64 0, .slice none 0 0, .slice none 0 0, .int .u64 0, .int .u64 0, .int .i64 0, .string ⟨#[]⟩, .string ⟨#[]⟩] 37)
    rw [s1] at this
    exact this
  all_goals
    unfold World.cell?
    show (match (((w.alloc (.cells #[vn, vw, vb] 106)).alloc (.cells #[.int .i64 0, .int .i64 0, .slice none 0 0, .slice none 0 0, .int .u64 0, .int .u64 0, .int .i64 0, .string ⟨#[]⟩, .string ⟨#[]⟩] 37)).alloc (.cells #[.int .i64 op, .int .i64 0, .slice none 0 0, .slice none 0 0, .int .u64 0, .int .u64 0, .int .i64 0, .string ⟨#[]⟩, .string ⟨#[]⟩] 37)).heap[k + 1]? with | _ => _) = _
    rw [heap_alloc_old _ _ (by simp only [alsize]; omega), heap_alloc_old _ _ (by rw [s1]; omega), hF]
    rfl
set_option maxHeartbeats 4000000 in
set_option maxRecDepth 100000 in
theorem rcmd_101 (w : World) (hw0 : 0 < w.heap.size) (op : Int) (h1 : (op == 1) = false) (h10 : (op == 10) = false) (vn vw vb : Value) (b : Nat) (n0 : Int) (b0 : List UInt8) (h : Rows3 w b vn vw vb ⟨[n0], [], [b0]⟩) :
    Calls Tryd.prog 67 #[.int .i64 op, .agg #[vn, vw, vb]] w (CmdP ⟨op, n0, [], [], 0, 0, 0, b0, []⟩ b w) := by
  have sn := SL.of_own h.rn
  rcases h.rn.2 with ⟨_, h2⟩ | ⟨gn, cn, cu, rfl, hx⟩
  · simp at h2
  clear hx cu
  obtain ⟨aw, cw, rfl⟩ := own_slice h.rw
  have sb := SL.of_own h.rb
  rcases h.rb.2 with ⟨_, h2⟩ | ⟨gb, cb, cu, rfl, hx⟩
  · simp at h2
  clear hx cu
  obtain ⟨k, hk⟩ : ∃ k, w.heap.size = k + 1 := ⟨w.heap.size - 1, by omega⟩
  have qn0 : w.cell? ⟨gn, 0, none⟩ = some (.int .i64 n0) := by have := sn.at (j := 0) rfl; simpa using this
  have ln : gn < k + 1 := by rw [← hk]; exact World.block_lt_of_cell? w _ qn0
  clear sn
  have qb0 : w.cell? ⟨gb, 0, none⟩ = some (.string (B b0)) := by have := sb.at (j := 0) rfl; simpa using this
  have lb : gb < k + 1 := by rw [← hk]; exact World.block_lt_of_cell? w _ qb0
  clear sb
  obtain ⟨Q, hQ⟩ : ∃ Q, CmdP ⟨op, n0, [], [], 0, 0, 0, b0, []⟩ b w = Q := ⟨_, rfl⟩
  have HF : Aside0 (∀ (w' : World), Below (k + 1) w w' → Q (.returned (.agg (cmA ⟨op, n0, [], [], 0, 0, 0, b0, []⟩))) w') := ⟨fun w' h2 => by rw [← hQ]; exact ⟨.slice none 0 0, .slice none 0 0, rfl, SL.nil _ _ _, SL.nil _ _ _, by rw [hk]; exact h2⟩⟩
  rw [hQ]
  clear hQ h
  simp only [List.length_cons, List.length_nil, Nat.zero_add, Nat.reduceAdd]
  go_enter Tryd.func67, Tryd.ntmps67
  go_upto_region 2 with fail
  generalize hW : ((w.alloc (.cells #[.slice (some ⟨gn, 0, none⟩) 1 cn, .slice aw 0 cw, .slice (some ⟨gb, 0, none⟩) 1 cb] 106)).alloc (.cells #[.int .i64 0, .int .i64 0, .slice none 0 0, .slice none 0 0, .int .u64 0, .int .u64 0, .int .i64 0, .string ⟨#[]⟩, .string ⟨#[]⟩] 37)).alloc (.cells #[.int .i64 op, .int .i64 0, .slice none 0 0, .slice none 0 0, .int .u64 0, .int .u64 0, .int .i64 0, .string ⟨#[]⟩, .string ⟨#[]⟩] 37) = W
  obtain ⟨hC, hB⟩ := cmw_begin2 w _ _ _ op k hk W hW
  clear hW
  have c0 := hC.c0
  have c1 := hC.c1
  have c2 := hC.c2
  have hlt0 := hC.lt
  have pn0 := (hB.cell (p := ⟨gn, 0, none⟩) ln).trans qn0
  have pb0 := (hB.cell (p := ⟨gb, 0, none⟩) lb).trans qb0
  have e7 : W.cell? ⟨k + 1 + 1 + 1, 7, none⟩ = some (.string ⟨#[]⟩) := (hC.cell 7).trans rfl
  have z7 : W.frozen? ⟨k + 1 + 1 + 1, 7, none⟩ = false := hC.cold 7
  have e1 : W.cell? ⟨k + 1 + 1 + 1, 1, none⟩ = some (.int .i64 0) := (hC.cell 1).trans rfl
  have z1 : W.frozen? ⟨k + 1 + 1 + 1, 1, none⟩ = false := hC.cold 1
  go_upto_region 17 with fail
  have hC2 : CmW ((W.setCell ⟨k + 1 + 1 + 1, 7, none⟩ (.string (B b0))).setCell ⟨k + 1 + 1 + 1, 1, none⟩ (.int .i64 n0)) k (.slice (some ⟨gn, 0, none⟩) 1 cn) (.slice aw 0 cw) (.slice (some ⟨gb, 0, none⟩) 1 cb) (cmA ⟨op, n0, [], [], 0, 0, 0, b0, []⟩) := ((hC.set 7 (.string (B b0))).set 1 (.int .i64 n0))
  have hB2 : Below (k + 1) w ((W.setCell ⟨k + 1 + 1 + 1, 7, none⟩ (.string (B b0))).setCell ⟨k + 1 + 1 + 1, 1, none⟩ (.int .i64 n0)) := (below_set (b := k + 3) (i := 1) (below_set (b := k + 3) (i := 7) hB (by omega) (.string (B b0))) (by omega) (.int .i64 n0))
  generalize (W.setCell ⟨k + 1 + 1 + 1, 7, none⟩ (.string (B b0))).setCell ⟨k + 1 + 1 + 1, 1, none⟩ (.int .i64 n0) = W2 at hC2 hB2 ⊢
  obtain ⟨rs, hr1, hr2⟩ := hC2.res
  have hbk := hC2.blk
  clear hC c0 c1 c2 hlt0 hC2 hB
  go_wp2_with (first
    | (refine wpList_load_row rfl _ _ rfl (k + 3) rfl 37 _ _ _ hbk Tryd.underlying37 rfl size37 ?_)
    | (refine wpList_store_row rfl _ _ _ rfl (k + 2) _ rfl rfl 37 _ hr1 size37 hr2 (all_cmX ⟨op, n0, [], [], 0, 0, 0, b0, []⟩ none none 0 0 0 0) ?_))
  refine bodyPost_ret (v := .agg (cmA ⟨op, n0, [], [], 0, 0, 0, b0, []⟩)) ?_ rfl (HF.out _ (hB2.trans ?_))
  · exact results_cell_row (p := 4) rfl _ _ (k + 2) 37 (cmA ⟨op, n0, [], [], 0, 0, 0, b0, []⟩) (0, 0) _ rfl (setRow_heap _ _ _ _ _ _ hr1) Tryd.underlying37 rfl size37
  · exact ⟨rfl, rfl, rfl, by simp, fun z hz => setRow_other W2 (k + 2) z _ (by omega)⟩
set_option maxHeartbeats 4000000 in
set_option maxRecDepth 100000 in
theorem rcmd_102 (w : World) (hw0 : 0 < w.heap.size) (op : Int) (h1 : (op == 1) = false) (h10 : (op == 10) = false) (vn vw vb : Value) (b : Nat) (n0 : Int) (b0 : List UInt8) (b1 : List UInt8) (h : Rows3 w b vn vw vb ⟨[n0], [], [b0, b1]⟩) :
    Calls Tryd.prog 67 #[.int .i64 op, .agg #[vn, vw, vb]] w (CmdP ⟨op, n0, [], [], 0, 0, 0, b0, b1⟩ b w) := by
  have sn := SL.of_own h.rn
  rcases h.rn.2 with ⟨_, h2⟩ | ⟨gn, cn, cu, rfl, hx⟩
  · simp at h2
  clear hx cu
  obtain ⟨aw, cw, rfl⟩ := own_slice h.rw
  have sb := SL.of_own h.rb
  rcases h.rb.2 with ⟨_, h2⟩ | ⟨gb, cb, cu, rfl, hx⟩
  · simp at h2
  clear hx cu
  obtain ⟨k, hk⟩ : ∃ k, w.heap.size = k + 1 := ⟨w.heap.size - 1, by omega⟩
  have qn0 : w.cell? ⟨gn, 0, none⟩ = some (.int .i64 n0) := by have := sn.at (j := 0) rfl; simpa using this
  have ln : gn < k + 1 := by rw [← hk]; exact World.block_lt_of_cell? w _ qn0
  clear sn
  have qb0 : w.cell? ⟨gb, 0, none⟩ = some (.string (B b0)) := by have := sb.at (j := 0) rfl; simpa using this
  have qb1 : w.cell? ⟨gb, 1, none⟩ = some (.string (B b1)) := by have := sb.at (j := 1) rfl; simpa using this
  have lb : gb < k + 1 := by rw [← hk]; exact World.block_lt_of_cell? w _ qb0
  clear sb
  obtain ⟨Q, hQ⟩ : ∃ Q, CmdP ⟨op, n0, [], [], 0, 0, 0, b0, b1⟩ b w = Q := ⟨_, rfl⟩
  have HF : Aside0 (∀ (w' : World), Below (k + 1) w w' → Q (.returned (.agg (cmA ⟨op, n0, [], [], 0, 0, 0, b0, b1⟩))) w') := ⟨fun w' h2 => by rw [← hQ]; exact ⟨.slice none 0 0, .slice none 0 0, rfl, SL.nil _ _ _, SL.nil _ _ _, by rw [hk]; exact h2⟩⟩
  rw [hQ]
  clear hQ h
  simp only [List.length_cons, List.length_nil, Nat.zero_add, Nat.reduceAdd]
  go_enter Tryd.func67, Tryd.ntmps67
  go_upto_region 2 with fail
  generalize hW : ((w.alloc (.cells #[.slice (some ⟨gn, 0, none⟩) 1 cn, .slice aw 0 cw, .slice (some ⟨gb, 0, none⟩) 2 cb] 106)).alloc (.cells #[.int .i64 0, .int .i64 0, .slice none 0 0, .slice none 0 0, .int .u64 0, .int .u64 0, .int .i64 0, .string ⟨#[]⟩, .string ⟨#[]⟩] 37)).alloc (.cells #[.int .i64 op, .int .i64 0, .slice none 0 0, .slice none 0 0, .int .u64 0, .int .u64 0, .int .i64 0, .string ⟨#[]⟩, .string ⟨#[]⟩] 37) = W
  obtain ⟨hC, hB⟩ := cmw_begin2 w _ _ _ op k hk W hW
  clear hW
  have c0 := hC.c0
  have c1 := hC.c1
  have c2 := hC.c2
  have hlt0 := hC.lt
  have pn0 := (hB.cell (p := ⟨gn, 0, none⟩) ln).trans qn0
  have pb0 := (hB.cell (p := ⟨gb, 0, none⟩) lb).trans qb0
  have pb1 := (hB.cell (p := ⟨gb, 1, none⟩) lb).trans qb1
  have e7 : W.cell? ⟨k + 1 + 1 + 1, 7, none⟩ = some (.string ⟨#[]⟩) := (hC.cell 7).trans rfl
  have z7 : W.frozen? ⟨k + 1 + 1 + 1, 7, none⟩ = false := hC.cold 7
  have e8 : W.cell? ⟨k + 1 + 1 + 1, 8, none⟩ = some (.string ⟨#[]⟩) := (hC.cell 8).trans rfl
  have z8 : W.frozen? ⟨k + 1 + 1 + 1, 8, none⟩ = false := hC.cold 8
  have e1 : W.cell? ⟨k + 1 + 1 + 1, 1, none⟩ = some (.int .i64 0) := (hC.cell 1).trans rfl
  have z1 : W.frozen? ⟨k + 1 + 1 + 1, 1, none⟩ = false := hC.cold 1
  go_upto_region 17 with fail
  have hC2 : CmW (((W.setCell ⟨k + 1 + 1 + 1, 7, none⟩ (.string (B b0))).setCell ⟨k + 1 + 1 + 1, 8, none⟩ (.string (B b1))).setCell ⟨k + 1 + 1 + 1, 1, none⟩ (.int .i64 n0)) k (.slice (some ⟨gn, 0, none⟩) 1 cn) (.slice aw 0 cw) (.slice (some ⟨gb, 0, none⟩) 2 cb) (cmA ⟨op, n0, [], [], 0, 0, 0, b0, b1⟩) := (((hC.set 7 (.string (B b0))).set 8 (.string (B b1))).set 1 (.int .i64 n0))
  have hB2 : Below (k + 1) w (((W.setCell ⟨k + 1 + 1 + 1, 7, none⟩ (.string (B b0))).setCell ⟨k + 1 + 1 + 1, 8, none⟩ (.string (B b1))).setCell ⟨k + 1 + 1 + 1, 1, none⟩ (.int .i64 n0)) := (below_set (b := k + 3) (i := 1) (below_set (b := k + 3) (i := 8) (below_set (b := k + 3) (i := 7) hB (by omega) (.string (B b0))) (by omega) (.string (B b1))) (by omega) (.int .i64 n0))
  generalize ((W.setCell ⟨k + 1 + 1 + 1, 7, none⟩ (.string (B b0))).setCell ⟨k + 1 + 1 + 1, 8, none⟩ (.string (B b1))).setCell ⟨k + 1 + 1 + 1, 1, none⟩ (.int .i64 n0) = W2 at hC2 hB2 ⊢
  obtain ⟨rs, hr1, hr2⟩ := hC2.res
  have hbk := hC2.blk
  clear hC c0 c1 c2 hlt0 hC2 hB
  go_wp2_with (first
    | (refine wpList_load_row rfl _ _ rfl (k + 3) rfl 37 _ _ _ hbk Tryd.underlying37 rfl size37 ?_)
    | (refine wpList_store_row rfl _ _ _ rfl (k + 2) _ rfl rfl 37 _ hr1 size37 hr2 (all_cmX ⟨op, n0, [], [], 0, 0, 0, b0, b1⟩ none none 0 0 0 0) ?_))
  refine bodyPost_ret (v := .agg (cmA ⟨op, n0, [], [], 0, 0, 0, b0, b1⟩)) ?_ rfl (HF.out _ (hB2.trans ?_))
  · exact results_cell_row (p := 4) rfl _ _ (k + 2) 37 (cmA ⟨op, n0, [], [], 0, 0, 0, b0, b1⟩) (0, 0) _ rfl (setRow_heap _ _ _ _ _ _ hr1) Tryd.underlying37 rfl size37
  · exact ⟨rfl, rfl, rfl, by simp, fun z hz => setRow_other W2 (k + 2) z _ (by omega)⟩
set_option maxHeartbeats 4000000 in
set_option maxRecDepth 100000 in
theorem rcmd_100 (w : World) (hw0 : 0 < w.heap.size) (op : Int) (h1 : (op == 1) = false) (h10 : (op == 10) = false) (vn vw vb : Value) (b : Nat) (n0 : Int) (h : Rows3 w b vn vw vb ⟨[n0], [], []⟩) :
    Calls Tryd.prog 67 #[.int .i64 op, .agg #[vn, vw, vb]] w (CmdP ⟨op, n0, [], [], 0, 0, 0, [], []⟩ b w) := by
  have sn := SL.of_own h.rn
  rcases h.rn.2 with ⟨_, h2⟩ | ⟨gn, cn, cu, rfl, hx⟩
  · simp at h2
  clear hx cu
  obtain ⟨aw, cw, rfl⟩ := own_slice h.rw
  obtain ⟨ab, cb, rfl⟩ := own_slice h.rb
  obtain ⟨k, hk⟩ : ∃ k, w.heap.size = k + 1 := ⟨w.heap.size - 1, by omega⟩
  have qn0 : w.cell? ⟨gn, 0, none⟩ = some (.int .i64 n0) := by have := sn.at (j := 0) rfl; simpa using this
  have ln : gn < k + 1 := by rw [← hk]; exact World.block_lt_of_cell? w _ qn0
  clear sn
  obtain ⟨Q, hQ⟩ : ∃ Q, CmdP ⟨op, n0, [], [], 0, 0, 0, [], []⟩ b w = Q := ⟨_, rfl⟩
  have HF : Aside0 (∀ (w' : World), Below (k + 1) w w' → Q (.returned (.agg (cmA ⟨op, n0, [], [], 0, 0, 0, [], []⟩))) w') := ⟨fun w' h2 => by rw [← hQ]; exact ⟨.slice none 0 0, .slice none 0 0, rfl, SL.nil _ _ _, SL.nil _ _ _, by rw [hk]; exact h2⟩⟩
  rw [hQ]
  clear hQ h
  simp only [List.length_cons, List.length_nil, Nat.zero_add, Nat.reduceAdd]
  go_enter Tryd.func67, Tryd.ntmps67
  go_upto_region 2 with fail
  generalize hW : ((w.alloc (.cells #[.slice (some ⟨gn, 0, none⟩) 1 cn, .slice aw 0 cw, .slice ab 0 cb] 106)).alloc (.cells #[.int .i64 0, .int .i64 0, .slice none 0 0, .slice none 0 0, .int .u64 0, .int .u64 0, .int .i64 0, .string ⟨#[]⟩, .string ⟨#[]⟩] 37)).alloc (.cells #[.int .i64 op, .int .i64 0, .slice none 0 0, .slice none 0 0, .int .u64 0, .int .u64 0, .int .i64 0, .string ⟨#[]⟩, .string ⟨#[]⟩] 37) = W
  obtain ⟨hC, hB⟩ := cmw_begin2 w _ _ _ op k hk W hW
  clear hW
  have c0 := hC.c0
  have c1 := hC.c1
  have c2 := hC.c2
  have hlt0 := hC.lt
  have pn0 := (hB.cell (p := ⟨gn, 0, none⟩) ln).trans qn0
  have e1 : W.cell? ⟨k + 1 + 1 + 1, 1, none⟩ = some (.int .i64 0) := (hC.cell 1).trans rfl
  have z1 : W.frozen? ⟨k + 1 + 1 + 1, 1, none⟩ = false := hC.cold 1
  go_upto_region 17 with fail
  have hC2 : CmW (W.setCell ⟨k + 1 + 1 + 1, 1, none⟩ (.int .i64 n0)) k (.slice (some ⟨gn, 0, none⟩) 1 cn) (.slice aw 0 cw) (.slice ab 0 cb) (cmA ⟨op, n0, [], [], 0, 0, 0, [], []⟩) := (hC.set 1 (.int .i64 n0))
  have hB2 : Below (k + 1) w (W.setCell ⟨k + 1 + 1 + 1, 1, none⟩ (.int .i64 n0)) := (below_set (b := k + 3) (i := 1) hB (by omega) (.int .i64 n0))
  generalize W.setCell ⟨k + 1 + 1 + 1, 1, none⟩ (.int .i64 n0) = W2 at hC2 hB2 ⊢
  obtain ⟨rs, hr1, hr2⟩ := hC2.res
  have hbk := hC2.blk
  clear hC c0 c1 c2 hlt0 hC2 hB
  go_wp2_with (first
    | (refine wpList_load_row rfl _ _ rfl (k + 3) rfl 37 _ _ _ hbk Tryd.underlying37 rfl size37 ?_)
    | (refine wpList_store_row rfl _ _ _ rfl (k + 2) _ rfl rfl 37 _ hr1 size37 hr2 (all_cmX ⟨op, n0, [], [], 0, 0, 0, [], []⟩ none none 0 0 0 0) ?_))
  refine bodyPost_ret (v := .agg (cmA ⟨op, n0, [], [], 0, 0, 0, [], []⟩)) ?_ rfl (HF.out _ (hB2.trans ?_))
  · exact results_cell_row (p := 4) rfl _ _ (k + 2) 37 (cmA ⟨op, n0, [], [], 0, 0, 0, [], []⟩) (0, 0) _ rfl (setRow_heap _ _ _ _ _ _ hr1) Tryd.underlying37 rfl size37
  · exact ⟨rfl, rfl, rfl, by simp, fun z hz => setRow_other W2 (k + 2) z _ (by omega)⟩
set_option maxHeartbeats 4000000 in
set_option maxRecDepth 100000 in
theorem rcmd_110 (w : World) (hw0 : 0 < w.heap.size) (op : Int) (h1 : (op == 1) = false) (h10 : (op == 10) = false) (vn vw vb : Value) (b : Nat) (n0 : Int) (u0 : Nat) (h : Rows3 w b vn vw vb ⟨[n0], [u0], []⟩) :
    Calls Tryd.prog 67 #[.int .i64 op, .agg #[vn, vw, vb]] w (CmdP ⟨op, n0, [], [], u0, 0, 0, [], []⟩ b w) := by
  have sn := SL.of_own h.rn
  rcases h.rn.2 with ⟨_, h2⟩ | ⟨gn, cn, cu, rfl, hx⟩
  · simp at h2
  clear hx cu
  have sw := SL.of_own h.rw
  rcases h.rw.2 with ⟨_, h2⟩ | ⟨gw, cw, cu, rfl, hx⟩
  · simp at h2
  clear hx cu
  obtain ⟨ab, cb, rfl⟩ := own_slice h.rb
  obtain ⟨k, hk⟩ : ∃ k, w.heap.size = k + 1 := ⟨w.heap.size - 1, by omega⟩
  have qn0 : w.cell? ⟨gn, 0, none⟩ = some (.int .i64 n0) := by have := sn.at (j := 0) rfl; simpa using this
  have ln : gn < k + 1 := by rw [← hk]; exact World.block_lt_of_cell? w _ qn0
  clear sn
  have qw0 : w.cell? ⟨gw, 0, none⟩ = some (.int .u64 (u0 : Int)) := by have := sw.at (j := 0) rfl; simpa using this
  have lw : gw < k + 1 := by rw [← hk]; exact World.block_lt_of_cell? w _ qw0
  clear sw
  obtain ⟨Q, hQ⟩ : ∃ Q, CmdP ⟨op, n0, [], [], u0, 0, 0, [], []⟩ b w = Q := ⟨_, rfl⟩
  have HF : Aside0 (∀ (w' : World), Below (k + 1) w w' → Q (.returned (.agg (cmA ⟨op, n0, [], [], u0, 0, 0, [], []⟩))) w') := ⟨fun w' h2 => by rw [← hQ]; exact ⟨.slice none 0 0, .slice none 0 0, rfl, SL.nil _ _ _, SL.nil _ _ _, by rw [hk]; exact h2⟩⟩
  rw [hQ]
  clear hQ h
  simp only [List.length_cons, List.length_nil, Nat.zero_add, Nat.reduceAdd]
  go_enter Tryd.func67, Tryd.ntmps67
  go_upto_region 2 with fail
  generalize hW : ((w.alloc (.cells #[.slice (some ⟨gn, 0, none⟩) 1 cn, .slice (some ⟨gw, 0, none⟩) 1 cw, .slice ab 0 cb] 106)).alloc (.cells #[.int .i64 0, .int .i64 0, .slice none 0 0, .slice none 0 0, .int .u64 0, .int .u64 0, .int .i64 0, .string ⟨#[]⟩, .string ⟨#[]⟩] 37)).alloc (.cells #[.int .i64 op, .int .i64 0, .slice none 0 0, .slice none 0 0, .int .u64 0, .int .u64 0, .int .i64 0, .string ⟨#[]⟩, .string ⟨#[]⟩] 37) = W
  obtain ⟨hC, hB⟩ := cmw_begin2 w _ _ _ op k hk W hW
  clear hW
  have c0 := hC.c0
  have c1 := hC.c1
  have c2 := hC.c2
  have hlt0 := hC.lt
  have pn0 := (hB.cell (p := ⟨gn, 0, none⟩) ln).trans qn0
  have pw0 := (hB.cell (p := ⟨gw, 0, none⟩) lw).trans qw0
  have e4 : W.cell? ⟨k + 1 + 1 + 1, 4, none⟩ = some (.int .u64 0) := (hC.cell 4).trans rfl
  have z4 : W.frozen? ⟨k + 1 + 1 + 1, 4, none⟩ = false := hC.cold 4
  have e1 : W.cell? ⟨k + 1 + 1 + 1, 1, none⟩ = some (.int .i64 0) := (hC.cell 1).trans rfl
  have z1 : W.frozen? ⟨k + 1 + 1 + 1, 1, none⟩ = false := hC.cold 1
  go_upto_region 17 with fail
  have hC2 : CmW ((W.setCell ⟨k + 1 + 1 + 1, 4, none⟩ (.int .u64 (u0 : Int))).setCell ⟨k + 1 + 1 + 1, 1, none⟩ (.int .i64 n0)) k (.slice (some ⟨gn, 0, none⟩) 1 cn) (.slice (some ⟨gw, 0, none⟩) 1 cw) (.slice ab 0 cb) (cmA ⟨op, n0, [], [], u0, 0, 0, [], []⟩) := ((hC.set 4 (.int .u64 (u0 : Int))).set 1 (.int .i64 n0))
  have hB2 : Below (k + 1) w ((W.setCell ⟨k + 1 + 1 + 1, 4, none⟩ (.int .u64 (u0 : Int))).setCell ⟨k + 1 + 1 + 1, 1, none⟩ (.int .i64 n0)) := (below_set (b := k + 3) (i := 1) (below_set (b := k + 3) (i := 4) hB (by omega) (.int .u64 (u0 : Int))) (by omega) (.int .i64 n0))
  generalize (W.setCell ⟨k + 1 + 1 + 1, 4, none⟩ (.int .u64 (u0 : Int))).setCell ⟨k + 1 + 1 + 1, 1, none⟩ (.int .i64 n0) = W2 at hC2 hB2 ⊢
  obtain ⟨rs, hr1, hr2⟩ := hC2.res
  have hbk := hC2.blk
  clear hC c0 c1 c2 hlt0 hC2 hB
  go_wp2_with (first
    | (refine wpList_load_row rfl _ _ rfl (k + 3) rfl 37 _ _ _ hbk Tryd.underlying37 rfl size37 ?_)
    | (refine wpList_store_row rfl _ _ _ rfl (k + 2) _ rfl rfl 37 _ hr1 size37 hr2 (all_cmX ⟨op, n0, [], [], u0, 0, 0, [], []⟩ none none 0 0 0 0) ?_))
  refine bodyPost_ret (v := .agg (cmA ⟨op, n0, [], [], u0, 0, 0, [], []⟩)) ?_ rfl (HF.out _ (hB2.trans ?_))
  · exact results_cell_row (p := 4) rfl _ _ (k + 2) 37 (cmA ⟨op, n0, [], [], u0, 0, 0, [], []⟩) (0, 0) _ rfl (setRow_heap _ _ _ _ _ _ hr1) Tryd.underlying37 rfl size37
  · exact ⟨rfl, rfl, rfl, by simp, fun z hz => setRow_other W2 (k + 2) z _ (by omega)⟩
set_option maxHeartbeats 4000000 in
set_option maxRecDepth 100000 in
theorem rcmd_120 (w : World) (hw0 : 0 < w.heap.size) (op : Int) (h1 : (op == 1) = false) (h10 : (op == 10) = false) (vn vw vb : Value) (b : Nat) (n0 : Int) (u0 : Nat) (u1 : Nat) (h : Rows3 w b vn vw vb ⟨[n0], [u0, u1], []⟩) :
    Calls Tryd.prog 67 #[.int .i64 op, .agg #[vn, vw, vb]] w (CmdP ⟨op, n0, [], [], u0, u1, 0, [], []⟩ b w) := by
  have sn := SL.of_own h.rn
  rcases h.rn.2 with ⟨_, h2⟩ | ⟨gn, cn, cu, rfl, hx⟩
  · simp at h2
  clear hx cu
  have sw := SL.of_own h.rw
  rcases h.rw.2 with ⟨_, h2⟩ | ⟨gw, cw, cu, rfl, hx⟩
  · simp at h2
  clear hx cu
  obtain ⟨ab, cb, rfl⟩ := own_slice h.rb
  obtain ⟨k, hk⟩ : ∃ k, w.heap.size = k + 1 := ⟨w.heap.size - 1, by omega⟩
  have qn0 : w.cell? ⟨gn, 0, none⟩ = some (.int .i64 n0) := by have := sn.at (j := 0) rfl; simpa using this
  have ln : gn < k + 1 := by rw [← hk]; exact World.block_lt_of_cell? w _ qn0
  clear sn
  have qw0 : w.cell? ⟨gw, 0, none⟩ = some (.int .u64 (u0 : Int)) := by have := sw.at (j := 0) rfl; simpa using this
  have qw1 : w.cell? ⟨gw, 1, none⟩ = some (.int .u64 (u1 : Int)) := by have := sw.at (j := 1) rfl; simpa using this
  have lw : gw < k + 1 := by rw [← hk]; exact World.block_lt_of_cell? w _ qw0
  clear sw
  obtain ⟨Q, hQ⟩ : ∃ Q, CmdP ⟨op, n0, [], [], u0, u1, 0, [], []⟩ b w = Q := ⟨_, rfl⟩
  have HF : Aside0 (∀ (w' : World), Below (k + 1) w w' → Q (.returned (.agg (cmA ⟨op, n0, [], [], u0, u1, 0, [], []⟩))) w') := ⟨fun w' h2 => by rw [← hQ]; exact ⟨.slice none 0 0, .slice none 0 0, rfl, SL.nil _ _ _, SL.nil _ _ _, by rw [hk]; exact h2⟩⟩
  rw [hQ]
  clear hQ h
  simp only [List.length_cons, List.length_nil, Nat.zero_add, Nat.reduceAdd]
  go_enter Tryd.func67, Tryd.ntmps67
  go_upto_region 2 with fail
  generalize hW : ((w.alloc (.cells #[.slice (some ⟨gn, 0, none⟩) 1 cn, .slice (some ⟨gw, 0, none⟩) 2 cw, .slice ab 0 cb] 106)).alloc (.cells #[.int .i64 0, .int .i64 0, .slice none 0 0, .slice none 0 0, .int .u64 0, .int .u64 0, .int .i64 0, .string ⟨#[]⟩, .string ⟨#[]⟩] 37)).alloc (.cells #[.int .i64 op, .int .i64 0, .slice none 0 0, .slice none 0 0, .int .u64 0, .int .u64 0, .int .i64 0, .string ⟨#[]⟩, .string ⟨#[]⟩] 37) = W
  obtain ⟨hC, hB⟩ := cmw_begin2 w _ _ _ op k hk W hW
  clear hW
  have c0 := hC.c0
  have c1 := hC.c1
  have c2 := hC.c2
  have hlt0 := hC.lt
  have pn0 := (hB.cell (p := ⟨gn, 0, none⟩) ln).trans qn0
  have pw0 := (hB.cell (p := ⟨gw, 0, none⟩) lw).trans qw0
  have pw1 := (hB.cell (p := ⟨gw, 1, none⟩) lw).trans qw1
  have e4 : W.cell? ⟨k + 1 + 1 + 1, 4, none⟩ = some (.int .u64 0) := (hC.cell 4).trans rfl
  have z4 : W.frozen? ⟨k + 1 + 1 + 1, 4, none⟩ = false := hC.cold 4
  have e5 : W.cell? ⟨k + 1 + 1 + 1, 5, none⟩ = some (.int .u64 0) := (hC.cell 5).trans rfl
  have z5 : W.frozen? ⟨k + 1 + 1 + 1, 5, none⟩ = false := hC.cold 5
  have e1 : W.cell? ⟨k + 1 + 1 + 1, 1, none⟩ = some (.int .i64 0) := (hC.cell 1).trans rfl
  have z1 : W.frozen? ⟨k + 1 + 1 + 1, 1, none⟩ = false := hC.cold 1
  go_upto_region 17 with fail
  have hC2 : CmW (((W.setCell ⟨k + 1 + 1 + 1, 4, none⟩ (.int .u64 (u0 : Int))).setCell ⟨k + 1 + 1 + 1, 5, none⟩ (.int .u64 (u1 : Int))).setCell ⟨k + 1 + 1 + 1, 1, none⟩ (.int .i64 n0)) k (.slice (some ⟨gn, 0, none⟩) 1 cn) (.slice (some ⟨gw, 0, none⟩) 2 cw) (.slice ab 0 cb) (cmA ⟨op, n0, [], [], u0, u1, 0, [], []⟩) := (((hC.set 4 (.int .u64 (u0 : Int))).set 5 (.int .u64 (u1 : Int))).set 1 (.int .i64 n0))
  have hB2 : Below (k + 1) w (((W.setCell ⟨k + 1 + 1 + 1, 4, none⟩ (.int .u64 (u0 : Int))).setCell ⟨k + 1 + 1 + 1, 5, none⟩ (.int .u64 (u1 : Int))).setCell ⟨k + 1 + 1 + 1, 1, none⟩ (.int .i64 n0)) := (below_set (b := k + 3) (i := 1) (below_set (b := k + 3) (i := 5) (below_set (b := k + 3) (i := 4) hB (by omega) (.int .u64 (u0 : Int))) (by omega) (.int .u64 (u1 : Int))) (by omega) (.int .i64 n0))
  generalize ((W.setCell ⟨k + 1 + 1 + 1, 4, none⟩ (.int .u64 (u0 : Int))).setCell ⟨k + 1 + 1 + 1, 5, none⟩ (.int .u64 (u1 : Int))).setCell ⟨k + 1 + 1 + 1, 1, none⟩ (.int .i64 n0) = W2 at hC2 hB2 ⊢
  obtain ⟨rs, hr1, hr2⟩ := hC2.res
  have hbk := hC2.blk
  clear hC c0 c1 c2 hlt0 hC2 hB
  go_wp2_with (first
    | (refine wpList_load_row rfl _ _ rfl (k + 3) rfl 37 _ _ _ hbk Tryd.underlying37 rfl size37 ?_)
    | (refine wpList_store_row rfl _ _ _ rfl (k + 2) _ rfl rfl 37 _ hr1 size37 hr2 (all_cmX ⟨op, n0, [], [], u0, u1, 0, [], []⟩ none none 0 0 0 0) ?_))
  refine bodyPost_ret (v := .agg (cmA ⟨op, n0, [], [], u0, u1, 0, [], []⟩)) ?_ rfl (HF.out _ (hB2.trans ?_))
  · exact results_cell_row (p := 4) rfl _ _ (k + 2) 37 (cmA ⟨op, n0, [], [], u0, u1, 0, [], []⟩) (0, 0) _ rfl (setRow_heap _ _ _ _ _ _ hr1) Tryd.underlying37 rfl size37
  · exact ⟨rfl, rfl, rfl, by simp, fun z hz => setRow_other W2 (k + 2) z _ (by omega)⟩
set_option maxHeartbeats 4000000 in
set_option maxRecDepth 100000 in
theorem rcmd_000 (w : World) (hw0 : 0 < w.heap.size) (op : Int) (h1 : (op == 1) = false) (h10 : (op == 10) = false) (vn vw vb : Value) (b : Nat) (h : Rows3 w b vn vw vb ⟨[], [], []⟩) :
    Calls Tryd.prog 67 #[.int .i64 op, .agg #[vn, vw, vb]] w (CmdP ⟨op, 0, [], [], 0, 0, 0, [], []⟩ b w) := by
  obtain ⟨an, cn, rfl⟩ := own_slice h.rn
  obtain ⟨aw, cw, rfl⟩ := own_slice h.rw
  obtain ⟨ab, cb, rfl⟩ := own_slice h.rb
  obtain ⟨k, hk⟩ : ∃ k, w.heap.size = k + 1 := ⟨w.heap.size - 1, by omega⟩
  obtain ⟨Q, hQ⟩ : ∃ Q, CmdP ⟨op, 0, [], [], 0, 0, 0, [], []⟩ b w = Q := ⟨_, rfl⟩
  have HF : Aside0 (∀ (w' : World), Below (k + 1) w w' → Q (.returned (.agg (cmA ⟨op, 0, [], [], 0, 0, 0, [], []⟩))) w') := ⟨fun w' h2 => by rw [← hQ]; exact ⟨.slice none 0 0, .slice none 0 0, rfl, SL.nil _ _ _, SL.nil _ _ _, by rw [hk]; exact h2⟩⟩
  rw [hQ]
  clear hQ h
  simp only [List.length_cons, List.length_nil, Nat.zero_add, Nat.reduceAdd]
  go_enter Tryd.func67, Tryd.ntmps67
  go_upto_region 2 with fail
  generalize hW : ((w.alloc (.cells #[.slice an 0 cn, .slice aw 0 cw, .slice ab 0 cb] 106)).alloc (.cells #[.int .i64 0, .int .i64 0, .slice none 0 0, .slice none 0 0, .int .u64 0, .int .u64 0, .int .i64 0, .string ⟨#[]⟩, .string ⟨#[]⟩] 37)).alloc (.cells #[.int .i64 op, .int .i64 0, .slice none 0 0, .slice none 0 0, .int .u64 0, .int .u64 0, .int .i64 0, .string ⟨#[]⟩, .string ⟨#[]⟩] 37) = W
  obtain ⟨hC, hB⟩ := cmw_begin2 w _ _ _ op k hk W hW
  clear hW
  have c0 := hC.c0
  have c1 := hC.c1
  have c2 := hC.c2
  have hlt0 := hC.lt
  go_upto_region 17 with fail
  have hC2 : CmW W k (.slice an 0 cn) (.slice aw 0 cw) (.slice ab 0 cb) (cmA ⟨op, 0, [], [], 0, 0, 0, [], []⟩) := hC
  have hB2 := hB
  generalize W = W2 at hC2 hB2 ⊢
  obtain ⟨rs, hr1, hr2⟩ := hC2.res
  have hbk := hC2.blk
  clear hC c0 c1 c2 hlt0 hC2 hB
  go_wp2_with (first
    | (refine wpList_load_row rfl _ _ rfl (k + 3) rfl 37 _ _ _ hbk Tryd.underlying37 rfl size37 ?_)
    | (refine wpList_store_row rfl _ _ _ rfl (k + 2) _ rfl rfl 37 _ hr1 size37 hr2 (all_cmX ⟨op, 0, [], [], 0, 0, 0, [], []⟩ none none 0 0 0 0) ?_))
  refine bodyPost_ret (v := .agg (cmA ⟨op, 0, [], [], 0, 0, 0, [], []⟩)) ?_ rfl (HF.out _ (hB2.trans ?_))
  · exact results_cell_row (p := 4) rfl _ _ (k + 2) 37 (cmA ⟨op, 0, [], [], 0, 0, 0, [], []⟩) (0, 0) _ rfl (setRow_heap _ _ _ _ _ _ hr1) Tryd.underlying37 rfl size37
  · exact ⟨rfl, rfl, rfl, by simp, fun z hz => setRow_other W2 (k + 2) z _ (by omega)⟩
set_option maxHeartbeats 4000000 in
set_option maxRecDepth 100000 in
theorem rcmd_rel (w : World) (hw0 : 0 < w.heap.size) (vn vw vb : Value) (b : Nat) (fn : List Int) (h : Rows3 w b vn vw vb ⟨fn, [], []⟩) :
    Calls Tryd.prog 67 #[.int .i64 10, .agg #[vn, vw, vb]] w (CmdP ⟨10, 0, [], fn, 0, 0, 0, [], []⟩ b w) := by
  have hs := SL.of_own h.rn
  obtain ⟨an, cn, rfl⟩ := own_slice h.rn
  obtain ⟨aw, cw, rfl⟩ := own_slice h.rw
  obtain ⟨ab, cb, rfl⟩ := own_slice h.rb
  clear h
  obtain ⟨k, hk⟩ : ∃ k, w.heap.size = k + 1 := ⟨w.heap.size - 1, by omega⟩
  obtain ⟨Q, hQ⟩ : ∃ Q, CmdP ⟨10, 0, [], fn, 0, 0, 0, [], []⟩ b w = Q := ⟨_, rfl⟩
  have HF : Aside0 (∀ (w' : World), Below (k + 1) w w' → Q (.returned (.agg (cmX (C0 10) (.slice none 0 0) (.slice an fn.length cn)))) w') := ⟨fun w' h2 => by rw [← hQ]; rw [← hk] at h2; exact ⟨.slice none 0 0, _, rfl, SL.nil _ _ _, hs.below h2 (Nat.le_refl _), h2⟩⟩
  rw [hQ]
  clear hQ hs
  simp only [List.length_nil]
  generalize fn.length = ln at *
  go_enter Tryd.func67, Tryd.ntmps67
  go_upto_region 2 with fail
  generalize hW : ((w.alloc (.cells #[.slice an ln cn, .slice aw 0 cw, .slice ab 0 cb] 106)).alloc (.cells #[.int .i64 0, .int .i64 0, .slice none 0 0, .slice none 0 0, .int .u64 0, .int .u64 0, .int .i64 0, .string ⟨#[]⟩, .string ⟨#[]⟩] 37)).alloc (.cells #[.int .i64 10, .int .i64 0, .slice none 0 0, .slice none 0 0, .int .u64 0, .int .u64 0, .int .i64 0, .string ⟨#[]⟩, .string ⟨#[]⟩] 37) = W
  obtain ⟨hC, hB⟩ := cmw_begin2 w _ _ _ 10 k hk W hW
  clear hW
  have c0 := hC.c0
  have c1 := hC.c1
  have c2 := hC.c2
  have hlt0 := hC.lt
  have e3 : W.cell? ⟨k + 1 + 1 + 1, 3, none⟩ = some (.slice none 0 0) := (hC.cell 3).trans rfl
  have z3 : W.frozen? ⟨k + 1 + 1 + 1, 3, none⟩ = false := hC.cold 3
  go_upto_region 17 with fail
  have hC2 : CmW (W.setCell ⟨k + 1 + 1 + 1, 3, none⟩ (.slice an ln cn)) k (.slice an ln cn) (.slice aw 0 cw) (.slice ab 0 cb) (cmX (C0 10) (.slice none 0 0) (.slice an ln cn)) := hC.set 3 (.slice an ln cn)
  have hB2 : Below (k + 1) w (W.setCell ⟨k + 1 + 1 + 1, 3, none⟩ (.slice an ln cn)) := below_set (b := k + 3) (i := 3) hB (by omega) (.slice an ln cn)
  generalize W.setCell ⟨k + 1 + 1 + 1, 3, none⟩ (.slice an ln cn) = W2 at hC2 hB2 ⊢
  obtain ⟨rs, hr1, hr2⟩ := hC2.res
  have hbk := hC2.blk
  clear hC c0 c1 c2 hlt0 hC2 hB
  go_wp2_with (first
    | (refine wpList_load_row rfl _ _ rfl (k + 3) rfl 37 _ _ _ hbk Tryd.underlying37 rfl size37 ?_)
    | (refine wpList_store_row rfl _ _ _ rfl (k + 2) _ rfl rfl 37 _ hr1 size37 hr2 (all_cmX (C0 10) none an 0 ln 0 cn) ?_))
  refine bodyPost_ret (v := .agg (cmX (C0 10) (.slice none 0 0) (.slice an ln cn))) ?_ rfl (HF.out _ (hB2.trans ?_))
  · exact results_cell_row (p := 4) rfl _ _ (k + 2) 37 (cmX (C0 10) (.slice none 0 0) (.slice an ln cn)) (0, 0) _ rfl (setRow_heap _ _ _ _ _ _ hr1) Tryd.underlying37 rfl size37
  · exact ⟨rfl, rfl, rfl, by simp, fun z hz => setRow_other W2 (k + 2) z _ (by omega)⟩
set_option maxHeartbeats 4000000 in
set_option maxRecDepth 100000 in
theorem rcmd_make (w : World) (hw0 : 0 < w.heap.size) (vn vw vb : Value) (b : Nat) (n0 : Int) (nr : List Int) (u0 : Nat) (h : Rows3 w b vn vw vb ⟨n0 :: nr, [u0], []⟩) :
    Calls Tryd.prog 67 #[.int .i64 1, .agg #[vn, vw, vb]] w (CmdP ⟨1, 0, nr, [], u0, 0, n0, [], []⟩ b w) := by
  have hs := SL.of_own h.rn
  obtain ⟨ab, cb, rfl⟩ := own_slice h.rb
  rcases h.rn.2 with ⟨_, h2⟩ | ⟨gn, cn, cur, rfl, h2, h3, h4, h5, h6, h7⟩
  · simp at h2
  rcases h.rw.2 with ⟨_, k2⟩ | ⟨gw, cw, curw, rfl, k2, k3, k4, k5, k6, k7⟩
  · simp at k2
  have hcn := h.rn.cellAt 0 (by simp)
  have hcw := h.rw.cellAt 0 (by simp)
  have hgn : gn < w.heap.size := (Array.getElem?_eq_some_iff.1 h3).1
  have hgw : gw < w.heap.size := (Array.getElem?_eq_some_iff.1 k3).1
  have hsl := fun W => slice35 W gn (nr.length + 1) cn (by omega) (by simpa using h4)
  have ht := SL.tail hs
  clear h h2 h3 h4 h5 h6 h7 k2 k3 k4 k5 k6 k7 hs
  obtain ⟨k, hk⟩ : ∃ k, w.heap.size = k + 1 := ⟨w.heap.size - 1, by omega⟩
  obtain ⟨at', hat⟩ : ∃ a, (if cn = 1 then (⟨gn, 0, none⟩ : Addr) else ⟨gn, 1, none⟩) = a := ⟨_, rfl⟩
  rw [hat] at hsl ht
  obtain ⟨Q, hQ⟩ : ∃ Q, CmdP ⟨1, 0, nr, [], u0, 0, n0, [], []⟩ b w = Q := ⟨_, rfl⟩
  have HF : Aside0 (∀ (w' : World), Below (k + 1) w w' → Q (.returned (.agg (cmX ⟨1, 0, nr, [], u0, 0, n0, [], []⟩ (.slice (some at') nr.length (cn - 1)) (.slice none 0 0)))) w') := ⟨fun w' h2 => by
    rw [← hQ]
    have h3 : SL w 3 b (.slice (some at') nr.length (cn - 1)) (iv nr) := by
      have : SL w 3 b (.slice (some at') (iv nr).length (cn - 1)) (iv nr) := ht
      rw [iv_len] at this
      exact this
    rw [← hk] at h2
    exact ⟨_, .slice none 0 0, rfl, h3.below h2 (Nat.le_refl _), SL.nil _ _ _, h2⟩⟩
  rw [hQ]
  simp only [List.length_cons, List.length_nil, Nat.zero_add] at hsl ⊢
  rw [Nat.add_sub_cancel] at hsl
  rw [hk] at hgn hgw
  clear hQ ht hat
  generalize nr.length = ln at *
  have hln : ((ln : Int) + 1) > 0 := by omega
  go_enter Tryd.func67, Tryd.ntmps67
  go_upto_region 2 with fail
  generalize hW : ((w.alloc (.cells #[.slice (some ⟨gn, 0, none⟩) (ln + 1) cn, .slice (some ⟨gw, 0, none⟩) 1 cw, .slice ab 0 cb] 106)).alloc (.cells #[.int .i64 0, .int .i64 0, .slice none 0 0, .slice none 0 0, .int .u64 0, .int .u64 0, .int .i64 0, .string ⟨#[]⟩, .string ⟨#[]⟩] 37)).alloc (.cells #[.int .i64 1, .int .i64 0, .slice none 0 0, .slice none 0 0, .int .u64 0, .int .u64 0, .int .i64 0, .string ⟨#[]⟩, .string ⟨#[]⟩] 37) = W
  obtain ⟨hC, hB⟩ := cmw_begin2 w _ _ _ 1 k hk W hW
  clear hW
  have c0 := hC.c0
  have c1 := hC.c1
  have c2 := hC.c2
  have hlt0 := hC.lt
  have e4 : W.cell? ⟨k + 1 + 1 + 1, 4, none⟩ = some (.int .u64 0) := (hC.cell 4).trans rfl
  have z4 : W.frozen? ⟨k + 1 + 1 + 1, 4, none⟩ = false := hC.cold 4
  have e6 : W.cell? ⟨k + 1 + 1 + 1, 6, none⟩ = some (.int .i64 0) := (hC.cell 6).trans rfl
  have z6 : W.frozen? ⟨k + 1 + 1 + 1, 6, none⟩ = false := hC.cold 6
  have e2 : W.cell? ⟨k + 1 + 1 + 1, 2, none⟩ = some (.slice none 0 0) := (hC.cell 2).trans rfl
  have z2 : W.frozen? ⟨k + 1 + 1 + 1, 2, none⟩ = false := hC.cold 2
  have q1 : W.cell? ⟨gn, 0, none⟩ = some (.int .i64 n0) := (hB.cell (p := ⟨gn, 0, none⟩) hgn).trans hcn
  have q2 : W.cell? ⟨gw, 0, none⟩ = some (.int .u64 (u0 : Int)) := (hB.cell (p := ⟨gw, 0, none⟩) hgw).trans hcw
  clear hcn hcw
  go_upto_region 17 with fail
  have hC2 : CmW (((W.setCell ⟨k + 1 + 1 + 1, 4, none⟩ (.int .u64 (u0 : Int))).setCell ⟨k + 1 + 1 + 1, 6, none⟩ (.int .i64 n0)).setCell ⟨k + 1 + 1 + 1, 2, none⟩ (.slice (some at') ln (cn - 1))) k (.slice (some ⟨gn, 0, none⟩) (ln + 1) cn) (.slice (some ⟨gw, 0, none⟩) 1 cw) (.slice ab 0 cb) (cmX ⟨1, 0, nr, [], u0, 0, n0, [], []⟩ (.slice (some at') ln (cn - 1)) (.slice none 0 0)) := (((hC.set 4 (.int .u64 (u0 : Int))).set 6 (.int .i64 n0)).set 2 (.slice (some at') ln (cn - 1)))
  have hB2 : Below (k + 1) w (((W.setCell ⟨k + 1 + 1 + 1, 4, none⟩ (.int .u64 (u0 : Int))).setCell ⟨k + 1 + 1 + 1, 6, none⟩ (.int .i64 n0)).setCell ⟨k + 1 + 1 + 1, 2, none⟩ (.slice (some at') ln (cn - 1))) := (below_set (below_set (below_set hB (by omega) _) (by omega) _) (by omega) _)
  generalize (((W.setCell ⟨k + 1 + 1 + 1, 4, none⟩ (.int .u64 (u0 : Int))).setCell ⟨k + 1 + 1 + 1, 6, none⟩ (.int .i64 n0)).setCell ⟨k + 1 + 1 + 1, 2, none⟩ (.slice (some at') ln (cn - 1))) = W2 at hC2 hB2 ⊢
  obtain ⟨rs, hr1, hr2⟩ := hC2.res
  have hbk := hC2.blk
  clear hC c0 c1 c2 hlt0 hC2 hB
  go_wp2_with (first
    | (refine wpList_load_row rfl _ _ rfl (k + 3) rfl 37 _ _ _ hbk Tryd.underlying37 rfl size37 ?_)
    | (refine wpList_store_row rfl _ _ _ rfl (k + 2) _ rfl rfl 37 _ hr1 size37 hr2 (all_cmX ⟨1, 0, nr, [], u0, 0, n0, [], []⟩ (some at') none ln 0 (cn - 1) 0) ?_))
  refine bodyPost_ret (v := .agg (cmX ⟨1, 0, nr, [], u0, 0, n0, [], []⟩ (.slice (some at') ln (cn - 1)) (.slice none 0 0))) ?_ rfl (HF.out _ (hB2.trans ?_))
  · exact results_cell_row (p := 4) rfl _ _ (k + 2) 37 (cmX ⟨1, 0, nr, [], u0, 0, n0, [], []⟩ (.slice (some at') ln (cn - 1)) (.slice none 0 0)) (0, 0) _ rfl (setRow_heap _ _ _ _ _ _ hr1) Tryd.underlying37 rfl size37
  · exact ⟨rfl, rfl, rfl, by simp, fun z hz => setRow_other W2 (k + 2) z _ (by omega)⟩
/-- How many fields of each kind a row has. -/
def Lens (f : Fld) (a b c : Nat) : Prop := f.n.length = a ∧ f.w.length = b ∧ f.b.length = c
def Shape2 (op : Int) (f : Fld) : Prop := if op = 1 then f.n ≠ [] ∧ f.w.length = 1 ∧ f.b = [] else if op = 10 then f.w = [] ∧ f.b = [] else Lens f 1 0 1 ∨ Lens f 1 0 2 ∨ Lens f 1 0 0 ∨ Lens f 1 1 0 ∨ Lens f 1 2 0 ∨ Lens f 0 0 0
theorem readF_shape2 (k : Nat) (hk : k < 16) (h0 : k ≠ 0) (h15 : k ≠ 15) (ws : List (List UInt8)) (f : Fld) (h : readF k ws = (f, 0)) : Shape2 (opOf k) f := by
  have hs := readF_shape k hk ws f h
  unfold ShapeF at hs
  rw [if_neg h0, if_neg h15] at hs
  unfold CmOk at hs
  unfold Shape2
  by_cases h1 : opOf k = 1
  · rw [if_pos h1] at hs ⊢; exact hs
  · rw [if_neg h1] at hs ⊢
    by_cases h10 : opOf k = 10
    · rw [if_pos h10] at hs ⊢; exact hs
    · rw [if_neg h10]
      clear hs
      unfold readF at h
      split at h
      case isFalse => simp at h
      case isTrue hf =>
      have hm2 : moreOf k = false := by
        have a1 : k ≠ 1 := fun e => h1 (by rw [e]; rfl)
        have a10 : k ≠ 10 := fun e => h10 (by rw [e]; rfl)
        simp [moreOf, a1, a10]
      have len := fits1 hf hm2 rfl
      clear hf h1 h10
      match k, hk with
      | 0, _ => exact absurd rfl h0
      | 1, _ => exact absurd hm2 (by decide)
      | 2, _ => match ws, len, h with
        | [a, b], _, h => have := fieldsG_step (fieldsG_step h); simp [fieldsG] at this; subst this; simp [Lens, takeF, forms, F0]
      | 3, _ => match ws, len, h with
        | [a, b, c], _, h => have := fieldsG_step (fieldsG_step (fieldsG_step h)); simp [fieldsG] at this; subst this; simp [Lens, takeF, forms, F0]
      | 4, _ => match ws, len, h with
        | [a, b], _, h => have := fieldsG_step (fieldsG_step h); simp [fieldsG] at this; subst this; simp [Lens, takeF, forms, F0]
      | 5, _ => match ws, len, h with
        | [a], _, h => have := fieldsG_step h; simp [fieldsG] at this; subst this; simp [Lens, takeF, forms, F0]
      | 6, _ => match ws, len, h with
        | [a, b], _, h => have := fieldsG_step (fieldsG_step h); simp [fieldsG] at this; subst this; simp [Lens, takeF, forms, F0]
      | 7, _ => match ws, len, h with
        | [a], _, h => have := fieldsG_step h; simp [fieldsG] at this; subst this; simp [Lens, takeF, forms, F0]
      | 8, _ => match ws, len, h with
        | [a, b, c], _, h => have := fieldsG_step (fieldsG_step (fieldsG_step h)); simp [fieldsG] at this; subst this; simp [Lens, takeF, forms, F0]
      | 9, _ => match ws, len, h with
        | [a], _, h => have := fieldsG_step h; simp [fieldsG] at this; subst this; simp [Lens, takeF, forms, F0]
      | 10, _ => exact absurd hm2 (by decide)
      | 11, _ => match ws, len, h with
        | [], _, h => simp [fieldsG, F0] at h; subst h; simp [Lens]
      | 12, _ => match ws, len, h with
        | [a, b], _, h => have := fieldsG_step (fieldsG_step h); simp [fieldsG] at this; subst this; simp [Lens, takeF, forms, F0]
      | 13, _ => match ws, len, h with
        | [a], _, h => have := fieldsG_step h; simp [fieldsG] at this; subst this; simp [Lens, takeF, forms, F0]
      | 14, _ => match ws, len, h with
        | [], _, h => simp [fieldsG, F0] at h; subst h; simp [Lens]
      | 15, _ => exact absurd rfl h15
      | n + 16, h2 => omega
theorem len2 {α : Type} {l : List α} (h : l.length = 2) : ∃ a b, l = [a, b] := by
  match l, h with
  | [a, b], _ => exact ⟨a, b, rfl⟩
theorem rcommand_walk (w : World) (hw0 : 0 < w.heap.size) (op : Int) (vn vw vb : Value) (b : Nat) (f : Fld) (h : Rows3 w b vn vw vb f) (hok : Shape2 op f) :
    Calls Tryd.prog 67 #[.int .i64 op, .agg #[vn, vw, vb]] w (CmdP (cmdF op f) b w) := by
  unfold Shape2 at hok
  unfold cmdF
  obtain ⟨fn, fw, fb⟩ := f
  by_cases h1 : op = 1
  · subst h1
    rw [if_pos rfl] at hok ⊢
    obtain ⟨n0, nr, rfl⟩ := List.exists_cons_of_ne_nil hok.1
    obtain ⟨u0, rfl⟩ : ∃ u, fw = [u] := List.length_eq_one_iff.1 hok.2.1
    obtain rfl : fb = [] := hok.2.2
    exact rcmd_make w hw0 vn vw vb b n0 nr u0 h
  · rw [if_neg h1] at hok ⊢
    by_cases h10 : op = 10
    · subst h10
      rw [if_pos rfl] at hok ⊢
      obtain rfl : fw = [] := hok.1
      obtain rfl : fb = [] := hok.2
      exact rcmd_rel w hw0 vn vw vb b fn h
    · rw [if_neg h10] at hok ⊢
      have e1 : (op == 1) = false := by simpa using h1
      have e10 : (op == 10) = false := by simpa using h10
      rcases hok with ⟨a, c, d⟩ | ⟨a, c, d⟩ | ⟨a, c, d⟩ | ⟨a, c, d⟩ | ⟨a, c, d⟩ | ⟨a, c, d⟩
      · obtain ⟨x, rfl⟩ : ∃ x, fn = [x] := List.length_eq_one_iff.1 a
        obtain rfl : fw = [] := List.eq_nil_of_length_eq_zero c
        obtain ⟨y, rfl⟩ : ∃ x, fb = [x] := List.length_eq_one_iff.1 d
        exact rcmd_101 w hw0 op e1 e10 vn vw vb b x y h
      · obtain ⟨x, rfl⟩ : ∃ x, fn = [x] := List.length_eq_one_iff.1 a
        obtain rfl : fw = [] := List.eq_nil_of_length_eq_zero c
        obtain ⟨y, z, rfl⟩ : ∃ x y, fb = [x, y] := len2 d
        exact rcmd_102 w hw0 op e1 e10 vn vw vb b x y z h
      · obtain ⟨x, rfl⟩ : ∃ x, fn = [x] := List.length_eq_one_iff.1 a
        obtain rfl : fw = [] := List.eq_nil_of_length_eq_zero c
        obtain rfl : fb = [] := List.eq_nil_of_length_eq_zero d
        exact rcmd_100 w hw0 op e1 e10 vn vw vb b x h
      · obtain ⟨x, rfl⟩ : ∃ x, fn = [x] := List.length_eq_one_iff.1 a
        obtain ⟨y, rfl⟩ : ∃ x, fw = [x] := List.length_eq_one_iff.1 c
        obtain rfl : fb = [] := List.eq_nil_of_length_eq_zero d
        exact rcmd_110 w hw0 op e1 e10 vn vw vb b x y h
      · obtain ⟨x, rfl⟩ : ∃ x, fn = [x] := List.length_eq_one_iff.1 a
        obtain ⟨y, z, rfl⟩ : ∃ x y, fw = [x, y] := len2 c
        obtain rfl : fb = [] := List.eq_nil_of_length_eq_zero d
        exact rcmd_120 w hw0 op e1 e10 vn vw vb b x y z h
      · obtain rfl : fn = [] := List.eq_nil_of_length_eq_zero a
        obtain rfl : fw = [] := List.eq_nil_of_length_eq_zero c
        obtain rfl : fb = [] := List.eq_nil_of_length_eq_zero d
        exact rcmd_000 w hw0 op e1 e10 vn vw vb b h
end Go.Proofs.YtigaacbaaopfmaaDoor.sh
