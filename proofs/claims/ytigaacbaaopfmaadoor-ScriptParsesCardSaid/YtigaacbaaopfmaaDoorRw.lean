/- What the rows' listed tables give: the tables' cells. -/
import Derived.Test.YtigaacbaaopfmaaDoorRows
import Derived.Test.YtigaacbaaopfmaaDoorRr
import Derived.ProofKit
import Derived.OpenShut
import Derived.ShutString
import Derived.ChangeOld
import Derived.SizedLaws
import Derived.LaidMore
import Derived.Stop.Joined
import Derived.MakeChecks
import Derived.Deep.DeepHandedRow
import Derived.Deep.DeepWitnessRowRef
import Derived.Lib.LaidTab
import Derived.Lib.TrailingZeros
namespace Go.Proofs.YtigaacbaaopfmaaDoor.sh
open Go.ChangeShapes Go.WideShapes Go.ChangeAt Go.RowKit
set_option linter.unusedVariables false
theorem gRows : Tryd.prog.globalNamed "larder/script.rows" = some 0 := by kernel_rfl
theorem tRows : (Tryd.prog.globals[0]?).map (·.type) = some 83 := by kernel_rfl
theorem gPow : Tryd.prog.globalNamed "internal/strconv.uint64pow10" = some 1 := by kernel_rfl
theorem tPow : (Tryd.prog.globals[1]?).map (·.type) = some 158 := by kernel_rfl
theorem gDb : Tryd.prog.globalNamed "math/bits.deBruijn64tab" = some 6 := by kernel_rfl
theorem tDb : (Tryd.prog.globals[6]?).map (·.type) = some 178 := by kernel_rfl
theorem gEr : Tryd.prog.globalNamed "strconv.ErrRange" = some 8 := by kernel_rfl
theorem tEr : (Tryd.prog.globals[8]?).map (·.type) = some 65 := by kernel_rfl
theorem cells158 : Tryd.prog.cellsOf 158 = 20 := by kernel_rfl
theorem cells178 : Tryd.prog.cellsOf 178 = 64 := by kernel_rfl
theorem cells32 : Tryd.prog.cellsOf 32 = 1 := by kernel_rfl
theorem cells5 : Tryd.prog.cellsOf 5 = 1 := by kernel_rfl
theorem cells82 : Tryd.prog.cellsOf 82 = 4 := by kernel_rfl
theorem cells24 : Tryd.prog.cellsOf 24 = 7 := by kernel_rfl
theorem cells9 : Tryd.prog.cellsOf 9 = 1 := by kernel_rfl
theorem cells3 : Tryd.prog.cellsOf 3 = 1 := by kernel_rfl
theorem cells4 : Tryd.prog.cellsOf 4 = 1 := by kernel_rfl
theorem cells22 : Tryd.prog.cellsOf 22 = 1 := by kernel_rfl
theorem own : ownKnob Tryd.prog.godebug = none := by kernel_rfl
theorem laidOut : laidOutB Tryd.prog = true := by kernel_rfl
theorem var_heap {W : World} {n : String} {g : Nat} {cs : Array Value} (hg : Tryd.prog.globalNamed n = some g) (h : W.var? Tryd.prog n = some cs) : ∃ t fr, W.heap[g]? = some (.cells cs t fr) := by
  unfold World.var? at h
  rw [hg] at h
  simp only [Option.bind_some] at h
  split at h
  · next cs' t fr e => rw [Option.some.inj h] at e; exact ⟨_, _, e⟩
  · cases h
def rowD (i : Nat) : DataW Unit := .agg [.lit (.string (names.getD i [])), .lit (.int .i64 (opOf i)), .lit (.string (forms.getD i [])), .lit (.bool (moreOf i))]
theorem rowAt : ∀ i, i < 16 → (match (Rows.laid_larder_script_rows (H := Unit)) with | .agg l => l[i]? | _ => none) = some (rowD i) := fun i hi => by
  match i, hi with
  | 0, _ => rfl
  | 1, _ => rfl
  | 2, _ => rfl
  | 3, _ => rfl
  | 4, _ => rfl
  | 5, _ => rfl
  | 6, _ => rfl
  | 7, _ => rfl
  | 8, _ => rfl
  | 9, _ => rfl
  | 10, _ => rfl
  | 11, _ => rfl
  | 12, _ => rfl
  | 13, _ => rfl
  | 14, _ => rfl
  | 15, _ => rfl
  | n + 16, hi => omega
theorem cell_at {cs : Array Value} {m k : Nat} {v : Value} (h : List.take 1 (List.drop k (List.take 4 (List.drop m cs.toList))) = [v]) (hk : k < 4) : cs[m + k]? = some v := by
  have h1 := congrArg (·[0]?) h
  simp only [List.getElem?_take, List.getElem?_drop, List.getElem?_cons_zero] at h1
  rw [if_pos (by omega), Nat.add_zero, if_pos hk] at h1
  simpa using h1
theorem rowz_of {W : World} {cs3 : Array Value} {f3 : Nat} {p3 : List MemPlace} (hv3 : W.var? Tryd.prog "larder/script.rows" = some cs3)
    (hd3 : DataW.trod (fun _ => ()) Tryd.prog W 0 (fun _ => true) false f3 83 cs3.toList = some (Rows.laid_larder_script_rows, p3)) : Rowz W := by
  obtain ⟨t, fr, hh⟩ := var_heap gRows hv3
  obtain ⟨xs, m1, rfl, hx1, hlen, hn3, hel⟩ := DataW.trod_array Tryd.underlying83 hd3
  refine ⟨cs3, t, fr, hh, ?_, fun i hi => ?_⟩
  · have h83 : Tryd.prog.cellsOf 83 = 64 := by kernel_rfl
    rw [h83] at hlen; simpa using hlen
  · have hi' := hel i hi
    rw [cells82] at hi'
    have hx : (xs.map (·.1))[i]? = some (rowD i) := by
      have e : Rows.laid_larder_script_rows = DataW.agg (xs.map (·.1)) := congrArg Prod.fst hx1
      have hr := rowAt i hi
      rw [e] at hr
      exact hr
    rw [List.getElem?_map] at hx
    obtain ⟨x, hxi, hxe⟩ := Option.map_eq_some_iff.1 hx
    rw [hxi] at hi'
    obtain ⟨ys, n, _, rfl, hl, hyl, hf⟩ := DataW.trod_struct Tryd.underlying82 hi'
    match ys, hyl, hf, hxe with
    | [y0, y1, y2, y3], _, hf, hxe =>
      have h0 := hf 0 _ rfl
      have h1 := hf 1 _ rfl
      have h2 := hf 2 _ rfl
      have h3 := hf 3 _ rfl
      replace h0 : DataW.trod (fun _ => ()) Tryd.prog W 0 (fun _ => true) false n 9 (List.take (Tryd.prog.cellsOf 9) (List.drop 0 (List.take 4 (List.drop (i * 4) cs3.toList)))) = some y0 := h0
      replace h1 : DataW.trod (fun _ => ()) Tryd.prog W 0 (fun _ => true) false n 3 (List.take (Tryd.prog.cellsOf 3) (List.drop 1 (List.take 4 (List.drop (i * 4) cs3.toList)))) = some y1 := h1
      replace h2 : DataW.trod (fun _ => ()) Tryd.prog W 0 (fun _ => true) false n 9 (List.take (Tryd.prog.cellsOf 9) (List.drop 2 (List.take 4 (List.drop (i * 4) cs3.toList)))) = some y2 := h2
      replace h3 : DataW.trod (fun _ => ()) Tryd.prog W 0 (fun _ => true) false n 4 (List.take (Tryd.prog.cellsOf 4) (List.drop 3 (List.take 4 (List.drop (i * 4) cs3.toList)))) = some y3 := h3
      rw [cells9] at h0 h2
      rw [cells3] at h1
      rw [cells4] at h3
      obtain ⟨s0, e0, d0, _⟩ := DataW.trod_string Tryd.underlying9 h0
      obtain ⟨n1, e1, d1, _⟩ := DataW.trod_int Tryd.underlying3 h1
      obtain ⟨s2, e2, d2, _⟩ := DataW.trod_string Tryd.underlying9 h2
      obtain ⟨b3, e3, d3⟩ := DataW.trod_bool Tryd.underlying4 h3
      unfold rowD at hxe
      simp only [List.map_cons, List.map_nil, DataW.agg.injEq, List.cons.injEq, and_true, d0, d1, d2, d3, DataW.lit.injEq, Lit.string.injEq, Lit.int.injEq, Lit.bool.injEq, true_and] at hxe
      obtain ⟨x0, x1, x2, x3⟩ := hxe
      have g0 := cell_at e0 (by omega)
      have g1 := cell_at e1 (by omega)
      have g2 := cell_at e2 (by omega)
      have g3 := cell_at e3 (by omega)
      refine ⟨?_, ?_, ?_, ?_⟩
      · rw [Nat.add_zero] at g0; rw [g0]; unfold nm; rw [← x0, B_of]
      · rw [g1, x1]
      · rw [g2]; unfold formOf; rw [← x2, B_of]
      · rw [g3, x3]
set_option maxRecDepth 100000 in
theorem iface_of {W : World} {fu t : Nat} {cs : List Value} {ms : Array (String × TypeId)} {nm : String} {d : DataW Unit} {p : List MemPlace} (ht : Tryd.prog.underlying t = some (.interface ms))
    (h : DataW.trod (fun _ => ()) Tryd.prog W 0 (fun _ => true) false fu t cs = some (.iface nm d, p)) : ∃ u v, cs = [.iface u v] := by
  cases fu with
  | zero => simp [DataW.trod] at h
  | succ n =>
    simp only [DataW.trod, ht] at h
    split at h <;> first | exact ⟨_, _, rfl⟩ | (cases h; done) | simp_all
/-- What a row's eight listed tables give. -/
theorem of_laid8 {W : World} (h : laidMetH Tryd.prog Rows.scriptLineUptoRow.laid W) (hsh : W.ShapedOpen Tryd.prog) : Bs W ∧ Rowz W := by
  rw [MakeChecks.laidMetH_plain _ _ _ (by kernel_rfl)] at h
  obtain ⟨ps, ⟨_, _, _, _, _, _, _, _, _, _, ⟨g2, t2, cs2, f2, p2, q2, hg2, ht2, hv2, hd2, ⟨g3, t3, cs3, f3, p3, q3, hg3, ht3, hv3, hd3, ⟨_, _, _, _, _, _, _, _, _, _, ⟨g5, t5, cs5, f5, p5, q5, hg5, ht5, hv5, hd5, ⟨_, _, _, _, _, _, _, _, _, _, ⟨g7, t7, cs7, f7, p7, q7, hg7, ht7, hv7, hd7, _, _⟩, _⟩, _⟩, _⟩, _⟩, _⟩, _⟩, _, _⟩ := h
  obtain rfl := Option.some.inj (gDb.symm.trans hg2)
  obtain rfl := Option.some.inj (tDb.symm.trans ht2)
  obtain rfl := Option.some.inj (gPow.symm.trans hg3)
  obtain rfl := Option.some.inj (tPow.symm.trans ht3)
  obtain rfl := Option.some.inj (gEr.symm.trans hg5)
  obtain rfl := Option.some.inj (tEr.symm.trans ht5)
  obtain rfl := Option.some.inj (gRows.symm.trans hg7)
  obtain rfl := Option.some.inj (tRows.symm.trans ht7)
  have hz := rowz_of hv7 hd7
  have hc3 := Lib.cells_of_tab (zs := Lib.pow10Tab) Tryd.underlying158 Tryd.underlying32 cells32 cells158 (show DataW.trod _ Tryd.prog W 0 _ false f3 158 _ = some (Lib.tabData .u64 Lib.pow10Tab, p3) from hd3)
  refine ⟨⟨⟨⟨fun i hi => ?_, ?_⟩, ?_⟩, ?_, Tryd.laysM219.s1_3 W hsh⟩, hz⟩
  · obtain ⟨cs, t, fr, h1, h2, h3⟩ := hz
    unfold World.cell?
    rw [h1]
    exact (h3 i hi).1
  · show W.var? Tryd.prog "internal/strconv.uint64pow10" = _
    rw [hv3, ← hc3]
  · have hc2 := Lib.cells_of_tab (zs := (Lib.deBruijn64tab.map fun z : Nat => (z : Int))) Tryd.underlying178 Tryd.underlying5 cells5 cells178 (show DataW.trod _ Tryd.prog W 0 _ false f2 178 _ = some (Lib.tabData .u8 (Lib.deBruijn64tab.map fun z : Nat => (z : Int)), p2) from hd2)
    have := World.var?_cell hg2 hv2 15
    rw [this]
    have e2 : cs2[15]? = cs2.toList[15]? := by simp
    rw [e2, hc2]
    rfl
  · obtain ⟨u, v, e⟩ := iface_of Tryd.underlying65 hd5
    refine ⟨u, v, ?_⟩
    have := World.var?_cell hg5 hv5 0
    rw [this]
    have e2 : cs5[0]? = cs5.toList[0]? := by simp
    rw [e2, e]; rfl
end Go.Proofs.YtigaacbaaopfmaaDoor.sh
