/- ScriptShows holds: every answer's line is the document's. For every answer whose reading, with the listed tables, is of bulk at most 1048576, where the four tables read as the program lays them. -/
import Derived.Test.YtfbjbmlifjlkcaaDoorRows
import Derived.Test.YtfbjbmlifjlkcaaDoorShW
import Derived.ProofKit
import Derived.OpenShut
import Derived.ShutString
import Derived.ChangeOld
import Derived.SizedLaws
import Derived.LaidMore
import Derived.Stop.Joined
import Derived.MakeChecks
import Derived.Deep.DeepHandedRow
import Derived.Lib.LaidTab
namespace Go.Proofs.YtfbjbmlifjlkcaaDoor.sh
open Go.ChangeShapes Go.WideShapes Go.ChangeAt Go.RowKit
set_option linter.unusedVariables false
theorem gRows : Tryd.prog.globalNamed "larder/script.rows" = some 0 := by kernel_rfl
theorem tRows : (Tryd.prog.globals[0]?).map (·.type) = some 32 := by kernel_rfl
theorem gPow : Tryd.prog.globalNamed "internal/strconv.uint64pow10" = some 1 := by kernel_rfl
theorem tPow : (Tryd.prog.globals[1]?).map (·.type) = some 49 := by kernel_rfl
theorem cells49 : Tryd.prog.cellsOf 49 = 20 := by kernel_rfl
theorem cells42 : Tryd.prog.cellsOf 42 = 1 := by kernel_rfl
theorem cells31 : Tryd.prog.cellsOf 31 = 4 := by kernel_rfl
theorem cells24 : Tryd.prog.cellsOf 24 = 7 := by kernel_rfl
theorem cells9 : Tryd.prog.cellsOf 9 = 1 := by kernel_rfl
theorem cells3 : Tryd.prog.cellsOf 3 = 1 := by kernel_rfl
theorem cells4 : Tryd.prog.cellsOf 4 = 1 := by kernel_rfl
theorem cells22 : Tryd.prog.cellsOf 22 = 1 := by kernel_rfl
theorem own : ownKnob Tryd.prog.godebug = none := by kernel_rfl
theorem laidOut : laidOutB Tryd.prog = true := by kernel_rfl
theorem rowNames : ∀ i, i < 16 → ∃ d1 d2 d3, (match (Rows.laid_larder_script_rows (H := Unit)) with | .agg l => l[i]? | _ => none) = some (.agg [.lit (.string (names.getD i [])), d1, d2, d3]) := fun i hi => by
  match i, hi with
  | 0, _ => exact ⟨_, _, _, rfl⟩
  | 1, _ => exact ⟨_, _, _, rfl⟩
  | 2, _ => exact ⟨_, _, _, rfl⟩
  | 3, _ => exact ⟨_, _, _, rfl⟩
  | 4, _ => exact ⟨_, _, _, rfl⟩
  | 5, _ => exact ⟨_, _, _, rfl⟩
  | 6, _ => exact ⟨_, _, _, rfl⟩
  | 7, _ => exact ⟨_, _, _, rfl⟩
  | 8, _ => exact ⟨_, _, _, rfl⟩
  | 9, _ => exact ⟨_, _, _, rfl⟩
  | 10, _ => exact ⟨_, _, _, rfl⟩
  | 11, _ => exact ⟨_, _, _, rfl⟩
  | 12, _ => exact ⟨_, _, _, rfl⟩
  | 13, _ => exact ⟨_, _, _, rfl⟩
  | 14, _ => exact ⟨_, _, _, rfl⟩
  | 15, _ => exact ⟨_, _, _, rfl⟩
  | n + 16, hi => omega
theorem of_laid {W : World} (h : laidMetH Tryd.prog Rows.scriptShowsUptoRow.laid W) : Base W := by
  rw [MakeChecks.laidMetH_plain _ _ _ (by kernel_rfl)] at h
  obtain ⟨ps, ⟨_, _, _, _, _, _, _, _, _, _, ⟨_, _, _, _, _, _, _, _, _, _, ⟨g2, t2, cs2, f2, p2, q2, hg2, ht2, hv2, hd2, ⟨g3, t3, cs3, f3, p3, q3, hg3, ht3, hv3, hd3, _, _⟩, _⟩, _⟩, _⟩, _, _⟩ := h
  obtain rfl := Option.some.inj (gPow.symm.trans hg2)
  obtain rfl := Option.some.inj (tPow.symm.trans ht2)
  obtain rfl := Option.some.inj (gRows.symm.trans hg3)
  obtain rfl := Option.some.inj (tRows.symm.trans ht3)
  have hc2 := Lib.cells_of_tab (zs := Lib.pow10Tab) Tryd.underlying49 Tryd.underlying42 cells42 cells49 (show DataW.trod _ Tryd.prog W 0 _ false f2 49 _ = some (Lib.tabData .u64 Lib.pow10Tab, p2) from hd2)
  refine ⟨fun i hi => ?_, ?_⟩
  · obtain ⟨xs, m1, rfl, hx1, hlen, hn3, hel⟩ := DataW.trod_array Tryd.underlying32 hd3
    have hi' := hel i hi
    rw [cells31] at hi'
    obtain ⟨d1, d2, d3, hrow⟩ := rowNames i hi
    have hx : (xs.map (·.1))[i]? = some (.agg [.lit (.string (names.getD i [])), d1, d2, d3]) := by
      have e : Rows.laid_larder_script_rows = DataW.agg (xs.map (·.1)) := congrArg Prod.fst hx1
      rw [e] at hrow
      exact hrow
    rw [List.getElem?_map] at hx
    obtain ⟨x, hxi, hxe⟩ := Option.map_eq_some_iff.1 hx
    rw [hxi] at hi'
    obtain ⟨ys, n, _, rfl, hl, hyl, hf⟩ := DataW.trod_struct Tryd.underlying31 hi'
    have h0 := hf 0 _ rfl
    simp [cells9] at h0
    obtain ⟨y, hy⟩ : ∃ y, ys[0]? = some y := by
      cases ys with
      | nil => cases hyl
      | cons y r => exact ⟨y, rfl⟩
    rw [hy] at h0
    obtain ⟨s, h1, h2, _⟩ := DataW.trod_string Tryd.underlying9 h0
    have hs : s = nm i := by
      simp only [DataW.agg.injEq] at hxe
      have := congrArg (·[0]?) hxe
      simp only [List.getElem?_map, hy, List.getElem?_cons_zero, Option.map_some, Option.some.injEq, h2, DataW.lit.injEq, Lit.string.injEq] at this
      unfold nm
      rw [← this, B_of]
    have hcell : cs3.toList[i * 4]? = some (.string s) := by
      have := congrArg (·[0]?) h1
      simpa [List.getElem?_take, List.getElem?_drop] using this
    have := World.var?_cell hg3 hv3 (i * 4)
    rw [this, ← hs]
    simpa using hcell
  · show W.var? Tryd.prog "internal/strconv.uint64pow10" = _
    rw [hv2, ← hc2]
theorem short {H : Type} {a0 a1 a2 a3 a4 : Lit} {k m : ByteArray} (hk : Rows.uptoSmall H [.agg [.lit a0, .lit a1, .lit a2, .lit a3, .lit a4, .lit (.string k.data.toList), .lit (.string m.data.toList)]] = true) : k.size ≤ 2000000 ∧ m.size ≤ 2000000 := by
  have h : Rows.uptoBulkAll [(DataW.agg [.lit a0, .lit a1, .lit a2, .lit a3, .lit a4, .lit (.string k.data.toList), .lit (.string m.data.toList)] : DataW H)] ≤ 1048576 := of_decide_eq_true hk
  simp only [Rows.uptoBulkAll, Rows.uptoBulk] at h
  have e1 : k.data.toList.length = k.size := by rw [Array.length_toList]; rfl
  have e2 : m.data.toList.length = m.size := by rw [Array.length_toList]; rfl
  omega
theorem in64 {x : Int} (h : (Lit.int .i64 x).wf = true) : In64 x := by
  simp only [Lit.wf, Bool.and_eq_true, decide_eq_true_eq] at h
  have h1 : IntKind.i64.min = -9223372036854775808 := rfl
  have h2 : IntKind.i64.max = 9223372036854775807 := rfl
  unfold In64
  omega
theorem open_ans {H : Type} {enc : TypeId × Value → H} {W : World} {v : Value} {d : DataW H} {p : List MemPlace}
    (hv : Value.okWide Tryd.prog W .any 0 24 v) (h : DataW.Trod enc Tryd.prog W 0 (fun _ => true) true 24 v d p) :
    ∃ a : Ans, v = a.v ∧ In64 a.err ∧ In64 a.n ∧ In64 a.off ∧ d = .agg [.lit (.int .i64 a.op), .lit (.int .i64 a.err), .lit (.int .i64 a.n), .lit (.int .i64 a.off), .lit (.bool a.yes), .lit (.string a.key.data.toList), .lit (.string a.elem.data.toList)] := by
  obtain ⟨cs, rfl, hsz⟩ := okWide_struct Tryd.underlying24 hv
  rw [cells24] at hsz
  obtain ⟨fuel, hf⟩ := h
  obtain ⟨xs, n, _, hx, hl, hyl, hf⟩ := DataW.trod_struct Tryd.underlying24 hf
  obtain ⟨l⟩ := cs
  match l, hsz with
  | [x0, x1, x2, x3, x4, x5, x6], _ =>
    match xs, hyl, hf, hx with
    | [y0, y1, y2, y3, y4, y5, y6], _, hf, hx =>
      have h0 := hf 0 _ rfl
      have h1 := hf 1 _ rfl
      have h2 := hf 2 _ rfl
      have h3 := hf 3 _ rfl
      have h4 := hf 4 _ rfl
      have h5 := hf 5 _ rfl
      have h6 := hf 6 _ rfl
      simp [Value.cells, cells3, cells22, cells4, cells9] at h0 h1 h2 h3 h4 h5 h6
      obtain ⟨n0, e0, rfl, w0⟩ := DataW.trod_int Tryd.underlying3 h0
      obtain ⟨n1, e1, rfl, w1⟩ := DataW.trod_int Tryd.underlying22 h1
      obtain ⟨n2, e2, rfl, w2⟩ := DataW.trod_int Tryd.underlying3 h2
      obtain ⟨n3, e3, rfl, w3⟩ := DataW.trod_int Tryd.underlying3 h3
      obtain ⟨b4, e4, rfl⟩ := DataW.trod_bool Tryd.underlying4 h4
      obtain ⟨s5, e5, rfl, _⟩ := DataW.trod_string Tryd.underlying9 h5
      obtain ⟨s6, e6, rfl, _⟩ := DataW.trod_string Tryd.underlying9 h6
      simp only [List.cons.injEq, and_true] at e0 e1 e2 e3 e4 e5 e6
      subst e0 e1 e2 e3 e4 e5 e6
      exact ⟨⟨n0, n1, n2, n3, b4, s5, s6⟩, rfl, in64 w1, in64 w2, in64 w3, by simpa using congrArg Prod.fst hx⟩
theorem contract (H : Type) (enc : TypeId × Value → H) (W : World) (args : Array Value) (ds gs : List (DataW H)) (before : List MemPlace)
    (hval : ∀ (j : Nat) t v, Tryd.f3.params[j]? = some t → args[j]? = some v → Value.okWide Tryd.prog W .any 0 t v)
    (hW : DataW.Whole enc Tryd.prog Tryd.f3.params.toList Rows.scriptShowsSpec.vars false W args.toList ds gs before) (hk : Rows.uptoSmall H (ds ++ gs) = true) (hL : laidMetH Tryd.prog Rows.scriptShowsUptoRow.laid W) :
    Calls Tryd.prog 3 args W fun e W' => ∃ v, e = .returned v ∧ Rows.scriptShowsSpec.post enc Tryd.prog Tryd.f3 false true false false W args v W' := by
  have hW' := hW
  obtain ⟨p, q, hA0, hV, rfl, hfz, hnd⟩ := hW
  have hA : DataW.TrodAll enc Tryd.prog W 0 (fun _ => true) true Tryd.f3.params.toList args.toList ds p := hA0
  rw [Tryd.params3] at hA hval
  obtain ⟨v0, vs0, d0, ds0, p0, q0, hargs, rfl, rfl, h0, r0⟩ := trodAll_cons hA
  obtain ⟨rfl, rfl, rfl⟩ := trodAll_nil r0
  obtain rfl : args = #[v0] := by cases args; simp_all
  obtain ⟨rfl, rfl⟩ := trodVars_none hV
  have hlt : ∀ x ∈ p0, x.block < W.heap.size := fun x hx => by have := hW'.lt x (by simp [hx]); simpa using this
  have t0 : ∀ (W' : World), Below W.heap.size W W' → DataW.Trod enc Tryd.prog W' 0 (fun b => decide (b < W.heap.size)) true 24 v0 d0 p0 :=
    fun W' hn => Below.trod laidOut (by kernel_rfl) (of_decide_eq_true (by kernel_rfl)) h0 hn hlt
  obtain ⟨a, rfl, i1, i2, i3, rfl⟩ := open_ans (hval 0 24 v0 rfl rfl) h0
  simp only [List.append_nil] at hk
  obtain ⟨k1, k2⟩ := short hk
  clear hA0
  refine (law_walk a W (of_laid hL) i1 i2 i3 k1 k2).mono fun e W' ⟨he, bel⟩ => ?_
  subst he
  exact ⟨_, rfl, _, _, _, [], _, [], hW', trodAll_mk1 (shut_bool Tryd.underlying4 _), (trodAll_cons_mk (t0 W' bel) trodAll_mk0), rfl, bel.frame _, fun h => by cases h⟩
theorem door_met (os : Os) (args : Array Value) : laidMetH Tryd.prog Rows.scriptShowsUptoRow.laid ((World.doorLaid Tryd.prog 400 os).forCall (fun _ _ => 0) ⟨#[], args, []⟩).memory :=
  laidMetH_of_parts3 (fuel := 8) (laidMet_of_run' 8 (by kernel_rfl) (by kernel_rfl)) (by kernel_rfl) (by kernel_rfl)
def wit : Array Value := #[(Ans.mk 0 0 0 0 false ⟨#[]⟩ ⟨#[]⟩).v]
set_option maxRecDepth 100000 in
theorem lifted (os : Os) (started : os.Started) (H : Type) (enc : TypeId × Value → H) (F : Stop.Interp) :
    ReturnsInHanded {} Tryd.checked os 3 .any ((Rows.OpenSpec.upto Rows.scriptShowsSpec).preRow enc Tryd.prog Tryd.f3 Rows.scriptShowsUptoRow.domain false Rows.scriptShowsUptoRow.laid) (((Rows.OpenSpec.upto Rows.scriptShowsSpec).at F).post enc Tryd.prog Tryd.f3 false true false false) := by
  refine returnsInHanded_of_row (C := Tryd.checked) (s := Rows.OpenSpec.upto Rows.scriptShowsSpec) own started (by kernel_rfl) Tryd.func3
    (witness_row_at (enc := enc) (C := Tryd.checked) false (World.doorLaid Tryd.prog 400 os) wit rfl (by kernel_rfl) (by kernel_rfl) (by kernel_rfl)
      (OpenSpec.preRow_of_cond 8 (x := ([.agg [.lit (.int .i64 0), .lit (.int .i64 0), .lit (.int .i64 0), .lit (.int .i64 0), .lit (.bool false), .lit (.string []), .lit (.string [])]], [], [])) (by kernel_rfl) (by kernel_rfl) (fun k hk => by cases hk; kernel_rfl) (by kernel_rfl) (door_met os _))) ?_
  intro W base args ds gs before hval hW _ hcond _ hL _ _
  exact contract H enc W args ds gs before (fun j t v h1 h2 => hval j t v h1 h2) hW (hcond _ rfl) hL
theorem over : Rows.ScriptShowsUptoSaid :=
  OpenClaim.holds_of_cond 3 Tryd.f3 rfl rfl rfl rfl rfl rfl rfl ⟨rfl, rfl, rfl, rfl, rfl⟩ rfl rfl rfl rfl rfl (by kernel_rfl) Tryd.func3 (by kernel_rfl)
    (of_decide_eq_true (by kernel_rfl)) (by unfold Func.isWrapper; first | (rw [if_pos (by decide +kernel)]; kernel_rfl) | (rw [if_neg (by decide +kernel)]; exact ⟨rfl, rfl⟩))
    (fun os started H enc _ F => by rw [OpenClaim.pre_eq_preRow]; exact lifted os started H enc F)
end Go.Proofs.YtfbjbmlifjlkcaaDoor.sh
namespace Go.Proofs.YtfbjbmlifjlkcaaDoor
theorem scriptShowsUpto_holds : Rows.ScriptShowsUptoSaid := sh.over
#print axioms scriptShowsUpto_holds
end Go.Proofs.YtfbjbmlifjlkcaaDoor
