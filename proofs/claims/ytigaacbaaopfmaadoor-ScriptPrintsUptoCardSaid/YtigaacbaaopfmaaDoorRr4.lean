/- ScriptPrints holds, for every input whose reading, with the listed tables, is of bulk at most 1048576, where the four tables read as the program lays them. -/
import Derived.Test.YtigaacbaaopfmaaDoorOl
import Derived.Test.YtigaacbaaopfmaaDoorRn4
namespace Go.Proofs.YtigaacbaaopfmaaDoor.sh
open Go.ChangeShapes Go.WideShapes Go.ChangeAt Go.RowKit
open Go.ChangeMaps (open_string)
set_option linter.unusedVariables false
set_option linter.unusedSimpArgs false
theorem of_laid4 {W : World} (h : laidMetH Tryd.prog Rows.scriptPrintsUptoRow.laid W) : Base3 W := by
  rw [MakeChecks.laidMetH_plain _ _ _ (by kernel_rfl)] at h
  obtain ⟨ps, ⟨_, _, _, _, _, _, _, _, _, _, ⟨g2, t2, cs2, f2, p2, q2, hg2, ht2, hv2, hd2, ⟨g3, t3, cs3, f3, p3, q3, hg3, ht3, hv3, hd3, ⟨g7, t7, cs7, f7, p7, q7, hg7, ht7, hv7, hd7, _⟩, _⟩, _⟩, _⟩, _, _⟩ := h
  obtain rfl := Option.some.inj (gDb.symm.trans hg2)
  obtain rfl := Option.some.inj (tDb.symm.trans ht2)
  obtain rfl := Option.some.inj (gPow.symm.trans hg3)
  obtain rfl := Option.some.inj (tPow.symm.trans ht3)
  obtain rfl := Option.some.inj (gRows.symm.trans hg7)
  obtain rfl := Option.some.inj (tRows.symm.trans ht7)
  have hz := rowz_of hv7 hd7
  have hc3 := Lib.cells_of_tab (zs := Lib.pow10Tab) Tryd.underlying158 Tryd.underlying32 cells32 cells158 (show DataW.trod _ Tryd.prog W 0 _ false f3 158 _ = some (Lib.tabData .u64 Lib.pow10Tab, p3) from hd3)
  refine ⟨⟨fun i hi => ?_, ?_⟩, ?_⟩
  · obtain ⟨cs, t, fr, h1, h2, h3⟩ := hz
    unfold World.cell?
    rw [h1]
    exact (h3 i hi).1
  · show W.var? Tryd.prog "internal/strconv.uint64pow10" = _
    rw [hv3, ← hc3]
  · have hc2 := Lib.cells_of_tab (zs := (Lib.deBruijn64tab.map fun z : Nat => (z : Int))) Tryd.underlying178 Tryd.underlying5 cells5 cells178 (show DataW.trod _ Tryd.prog W 0 _ false f2 178 _ = some (Lib.tabData .u8 (Lib.deBruijn64tab.map fun z : Nat => (z : Int)), p2) from hd2)
    have := World.var?_cell hg2 hv2 15
    rw [this]
    have e2 : cs2[15]? = cs2.toList[15]? := by simp
    rw [e2, hc2]
    rfl
set_option maxRecDepth 100000 in
theorem prints_contract (H : Type) (enc : TypeId × Value → H) (W : World) (args : Array Value) (ds gs : List (DataW H)) (before : List MemPlace)
    (hval : ∀ (j : Nat) t v, Tryd.f4.params[j]? = some t → args[j]? = some v → Value.okWide Tryd.prog W .any 0 t v)
    (hW : DataW.Whole enc Tryd.prog Tryd.f4.params.toList Rows.scriptPrintsSpec.vars false W args.toList ds gs before) (hk : Rows.uptoSmall H (ds ++ gs) = true) (hL : laidMetH Tryd.prog Rows.scriptPrintsUptoRow.laid W) (hsh : W.ShapedOpen Tryd.prog) :
    Calls Tryd.prog 4 args W fun e W' => ∃ v, e = .returned v ∧ Rows.scriptPrintsSpec.post enc Tryd.prog Tryd.f4 false true false false W args v W' := by
  have hW' := hW
  obtain ⟨p, q, hA0, hV, rfl, hfz, hnd⟩ := hW
  have hA : DataW.TrodAll enc Tryd.prog W 0 (fun _ => true) true Tryd.f4.params.toList args.toList ds p := hA0
  rw [Tryd.params4] at hA hval
  obtain ⟨v0, vs0, d0, ds0, p0, q0, hargs, rfl, rfl, h0, r0⟩ := trodAll_cons hA
  obtain ⟨rfl, rfl, rfl⟩ := trodAll_nil r0
  obtain rfl : args = #[v0] := by cases args; simp_all
  obtain ⟨rfl, rfl⟩ := trodVars_none hV
  have hlt0 : ∀ x ∈ p0, x.block < W.heap.size := fun x hx => by have := hW'.lt x (by simp [hx]); simpa using this
  have t0 : ∀ (W' : World), Below W.heap.size W W' → DataW.Trod enc Tryd.prog W' 0 (fun b => decide (b < W.heap.size)) true 30 v0 d0 p0 :=
    fun W' hn => Below.trod laidOut (by kernel_rfl) (of_decide_eq_true (by kernel_rfl)) h0 hn hlt0
  simp only [List.append_nil] at hk
  obtain ⟨s, hs, ok⟩ := open_script (hval 0 30 v0 rfl rfl) h0 (bulk_one hk)
  have hb := of_laid4 hL
  clear hA0
  refine (prints4 W hb s ok v0 hs).mono fun e W' ⟨he, bel⟩ => ?_
  subst he
  exact ⟨_, rfl, _, _, _, [], _, [], hW', trodAll_mk1 (shut_bool Tryd.underlying4 _), (trodAll_cons_mk (t0 W' bel) trodAll_mk0), rfl, bel.frame _, fun h => by cases h⟩
theorem prints_met (os : Os) (args : Array Value) : laidMetH Tryd.prog Rows.scriptPrintsUptoRow.laid ((lgWorld os).forCall (fun _ _ => 0) ⟨#[], args, []⟩).memory :=
  laidMetH_of_parts3 (fuel := 8) (laidMet_of_run' 8 (by kernel_rfl) (by kernel_rfl)) (by kernel_rfl) (by kernel_rfl)
def printsWit : Array Value := #[.agg #[.int .i64 0, .slice none 0 0, .slice none 0 0]]
set_option maxRecDepth 100000 in
theorem prints_lifted (os : Os) (started : os.Started) (H : Type) (enc : TypeId × Value → H) (F : Stop.Interp) :
    ReturnsInHanded {} Tryd.checked os 4 .any ((Rows.OpenSpec.upto Rows.scriptPrintsSpec).preRow enc Tryd.prog Tryd.f4 Rows.scriptPrintsUptoRow.domain false Rows.scriptPrintsUptoRow.laid) (((Rows.OpenSpec.upto Rows.scriptPrintsSpec).at F).post enc Tryd.prog Tryd.f4 false true false false) := by
  refine returnsInHanded_of_row (C := Tryd.checked) (s := Rows.OpenSpec.upto Rows.scriptPrintsSpec) own started (by kernel_rfl) Tryd.func4
    (witness_row_atRef (enc := enc) (C := Tryd.checked) false (lgWorld os) printsWit rfl (by kernel_rfl) (by kernel_rfl) (by kernel_rfl)
      (OpenSpec.preRow_of_cond 8 (x := ([.agg [.lit (.int .i64 0), .nil, .nil]], [], [])) (by kernel_rfl) (by kernel_rfl) (fun k hk => by cases hk; kernel_rfl) (by kernel_rfl) (prints_met os _))) ?_
  intro W base args ds gs before hval hW _ hcond _ hL hsh _
  exact prints_contract H enc W args ds gs before (fun j t v h1 h2 => hval j t v h1 h2) hW (hcond _ rfl) hL hsh
theorem prints_over : Rows.ScriptPrintsUptoSaid :=
  OpenClaim.holds_of_cond 4 Tryd.f4 rfl rfl rfl rfl rfl rfl rfl ⟨rfl, rfl, rfl, rfl, rfl⟩ rfl rfl rfl rfl rfl (by kernel_rfl) Tryd.func4 (by kernel_rfl)
    (of_decide_eq_true (by kernel_rfl)) (by unfold Func.isWrapper; first | (rw [if_pos (by decide +kernel)]; kernel_rfl) | (rw [if_neg (by decide +kernel)]; exact ⟨rfl, rfl⟩))
    (fun os started H enc _ F => by rw [OpenClaim.pre_eq_preRow]; exact prints_lifted os started H enc F)
end Go.Proofs.YtigaacbaaopfmaaDoor.sh
namespace Go.Proofs.YtigaacbaaopfmaaDoor
theorem scriptPrintsUpto_holds : Rows.ScriptPrintsUptoSaid := sh.prints_over
#print axioms scriptPrintsUpto_holds
end Go.Proofs.YtigaacbaaopfmaaDoor
