/- LangChecks holds, for every program whose reading, with the listed tables, is of bulk at most 1048576, where the three tables read as the program lays them. -/
import Derived.Test.YthkmdmobeadigaaDoorLo
import Derived.Test.YthkmdmobeadigaaDoorXn
namespace Go.Proofs.YthkmdmobeadigaaDoor.lg
open Go.ChangeShapes Go.WideShapes Go.ChangeAt Go.RowKit
set_option linter.unusedVariables false
set_option linter.unusedSimpArgs false
theorem of_laid3 {W : World} (h : laidMetH Tryd.prog Rows.langChecksUptoRow.laid W) : Tabs W := by
  rw [MakeChecks.laidMetH_plain _ _ _ (by kernel_rfl)] at h
  obtain ⟨ps, ⟨g3, t3, cs3, f3, p3, q3, hg3, ht3, hv3, hd3, ⟨g1, t1, cs1, f1, p1, q1, hg1, ht1, hv1, hd1, ⟨g0, t0, cs0, f0, p0, q0, hg0, ht0, hv0, hd0, _⟩, _⟩, _⟩, _, _⟩ := h
  obtain rfl := Option.some.inj (gEf.symm.trans hg3)
  obtain rfl := Option.some.inj (tEf.symm.trans ht3)
  obtain rfl := Option.some.inj (gSf.symm.trans hg1)
  obtain rfl := Option.some.inj (tSf.symm.trans ht1)
  obtain rfl := Option.some.inj (gWo.symm.trans hg0)
  obtain rfl := Option.some.inj (tWo.symm.trans ht0)
  exact of_tabs hv0 hv1 hv3 hd0 hd1 hd3
noncomputable def lgWorld (os : Os) : World := World.doorLaid Tryd.prog 4000 os
set_option maxRecDepth 100000 in
theorem checks_contract (H : Type) (enc : TypeId × Value → H) (W : World) (args : Array Value) (ds gs : List (DataW H)) (before : List MemPlace)
    (hval : ∀ (j : Nat) t v, Tryd.f3.params[j]? = some t → args[j]? = some v → Value.okWide Tryd.prog W .any 0 t v)
    (hW : DataW.Whole enc Tryd.prog Tryd.f3.params.toList Rows.langChecksSpec.vars false W args.toList ds gs before) (hk : Rows.uptoSmall H (ds ++ gs) = true) (hL : laidMetH Tryd.prog Rows.langChecksUptoRow.laid W) :
    Calls Tryd.prog 3 args W fun e W' => ∃ v, e = .returned v ∧ Rows.langChecksSpec.post enc Tryd.prog Tryd.f3 false true false false W args v W' := by
  have hW' := hW
  obtain ⟨p, q, hA0, hV, rfl, hfz, hnd⟩ := hW
  have hA : DataW.TrodAll enc Tryd.prog W 0 (fun _ => true) true Tryd.f3.params.toList args.toList ds p := hA0
  rw [Tryd.params3] at hA hval
  obtain ⟨v0, vs0, d0, ds0, p0, q0, hargs, rfl, rfl, h0, r0⟩ := trodAll_cons hA
  obtain ⟨rfl, rfl, rfl⟩ := trodAll_nil r0
  obtain rfl : args = #[v0] := by cases args; simp_all
  obtain ⟨rfl, rfl⟩ := trodVars_none hV
  have hlt0 : ∀ x ∈ p0, x.block < W.heap.size := fun x hx => by have := hW'.lt x (by simp [hx]); simpa using this
  have t0 : ∀ (W' : World), Below W.heap.size W W' → DataW.Trod enc Tryd.prog W' 0 (fun b => decide (b < W.heap.size)) true 25 v0 d0 p0 :=
    fun W' hn => Below.trod laidOut (by kernel_rfl) (of_decide_eq_true (by kernel_rfl)) h0 hn hlt0
  simp only [List.append_nil] at hk
  have hk2 : Rows.uptoBulkAll [d0] ≤ 1048576 := of_decide_eq_true hk
  simp only [Rows.uptoBulkAll, Nat.add_zero] at hk2
  obtain ⟨vm, vs, ms, s, rfl, sv, hs, ok, hml, hms, hm⟩ := open_prog (hval 0 25 v0 rfl rfl) h0 hk2
  have hT := of_laid3 hL
  clear hA0
  refine (checks_walk ms s vm vs _ W (fun x hx => by have := hms x hx; omega) (by omega) (by omega) sv hs hT).mono fun e W' ⟨he, bel⟩ => ?_
  subst he
  exact ⟨_, rfl, _, _, _, [], _, [], hW', trodAll_mk1 (shut_bool Tryd.underlying4 _), (trodAll_cons_mk (t0 W' bel) trodAll_mk0), rfl, bel.frame _, fun h => by cases h⟩
theorem checks_met (os : Os) (args : Array Value) : laidMetH Tryd.prog Rows.langChecksUptoRow.laid ((lgWorld os).forCall (fun _ _ => 0) ⟨#[], args, []⟩).memory :=
  laidMetH_of_parts3 (fuel := 8) (laidMet_of_run' 8 (by kernel_rfl) (by kernel_rfl)) (by kernel_rfl) (by kernel_rfl)
def progWit : Array Value := #[.agg #[.slice none 0 0, .slice none 0 0]]
set_option maxRecDepth 100000 in
theorem checks_lifted (os : Os) (started : os.Started) (H : Type) (enc : TypeId × Value → H) (F : Stop.Interp) :
    ReturnsInHanded {} Tryd.checked os 3 .any ((Rows.OpenSpec.upto Rows.langChecksSpec).preRow enc Tryd.prog Tryd.f3 Rows.langChecksUptoRow.domain false Rows.langChecksUptoRow.laid) (((Rows.OpenSpec.upto Rows.langChecksSpec).at F).post enc Tryd.prog Tryd.f3 false true false false) := by
  refine returnsInHanded_of_row (C := Tryd.checked) (s := Rows.OpenSpec.upto Rows.langChecksSpec) own started (by kernel_rfl) Tryd.func3
    (witness_row_atRef (enc := enc) (C := Tryd.checked) false (lgWorld os) progWit rfl (by kernel_rfl) (by kernel_rfl) (by kernel_rfl)
      (OpenSpec.preRow_of_cond 8 (x := ([.agg [.nil, .nil]], [], [])) (by kernel_rfl) (by kernel_rfl) (fun k hk => by cases hk; kernel_rfl) (by kernel_rfl) (checks_met os _))) ?_
  intro W base args ds gs before hval hW _ hcond _ hL hsh _
  exact checks_contract H enc W args ds gs before (fun j t v h1 h2 => hval j t v h1 h2) hW (hcond _ rfl) hL
theorem checks_over : Rows.LangChecksUptoSaid :=
  OpenClaim.holds_of_cond 3 Tryd.f3 rfl rfl rfl rfl rfl rfl rfl ⟨rfl, rfl, rfl, rfl, rfl⟩ rfl rfl rfl rfl rfl (by kernel_rfl) Tryd.func3 (by kernel_rfl)
    (of_decide_eq_true (by kernel_rfl)) (by unfold Func.isWrapper; first | (rw [if_pos (by decide +kernel)]; kernel_rfl) | (rw [if_neg (by decide +kernel)]; exact ⟨rfl, rfl⟩))
    (fun os started H enc _ F => by rw [OpenClaim.pre_eq_preRow]; exact checks_lifted os started H enc F)
end Go.Proofs.YthkmdmobeadigaaDoor.lg
namespace Go.Proofs.YthkmdmobeadigaaDoor
theorem langChecksUpto_holds : Rows.LangChecksUptoSaid := lg.checks_over
#print axioms langChecksUpto_holds
end Go.Proofs.YthkmdmobeadigaaDoor
