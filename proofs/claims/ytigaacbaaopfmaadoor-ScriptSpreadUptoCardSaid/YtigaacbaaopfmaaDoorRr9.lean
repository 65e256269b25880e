/- ScriptSpread holds, for every input whose reading, with the listed tables, is of bulk at most 1048576, where the six tables read as the program lays them. -/
import Derived.Test.YtigaacbaaopfmaaDoorOl
import Derived.Test.YtigaacbaaopfmaaDoorRn9
namespace Go.Proofs.YtigaacbaaopfmaaDoor.sh
open Go.ChangeShapes Go.WideShapes Go.ChangeAt Go.RowKit
open Go.ChangeMaps (open_string)
set_option linter.unusedVariables false
set_option linter.unusedSimpArgs false
set_option maxRecDepth 100000 in
theorem spread_contract (H : Type) (enc : TypeId × Value → H) (W : World) (args : Array Value) (ds gs : List (DataW H)) (before : List MemPlace)
    (hval : ∀ (j : Nat) t v, Tryd.f9.params[j]? = some t → args[j]? = some v → Value.okWide Tryd.prog W .any 0 t v)
    (hW : DataW.Whole enc Tryd.prog Tryd.f9.params.toList Rows.scriptSpreadSpec.vars false W args.toList ds gs before) (hk : Rows.uptoSmall H (ds ++ gs) = true) (hL : laidMetH Tryd.prog Rows.scriptSpreadUptoRow.laid W) (hsh : W.ShapedOpen Tryd.prog) :
    Calls Tryd.prog 9 args W fun e W' => ∃ v, e = .returned v ∧ Rows.scriptSpreadSpec.post enc Tryd.prog Tryd.f9 false true false false W args v W' := by
  have hW' := hW
  obtain ⟨p, q, hA0, hV, rfl, hfz, hnd⟩ := hW
  have hA : DataW.TrodAll enc Tryd.prog W 0 (fun _ => true) true Tryd.f9.params.toList args.toList ds p := hA0
  rw [Tryd.params9] at hA hval
  obtain ⟨v0, vs0, d0, ds0, p0, q0, hargs, rfl, rfl, h0, r0⟩ := trodAll_cons hA
  obtain ⟨v1, vs1, d1, ds1, p1, q1, rfl, rfl, rfl, h1, r1⟩ := trodAll_cons r0
  obtain ⟨rfl, rfl, rfl⟩ := trodAll_nil r1
  obtain rfl : args = #[v0, v1] := by cases args; simp_all
  obtain ⟨rfl, rfl⟩ := trodVars_none hV
  have hlt0 : ∀ x ∈ p0, x.block < W.heap.size := fun x hx => by have := hW'.lt x (by simp [hx]); simpa using this
  have t0 : ∀ (W' : World), Below W.heap.size W W' → DataW.Trod enc Tryd.prog W' 0 (fun b => decide (b < W.heap.size)) true 30 v0 d0 p0 :=
    fun W' hn => Below.trod laidOut (by kernel_rfl) (of_decide_eq_true (by kernel_rfl)) h0 hn hlt0
  have hlt1 : ∀ x ∈ p1, x.block < W.heap.size := fun x hx => by have := hW'.lt x (by simp [hx]); simpa using this
  have t1 : ∀ (W' : World), Below W.heap.size W W' → DataW.Trod enc Tryd.prog W' 0 (fun b => decide (b < W.heap.size)) true 35 v1 d1 p1 :=
    fun W' hn => Below.trod laidOut (by kernel_rfl) (of_decide_eq_true (by kernel_rfl)) h1 hn hlt1
  simp only [List.append_nil] at hk
  have hk2 : Rows.uptoBulkAll [d0, d1] ≤ 1048576 := of_decide_eq_true hk
  simp only [Rows.uptoBulkAll] at hk2
  obtain ⟨s, hs, ok⟩ := open_script (hval 0 30 v0 rfl rfl) h0 (by omega)
  obtain ⟨ao', n', c', rfl⟩ := okWide_slice Tryd.underlying35 (hval 1 35 v1 rfl rfl)
  obtain ⟨f1, hf1⟩ := h1
  obtain ⟨v, l, e, sv, _, bl⟩ := open_ivs2 hf1
  obtain ⟨ao, c, g, o, rfl, sw⟩ := sv
  simp only [Value.cells, List.cons.injEq, and_true, Value.slice.injEq] at e
  obtain ⟨rfl, rfl, rfl⟩ := e
  dsimp only at bl
  obtain ⟨hb, hr⟩ := of_laidU hL hsh
  clear hA0
  refine (spread9 W hb hr s ok v0 hs l ao' c' g o sw (by omega)).mono fun e W' ⟨he, bel⟩ => ?_
  subst he
  exact ⟨_, rfl, _, _, _, [], _, [], hW', trodAll_mk1 (shut_bool Tryd.underlying4 _), (trodAll_cons_mk (t0 W' bel) (trodAll_cons_mk (t1 W' bel) trodAll_mk0)), rfl, bel.frame _, fun h => by cases h⟩
theorem spread_met (os : Os) (args : Array Value) : laidMetH Tryd.prog Rows.scriptSpreadUptoRow.laid ((lgWorld os).forCall (fun _ _ => 0) ⟨#[], args, []⟩).memory :=
  laidMetH_of_parts3 (fuel := 8) (laidMet_of_run' 8 (by kernel_rfl) (by kernel_rfl)) (by kernel_rfl) (by kernel_rfl)
def spreadWit : Array Value := #[.agg #[.int .i64 0, .slice none 0 0, .slice none 0 0], .slice none 0 0]
set_option maxRecDepth 100000 in
theorem spread_lifted (os : Os) (started : os.Started) (H : Type) (enc : TypeId × Value → H) (F : Stop.Interp) :
    ReturnsInHanded {} Tryd.checked os 9 .any ((Rows.OpenSpec.upto Rows.scriptSpreadSpec).preRow enc Tryd.prog Tryd.f9 Rows.scriptSpreadUptoRow.domain false Rows.scriptSpreadUptoRow.laid) (((Rows.OpenSpec.upto Rows.scriptSpreadSpec).at F).post enc Tryd.prog Tryd.f9 false true false false) := by
  refine returnsInHanded_of_row (C := Tryd.checked) (s := Rows.OpenSpec.upto Rows.scriptSpreadSpec) own started (by kernel_rfl) Tryd.func9
    (witness_row_atRef (enc := enc) (C := Tryd.checked) false (lgWorld os) spreadWit rfl (by kernel_rfl) (by kernel_rfl) (by kernel_rfl)
      (OpenSpec.preRow_of_cond 8 (x := ([.agg [.lit (.int .i64 0), .nil, .nil], .nil], [], [])) (by kernel_rfl) (by kernel_rfl) (fun k hk => by cases hk; kernel_rfl) (by kernel_rfl) (spread_met os _))) ?_
  intro W base args ds gs before hval hW _ hcond _ hL hsh _
  exact spread_contract H enc W args ds gs before (fun j t v h1 h2 => hval j t v h1 h2) hW (hcond _ rfl) hL hsh
theorem spread_over : Rows.ScriptSpreadUptoSaid :=
  OpenClaim.holds_of_cond 9 Tryd.f9 rfl rfl rfl rfl rfl rfl rfl ⟨rfl, rfl, rfl, rfl, rfl⟩ rfl rfl rfl rfl rfl (by kernel_rfl) Tryd.func9 (by kernel_rfl)
    (of_decide_eq_true (by kernel_rfl)) (by unfold Func.isWrapper; first | (rw [if_pos (by decide +kernel)]; kernel_rfl) | (rw [if_neg (by decide +kernel)]; exact ⟨rfl, rfl⟩))
    (fun os started H enc _ F => by rw [OpenClaim.pre_eq_preRow]; exact spread_lifted os started H enc F)
end Go.Proofs.YtigaacbaaopfmaaDoor.sh
namespace Go.Proofs.YtigaacbaaopfmaaDoor
theorem scriptSpreadUpto_holds : Rows.ScriptSpreadUptoSaid := sh.spread_over
#print axioms scriptSpreadUpto_holds
end Go.Proofs.YtigaacbaaopfmaaDoor
