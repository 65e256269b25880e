/- ScriptFault holds, for every input whose reading, with the listed tables, is of bulk at most 1048576, where the six tables read as the program lays them. -/
import Derived.Test.YtigaacbaaopfmaaDoorOl
import Derived.Test.YtigaacbaaopfmaaDoorRn10
namespace Go.Proofs.YtigaacbaaopfmaaDoor.sh
open Go.ChangeShapes Go.WideShapes Go.ChangeAt Go.RowKit
open Go.ChangeMaps (open_string)
set_option linter.unusedVariables false
set_option linter.unusedSimpArgs false
set_option maxRecDepth 100000 in
theorem fault_contract (H : Type) (enc : TypeId × Value → H) (W : World) (args : Array Value) (ds gs : List (DataW H)) (before : List MemPlace)
    (hval : ∀ (j : Nat) t v, Tryd.f10.params[j]? = some t → args[j]? = some v → Value.okWide Tryd.prog W .any 0 t v)
    (hW : DataW.Whole enc Tryd.prog Tryd.f10.params.toList Rows.scriptFaultSpec.vars false W args.toList ds gs before) (hk : Rows.uptoSmall H (ds ++ gs) = true) (hL : laidMetH Tryd.prog Rows.scriptFaultUptoRow.laid W) (hsh : W.ShapedOpen Tryd.prog) :
    Calls Tryd.prog 10 args W fun e W' => ∃ v, e = .returned v ∧ Rows.scriptFaultSpec.post enc Tryd.prog Tryd.f10 false true false false W args v W' := by
  have hW' := hW
  obtain ⟨p, q, hA0, hV, rfl, hfz, hnd⟩ := hW
  have hA : DataW.TrodAll enc Tryd.prog W 0 (fun _ => true) true Tryd.f10.params.toList args.toList ds p := hA0
  rw [Tryd.params10] at hA hval
  obtain ⟨v0, vs0, d0, ds0, p0, q0, hargs, rfl, rfl, h0, r0⟩ := trodAll_cons hA
  obtain ⟨v1, vs1, d1, ds1, p1, q1, rfl, rfl, rfl, h1, r1⟩ := trodAll_cons r0
  obtain ⟨v2, vs2, d2, ds2, p2, q2, rfl, rfl, rfl, h2, r2⟩ := trodAll_cons r1
  obtain ⟨v3, vs3, d3, ds3, p3, q3, rfl, rfl, rfl, h3, r3⟩ := trodAll_cons r2
  obtain ⟨rfl, rfl, rfl⟩ := trodAll_nil r3
  obtain rfl : args = #[v0, v1, v2, v3] := by cases args; simp_all
  obtain ⟨rfl, rfl⟩ := trodVars_none hV
  have hlt0 : ∀ x ∈ p0, x.block < W.heap.size := fun x hx => by have := hW'.lt x (by simp [hx]); simpa using this
  have t0 : ∀ (W' : World), Below W.heap.size W W' → DataW.Trod enc Tryd.prog W' 0 (fun b => decide (b < W.heap.size)) true 30 v0 d0 p0 :=
    fun W' hn => Below.trod laidOut (by kernel_rfl) (of_decide_eq_true (by kernel_rfl)) h0 hn hlt0
  have hlt1 : ∀ x ∈ p1, x.block < W.heap.size := fun x hx => by have := hW'.lt x (by simp [hx]); simpa using this
  have t1 : ∀ (W' : World), Below W.heap.size W W' → DataW.Trod enc Tryd.prog W' 0 (fun b => decide (b < W.heap.size)) true 3 v1 d1 p1 :=
    fun W' hn => Below.trod laidOut (by kernel_rfl) (of_decide_eq_true (by kernel_rfl)) h1 hn hlt1
  have hlt2 : ∀ x ∈ p2, x.block < W.heap.size := fun x hx => by have := hW'.lt x (by simp [hx]); simpa using this
  have t2 : ∀ (W' : World), Below W.heap.size W W' → DataW.Trod enc Tryd.prog W' 0 (fun b => decide (b < W.heap.size)) true 9 v2 d2 p2 :=
    fun W' hn => Below.trod laidOut (by kernel_rfl) (of_decide_eq_true (by kernel_rfl)) h2 hn hlt2
  have hlt3 : ∀ x ∈ p3, x.block < W.heap.size := fun x hx => by have := hW'.lt x (by simp [hx]); simpa using this
  have t3 : ∀ (W' : World), Below W.heap.size W W' → DataW.Trod enc Tryd.prog W' 0 (fun b => decide (b < W.heap.size)) true 9 v3 d3 p3 :=
    fun W' hn => Below.trod laidOut (by kernel_rfl) (of_decide_eq_true (by kernel_rfl)) h3 hn hlt3
  simp only [List.append_nil] at hk
  obtain ⟨a, rfl, rfl, rfl, _⟩ := open_int Tryd.underlying3 (hval 1 3 v1 rfl rfl) h1
  obtain ⟨name, rfl, rfl, rfl, _⟩ := open_string Tryd.underlying9 (hval 2 9 v2 rfl rfl) h2
  obtain ⟨behind, rfl, rfl, rfl, _⟩ := open_string Tryd.underlying9 (hval 3 9 v3 rfl rfl) h3
  have hk2 : Rows.uptoBulkAll [d0, .lit (.int .i64 a), .lit (.string name.data.toList), .lit (.string behind.data.toList)] ≤ 1048576 := of_decide_eq_true hk
  simp only [Rows.uptoBulkAll, Rows.uptoBulk] at hk2
  have z1 : name.data.toList.length = name.size := by rw [Array.length_toList]; rfl
  have z2 : behind.data.toList.length = behind.size := by rw [Array.length_toList]; rfl
  obtain ⟨s, hs, ok⟩ := open_script (hval 0 30 v0 rfl rfl) h0 (by omega)
  obtain ⟨hb, hr⟩ := of_laidU hL hsh
  clear hA0
  refine (fault10 W hb hr s ok v0 hs a name behind (by omega) (by omega)).mono fun e W' ⟨he, bel⟩ => ?_
  subst he
  exact ⟨_, rfl, _, _, _, [], _, [], hW', trodAll_mk1 (shut_bool Tryd.underlying4 _), (trodAll_cons_mk (t0 W' bel) (trodAll_cons_mk (t1 W' bel) (trodAll_cons_mk (t2 W' bel) (trodAll_cons_mk (t3 W' bel) trodAll_mk0)))), rfl, bel.frame _, fun h => by cases h⟩
theorem fault_met (os : Os) (args : Array Value) : laidMetH Tryd.prog Rows.scriptFaultUptoRow.laid ((lgWorld os).forCall (fun _ _ => 0) ⟨#[], args, []⟩).memory :=
  laidMetH_of_parts3 (fuel := 8) (laidMet_of_run' 8 (by kernel_rfl) (by kernel_rfl)) (by kernel_rfl) (by kernel_rfl)
def faultWit : Array Value := #[.agg #[.int .i64 0, .slice none 0 0, .slice none 0 0], .int .i64 0, .string ⟨#[]⟩, .string ⟨#[]⟩]
set_option maxRecDepth 100000 in
theorem fault_lifted (os : Os) (started : os.Started) (H : Type) (enc : TypeId × Value → H) (F : Stop.Interp) :
    ReturnsInHanded {} Tryd.checked os 10 .any ((Rows.OpenSpec.upto Rows.scriptFaultSpec).preRow enc Tryd.prog Tryd.f10 Rows.scriptFaultUptoRow.domain false Rows.scriptFaultUptoRow.laid) (((Rows.OpenSpec.upto Rows.scriptFaultSpec).at F).post enc Tryd.prog Tryd.f10 false true false false) := by
  refine returnsInHanded_of_row (C := Tryd.checked) (s := Rows.OpenSpec.upto Rows.scriptFaultSpec) own started (by kernel_rfl) Tryd.func10
    (witness_row_atRef (enc := enc) (C := Tryd.checked) false (lgWorld os) faultWit rfl (by kernel_rfl) (by kernel_rfl) (by kernel_rfl)
      (OpenSpec.preRow_of_cond 8 (x := ([.agg [.lit (.int .i64 0), .nil, .nil], .lit (.int .i64 0), .lit (.string []), .lit (.string [])], [], [])) (by kernel_rfl) (by kernel_rfl) (fun k hk => by cases hk; kernel_rfl) (by kernel_rfl) (fault_met os _))) ?_
  intro W base args ds gs before hval hW _ hcond _ hL hsh _
  exact fault_contract H enc W args ds gs before (fun j t v h1 h2 => hval j t v h1 h2) hW (hcond _ rfl) hL hsh
theorem fault_over : Rows.ScriptFaultUptoSaid :=
  OpenClaim.holds_of_cond 10 Tryd.f10 rfl rfl rfl rfl rfl rfl rfl ⟨rfl, rfl, rfl, rfl, rfl⟩ rfl rfl rfl rfl rfl (by kernel_rfl) Tryd.func10 (by kernel_rfl)
    (of_decide_eq_true (by kernel_rfl)) (by unfold Func.isWrapper; first | (rw [if_pos (by decide +kernel)]; kernel_rfl) | (rw [if_neg (by decide +kernel)]; exact ⟨rfl, rfl⟩))
    (fun os started H enc _ F => by rw [OpenClaim.pre_eq_preRow]; exact fault_lifted os started H enc F)
end Go.Proofs.YtigaacbaaopfmaaDoor.sh
namespace Go.Proofs.YtigaacbaaopfmaaDoor
theorem scriptFaultUpto_holds : Rows.ScriptFaultUptoSaid := sh.fault_over
#print axioms scriptFaultUpto_holds
end Go.Proofs.YtigaacbaaopfmaaDoor
