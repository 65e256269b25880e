/- ScriptAnswers holds: an answer's line is read as the answer; answers that differ in what is told have different lines. For every two answers whose reading, with the listed tables, is of bulk at most 1048576, where the eight tables read as the program lays them. -/
import Derived.Test.YtigaacbaaopfmaaDoorRw
import Derived.Test.YtigaacbaaopfmaaDoorAs
import Derived.ChangeMaps5
import Derived.Lib.LaidU8
namespace Go.Proofs.YtigaacbaaopfmaaDoor.sh
open Go.ChangeShapes Go.WideShapes Go.ChangeAt Go.RowKit
open Go.ChangeMaps (open_string)
set_option linter.unusedVariables false
theorem short2 {H : Type} {a b : Ans} (hk : Rows.uptoSmall H [.agg [.lit (.int .i64 a.op), .lit (.int .i64 a.err), .lit (.int .i64 a.n), .lit (.int .i64 a.off), .lit (.bool a.yes), .lit (.string a.key.data.toList), .lit (.string a.elem.data.toList)], .agg [.lit (.int .i64 b.op), .lit (.int .i64 b.err), .lit (.int .i64 b.n), .lit (.int .i64 b.off), .lit (.bool b.yes), .lit (.string b.key.data.toList), .lit (.string b.elem.data.toList)]] = true) : a.key.size + a.elem.size ≤ 1100000 ∧ b.key.size + b.elem.size ≤ 1100000 := by
  have h : Rows.uptoBulkAll [(DataW.agg [.lit (.int .i64 a.op), .lit (.int .i64 a.err), .lit (.int .i64 a.n), .lit (.int .i64 a.off), .lit (.bool a.yes), .lit (.string a.key.data.toList), .lit (.string a.elem.data.toList)] : DataW H), .agg [.lit (.int .i64 b.op), .lit (.int .i64 b.err), .lit (.int .i64 b.n), .lit (.int .i64 b.off), .lit (.bool b.yes), .lit (.string b.key.data.toList), .lit (.string b.elem.data.toList)]] ≤ 1048576 := of_decide_eq_true hk
  simp only [Rows.uptoBulkAll, Rows.uptoBulk] at h
  have e1 : a.key.data.toList.length = a.key.size := by rw [Array.length_toList]; rfl
  have e2 : a.elem.data.toList.length = a.elem.size := by rw [Array.length_toList]; rfl
  have e3 : b.key.data.toList.length = b.key.size := by rw [Array.length_toList]; rfl
  have e4 : b.elem.data.toList.length = b.elem.size := by rw [Array.length_toList]; rfl
  omega
theorem in64 {x : Int} (h : (Lit.int .i64 x).wf = true) : In64 x := by
  simp only [Lit.wf, Bool.and_eq_true, decide_eq_true_eq] at h
  have h1 : IntKind.i64.min = -9223372036854775808 := rfl
  have h2 : IntKind.i64.max = 9223372036854775807 := rfl
  unfold In64
  omega
set_option maxRecDepth 100000 in
theorem open_ans {H : Type} {enc : TypeId × Value → H} {W : World} {v : Value} {d : DataW H} {p : List MemPlace}
    (hv : Value.okWide Tryd.prog W .any 0 24 v) (h : DataW.Trod enc Tryd.prog W 0 (fun _ => true) true 24 v d p) :
    ∃ a : Ans, v = a.v ∧ In64 a.err ∧ In64 a.n ∧ In64 a.off ∧ d = .agg [.lit (.int .i64 a.op), .lit (.int .i64 a.err), .lit (.int .i64 a.n), .lit (.int .i64 a.off), .lit (.bool a.yes), .lit (.string a.key.data.toList), .lit (.string a.elem.data.toList)] := by
  obtain ⟨cs, rfl, hsz⟩ := okWide_struct Tryd.underlying24 hv
  rw [cells24] at hsz
  obtain ⟨fuel, hf⟩ := h
  obtain ⟨xs, n, _, hx, hl, hyl, hf⟩ := DataW.trod_struct Tryd.underlying24 hf
  obtain ⟨l⟩ := cs
  match l, hsz with
  | [x0, x1, x2, x3, x4, x5, x6], _ =>
    match xs, hyl, hf, hx with
    | [y0, y1, y2, y3, y4, y5, y6], _, hf, hx =>
      have h0 := hf 0 _ rfl
      have h1 := hf 1 _ rfl
      have h2 := hf 2 _ rfl
      have h3 := hf 3 _ rfl
      have h4 := hf 4 _ rfl
      have h5 := hf 5 _ rfl
      have h6 := hf 6 _ rfl
      simp [Value.cells, cells3, cells22, cells4, cells9] at h0 h1 h2 h3 h4 h5 h6
      obtain ⟨n0, e0, rfl, w0⟩ := DataW.trod_int Tryd.underlying3 h0
      obtain ⟨n1, e1, rfl, w1⟩ := DataW.trod_int Tryd.underlying22 h1
      obtain ⟨n2, e2, rfl, w2⟩ := DataW.trod_int Tryd.underlying3 h2
      obtain ⟨n3, e3, rfl, w3⟩ := DataW.trod_int Tryd.underlying3 h3
      obtain ⟨b4, e4, rfl⟩ := DataW.trod_bool Tryd.underlying4 h4
      obtain ⟨s5, e5, rfl, _⟩ := DataW.trod_string Tryd.underlying9 h5
      obtain ⟨s6, e6, rfl, _⟩ := DataW.trod_string Tryd.underlying9 h6
      simp only [List.cons.injEq, and_true] at e0 e1 e2 e3 e4 e5 e6
      subst e0 e1 e2 e3 e4 e5 e6
      exact ⟨⟨n0, n1, n2, n3, b4, s5, s6⟩, rfl, in64 w1, in64 w2, in64 w3, by simpa using congrArg Prod.fst hx⟩
set_option maxRecDepth 100000 in
theorem ans_contract (H : Type) (enc : TypeId × Value → H) (W : World) (args : Array Value) (ds gs : List (DataW H)) (before : List MemPlace)
    (hval : ∀ (j : Nat) t v, Tryd.f12.params[j]? = some t → args[j]? = some v → Value.okWide Tryd.prog W .any 0 t v)
    (hW : DataW.Whole enc Tryd.prog Tryd.f12.params.toList Rows.scriptAnswersSpec.vars false W args.toList ds gs before) (hk : Rows.uptoSmall H (ds ++ gs) = true) (hL : laidMetH Tryd.prog Rows.scriptAnswersUptoRow.laid W) (hsh : W.ShapedOpen Tryd.prog) :
    Calls Tryd.prog 12 args W fun e W' => ∃ v, e = .returned v ∧ Rows.scriptAnswersSpec.post enc Tryd.prog Tryd.f12 false true false false W args v W' := by
  have hW' := hW
  obtain ⟨p, q, hA0, hV, rfl, hfz, hnd⟩ := hW
  have hA : DataW.TrodAll enc Tryd.prog W 0 (fun _ => true) true Tryd.f12.params.toList args.toList ds p := hA0
  rw [Tryd.params12] at hA hval
  obtain ⟨v0, vs0, d0, ds0, p0, q0, hargs, rfl, rfl, h0, r0⟩ := trodAll_cons hA
  obtain ⟨v1, vs1, d1, ds1, p1, q1, rfl, rfl, rfl, h1, r1⟩ := trodAll_cons r0
  obtain ⟨rfl, rfl, rfl⟩ := trodAll_nil r1
  obtain rfl : args = #[v0, v1] := by cases args; simp_all
  obtain ⟨rfl, rfl⟩ := trodVars_none hV
  have hlt0 : ∀ x ∈ p0, x.block < W.heap.size := fun x hx => by have := hW'.lt x (by simp [hx]); simpa using this
  have hlt1 : ∀ x ∈ p1, x.block < W.heap.size := fun x hx => by have := hW'.lt x (by simp [hx]); simpa using this
  have t0 : ∀ (W' : World), Below W.heap.size W W' → DataW.Trod enc Tryd.prog W' 0 (fun b => decide (b < W.heap.size)) true 24 v0 d0 p0 :=
    fun W' hn => Below.trod laidOut (by kernel_rfl) (of_decide_eq_true (by kernel_rfl)) h0 hn hlt0
  have t1 : ∀ (W' : World), Below W.heap.size W W' → DataW.Trod enc Tryd.prog W' 0 (fun b => decide (b < W.heap.size)) true 24 v1 d1 p1 :=
    fun W' hn => Below.trod laidOut (by kernel_rfl) (of_decide_eq_true (by kernel_rfl)) h1 hn hlt1
  obtain ⟨a, rfl, i1, i2, i3, rfl⟩ := open_ans (hval 0 24 v0 rfl rfl) h0
  obtain ⟨b, rfl, j1, j2, j3, rfl⟩ := open_ans (hval 1 24 v1 rfl rfl) h1
  simp only [List.append_nil] at hk
  obtain ⟨k1, k2⟩ := short2 hk
  obtain ⟨hb, hr⟩ := of_laid8 (show laidMetH Tryd.prog Rows.scriptLineUptoRow.laid W from hL) hsh
  clear hA0
  refine (answers_walk W hb hr a b ⟨i1, i2, i3, k1⟩ ⟨j1, j2, j3, k2⟩).mono fun e W' ⟨he, bel⟩ => ?_
  subst he
  exact ⟨_, rfl, _, _, _, [], _, [], hW', trodAll_mk1 (shut_bool Tryd.underlying4 _), (trodAll_cons_mk (t0 W' bel) (trodAll_cons_mk (t1 W' bel) trodAll_mk0)), rfl, bel.frame _, fun h => by cases h⟩
/-- The tables as the program lays them, and utf8.first beside them. -/
noncomputable def laidWorld (os : Os) : World :=
  { World.doorLaid Tryd.prog 4000 os with heap := (World.doorLaid Tryd.prog 4000 os).heap.modify 3 fun
      | .cells _ t fr => .cells (Lib.firstTab.map fun z => Value.int .u8 z).toArray t fr
      | o => o }
theorem ans_met (os : Os) (args : Array Value) : laidMetH Tryd.prog Rows.scriptAnswersUptoRow.laid ((laidWorld os).forCall (fun _ _ => 0) ⟨#[], args, []⟩).memory :=
  laidMetH_of_parts3 (fuel := 8) (laidMet_of_run' 8 (by kernel_rfl) (by kernel_rfl)) (by kernel_rfl) (by kernel_rfl)
def ansWit : Array Value := #[(A0 0).v, (A0 0).v]
set_option maxRecDepth 100000 in
theorem ans_lifted (os : Os) (started : os.Started) (H : Type) (enc : TypeId × Value → H) (F : Stop.Interp) :
    ReturnsInHanded {} Tryd.checked os 12 .any ((Rows.OpenSpec.upto Rows.scriptAnswersSpec).preRow enc Tryd.prog Tryd.f12 Rows.scriptAnswersUptoRow.domain false Rows.scriptAnswersUptoRow.laid) (((Rows.OpenSpec.upto Rows.scriptAnswersSpec).at F).post enc Tryd.prog Tryd.f12 false true false false) := by
  refine returnsInHanded_of_row (C := Tryd.checked) (s := Rows.OpenSpec.upto Rows.scriptAnswersSpec) own started (by kernel_rfl) Tryd.func12
    (witness_row_atRef (enc := enc) (C := Tryd.checked) false (laidWorld os) ansWit rfl (by kernel_rfl) (by kernel_rfl) (by kernel_rfl)
      (OpenSpec.preRow_of_cond 8 (x := ([.agg [.lit (.int .i64 0), .lit (.int .i64 0), .lit (.int .i64 0), .lit (.int .i64 0), .lit (.bool false), .lit (.string []), .lit (.string [])], .agg [.lit (.int .i64 0), .lit (.int .i64 0), .lit (.int .i64 0), .lit (.int .i64 0), .lit (.bool false), .lit (.string []), .lit (.string [])]], [], [])) (by kernel_rfl) (by kernel_rfl) (fun k hk => by cases hk; kernel_rfl) (by kernel_rfl) (ans_met os _))) ?_
  intro W base args ds gs before hval hW _ hcond _ hL hsh _
  exact ans_contract H enc W args ds gs before (fun j t v h1 h2 => hval j t v h1 h2) hW (hcond _ rfl) hL hsh
theorem ans_over : Rows.ScriptAnswersUptoSaid :=
  OpenClaim.holds_of_cond 12 Tryd.f12 rfl rfl rfl rfl rfl rfl rfl ⟨rfl, rfl, rfl, rfl, rfl⟩ rfl rfl rfl rfl rfl (by kernel_rfl) Tryd.func12 (by kernel_rfl)
    (of_decide_eq_true (by kernel_rfl)) (by unfold Func.isWrapper; first | (rw [if_pos (by decide +kernel)]; kernel_rfl) | (rw [if_neg (by decide +kernel)]; exact ⟨rfl, rfl⟩))
    (fun os started H enc _ F => by rw [OpenClaim.pre_eq_preRow]; exact ans_lifted os started H enc F)
end Go.Proofs.YtigaacbaaopfmaaDoor.sh
namespace Go.Proofs.YtigaacbaaopfmaaDoor
theorem scriptAnswersUpto_holds : Rows.ScriptAnswersUptoSaid := sh.ans_over
#print axioms scriptAnswersUpto_holds
end Go.Proofs.YtigaacbaaopfmaaDoor
