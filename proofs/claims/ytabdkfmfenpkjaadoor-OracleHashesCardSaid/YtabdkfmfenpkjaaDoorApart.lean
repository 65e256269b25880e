/- OracleApart holds: under two seeds one key has two mixed hashes, and one where the seeds are one. For every pair of seeds and every key, where the two multipliers read as the program lays them. -/
import Derived.Test.YtabdkfmfenpkjaaDoorRows
import Derived.Test.YtabdkfmfenpkjaaDoorMixPure
import Derived.WalkKit
import Derived.ProofKit
import Derived.OpenShut
import Derived.ShutString
import Derived.ChangeOld
import Derived.Below
import Derived.SizedLaws
import Derived.LaidMore
import Derived.Stop.Joined
namespace Go.Proofs.YtabdkfmfenpkjaaDoor.Mix
open Go.RowKit Go.Proofs.YtabdkfmfenpkjaaDoorW.PrintWords
/-- The two multipliers as they are laid. -/
def laid : List (String × DataW Unit) := [("larder/oracle.odd", Rows.laid_larder_oracle_odd)]
theorem gOdd : Tryd.prog.globalNamed "larder/oracle.odd" = some 0 := by kernel_rfl
theorem tOdd : (Tryd.prog.globals[0]?).map (·.type) = some 46 := by kernel_rfl
theorem own : ownKnob Tryd.prog.godebug = none := by kernel_rfl
theorem door_met (os : Os) (args : Array Value) : laidMetH Tryd.prog laid ((World.doorLaid Tryd.prog 400 os).forCall (fun _ _ => 0) ⟨#[], args, []⟩).memory :=
  laidMetH_of_parts3 (fuel := 8) (laidMet_of_run' 8 (by kernel_rfl) (by kernel_rfl)) (by kernel_rfl) (by kernel_rfl)
theorem of_laid {W : World} (h : laidMetH Tryd.prog laid W) : W.cell? ⟨0, 0, none⟩ = some (.int .u64 13234230157428861123) ∧ W.cell? ⟨0, 1, none⟩ = some (.int .u64 11329751410908088055) := by
  rw [MakeChecks.laidMetH_plain _ _ _ (by kernel_rfl)] at h
  obtain ⟨ps, ⟨g0, t0, cs0, f0, p0, q0, hg0, ht0, hv0, hd0, _, _⟩, _, _⟩ := h
  obtain rfl := Option.some.inj (gOdd.symm.trans hg0)
  obtain rfl := Option.some.inj (tOdd.symm.trans ht0)
  obtain ⟨xs, m1, rfl, hx1, hlen, hn3, hel⟩ := DataW.trod_array Tryd.underlying46 hd0
  have c22 : Tryd.prog.cellsOf 22 = 1 := by kernel_rfl
  have h0 := hel 0 (by decide)
  have h1 := hel 1 (by decide)
  simp only [Prod.mk.injEq, Rows.laid_larder_oracle_odd, DataW.agg.injEq] at hx1
  match xs, hn3, hx1, h0, h1 with
  | [x0, x1], _, hx1, h0, h1 =>
    simp only [List.map_cons, List.map_nil, List.cons.injEq] at hx1
    obtain ⟨k, e1, e2, _⟩ := DataW.trod_int Tryd.underlying22 (show DataW.trod _ Tryd.prog W 0 _ false m1 22 _ = some x0 from h0)
    obtain ⟨k', e1', e2', _⟩ := DataW.trod_int Tryd.underlying22 (show DataW.trod _ Tryd.prog W 0 _ false m1 22 _ = some x1 from h1)
    have hk : k = 13234230157428861123 := by rw [e2] at hx1; simpa using hx1.1.1.symm
    have hk' : k' = 11329751410908088055 := by rw [e2'] at hx1; simpa using hx1.1.2.1.symm
    subst hk hk'
    have g0 := World.var?_cell hg0 hv0 0
    have g1 := World.var?_cell hg0 hv0 1
    obtain ⟨l1⟩ := cs0
    rw [c22] at e1 e1'
    match l1, e1, e1' with
    | c :: c' :: _, e1, e1' =>
      simp at e1 e1'
      subst e1 e1'
      exact ⟨by simpa using g0, by simpa using g1⟩
end Go.Proofs.YtabdkfmfenpkjaaDoor.Mix
namespace Go.Proofs.YtabdkfmfenpkjaaDoor.apart
open Go.ChangeShapes Go.WideShapes Go.ChangeAt Go.RowKit Go.Proofs.YtabdkfmfenpkjaaDoorW.PrintWords
open Go.ChangeMaps (open_string shut_string)
set_option linter.unusedVariables false
set_option maxHeartbeats 8000000 in
set_option maxRecDepth 100000 in
theorem walk (a b : Int) (key : ByteArray) (w : World) (hk : key.size < 9223372036854775807) (ha : 0 ≤ a ∧ a < 18446744073709551616) (hb : 0 ≤ b ∧ b < 18446744073709551616)
    (h0 : w.cell? ⟨0, 0, none⟩ = some (.int .u64 13234230157428861123)) (h1 : w.cell? ⟨0, 1, none⟩ = some (.int .u64 11329751410908088055)) :
    Calls Tryd.prog 4 #[.int .u64 a, .int .u64 b, .string key] w fun e w' => e = .returned (.bool true) ∧ Drawn0 w w' := by
  have hp : (Mix.imix a key.data.toList == Mix.imix b key.data.toList) = (a == b) := by
    have := Mix.imix_apart (l := key.data.toList) ha hb hk
    rw [Bool.eq_iff_iff, beq_iff_eq, beq_iff_eq]
    exact this
  obtain ⟨ra, hra⟩ : ∃ r, Mix.imix a key.data.toList = r := ⟨_, rfl⟩
  obtain ⟨rb, hrb⟩ : ∃ r, Mix.imix b key.data.toList = r := ⟨_, rfl⟩
  rw [hra, hrb] at hp
  have hc : ((ra == rb) == (a == b)) = true := by rw [hp]; exact beq_self_eq_true _
  go_enter Tryd.func4, Tryd.ntmps4
  have hk2 : key.size < 9223372036854775808 := by omega
  have c1 := Mix.calls a ra key w hra hk2 h0 h1
  have c2 : ∀ n, Calls Tryd.prog 8 #[.int .u64 b, .string key] (w.drewN n) fun e w' => e = .returned (.int .u64 rb) ∧ Drawn0 (w.drewN n) w' := fun n => Mix.calls b rb key (w.drewN n) hrb hk2 h0 h1
  clear hra hrb h0 h1
  go_wp2_with (first | (go_at_call 8; (with_reducible refine c1.mono ?_); rintro e w' ⟨rfl, ⟨nd, rfl⟩⟩) | (go_at_call 8; (with_reducible refine (c2 _).mono ?_); rintro e w' ⟨rfl, ⟨nd, rfl⟩⟩))
  go_ret
  exact ⟨rfl, ⟨_, rfl⟩⟩
theorem wf_u64 {a : Int} (h : (Lit.int .u64 a).wf = true) : 0 ≤ a ∧ a < 18446744073709551616 := by
  simp only [Lit.wf, Bool.and_eq_true, decide_eq_true_eq] at h
  have h1 : IntKind.u64.min = 0 := rfl
  have h2 : IntKind.u64.max = 18446744073709551615 := rfl
  omega
set_option maxRecDepth 100000 in
theorem lifted (os : Os) (started : os.Started) (H : Type) (enc : TypeId × Value → H) :
    ReturnsInHanded {} Tryd.checked os 4 .any (fun w args => (Rows.oracleApartSpec.pre enc Tryd.prog Tryd.f4 [] false w args ∧ laidMetH Tryd.prog Mix.laid w) ∧ sizedMet enc Tryd.prog Tryd.f4 (OpenSpec.ofChange Rows.oracleApartSpec) false w args)
      (Rows.oracleApartSpec.post enc Tryd.prog Tryd.f4 false true false false) := by
  refine returnsInHanded_of_change_and (C := Tryd.checked) (X := fun w _ => laidMetH Tryd.prog Mix.laid w) (fun _ _ _ hh h => h.of_heap hh) Mix.own started (by kernel_rfl) Tryd.func4
    (ChangeSpec.witness_shaped (enc := enc) (C := Tryd.checked) (os := os) (X := fun w _ => laidMetH Tryd.prog Mix.laid w) false (World.doorLaid Tryd.prog 400 os) #[.int .u64 0, .int .u64 0, .string ⟨#[]⟩] 8 rfl (World.shaped_of_RefB (by kernel_rfl) (by kernel_rfl)) (by kernel_rfl) (by kernel_rfl) (by kernel_rfl) (Mix.door_met os _)) ?_
  intro W base args ds gs before hval0 hW hcnd hsz0 hL _
  have hsz : (DataW.weightsEach Tryd.prog (Tryd.f4.params.toList ++ Rows.oracleApartSpec.plain.varTypes Tryd.prog) (ds ++ gs)).all (· ≤ reachBytes) = true := hsz0
  have hval : ∀ (j : Nat) t v, Tryd.f4.params[j]? = some t → args[j]? = some v → Value.okWide Tryd.prog W .any base t v := hval0
  have hW' := hW
  obtain ⟨p, q, hA0, hV, rfl, hfz, hnd⟩ := hW
  have hA : DataW.TrodAll enc Tryd.prog W 0 (fun _ => true) true Tryd.f4.params.toList args.toList ds p := hA0
  rw [Tryd.params4] at hA hval hsz
  obtain ⟨v0, vs0, d0, ds0, p0, q0, hargs, rfl, rfl, h0, r0⟩ := trodAll_cons hA
  obtain ⟨v1, vs1, d1, ds1, p1, q1, rfl, rfl, rfl, h1, r1⟩ := trodAll_cons r0
  obtain ⟨v2, vs2, d2, ds2, p2, q2, rfl, rfl, rfl, h2, r2⟩ := trodAll_cons r1
  obtain ⟨rfl, rfl, rfl⟩ := trodAll_nil r2
  obtain rfl : args = #[v0, v1, v2] := by cases args; simp_all
  obtain ⟨rfl, rfl⟩ := trodVars_none hV
  obtain ⟨a0, rfl, rfl, rfl, w0⟩ := open_int Tryd.underlying22 (hval 0 22 v0 rfl rfl) h0
  obtain ⟨a1, rfl, rfl, rfl, w1⟩ := open_int Tryd.underlying22 (hval 1 22 v1 rfl rfl) h1
  obtain ⟨s2, rfl, rfl, rfl, w2⟩ := open_string Tryd.underlying9 (hval 2 9 v2 rfl rfl) h2
  have hlen := sized_string hsz (j := 2) rfl rfl
  have hsize : s2.size < 9223372036854775807 := Nat.lt_of_le_of_lt hlen (by unfold reachBytes; omega)
  obtain ⟨l0, l1⟩ := Mix.of_laid hL
  clear hA0 hval0 hsz0 hsz
  refine (walk a0 a1 s2 W hsize (wf_u64 w0) (wf_u64 w1) l0 l1).mono fun e W' ⟨he, bel⟩ => ?_
  subst he
  exact ⟨_, rfl, _, _, _, [], _, [], hW', trodAll_mk1 (shut_bool Tryd.underlying4 _), (trodAll_cons_mk (shut_int Tryd.underlying22 w0) (trodAll_cons_mk (shut_int Tryd.underlying22 w1) (trodAll_cons_mk (shut_string Tryd.underlying9 w2) trodAll_mk0))), rfl, bel.below.frame _, fun h => by cases h⟩
theorem over : Rows.OracleApartSaid :=
  OpenClaim.holds_of_wide 4 Tryd.f4 rfl rfl rfl rfl rfl rfl rfl ⟨rfl, rfl, rfl, rfl, rfl⟩ rfl rfl rfl rfl rfl (by kernel_rfl) Tryd.func4 (by kernel_rfl)
    (of_decide_eq_true (by kernel_rfl)) (by unfold Func.isWrapper; first | (rw [if_pos (by decide +kernel)]; kernel_rfl) | (rw [if_neg (by decide +kernel)]; exact ⟨rfl, rfl⟩))
    (fun os started H enc _ => lifted os started H enc)
end Go.Proofs.YtabdkfmfenpkjaaDoor.apart
namespace Go.Proofs.YtabdkfmfenpkjaaDoor
theorem oracleApart_holds : Rows.OracleApartSaid := apart.over
#print axioms oracleApart_holds
end Go.Proofs.YtabdkfmfenpkjaaDoor
