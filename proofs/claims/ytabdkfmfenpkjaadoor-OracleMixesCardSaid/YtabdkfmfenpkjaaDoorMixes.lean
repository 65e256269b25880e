/- OracleMixes holds: every mixed hash is the document's. For every seed and every key, where the two multipliers read as the program lays them. -/
import Derived.Test.YtabdkfmfenpkjaaDoorApart
import Derived.Test.YtabdkfmfenpkjaaDoorRefMix
namespace Go.Proofs.YtabdkfmfenpkjaaDoor.mixes
open Go.ChangeShapes Go.WideShapes Go.ChangeAt Go.RowKit Go.Proofs.YtabdkfmfenpkjaaDoorW.PrintWords
open Go.ChangeMaps (open_string shut_string)
set_option linter.unusedVariables false
set_option maxHeartbeats 8000000 in
set_option maxRecDepth 100000 in
theorem walk (a : Int) (key : ByteArray) (w : World) (hk : key.size < 9223372036854775807) (ha : 0 ≤ a ∧ a < 18446744073709551616)
    (h0 : w.cell? ⟨0, 0, none⟩ = some (.int .u64 13234230157428861123)) (h1 : w.cell? ⟨0, 1, none⟩ = some (.int .u64 11329751410908088055)) :
    Calls Tryd.prog 3 #[.int .u64 a, .string key] w fun e w' => e = .returned (.bool true) ∧ Below w.heap.size w w' := by
  obtain ⟨ra, hra⟩ : ∃ r, Mix.imix a key.data.toList = r := ⟨_, rfl⟩
  have hc : (ra == ra) = true := beq_self_eq_true _
  go_enter Tryd.func3, Tryd.ntmps3
  have hk2 : key.size < 9223372036854775808 := by omega
  have c1 := Mix.calls a ra key w hra hk2 h0 h1
  have c2 : ∀ n, Calls Tryd.prog 9 #[.int .u64 a, .string key] (w.drewN n) fun e w' => e = .returned (.int .u64 ra) ∧ Below (w.drewN n).heap.size (w.drewN n) w' := fun n => hra ▸ ref.mix_walk a key (w.drewN n) ha hk
  clear hra h0 h1
  go_wp2_with (first | (go_at_call 8; (with_reducible refine c1.mono ?_); rintro e w' ⟨rfl, ⟨nd, rfl⟩⟩) | (go_at_call 9; (with_reducible refine (c2 _).mono ?_); rintro e w' ⟨rfl, hb⟩))
  go_ret
  exact ⟨rfl, (Drawn0.below ⟨_, rfl⟩).trans hb⟩
set_option maxRecDepth 100000 in
theorem lifted (os : Os) (started : os.Started) (H : Type) (enc : TypeId × Value → H) :
    ReturnsInHanded {} Tryd.checked os 3 .any (fun w args => (Rows.oracleMixesSpec.pre enc Tryd.prog Tryd.f3 [] false w args ∧ laidMetH Tryd.prog Mix.laid w) ∧ sizedMet enc Tryd.prog Tryd.f3 (OpenSpec.ofChange Rows.oracleMixesSpec) false w args)
      (Rows.oracleMixesSpec.post enc Tryd.prog Tryd.f3 false true false false) := by
  refine returnsInHanded_of_change_and (C := Tryd.checked) (X := fun w _ => laidMetH Tryd.prog Mix.laid w) (fun _ _ _ hh h => h.of_heap hh) Mix.own started (by kernel_rfl) Tryd.func3
    (ChangeSpec.witness_shaped (enc := enc) (C := Tryd.checked) (os := os) (X := fun w _ => laidMetH Tryd.prog Mix.laid w) false (World.doorLaid Tryd.prog 400 os) #[.int .u64 0, .string ⟨#[]⟩] 8 rfl (World.shaped_of_RefB (by kernel_rfl) (by kernel_rfl)) (by kernel_rfl) (by kernel_rfl) (by kernel_rfl) (Mix.door_met os _)) ?_
  intro W base args ds gs before hval0 hW hcnd hsz0 hL _
  have hsz : (DataW.weightsEach Tryd.prog (Tryd.f3.params.toList ++ Rows.oracleMixesSpec.plain.varTypes Tryd.prog) (ds ++ gs)).all (· ≤ reachBytes) = true := hsz0
  have hval : ∀ (j : Nat) t v, Tryd.f3.params[j]? = some t → args[j]? = some v → Value.okWide Tryd.prog W .any base t v := hval0
  have hW' := hW
  obtain ⟨p, q, hA0, hV, rfl, hfz, hnd⟩ := hW
  have hA : DataW.TrodAll enc Tryd.prog W 0 (fun _ => true) true Tryd.f3.params.toList args.toList ds p := hA0
  rw [Tryd.params3] at hA hval hsz
  obtain ⟨v0, vs0, d0, ds0, p0, q0, hargs, rfl, rfl, h0, r0⟩ := trodAll_cons hA
  obtain ⟨v1, vs1, d1, ds1, p1, q1, rfl, rfl, rfl, h1, r1⟩ := trodAll_cons r0
  obtain ⟨rfl, rfl, rfl⟩ := trodAll_nil r1
  obtain rfl : args = #[v0, v1] := by cases args; simp_all
  obtain ⟨rfl, rfl⟩ := trodVars_none hV
  obtain ⟨a0, rfl, rfl, rfl, w0⟩ := open_int Tryd.underlying22 (hval 0 22 v0 rfl rfl) h0
  obtain ⟨s2, rfl, rfl, rfl, w2⟩ := open_string Tryd.underlying9 (hval 1 9 v1 rfl rfl) h1
  have hlen := sized_string hsz (j := 1) rfl rfl
  have hsize : s2.size < 9223372036854775807 := Nat.lt_of_le_of_lt hlen (by unfold reachBytes; omega)
  obtain ⟨l0, l1⟩ := Mix.of_laid hL
  clear hA0 hval0 hsz0 hsz
  refine (walk a0 s2 W hsize (apart.wf_u64 w0) l0 l1).mono fun e W' ⟨he, bel⟩ => ?_
  subst he
  exact ⟨_, rfl, _, _, _, [], _, [], hW', trodAll_mk1 (shut_bool Tryd.underlying4 _), (trodAll_cons_mk (shut_int Tryd.underlying22 w0) (trodAll_cons_mk (shut_string Tryd.underlying9 w2) trodAll_mk0)), rfl, bel.frame _, fun h => by cases h⟩
theorem over : Rows.OracleMixesSaid :=
  OpenClaim.holds_of_wide 3 Tryd.f3 rfl rfl rfl rfl rfl rfl rfl ⟨rfl, rfl, rfl, rfl, rfl⟩ rfl rfl rfl rfl rfl (by kernel_rfl) Tryd.func3 (by kernel_rfl)
    (of_decide_eq_true (by kernel_rfl)) (by unfold Func.isWrapper; first | (rw [if_pos (by decide +kernel)]; kernel_rfl) | (rw [if_neg (by decide +kernel)]; exact ⟨rfl, rfl⟩))
    (fun os started H enc _ => lifted os started H enc)
end Go.Proofs.YtabdkfmfenpkjaaDoor.mixes
namespace Go.Proofs.YtabdkfmfenpkjaaDoor
theorem oracleMixes_holds : Rows.OracleMixesSaid := mixes.over
#print axioms oracleMixes_holds
end Go.Proofs.YtabdkfmfenpkjaaDoor
