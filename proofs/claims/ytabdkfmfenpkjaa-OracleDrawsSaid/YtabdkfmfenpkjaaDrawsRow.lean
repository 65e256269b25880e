/- OracleDraws holds: two rows of draws give their numbers once, in order, and zeros behind, whatever is asked of them and whatever the caller does to the lists. For every three lists. -/
import Derived.Test.YtabdkfmfenpkjaaRows
import Derived.Test.YtabdkfmfenpkjaaDrawsW
import Derived.WalkKit
import Derived.ProofKit
import Derived.OpenShut
import Derived.ShutString
import Derived.ChangeOld
import Derived.Below
import Derived.SizedLaws
import Derived.Carry
import Derived.ChangeSlices
namespace Go.Proofs.Ytabdkfmfenpkjaa.oracleDraws
open Go.ChangeShapes Go.WideShapes Go.ChangeAt Go.RowKit
open Go.ChangeMaps (open_string shut_string)
set_option linter.unusedVariables false
theorem own : ownKnob Try.prog.godebug = none := by kernel_rfl
theorem laidOut : laidOutB Try.prog = true := by kernel_rfl
theorem cells24 : Try.prog.cellsOf 24 = 1 := by kernel_rfl
theorem cells3 : Try.prog.cellsOf 3 = 1 := by kernel_rfl
theorem bytes24 : Try.prog.bytesOf 24 = 8 := by kernel_rfl
theorem bytes3 : Try.prog.bytesOf 3 = 8 := by kernel_rfl
/-- A slice of numbers that came in. -/
theorem open_sli {H : Type} {enc : TypeId × Value → H} {W : World} {t e : TypeId} {k : IntKind} (ht : Try.prog.underlying t = some (.slice e)) (he : Try.prog.underlying e = some (.int k)) (hc : Try.prog.cellsOf e = 1) {v : Value} {d : DataW H} {p : List MemPlace}
    (hv : ∃ ao n c, v = .slice ao n c) (h : DataW.Trod enc Try.prog W 0 (fun _ => true) true t v d p) :
    ∃ ao l c b o, v = .slice ao l.length c ∧ (ao = none → l = [] ∧ c = 0) ∧ (l = [] ∨ ao = some ⟨b, o, none⟩) ∧ (∀ j x, l[j]? = some x → W.cell? ⟨b, o + j, none⟩ = some (.int k x)) ∧ l.length ≤ c ∧ ((d = .nil ∧ l = []) ∨ ∃ sp, d = .slice (lits k l) sp) := by
  obtain ⟨ao, n, c, rfl⟩ := hv
  obtain ⟨fuel, hf⟩ := h
  rcases open_ints ht he hc hf with ⟨hcs, hx⟩ | ⟨a, len', cap', zs, hcs, _, hl, hm, hz, hx, hcell, hwz⟩
  · simp [Value.cells] at hcs
    obtain ⟨rfl, rfl, rfl⟩ := hcs
    simp only [Prod.mk.injEq] at hx
    exact ⟨none, [], 0, 0, 0, rfl, fun _ => ⟨rfl, rfl⟩, .inl rfl, fun j x hj => (by simp at hj), Nat.le_refl _, .inl ⟨hx.1, rfl⟩⟩
  · simp [Value.cells] at hcs
    obtain ⟨rfl, rfl, rfl⟩ := hcs
    simp only [Prod.mk.injEq] at hx
    simp only [if_true] at hz
    have hlen : (zs.take n).length = n := by rw [List.length_take]; omega
    obtain ⟨b, off, spot⟩ := a
    refine ⟨some ⟨b, off, spot⟩, zs.take n, c, b, off, by rw [hlen], fun e => (by cases e), ?_, fun j x hj => ?_, by omega, .inr ⟨_, hx.1⟩⟩
    · by_cases h0 : zs.take n = []
      · exact .inl h0
      · right
        have hn : 0 < zs.length := by
          rcases Nat.eq_zero_or_pos zs.length with e | e
          · rw [List.eq_nil_of_length_eq_zero e] at h0; simp at h0
          · exact e
        have hspot : spot = none := by simpa [Addr.add] using World.cell?_spot (hcell 0 hn)
        rw [hspot]
    · have hj1 := (List.getElem?_eq_some_iff.1 hj).1
      have hjn : j < n := by omega
      have hjz : j < zs.length := by omega
      have hspot : spot = none := by simpa [Addr.add] using World.cell?_spot (hcell 0 (by omega))
      subst hspot
      have := hcell j hjz
      rw [add_plain] at this
      rw [this]
      rw [List.getElem?_take_of_lt hjn] at hj
      simp [hj]
set_option maxRecDepth 100000 in
theorem lifted (os : Os) (started : os.Started) (H : Type) (enc : TypeId × Value → H) :
    ReturnsInHanded {} Try.checked os 3 .any (Rows.oracleDrawsSpec.pre6 enc Try.prog Try.f3 Rows.oracleDrawsRow.domain false) (Rows.oracleDrawsSpec.post enc Try.prog Try.f3 false true false false) := by
  refine returnsInHanded_of_change_sized (C := Try.checked) own started (by kernel_rfl) Try.func3
    (ChangeSpec.witness6 (enc := enc) (C := Try.checked) false ⟨#[], #[.slice none 0 0, .slice none 0 0, .slice none 0 0], []⟩ 8 (by kernel_rfl) (by kernel_rfl) (by kernel_rfl) (by kernel_rfl)) ?_
  intro W base args ds gs before hval0 hW hcnd hsz0 _
  have hsz : (DataW.weightsEach Try.prog (Try.f3.params.toList ++ Rows.oracleDrawsSpec.plain.varTypes Try.prog) (ds ++ gs)).all (· ≤ reachBytes) = true := hsz0
  have hval : ∀ (j : Nat) t v, Try.f3.params[j]? = some t → args[j]? = some v → Value.okWide Try.prog W .any base t v := hval0
  have hW' := hW
  obtain ⟨p, q, hA0, hV, rfl, hfz, hnd⟩ := hW
  have hA : DataW.TrodAll enc Try.prog W 0 (fun _ => true) true Try.f3.params.toList args.toList ds p := hA0
  rw [Try.params3] at hA hval hsz
  obtain ⟨v0, vs0, d0, ds0, p0, q0, hargs, rfl, rfl, h0, r0⟩ := trodAll_cons hA
  obtain ⟨v1, vs1, d1, ds1, p1, q1, rfl, rfl, rfl, h1, r1⟩ := trodAll_cons r0
  obtain ⟨v2, vs2, d2, ds2, p2, q2, rfl, rfl, rfl, h2, r2⟩ := trodAll_cons r1
  obtain ⟨rfl, rfl, rfl⟩ := trodAll_nil r2
  obtain rfl : args = #[v0, v1, v2] := by cases args; simp_all
  obtain ⟨rfl, rfl⟩ := trodVars_none hV
  have hlt : ∀ x ∈ p0 ++ (p1 ++ (p2 ++ [])), x.block < W.heap.size := fun x hx => by have := hW'.lt x (by simpa using hx); simpa using this
  have t0 : ∀ (W' : World), Below W.heap.size W W' → DataW.Trod enc Try.prog W' 0 (fun b => decide (b < W.heap.size)) true 22 v0 d0 p0 :=
    fun W' hn => Below.trod laidOut (by kernel_rfl) (of_decide_eq_true (by kernel_rfl)) h0 hn (fun x hx => hlt x (by simp [hx]))
  have t1 : ∀ (W' : World), Below W.heap.size W W' → DataW.Trod enc Try.prog W' 0 (fun b => decide (b < W.heap.size)) true 22 v1 d1 p1 :=
    fun W' hn => Below.trod laidOut (by kernel_rfl) (of_decide_eq_true (by kernel_rfl)) h1 hn (fun x hx => hlt x (by simp [hx]))
  have t2 : ∀ (W' : World), Below W.heap.size W W' → DataW.Trod enc Try.prog W' 0 (fun b => decide (b < W.heap.size)) true 23 v2 d2 p2 :=
    fun W' hn => Below.trod laidOut (by kernel_rfl) (of_decide_eq_true (by kernel_rfl)) h2 hn (fun x hx => hlt x (by simp [hx]))
  obtain ⟨ao0, l0, c0, b0, o0, rfl, n0, u0, e0, k0, s0⟩ := open_sli Try.underlying22 Try.underlying24 cells24 (okWide_slice Try.underlying22 (hval 0 22 v0 rfl rfl)) h0
  obtain ⟨ao1, l1, c1, b1, o1, rfl, n1, u1, e1, k1, s1⟩ := open_sli Try.underlying22 Try.underlying24 cells24 (okWide_slice Try.underlying22 (hval 1 22 v1 rfl rfl)) h1
  obtain ⟨ao2, l2, c2, b2, o2, rfl, n2, u2, e2, k2, s2⟩ := open_sli Try.underlying23 Try.underlying3 cells3 (okWide_slice Try.underlying23 (hval 2 23 v2 rfl rfl)) h2
  have m0 : l0.length * 8 ≤ 140737488351232 := by
    rcases s0 with ⟨rfl, rfl⟩ | ⟨sp, rfl⟩
    · simp
    · have := sized_slice hsz (j := 0) (t := 22) (e := 24) rfl rfl Try.underlying22
      rw [bytes24] at this
      simp only [lits, List.length_map, reachBytes] at this
      omega
  have m1 : l1.length * 8 ≤ 140737488351232 := by
    rcases s1 with ⟨rfl, rfl⟩ | ⟨sp, rfl⟩
    · simp
    · have := sized_slice hsz (j := 1) (t := 22) (e := 24) rfl rfl Try.underlying22
      rw [bytes24] at this
      simp only [lits, List.length_map, reachBytes] at this
      omega
  have m2 : l2.length * 8 ≤ 140737488351232 := by
    rcases s2 with ⟨rfl, rfl⟩ | ⟨sp, rfl⟩
    · simp
    · have := sized_slice hsz (j := 2) (t := 23) (e := 3) rfl rfl Try.underlying23
      rw [bytes3] at this
      simp only [lits, List.length_map, reachBytes] at this
      omega
  clear hA0 hval0 hsz0 hsz
  refine (draws.walk W ao0 ao1 ao2 l0 l1 l2 c0 b0 o0 c1 b1 o1 c2 b2 o2 ⟨n0, u0, e0, k0⟩ ⟨n1, u1, e1, k1⟩ u2 e2 m0 m1 m2).mono fun e W' ⟨he, bel⟩ => ?_
  subst he
  exact ⟨_, rfl, _, _, _, [], p0 ++ (p1 ++ (p2 ++ [])), [], hW', trodAll_mk1 (shut_bool Try.underlying4 _), (trodAll_cons_mk (t0 W' bel) (trodAll_cons_mk (t1 W' bel) (trodAll_cons_mk (t2 W' bel) trodAll_mk0))), rfl, bel.frame _, fun h => by cases h⟩
theorem over : Rows.oracleDrawsRow.holds Try.pinned (OpenSpec.ofChange Rows.oracleDrawsSpec) :=
  OpenClaim.holds_of_wide 3 Try.f3 rfl rfl rfl rfl rfl rfl rfl ⟨rfl, rfl, rfl, rfl, rfl⟩ rfl rfl rfl rfl rfl (by kernel_rfl) Try.func3 (by kernel_rfl)
    (of_decide_eq_true (by kernel_rfl)) (by unfold Func.isWrapper; first | (rw [if_pos (by decide +kernel)]; kernel_rfl) | (rw [if_neg (by decide +kernel)]; exact ⟨rfl, rfl⟩))
    (fun os started H enc _ => lifted os started H enc)
theorem proved : Rows.OracleDrawsSaid := over
#print axioms proved
end Go.Proofs.Ytabdkfmfenpkjaa.oracleDraws
namespace Go.Proofs.Ytabdkfmfenpkjaa
/-- The row, under a short name, for the claim. -/
theorem oracleDraws_holds : Rows.OracleDrawsSaid := oracleDraws.proved
end Go.Proofs.Ytabdkfmfenpkjaa
