/- OracleOvers holds: New is refused just by too many overrides or by the first with a fault; else each override's key has its hash under every seed, and every other key is mixed. For every list of overrides, seed and key, where the two multipliers read as the program lays them. -/
import Derived.Test.YtabdkfmfenpkjaaDoorApart
import Derived.Test.YtabdkfmfenpkjaaDoorOvWalk
import Derived.Carry
import Derived.Deep.SlicePairs
namespace Go.Proofs.YtabdkfmfenpkjaaDoor.ov
open Go.ChangeShapes Go.WideShapes Go.ChangeAt Go.RowKit Go.Deep Go.Proofs.YtabdkfmfenpkjaaDoorW.PrintWords
open Go.ChangeMaps (open_string shut_string)
set_option linter.unusedVariables false
theorem laidOut : laidOutB Tryd.prog = true := by kernel_rfl
theorem cells44 : Tryd.prog.cellsOf 44 = 2 := by kernel_rfl
theorem cells9 : Tryd.prog.cellsOf 9 = 1 := by kernel_rfl
theorem cells22 : Tryd.prog.cellsOf 22 = 1 := by kernel_rfl
theorem bytes44 : Tryd.prog.bytesOf 44 = 24 := by kernel_rfl
/-- A slice of overrides that came in. -/
theorem open_ovs {H : Type} {enc : TypeId × Value → H} {W : World} {v : Value} {d : DataW H} {p : List MemPlace}
    (hv : ∃ ao n c, v = .slice ao n c) (h : DataW.Trod enc Tryd.prog W 0 (fun _ => true) true 28 v d p) :
    ∃ ao l c b o, v = .slice ao l.length c ∧ Sov W ao l c b o ∧ (∀ (j : Nat) (x : Ov), l[j]? = some x → x.1.size ≤ maxLen) ∧ (∀ (j : Nat) (x : Ov), l[j]? = some x → (Lit.int .u64 x.2).wf = true) ∧ ((d = .nil ∧ l = []) ∨ ∃ es sp, d = .slice es sp ∧ es.length = l.length) := by
  obtain ⟨ao, n, c, rfl⟩ := hv
  obtain ⟨fuel, hf⟩ := h
  rcases open_slice_pairs Tryd.underlying28 Tryd.underlying44 cells44 rfl rfl cells9 cells22 hf with ⟨hcs, hx⟩ | ⟨a, len, cap, m, k, V0, V1, D0, D1, P0, P1, hcs, _, hl, hm, hmm, hx, hall⟩
  · simp [Value.cells] at hcs
    obtain ⟨rfl, rfl, rfl⟩ := hcs
    simp only [Prod.mk.injEq] at hx
    exact ⟨none, [], 0, 0, 0, rfl, ⟨fun _ => ⟨rfl, rfl⟩, .inl rfl, fun j x hj => (by simp at hj), fun j x hj => (by simp at hj), Nat.le_refl _⟩, fun j x hj => (by simp at hj), fun j x hj => (by simp at hj), .inl ⟨hx.1, rfl⟩⟩
  · simp [Value.cells] at hcs
    obtain ⟨rfl, rfl, rfl⟩ := hcs
    simp only [Prod.mk.injEq] at hx
    simp only [if_true] at hmm
    have hstr : ∀ i, i < m → ∃ s : ByteArray, V0 i = .string s ∧ s.size ≤ maxLen := fun i hi => by
      obtain ⟨s, h1, _, h3⟩ := DataW.trod_string Tryd.underlying9 (hall i hi).2.2.1
      simp only [List.cons.injEq, and_true] at h1
      exact ⟨s, h1, h3⟩
    have hint : ∀ i, i < m → ∃ q : Int, V1 i = .int .u64 q ∧ (Lit.int .u64 q).wf = true := fun i hi => by
      obtain ⟨q, h1, _, h3⟩ := DataW.trod_int Tryd.underlying22 (hall i hi).2.2.2
      simp only [List.cons.injEq, and_true] at h1
      exact ⟨q, h1, h3⟩
    let f : Nat → Ov := fun i => ((match V0 i with | .string s => s | _ => ⟨#[]⟩), (match V1 i with | .int _ q => q | _ => 0))
    have hlen : ((List.range n).map f).length = n := by simp
    have hget : ∀ (j : Nat) (x : Ov), ((List.range n).map f)[j]? = some x → j < n ∧ x = f j := fun j x hj => by
      have hjn : j < n := by have := (List.getElem?_eq_some_iff.1 hj).1; rwa [hlen] at this
      refine ⟨hjn, ?_⟩
      rw [List.getElem?_map, List.getElem?_range hjn] at hj
      exact (Option.some.inj hj).symm
    have hspot : 0 < n → a.spot = none := fun hn => by simpa [Addr.add] using World.cell?_spot (hall 0 (by omega)).1
    obtain ⟨b, off, spot⟩ := a
    have hplain : ∀ j, j < n → ∀ i, (⟨b, off, spot⟩ : Addr).add i = ⟨b, off + i, none⟩ := fun j hj i => by
      have : spot = none := hspot (by omega)
      subst this
      exact add_plain _ _ _
    refine ⟨some ⟨b, off, spot⟩, (List.range n).map f, c, b, off, by rw [hlen], ⟨fun e => (by cases e), ?_, fun j x hj => ?_, fun j x hj => ?_, by omega⟩, fun j x hj => ?_, fun j x hj => ?_, .inr ⟨_, _, hx.1, by simp⟩⟩
    · by_cases hn : n = 0
      · left; subst hn; rfl
      · right
        have : spot = none := hspot (by omega)
        rw [this]
    · obtain ⟨hjn, rfl⟩ := hget j x hj
      obtain ⟨s, h1, _⟩ := hstr j (by omega)
      have := (hall j (by omega)).1
      rw [hplain j hjn, h1] at this
      rw [this]
      simp [f, h1]
    · obtain ⟨hjn, rfl⟩ := hget j x hj
      obtain ⟨q, h1, _⟩ := hint j (by omega)
      have := (hall j (by omega)).2.1
      rw [hplain j hjn, h1] at this
      rw [Nat.add_assoc, this]
      simp [f, h1]
    · obtain ⟨hjn, rfl⟩ := hget j x hj
      obtain ⟨s, h1, h2⟩ := hstr j (by omega)
      simpa [f, h1] using h2
    · obtain ⟨hjn, rfl⟩ := hget j x hj
      obtain ⟨q, h1, h2⟩ := hint j (by omega)
      simpa [f, h1] using h2
set_option maxRecDepth 100000 in
theorem lifted (os : Os) (started : os.Started) (H : Type) (enc : TypeId × Value → H) :
    ReturnsInHanded {} Tryd.checked os 7 .any (fun w args => (Rows.oracleOversSpec.pre enc Tryd.prog Tryd.f7 [] false w args ∧ laidMetH Tryd.prog Mix.laid w) ∧ sizedMet enc Tryd.prog Tryd.f7 (OpenSpec.ofChange Rows.oracleOversSpec) false w args)
      (Rows.oracleOversSpec.post enc Tryd.prog Tryd.f7 false true false false) := by
  refine returnsInHanded_of_change_and (C := Tryd.checked) (X := fun w _ => laidMetH Tryd.prog Mix.laid w) (fun _ _ _ hh h => h.of_heap hh) Mix.own started (by kernel_rfl) Tryd.func7
    (ChangeSpec.witness_shaped (enc := enc) (C := Tryd.checked) (os := os) (X := fun w _ => laidMetH Tryd.prog Mix.laid w) false (World.doorLaid Tryd.prog 400 os) #[.slice none 0 0, .int .u64 0, .string ⟨#[]⟩] 8 rfl (World.shaped_of_RefB (by kernel_rfl) (by kernel_rfl)) (by kernel_rfl) (by kernel_rfl) (by kernel_rfl) (Mix.door_met os _)) ?_
  intro W base args ds gs before hval0 hW hcnd hsz0 hL _
  have hsz : (DataW.weightsEach Tryd.prog (Tryd.f7.params.toList ++ Rows.oracleOversSpec.plain.varTypes Tryd.prog) (ds ++ gs)).all (· ≤ reachBytes) = true := hsz0
  have hval : ∀ (j : Nat) t v, Tryd.f7.params[j]? = some t → args[j]? = some v → Value.okWide Tryd.prog W .any base t v := hval0
  have hW' := hW
  obtain ⟨p, q, hA0, hV, rfl, hfz, hnd⟩ := hW
  have hA : DataW.TrodAll enc Tryd.prog W 0 (fun _ => true) true Tryd.f7.params.toList args.toList ds p := hA0
  rw [Tryd.params7] at hA hval hsz
  obtain ⟨v0, vs0, d0, ds0, p0, q0, hargs, rfl, rfl, h0, r0⟩ := trodAll_cons hA
  obtain ⟨v1, vs1, d1, ds1, p1, q1, rfl, rfl, rfl, h1, r1⟩ := trodAll_cons r0
  obtain ⟨v2, vs2, d2, ds2, p2, q2, rfl, rfl, rfl, h2, r2⟩ := trodAll_cons r1
  obtain ⟨rfl, rfl, rfl⟩ := trodAll_nil r2
  obtain rfl : args = #[v0, v1, v2] := by cases args; simp_all
  obtain ⟨rfl, rfl⟩ := trodVars_none hV
  obtain ⟨a1, rfl, rfl, rfl, w1⟩ := open_int Tryd.underlying22 (hval 1 22 v1 rfl rfl) h1
  obtain ⟨s2, rfl, rfl, rfl, w2⟩ := open_string Tryd.underlying9 (hval 2 9 v2 rfl rfl) h2
  have hlen := sized_string hsz (j := 2) rfl rfl
  have hsize : s2.size < 9223372036854775807 := Nat.lt_of_le_of_lt hlen (by unfold reachBytes; omega)
  have hlt : ∀ x ∈ p0, x.block < W.heap.size := fun x hx => by have := hW'.lt x (by simp [hx]); simpa using this
  have t0 : ∀ (W' : World), Below W.heap.size W W' → DataW.Trod enc Tryd.prog W' 0 (fun b => decide (b < W.heap.size)) true 28 v0 d0 p0 :=
    fun W' hn => Below.trod laidOut (by kernel_rfl) (of_decide_eq_true (by kernel_rfl)) h0 hn hlt
  obtain ⟨ao, l, c, b, o, rfl, hs, hk, hw, hd⟩ := open_ovs (okWide_slice Tryd.underlying28 (hval 0 28 v0 rfl rfl)) h0
  have hb : l.length * 24 ≤ 140737488351232 := by
    rcases hd with ⟨_, rfl⟩ | ⟨es, sp, rfl, he⟩
    · simp
    · have := sized_slice hsz (j := 0) (t := 28) (e := 44) rfl rfl Tryd.underlying28
      rw [bytes44, he] at this
      simp only [reachBytes] at this
      omega
  obtain ⟨l0, l1⟩ := Mix.of_laid hL
  clear hA0 hval0 hsz0 hsz
  have walk : Calls Tryd.prog 7 #[.slice ao l.length c, .int .u64 a1, .string s2] W fun e w' => e = .returned (.bool true) ∧ Below W.heap.size W w' := by
    by_cases hm : 64 < l.length
    · exact overs_many W ao l c b o a1 s2 hs hw hb hm hsize l0 l1
    · exact overs_few W ao l c b o a1 s2 hs hw hb (by omega) hk hsize l0 l1
  refine walk.mono fun e W' ⟨he, bel⟩ => ?_
  subst he
  exact ⟨_, rfl, _, _, _, [], _, [], hW', trodAll_mk1 (shut_bool Tryd.underlying4 _), (trodAll_cons_mk (t0 W' bel) (trodAll_cons_mk (shut_int Tryd.underlying22 w1) (trodAll_cons_mk (shut_string Tryd.underlying9 w2) trodAll_mk0))), rfl, bel.frame _, fun h => by cases h⟩
theorem over : Rows.OracleOversSaid :=
  OpenClaim.holds_of_wide 7 Tryd.f7 rfl rfl rfl rfl rfl rfl rfl ⟨rfl, rfl, rfl, rfl, rfl⟩ rfl rfl rfl rfl rfl (by kernel_rfl) Tryd.func7 (by kernel_rfl)
    (of_decide_eq_true (by kernel_rfl)) (by unfold Func.isWrapper; first | (rw [if_pos (by decide +kernel)]; kernel_rfl) | (rw [if_neg (by decide +kernel)]; exact ⟨rfl, rfl⟩))
    (fun os started H enc _ => lifted os started H enc)
end Go.Proofs.YtabdkfmfenpkjaaDoor.ov
namespace Go.Proofs.YtabdkfmfenpkjaaDoor
theorem oracleOvers_holds : Rows.OracleOversSaid := ov.over
#print axioms oracleOvers_holds
end Go.Proofs.YtabdkfmfenpkjaaDoor
