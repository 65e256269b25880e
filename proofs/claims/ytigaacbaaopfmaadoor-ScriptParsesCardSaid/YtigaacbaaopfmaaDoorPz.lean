/- ScriptParses holds: every text's script, line and error are the document's, and so are those of its beginnings. Where the six tables read as the program lays them. -/
import Derived.Test.YtigaacbaaopfmaaDoorRw
import Derived.Test.YtigaacbaaopfmaaDoorRz
import Derived.ChangeMaps5
import Derived.ChangeSlices
import Derived.Lib.LaidU8
namespace Go.Proofs.YtigaacbaaopfmaaDoor.sh
open Go.ChangeShapes Go.WideShapes Go.ChangeAt Go.RowKit
open Go.ChangeMaps (open_string)
set_option linter.unusedVariables false
set_option linter.unusedSimpArgs false
/-- What a row's six listed tables give. -/
theorem of_laid6 {W : World} (h : laidMetH Tryd.prog Rows.scriptParsesRow.laid W) (hsh : W.ShapedOpen Tryd.prog) : Bs W ∧ Rowz W := by
  rw [MakeChecks.laidMetH_plain _ _ _ (by kernel_rfl)] at h
  obtain ⟨ps, ⟨_, _, _, _, _, _, _, _, _, _, ⟨g2, t2, cs2, f2, p2, q2, hg2, ht2, hv2, hd2, ⟨g3, t3, cs3, f3, p3, q3, hg3, ht3, hv3, hd3, ⟨g5, t5, cs5, f5, p5, q5, hg5, ht5, hv5, hd5, ⟨_, _, _, _, _, _, _, _, _, _, ⟨g7, t7, cs7, f7, p7, q7, hg7, ht7, hv7, hd7, _⟩, _⟩, _⟩, _⟩, _⟩, _⟩, _, _⟩ := h
  obtain rfl := Option.some.inj (gDb.symm.trans hg2)
  obtain rfl := Option.some.inj (tDb.symm.trans ht2)
  obtain rfl := Option.some.inj (gPow.symm.trans hg3)
  obtain rfl := Option.some.inj (tPow.symm.trans ht3)
  obtain rfl := Option.some.inj (gEr.symm.trans hg5)
  obtain rfl := Option.some.inj (tEr.symm.trans ht5)
  obtain rfl := Option.some.inj (gRows.symm.trans hg7)
  obtain rfl := Option.some.inj (tRows.symm.trans ht7)
  have hz := rowz_of hv7 hd7
  have hc3 := Lib.cells_of_tab (zs := Lib.pow10Tab) Tryd.underlying158 Tryd.underlying32 cells32 cells158 (show DataW.trod _ Tryd.prog W 0 _ false f3 158 _ = some (Lib.tabData .u64 Lib.pow10Tab, p3) from hd3)
  refine ⟨⟨⟨⟨fun i hi => ?_, ?_⟩, ?_⟩, ?_, Tryd.laysM219.s1_3 W hsh⟩, hz⟩
  · obtain ⟨cs, t, fr, h1, h2, h3⟩ := hz
    unfold World.cell?
    rw [h1]
    exact (h3 i hi).1
  · show W.var? Tryd.prog "internal/strconv.uint64pow10" = _
    rw [hv3, ← hc3]
  · have hc2 := Lib.cells_of_tab (zs := (Lib.deBruijn64tab.map fun z : Nat => (z : Int))) Tryd.underlying178 Tryd.underlying5 cells5 cells178 (show DataW.trod _ Tryd.prog W 0 _ false f2 178 _ = some (Lib.tabData .u8 (Lib.deBruijn64tab.map fun z : Nat => (z : Int)), p2) from hd2)
    have := World.var?_cell hg2 hv2 15
    rw [this]
    have e2 : cs2[15]? = cs2.toList[15]? := by simp
    rw [e2, hc2]
    rfl
  · obtain ⟨u, v, e⟩ := iface_of Tryd.underlying65 hd5
    refine ⟨u, v, ?_⟩
    have := World.var?_cell hg5 hv5 0
    rw [this]
    have e2 : cs5[0]? = cs5.toList[0]? := by simp
    rw [e2, e]; rfl
/-- A slice of numbers that came in. -/
theorem open_ivs {H : Type} {enc : TypeId × Value → H} {W : World} {v : Value} {d : DataW H} {p : List MemPlace} (hv : ∃ ao n c, v = .slice ao n c) (h : DataW.Trod enc Tryd.prog W 0 (fun _ => true) true 35 v d p) :
    ∃ ao l c b o, v = .slice ao l.length c ∧ SW W 1 ao l.length c b o (iv l) ∧ ((d = .nil ∧ l = []) ∨ ∃ es sp, d = .slice es sp ∧ es.length = l.length) := by
  obtain ⟨ao, n, c, rfl⟩ := hv
  obtain ⟨fuel, hf⟩ := h
  rcases open_ints Tryd.underlying35 Tryd.underlying3 cells3 hf with ⟨hcs, hx⟩ | ⟨a, len, cap, zs, hcs, _, hl, hm, hz, hx, hc, _⟩
  · simp [Value.cells] at hcs
    obtain ⟨rfl, rfl, rfl⟩ := hcs
    simp only [Prod.mk.injEq] at hx
    exact ⟨none, [], 0, 0, 0, rfl, ⟨by simp [iv], .inl rfl, fun _ => rfl, Nat.le_refl _, fun j u hj => by simp [iv] at hj⟩, .inl ⟨hx.1, rfl⟩⟩
  · simp [Value.cells] at hcs
    obtain ⟨rfl, rfl, rfl⟩ := hcs
    simp only [Prod.mk.injEq] at hx
    simp only [if_true] at hz
    have hlt : (zs.take n).length = n := by rw [List.length_take]; omega
    have hspot : 0 < n → a.spot = none := fun hn => by simpa [Addr.add] using World.cell?_spot (hc 0 (by omega))
    obtain ⟨b, off, spot⟩ := a
    refine ⟨some ⟨b, off, spot⟩, zs.take n, c, b, off, by rw [hlt], ⟨by rw [iv_len]; omega, ?_, (fun e => by cases e), by omega, fun j u hj => ?_⟩, .inr ⟨_, _, hx.1, by simp [lits]⟩⟩
    · by_cases hn : n = 0
      · left; omega
      · right
        have : spot = none := hspot (by omega)
        rw [this]
    · rw [iv, List.getElem?_map] at hj
      obtain ⟨x, hx1, rfl⟩ := Option.map_eq_some_iff.1 hj
      have hjn : j < n := by have := (List.getElem?_eq_some_iff.1 hx1).1; omega
      have hsp : spot = none := hspot (by omega)
      subst hsp
      have := hc j (by omega)
      have e : (⟨b, off, none⟩ : Addr).add j = ⟨b, off + j, none⟩ := by unfold Addr.add; split <;> simp_all
      rw [e] at this
      rw [this]
      rw [List.getElem?_take, if_pos hjn] at hx1
      rw [List.getD_eq_getElem?_getD, hx1]; rfl
theorem bytes3 : Tryd.prog.bytesOf 3 = 8 := by kernel_rfl
set_option maxRecDepth 100000 in
theorem prs_contract (H : Type) (enc : TypeId × Value → H) (W : World) (args : Array Value) (ds gs : List (DataW H)) (before : List MemPlace)
    (hval : ∀ (j : Nat) t v, Tryd.f5.params[j]? = some t → args[j]? = some v → Value.okWide Tryd.prog W .any 0 t v)
    (hW : DataW.Whole enc Tryd.prog Tryd.f5.params.toList Rows.scriptParsesSpec.vars false W args.toList ds gs before)
    (hsz0 : (DataW.weightsEach Tryd.prog (Tryd.f5.params.toList ++ Rows.scriptParsesSpec.plain.varTypes Tryd.prog) (ds ++ gs)).all (· ≤ reachBytes) = true)
    (hL : laidMetH Tryd.prog Rows.scriptParsesRow.laid W) (hsh : W.ShapedOpen Tryd.prog) :
    Calls Tryd.prog 5 args W fun e W' => ∃ v, e = .returned v ∧ Rows.scriptParsesSpec.post enc Tryd.prog Tryd.f5 false true false false W args v W' := by
  have hW' := hW
  obtain ⟨p, q, hA0, hV, rfl, hfz, hnd⟩ := hW
  have hA : DataW.TrodAll enc Tryd.prog W 0 (fun _ => true) true Tryd.f5.params.toList args.toList ds p := hA0
  have hsz : (DataW.weightsEach Tryd.prog (Tryd.f5.params.toList ++ Rows.scriptParsesSpec.plain.varTypes Tryd.prog) (ds ++ gs)).all (· ≤ reachBytes) = true := hsz0
  rw [Tryd.params5] at hA hval hsz
  obtain ⟨v0, vs0, d0, ds0, p0, q0, hargs, rfl, rfl, h0, r0⟩ := trodAll_cons hA
  obtain ⟨v1, vs1, d1, ds1, p1, q1, rfl, rfl, rfl, h1, r1⟩ := trodAll_cons r0
  obtain ⟨rfl, rfl, rfl⟩ := trodAll_nil r1
  obtain rfl : args = #[v0, v1] := by cases args; simp_all
  obtain ⟨rfl, rfl⟩ := trodVars_none hV
  have hlt0 : ∀ x ∈ p0, x.block < W.heap.size := fun x hx => by have := hW'.lt x (by simp [hx]); simpa using this
  have hlt1 : ∀ x ∈ p1, x.block < W.heap.size := fun x hx => by have := hW'.lt x (by simp [hx]); simpa using this
  have t0 : ∀ (W' : World), Below W.heap.size W W' → DataW.Trod enc Tryd.prog W' 0 (fun b => decide (b < W.heap.size)) true 9 v0 d0 p0 :=
    fun W' hn => Below.trod laidOut (by kernel_rfl) (of_decide_eq_true (by kernel_rfl)) h0 hn hlt0
  have t1 : ∀ (W' : World), Below W.heap.size W W' → DataW.Trod enc Tryd.prog W' 0 (fun b => decide (b < W.heap.size)) true 35 v1 d1 p1 :=
    fun W' hn => Below.trod laidOut (by kernel_rfl) (of_decide_eq_true (by kernel_rfl)) h1 hn hlt1
  obtain ⟨s, rfl, rfl, _⟩ := open_string Tryd.underlying9 (hval 0 9 v0 rfl rfl) h0
  obtain ⟨ao, l, c, b, o, rfl, hs, hd⟩ := open_ivs (okWide_slice Tryd.underlying35 (hval 1 35 v1 rfl rfl)) h1
  have hl : l.length ≤ 1000000000000000 := by
    rcases hd with ⟨_, rfl⟩ | ⟨es, sp, rfl, he⟩
    · simp
    · have := sized_slice hsz (j := 1) (t := 35) (e := 3) rfl rfl Tryd.underlying35
      rw [bytes3, he] at this
      simp only [reachBytes] at this
      omega
  obtain ⟨hb, hr⟩ := of_laid6 hL hsh
  clear hA0 hsz0 hsz
  refine (parses5 W hb hr s ao l c b o hs hl).mono fun e W' ⟨he, bel⟩ => ?_
  subst he
  exact ⟨_, rfl, _, _, _, [], _, [], hW', trodAll_mk1 (shut_bool Tryd.underlying4 _), (trodAll_cons_mk (t0 W' bel) (trodAll_cons_mk (t1 W' bel) trodAll_mk0)), rfl, bel.frame _, fun h => by cases h⟩
noncomputable def prsWorld (os : Os) : World := World.doorLaid Tryd.prog 4000 os
theorem prs_met (os : Os) (args : Array Value) : laidMetH Tryd.prog Rows.scriptParsesRow.laid ((prsWorld os).forCall (fun _ _ => 0) ⟨#[], args, []⟩).memory :=
  laidMetH_of_parts3 (fuel := 8) (laidMet_of_run' 8 (by kernel_rfl) (by kernel_rfl)) (by kernel_rfl) (by kernel_rfl)
def prsWit : Array Value := #[.string ⟨#[]⟩, .slice none 0 0]
set_option maxRecDepth 100000 in
theorem prs_lifted (os : Os) (started : os.Started) (H : Type) (enc : TypeId × Value → H) (F : Stop.Interp) :
    ReturnsInHanded {} Tryd.checked os 5 .any ((OpenSpec.ofChange Rows.scriptParsesSpec).preRow enc Tryd.prog Tryd.f5 Rows.scriptParsesRow.domain false Rows.scriptParsesRow.laid) (((OpenSpec.ofChange Rows.scriptParsesSpec).at F).post enc Tryd.prog Tryd.f5 false true false false) := by
  refine returnsInHanded_of_row (C := Tryd.checked) (s := OpenSpec.ofChange Rows.scriptParsesSpec) own started (by kernel_rfl) Tryd.func5
    (witness_row_atRef (enc := enc) (C := Tryd.checked) false (prsWorld os) prsWit rfl (by kernel_rfl) (by kernel_rfl) (by kernel_rfl)
      (OpenSpec.preRow_of_B rfl 8 (by kernel_rfl) (by kernel_rfl) (prs_met os _))) ?_
  intro W base args ds gs before hval hW _ _ hsz hL hsh _
  exact prs_contract H enc W args ds gs before (fun j t v h1 h2 => hval j t v h1 h2) hW hsz hL hsh
theorem prs_over : Rows.ScriptParsesSaid :=
  OpenClaim.holds_of_wide 5 Tryd.f5 rfl rfl rfl rfl rfl rfl rfl ⟨rfl, rfl, rfl, rfl, rfl⟩ rfl rfl rfl rfl rfl (by kernel_rfl) Tryd.func5 (by kernel_rfl)
    (of_decide_eq_true (by kernel_rfl)) (by unfold Func.isWrapper; first | (rw [if_pos (by decide +kernel)]; kernel_rfl) | (rw [if_neg (by decide +kernel)]; exact ⟨rfl, rfl⟩))
    (fun os started H enc _ => by rw [OpenClaim.pre_eq_preRow]; exact prs_lifted os started H enc default)
end Go.Proofs.YtigaacbaaopfmaaDoor.sh
namespace Go.Proofs.YtigaacbaaopfmaaDoor
theorem scriptParses_holds : Rows.ScriptParsesSaid := sh.prs_over
#print axioms scriptParses_holds
end Go.Proofs.YtigaacbaaopfmaaDoor
