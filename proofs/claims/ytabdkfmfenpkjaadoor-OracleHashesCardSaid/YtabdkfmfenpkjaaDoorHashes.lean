/- OracleHashes holds: two oracles beside one another: New's error, and every hash that is asked of either, is the document's; the caller's list is neither changed nor kept. For every two lists of overrides and every list of asks, where the two multipliers read as the program lays them. -/
import Derived.Test.YtabdkfmfenpkjaaDoorOvers
import Derived.Test.YtabdkfmfenpkjaaDoorHsWalk
import Derived.Deep.Strs
namespace Go.Proofs.YtabdkfmfenpkjaaDoor.hashes
open Go.ChangeShapes Go.WideShapes Go.ChangeAt Go.RowKit Go.Deep ov Go.Proofs.YtabdkfmfenpkjaaDoorW.PrintWords
open Go.ChangeMaps (open_string shut_string)
set_option linter.unusedVariables false
instance : Inhabited ov.Ask := ⟨⟨0, 0, ⟨#[]⟩⟩⟩
theorem cells38 : Tryd.prog.cellsOf 38 = 3 := by kernel_rfl
theorem cells3 : Tryd.prog.cellsOf 3 = 1 := by kernel_rfl
theorem bytes38 : Tryd.prog.bytesOf 38 = 32 := by kernel_rfl
/-- One ask's three cells. -/
theorem open_ask {H : Type} {enc : TypeId × Value → H} {W : World} {sp : Nat → Bool} {held : Bool} {n : Nat} {cs : List Value} {x : DataW H × List MemPlace} (hl : cs.length = 3) (h : DataW.trod enc Tryd.prog W 0 sp held n 38 cs = some x) :
    ∃ a : ov.Ask, cs = [.int .i64 a.m, .int .u64 a.seed, .string a.key] ∧ (Lit.int .u64 a.seed).wf = true ∧ ∃ d0 d1, x.1 = .agg [d0, d1, .lit (.string a.key.data.toList)] := by
  obtain ⟨y0, y1, y2, k, rfl, _, h0, h1, h2⟩ := trod_struct3 Tryd.underlying38 h
  match cs, hl with
  | [c0, c1, c2], _ =>
    rw [cells3] at h0
    rw [cells22] at h1
    rw [cells9] at h2
    obtain ⟨q0, e0, _, _⟩ := DataW.trod_int Tryd.underlying3 (show DataW.trod _ Tryd.prog W 0 sp held k 3 [c0] = some y0 from h0)
    obtain ⟨q1, e1, _, f1⟩ := DataW.trod_int Tryd.underlying22 (show DataW.trod _ Tryd.prog W 0 sp held k 22 [c1] = some y1 from h1)
    obtain ⟨s, e2, f2, _⟩ := DataW.trod_string Tryd.underlying9 (show DataW.trod _ Tryd.prog W 0 sp held k 9 [c2] = some y2 from h2)
    simp only [List.cons.injEq, and_true] at e0 e1 e2
    subst e0 e1 e2
    exact ⟨⟨q0, q1, s⟩, rfl, f1, y0.1, y1.1, by rw [f2]⟩
/-- A slice of asks that came in. -/
theorem open_asks {H : Type} {enc : TypeId × Value → H} {W : World} {v : Value} {d : DataW H} {p : List MemPlace}
    (hv : ∃ ao n c, v = .slice ao n c) (h : DataW.Trod enc Tryd.prog W 0 (fun _ => true) true 29 v d p) :
    ∃ ao l c b o, v = .slice ao (List.length (α := ov.Ask) l) c ∧ Sas W ao l b o ∧ (∀ (j : Nat) (x : ov.Ask), l[j]? = some x → (Lit.int .u64 x.seed).wf = true) ∧
      ((d = .nil ∧ l = []) ∨ ∃ es sp, d = .slice es sp ∧ es.length = l.length ∧ ∀ (j : Nat) (x : ov.Ask), l[j]? = some x → ∃ d0 d1, DataW.agg [d0, d1, .lit (.string x.key.data.toList)] ∈ es) := by
  obtain ⟨ao, n, c, rfl⟩ := hv
  obtain ⟨fuel, hf⟩ := h
  rcases open_slice Tryd.underlying29 hf with ⟨hcs, hx⟩ | ⟨a, len, cap, m, k, D, Pl, hcs, _, hl, hm, hmm, hx, hall⟩
  · simp [Value.cells] at hcs
    obtain ⟨rfl, rfl, rfl⟩ := hcs
    simp only [Prod.mk.injEq] at hx
    exact ⟨none, [], 0, 0, 0, rfl, ⟨.inl rfl, fun j x hj => (by simp at hj), fun j x hj => (by simp at hj), fun j x hj => (by simp at hj)⟩, fun j x hj => (by simp at hj), .inl ⟨hx.1, rfl⟩⟩
  · simp [Value.cells] at hcs
    obtain ⟨rfl, rfl, rfl⟩ := hcs
    simp only [Prod.mk.injEq] at hx
    simp only [if_true] at hmm
    have each : ∀ i, i < m → ∃ q : ov.Ask, W.cell? (a.add (i * 3)) = some (.int .i64 q.m) ∧ W.cell? (a.add (i * 3 + 1)) = some (.int .u64 q.seed) ∧ W.cell? (a.add (i * 3 + 2)) = some (.string q.key) ∧ (Lit.int .u64 q.seed).wf = true ∧
        ∃ d0 d1, D i = .agg [d0, d1, .lit (.string q.key.data.toList)] := by
      intro i hi
      obtain ⟨cs', h1, h2⟩ := hall i hi
      rw [cells38] at h1
      obtain ⟨_, hlen, hcell⟩ := World.cells?_some h1
      obtain ⟨q, rfl, hw, d0, d1, hd⟩ := open_ask hlen h2
      have e0 := hcell 0 (by omega)
      have e1 := hcell 1 (by omega)
      have e2 := hcell 2 (by omega)
      rw [Deep.add_add] at e0 e1 e2
      exact ⟨q, by simpa using e0, by simpa using e1, by simpa using e2, hw, d0, d1, hd⟩
    obtain ⟨q, hq⟩ := choose_lt each
    have hlen : ((List.range n).map q).length = n := by simp
    have hget : ∀ (j : Nat) (x : ov.Ask), ((List.range n).map q)[j]? = some x → j < n ∧ x = q j := fun j x hj => by
      have hjn : j < n := by have := (List.getElem?_eq_some_iff.1 hj).1; rwa [hlen] at this
      refine ⟨hjn, ?_⟩
      rw [List.getElem?_map, List.getElem?_range hjn] at hj
      exact (Option.some.inj hj).symm
    have hspot : 0 < n → a.spot = none := fun hn => by simpa [Addr.add] using World.cell?_spot (hq 0 (by omega)).1
    obtain ⟨b, off, spot⟩ := a
    have hplain : ∀ j, j < n → ∀ i, (⟨b, off, spot⟩ : Addr).add i = ⟨b, off + i, none⟩ := fun j hj i => by
      have : spot = none := hspot (by omega)
      subst this
      exact add_plain _ _ _
    refine ⟨some ⟨b, off, spot⟩, (List.range n).map q, c, b, off, by rw [hlen], ⟨?_, fun j x hj => ?_, fun j x hj => ?_, fun j x hj => ?_⟩, fun j x hj => ?_, .inr ⟨_, _, hx.1, by simp, fun j x hj => ?_⟩⟩
    · by_cases hn : n = 0
      · left; subst hn; rfl
      · right
        have : spot = none := hspot (by omega)
        rw [this]
    · obtain ⟨hjn, rfl⟩ := hget j x hj
      have := (hq j (by omega)).1
      rwa [hplain j hjn] at this
    · obtain ⟨hjn, rfl⟩ := hget j x hj
      have := (hq j (by omega)).2.1
      rw [hplain j hjn] at this
      rw [Nat.add_assoc]; exact this
    · obtain ⟨hjn, rfl⟩ := hget j x hj
      have := (hq j (by omega)).2.2.1
      rw [hplain j hjn] at this
      rw [Nat.add_assoc]; exact this
    · obtain ⟨hjn, rfl⟩ := hget j x hj
      exact (hq j (by omega)).2.2.2.1
    · obtain ⟨hjn, rfl⟩ := hget j x hj
      obtain ⟨d0, d1, hd⟩ := (hq j (by omega)).2.2.2.2
      refine ⟨d0, d1, ?_⟩
      rw [← hd, List.mem_map]
      exact ⟨j, List.mem_range.2 hjn, rfl⟩
theorem weightsAll_mem {H : Type} {P : Program} {e : TypeId} : ∀ {l : List (DataW H)} {d : DataW H}, d ∈ l → ∀ n ∈ d.weights P e, n ∈ DataW.weightsAll P e l
  | d' :: r, d, hd, n, hn => by
    simp only [DataW.weightsAll, List.mem_append]
    rcases List.mem_cons.1 hd with rfl | h
    · exact Or.inl hn
    · exact Or.inr (weightsAll_mem h n hn)
theorem key_reach {H : Type} {ts : List TypeId} {ds : List (DataW H)} (h : (DataW.weightsEach Tryd.prog ts ds).all (· ≤ reachBytes) = true) {j : Nat} {elems spare : List (DataW H)} {d0 d1 : DataW H} {bs : List UInt8}
    (ht : ts[j]? = some 29) (hd : ds[j]? = some (.slice elems spare)) (hx : DataW.agg [d0, d1, .lit (.string bs)] ∈ elems) : bs.length ≤ reachBytes := by
  refine of_decide_eq_true (List.all_eq_true.1 h _ (DataW.weights_mem_each ht hd _ ?_))
  simp only [DataW.weights, Tryd.underlying29, List.mem_cons, List.mem_append]
  exact Or.inr (Or.inl (weightsAll_mem hx _ (by simp [DataW.weights, DataW.weightsEach, Tryd.underlying38])))
set_option maxRecDepth 100000 in
set_option maxHeartbeats 2000000 in
theorem lifted (os : Os) (started : os.Started) (H : Type) (enc : TypeId × Value → H) :
    ReturnsInHanded {} Tryd.checked os 6 .any (fun w args => (Rows.oracleHashesSpec.pre enc Tryd.prog Tryd.f6 [] false w args ∧ laidMetH Tryd.prog Mix.laid w) ∧ sizedMet enc Tryd.prog Tryd.f6 (OpenSpec.ofChange Rows.oracleHashesSpec) false w args)
      (Rows.oracleHashesSpec.post enc Tryd.prog Tryd.f6 false true false false) := by
  refine returnsInHanded_of_change_and (C := Tryd.checked) (X := fun w _ => laidMetH Tryd.prog Mix.laid w) (fun _ _ _ hh h => h.of_heap hh) Mix.own started (by kernel_rfl) Tryd.func6
    (ChangeSpec.witness_shaped (enc := enc) (C := Tryd.checked) (os := os) (X := fun w _ => laidMetH Tryd.prog Mix.laid w) false (World.doorLaid Tryd.prog 400 os) #[.slice none 0 0, .slice none 0 0, .slice none 0 0] 8 rfl (World.shaped_of_RefB (by kernel_rfl) (by kernel_rfl)) (by kernel_rfl) (by kernel_rfl) (by kernel_rfl) (Mix.door_met os _)) ?_
  intro W base args ds gs before hval0 hW hcnd hsz0 hL _
  have hsz : (DataW.weightsEach Tryd.prog (Tryd.f6.params.toList ++ Rows.oracleHashesSpec.plain.varTypes Tryd.prog) (ds ++ gs)).all (· ≤ reachBytes) = true := hsz0
  have hval : ∀ (j : Nat) t v, Tryd.f6.params[j]? = some t → args[j]? = some v → Value.okWide Tryd.prog W .any base t v := hval0
  have hW' := hW
  obtain ⟨p, q, hA0, hV, rfl, hfz, hnd⟩ := hW
  have hA : DataW.TrodAll enc Tryd.prog W 0 (fun _ => true) true Tryd.f6.params.toList args.toList ds p := hA0
  rw [Tryd.params6] at hA hval hsz
  obtain ⟨v0, vs0, d0, ds0, p0, q0, hargs, rfl, rfl, h0, r0⟩ := trodAll_cons hA
  obtain ⟨v1, vs1, d1, ds1, p1, q1, rfl, rfl, rfl, h1, r1⟩ := trodAll_cons r0
  obtain ⟨v2, vs2, d2, ds2, p2, q2, rfl, rfl, rfl, h2, r2⟩ := trodAll_cons r1
  obtain ⟨rfl, rfl, rfl⟩ := trodAll_nil r2
  obtain rfl : args = #[v0, v1, v2] := by cases args; simp_all
  obtain ⟨rfl, rfl⟩ := trodVars_none hV
  have hlt : ∀ x ∈ p0 ++ (p1 ++ (p2 ++ [])), x.block < W.heap.size := fun x hx => by have := hW'.lt x (by simpa using hx); simpa using this
  have t0 : ∀ (W' : World), Below W.heap.size W W' → DataW.Trod enc Tryd.prog W' 0 (fun b => decide (b < W.heap.size)) true 28 v0 d0 p0 :=
    fun W' hn => Below.trod laidOut (by kernel_rfl) (of_decide_eq_true (by kernel_rfl)) h0 hn (fun x hx => hlt x (by simp [hx]))
  have t1 : ∀ (W' : World), Below W.heap.size W W' → DataW.Trod enc Tryd.prog W' 0 (fun b => decide (b < W.heap.size)) true 28 v1 d1 p1 :=
    fun W' hn => Below.trod laidOut (by kernel_rfl) (of_decide_eq_true (by kernel_rfl)) h1 hn (fun x hx => hlt x (by simp [hx]))
  have t2 : ∀ (W' : World), Below W.heap.size W W' → DataW.Trod enc Tryd.prog W' 0 (fun b => decide (b < W.heap.size)) true 29 v2 d2 p2 :=
    fun W' hn => Below.trod laidOut (by kernel_rfl) (of_decide_eq_true (by kernel_rfl)) h2 hn (fun x hx => hlt x (by simp [hx]))
  obtain ⟨ao1, l1, c1, b1, o1, rfl, hs1, hk1, hw1, hd1⟩ := open_ovs (okWide_slice Tryd.underlying28 (hval 0 28 v0 rfl rfl)) h0
  obtain ⟨ao2, l2, c2, b2, o2, rfl, hs2, hk2, hw2, hd2⟩ := open_ovs (okWide_slice Tryd.underlying28 (hval 1 28 v1 rfl rfl)) h1
  obtain ⟨ao3, l3, c3, b3, o3, rfl, hs3, hw3, hd3⟩ := open_asks (okWide_slice Tryd.underlying29 (hval 2 29 v2 rfl rfl)) h2
  have m1 : l1.length * 24 ≤ 140737488351232 := by
    rcases hd1 with ⟨_, rfl⟩ | ⟨es, sp, rfl, he⟩
    · simp
    · have := sized_slice hsz (j := 0) (t := 28) (e := 44) rfl rfl Tryd.underlying28
      rw [bytes44, he] at this
      simp only [reachBytes] at this
      omega
  have m2 : l2.length * 24 ≤ 140737488351232 := by
    rcases hd2 with ⟨_, rfl⟩ | ⟨es, sp, rfl, he⟩
    · simp
    · have := sized_slice hsz (j := 1) (t := 28) (e := 44) rfl rfl Tryd.underlying28
      rw [bytes44, he] at this
      simp only [reachBytes] at this
      omega
  have m3 : l3.length * 32 ≤ 140737488351232 := by
    rcases hd3 with ⟨_, rfl⟩ | ⟨es, sp, rfl, he, _⟩
    · simp
    · have := sized_slice hsz (j := 2) (t := 29) (e := 38) rfl rfl Tryd.underlying29
      rw [bytes38, he] at this
      simp only [reachBytes] at this
      omega
  have hask : ∀ (j : Nat) (x : ov.Ask), l3[j]? = some x → ref.In64 x.seed ∧ x.key.size < 9223372036854775807 := fun j x hj => by
    refine ⟨apart.wf_u64 (hw3 j x hj), ?_⟩
    rcases hd3 with ⟨_, rfl⟩ | ⟨es, sp, rfl, he, hmem⟩
    · simp at hj
    · obtain ⟨y0, y1, hy⟩ := hmem j x hj
      have := key_reach hsz (j := 2) rfl rfl hy
      have hsz' : x.key.data.toList.length = x.key.size := rfl
      rw [hsz'] at this
      simp only [reachBytes] at this
      omega
  obtain ⟨g0, g1⟩ := Mix.of_laid hL
  clear hA0 hval0 hsz0 hsz
  have walk : Calls Tryd.prog 6 #[.slice ao1 l1.length c1, .slice ao2 l2.length c2, .slice ao3 l3.length c3] W fun e w' => e = .returned (.bool true) ∧ Below W.heap.size W w' := by
    by_cases n1 : ncode l1 = 0 <;> by_cases n2 : ncode l2 = 0
    · exact hashes_11 W ao1 ao2 ao3 l1 l2 l3 c1 b1 o1 c2 b2 o2 c3 b3 o3 hs1 hs2 hs3 hw1 hw2 hask m1 m2 m3 n1 n2 g0 g1
    · exact hashes_10 W ao1 ao2 ao3 l1 l2 l3 c1 b1 o1 c2 b2 o2 c3 b3 o3 hs1 hs2 hs3 hw1 hw2 hask m1 m2 m3 n1 n2 g0 g1
    · exact hashes_01 W ao1 ao2 ao3 l1 l2 l3 c1 b1 o1 c2 b2 o2 c3 b3 o3 hs1 hs2 hs3 hw1 hw2 hask m1 m2 m3 n1 n2 g0 g1
    · exact hashes_00 W ao1 ao2 ao3 l1 l2 l3 c1 b1 o1 c2 b2 o2 c3 b3 o3 hs1 hs2 hs3 hw1 hw2 hask m1 m2 m3 n1 n2 g0 g1
  refine walk.mono fun e W' ⟨he, bel⟩ => ?_
  subst he
  exact ⟨_, rfl, _, _, _, [], _, [], hW', trodAll_mk1 (shut_bool Tryd.underlying4 _), (trodAll_cons_mk (t0 W' bel) (trodAll_cons_mk (t1 W' bel) (trodAll_cons_mk (t2 W' bel) trodAll_mk0))), rfl, bel.frame _, fun h => by cases h⟩
theorem over : Rows.OracleHashesSaid :=
  OpenClaim.holds_of_wide 6 Tryd.f6 rfl rfl rfl rfl rfl rfl rfl ⟨rfl, rfl, rfl, rfl, rfl⟩ rfl rfl rfl rfl rfl (by kernel_rfl) Tryd.func6 (by kernel_rfl)
    (of_decide_eq_true (by kernel_rfl)) (by unfold Func.isWrapper; first | (rw [if_pos (by decide +kernel)]; kernel_rfl) | (rw [if_neg (by decide +kernel)]; exact ⟨rfl, rfl⟩))
    (fun os started H enc _ => lifted os started H enc)
end Go.Proofs.YtabdkfmfenpkjaaDoor.hashes
namespace Go.Proofs.YtabdkfmfenpkjaaDoor
theorem oracleHashes_holds : Rows.OracleHashesSaid := hashes.over
#print axioms oracleHashes_holds
end Go.Proofs.YtabdkfmfenpkjaaDoor
