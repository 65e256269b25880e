/- A program that came in: how it lies, that it is no greater than its bulk; what the three listed tables give. No walk here. -/
import Derived.Test.YthkmdmobeadigaaDoorRows
import Derived.Test.YthkmdmobeadigaaDoorXd
import Derived.ProofKit
import Derived.OpenShut
import Derived.ShutString
import Derived.ChangeOld
import Derived.SizedLaws
import Derived.LaidMore
import Derived.Stop.Joined
import Derived.MakeChecks
import Derived.Deep.DeepHandedRow
import Derived.Deep.DeepWitnessRowRef
import Derived.Lib.LaidTab
import Derived.Lib.TrailingZeros
import Derived.ChangeMaps5
import Derived.ChangeSlices
import Derived.Deep.SlicePairs
import Derived.Lib.SmallJoins
import Derived.Lib.LaidU8
namespace Go.Proofs.YthkmdmobeadigaaDoor.lg
open Go.ChangeShapes Go.WideShapes Go.ChangeAt Go.RowKit
set_option linter.unusedVariables false
set_option linter.unusedSimpArgs false
theorem own : ownKnob Tryd.prog.godebug = none := by kernel_rfl
theorem laidOut : laidOutB Tryd.prog = true := by kernel_rfl
theorem ce3 : Tryd.prog.cellsOf 3 = 1 := by kernel_rfl
theorem ce2 : Tryd.prog.cellsOf 2 = 1 := by kernel_rfl
theorem ce4 : Tryd.prog.cellsOf 4 = 1 := by kernel_rfl
theorem ce9 : Tryd.prog.cellsOf 9 = 1 := by kernel_rfl
theorem ce22 : Tryd.prog.cellsOf 22 = 1 := by kernel_rfl
theorem ce23 : Tryd.prog.cellsOf 23 = 1 := by kernel_rfl
theorem ce25 : Tryd.prog.cellsOf 25 = 2 := by kernel_rfl
theorem ce43 : Tryd.prog.cellsOf 43 = 1 := by kernel_rfl
theorem ce45 : Tryd.prog.cellsOf 45 = 5 := by kernel_rfl
theorem ce52 : Tryd.prog.cellsOf 52 = 7 := by kernel_rfl
theorem var_heap {W : World} {n : String} {g : Nat} {cs : Array Value} (hg : Tryd.prog.globalNamed n = some g) (h : W.var? Tryd.prog n = some cs) : ∃ t fr, W.heap[g]? = some (.cells cs t fr) := by
  unfold World.var? at h
  rw [hg] at h
  simp only [Option.bind_some] at h
  split at h
  · next cs' t fr e => rw [Option.some.inj h] at e; exact ⟨_, _, e⟩
  · cases h
def exsOf : List Ex → Exs
  | [] => .nil
  | x :: r => x.on (exsOf r)
def stsOf : List St → Sts
  | [] => .nil
  | x :: r => x.on (stsOf r)
theorem exsOf_len : ∀ l, (exsOf l).len = l.length
  | [] => rfl
  | x :: r => by show (exsOf r).len + 1 = _; rw [exsOf_len r]; rfl
theorem stsOf_len : ∀ l, (stsOf l).len = l.length
  | [] => rfl
  | x :: r => by show (stsOf r).len + 1 = _; rw [stsOf_len r]; rfl
theorem exsOf_ok : ∀ l : List Ex, (∀ x ∈ l, x.Ok) → (exsOf l).Ok
  | [], _ => trivial
  | x :: r, h => ⟨(h x (List.mem_cons_self ..)).kind, (h x (List.mem_cons_self ..)).num, (h x (List.mem_cons_self ..)).args, exsOf_ok r fun y hy => h y (List.mem_cons_of_mem _ hy)⟩
theorem stsOf_ok : ∀ l : List St, (∀ x ∈ l, x.Ok) → (stsOf l).Ok
  | [], _ => trivial
  | x :: r, h => ⟨(h x (List.mem_cons_self ..)).kind, (h x (List.mem_cons_self ..)).exprs, (h x (List.mem_cons_self ..)).body, (h x (List.mem_cons_self ..)).els, stsOf_ok r fun y hy => h y (List.mem_cons_of_mem _ hy)⟩
section
variable {H : Type} {enc : TypeId × Value → H} {W : World}
theorem exsOf_at : ∀ (l : List Ex) (b o : Nat), (∀ (i : Nat) (x : Ex), l[i]? = some x → AtE (fun _ => True) W b (o + i * 5) x) → LEs (fun _ => True) W b o (exsOf l)
  | [], _, _, _ => trivial
  | x :: r, b, o, h => by
    obtain ⟨-, h1, h2, h3, h4, va, h5, ao, c, b', o', rfl, h6, h7⟩ := h 0 x rfl
    simp only [Nat.zero_mul, Nat.add_zero] at h1 h2 h3 h4 h5
    exact ⟨trivial, ⟨h1, h2, h3, h4⟩, ⟨ao, c, b', o', h5, h6, h7⟩, exsOf_at r b (o + 5) fun i y hy => by
      have := h (i + 1) y hy
      rwa [show o + (i + 1) * 5 = o + 5 + i * 5 by omega] at this⟩
theorem stsOf_at : ∀ (l : List St) (b o : Nat), (∀ (i : Nat) (x : St), l[i]? = some x → AtS (fun _ => True) W b (o + i * 7) x) → LSs (fun _ => True) W b o (stsOf l)
  | [], _, _, _ => trivial
  | x :: r, b, o, h => by
    obtain ⟨-, h1, h2, h3, h4, ⟨va, h5, ao, c, b', o', rfl, h6, h7⟩, ⟨vb, i5, ao2, c2, b2, o2, rfl, i6, i7⟩, ⟨vf, j5, ao3, c3, b3, o3, rfl, j6, j7⟩⟩ := h 0 x rfl
    simp only [Nat.zero_mul, Nat.add_zero] at h1 h2 h3 h4 h5 i5 j5
    exact ⟨trivial, ⟨h1, h2, h3, h4⟩, ⟨ao, c, b', o', h5, h6, h7⟩, ⟨ao2, c2, b2, o2, i5, i6, i7⟩, ⟨ao3, c3, b3, o3, j5, j6, j7⟩, stsOf_at r b (o + 7) fun i y hy => by
      have := h (i + 1) y hy
      rwa [show o + (i + 1) * 7 = o + 7 + i * 7 by omega] at this⟩
theorem bulk_pos : ∀ d : DataW H, 1 ≤ Rows.uptoBulk d := by
  intro d
  cases d with
  | lit l => cases l <;> simp [Rows.uptoBulk]
  | nil => simp [Rows.uptoBulk]
  | ptr d => simp [Rows.uptoBulk]
  | slice a b => simp [Rows.uptoBulk]
  | agg a => simp [Rows.uptoBulk]
  | iface a b => simp [Rows.uptoBulk]
  | map a => simp [Rows.uptoBulk]
  | held a => simp [Rows.uptoBulk]
theorem bulk_mem : ∀ {l : List (DataW H)} {d : DataW H}, d ∈ l → Rows.uptoBulk d ≤ Rows.uptoBulkAll l
  | x :: r, d, h => by
    simp only [Rows.uptoBulkAll]
    rcases List.mem_cons.1 h with rfl | h
    · omega
    · have := bulk_mem h; omega
theorem wf64 {n : Int} (h : (Lit.int .i64 n).wf = true) : In64 n := by
  have h2 : (decide (IntKind.i64.min ≤ n) && decide (n ≤ IntKind.i64.max)) = true := h
  simp only [Bool.and_eq_true, decide_eq_true_eq] at h2
  exact h2
theorem cells_at {a : Addr} {n : Nat} {cs : List Value} (h : W.cells? 0 a n = some cs) (hn : 0 < n) : a.spot = none ∧ cs.length = n ∧ ∀ (j : Nat) (u : Value), cs[j]? = some u → W.cell? ⟨a.block, a.off + j, none⟩ = some u := by
  obtain ⟨_, hlen, hcell⟩ := World.cells?_some h
  have h0 := hcell 0 hn
  have hsp : a.spot = none := by
    have : W.cell? (a.add 0) = some (cs[0]'(by omega)) := by
      rw [h0]; exact List.getElem?_eq_getElem _
    simpa [Addr.add] using World.cell?_spot this
  refine ⟨hsp, hlen, fun j u hj => ?_⟩
  have hlt : j < n := by have := (List.getElem?_eq_some_iff.1 hj).1; omega
  have h1 := hcell j hlt
  obtain ⟨b, off, spot⟩ := a
  simp only at hsp
  subst hsp
  have e : (⟨b, off, none⟩ : Addr).add j = ⟨b, off + j, none⟩ := by unfold Addr.add; split <;> simp_all
  rw [e] at h1
  rw [h1]; exact hj
theorem add_block {a : Addr} {k : Nat} : (a.add k).block = a.block := by unfold Addr.add; split <;> rfl
theorem cells_row {a : Addr} {i k : Nat} {cs : List Value} (h0 : a.spot = none) (h : W.cells? 0 (a.add (i * k)) k = some cs) (hk : 0 < k) : cs.length = k ∧ ∀ (j : Nat) (u : Value), cs[j]? = some u → W.cell? ⟨a.block, a.off + i * k + j, none⟩ = some u := by
  obtain ⟨_, h2, h3⟩ := cells_at h hk
  refine ⟨h2, fun j u hj => ?_⟩
  have := h3 j u hj
  obtain ⟨b, off, spot⟩ := a
  simp only at h0
  subst h0
  have e : (⟨b, off, none⟩ : Addr).add (i * k) = ⟨b, off + i * k, none⟩ := by unfold Addr.add; split <;> simp_all
  rwa [e] at this
instance : Inhabited Ex := ⟨⟨0, 0, ⟨#[]⟩, ⟨#[]⟩, .nil⟩⟩
instance : Inhabited St := ⟨⟨0, ⟨#[]⟩, ⟨#[]⟩, ⟨#[]⟩, .nil, .nil, .nil⟩⟩
theorem exs_bulk {f : Nat → Ex} {g : Nat → DataW H} : ∀ l : List Nat, (∀ i ∈ l, (f i).wt ≤ Rows.uptoBulk (g i)) → (exsOf (l.map f)).wt ≤ Rows.uptoBulkAll (l.map g)
  | [], _ => by simp [exsOf, Exs.wt]
  | i :: l, h => by
    have h1 := h i (List.mem_cons_self ..)
    have h2 := exs_bulk l (fun j hj => h j (List.mem_cons_of_mem _ hj))
    simp only [List.map_cons, exsOf, Ex.on_wt, Rows.uptoBulkAll]
    omega
theorem sts_bulk {f : Nat → St} {g : Nat → DataW H} : ∀ l : List Nat, (∀ i ∈ l, (f i).wt ≤ Rows.uptoBulk (g i)) → (stsOf (l.map f)).wt ≤ Rows.uptoBulkAll (l.map g)
  | [], _ => by simp [stsOf, Sts.wt]
  | i :: l, h => by
    have h1 := h i (List.mem_cons_self ..)
    have h2 := sts_bulk l (fun j hj => h j (List.mem_cons_of_mem _ hj))
    simp only [List.map_cons, stsOf, St.on_wt, Rows.uptoBulkAll]
    omega
theorem sz (s : ByteArray) : s.data.toList.length = s.size := by rw [Array.length_toList]; rfl
set_option maxRecDepth 100000 in
/-- Expressions that came in. -/
theorem open_exs : ∀ (N : Nat) {fuel : Nat} {v : Value} {x : DataW H × List MemPlace}, Rows.uptoBulk x.1 ≤ N → DataW.trod enc Tryd.prog W 0 (fun _ => true) true fuel 43 [v] = some x →
    ∃ l : Exs, HE (fun _ => True) W v l ∧ l.Ok ∧ l.wt + 1 ≤ Rows.uptoBulk x.1
  | 0, _, _, x, hN, _ => by have := bulk_pos x.1; omega
  | N + 1, fuel, v, x, hN, h => by
    rcases Deep.open_slice Tryd.underlying43 h with ⟨e, rfl⟩ | ⟨a, len, cap, m, n, D, Pl, e, _, hl, _, hm, rfl, hx⟩
    · simp only [List.cons.injEq, and_true] at e
      subst e
      exact ⟨.nil, ⟨none, 0, 0, 0, rfl, ⟨.inl rfl, fun _ => rfl, Nat.le_refl _⟩, trivial⟩, trivial, by simp [Exs.wt, Rows.uptoBulk]⟩
    · simp only [List.cons.injEq, and_true] at e
      subst e
      simp only [if_true] at hm
      rw [ce45] at hx
      have ih : ∀ {fuel : Nat} {v : Value} {x : DataW H × List MemPlace}, Rows.uptoBulk x.1 ≤ N → DataW.trod enc Tryd.prog W 0 (fun _ => true) true fuel 43 [v] = some x → ∃ l : Exs, HE (fun _ => True) W v l ∧ l.Ok ∧ l.wt + 1 ≤ Rows.uptoBulk x.1 := open_exs N
      simp only [Rows.uptoBulk] at hN
      have hsp : 0 < len → a.spot = none := fun h0 => by
        obtain ⟨cs0, g0, _⟩ := hx 0 (by omega)
        have := (cells_at g0 (by omega)).1
        simpa [Addr.add] using this
      obtain ⟨f, hf⟩ := Deep.choose_lt (α := Ex) (n := len) (p := fun i q => AtE (fun _ => True) W a.block (a.off + i * 5) q ∧ q.Ok ∧ q.wt ≤ Rows.uptoBulk (D i)) (fun i hi => by
        obtain ⟨cs, h1, h2⟩ := hx i (by omega)
        obtain ⟨-, hc⟩ := cells_row (hsp (by omega)) h1 (by omega)
        have hbi : Rows.uptoBulk (D i) ≤ N := by
          have := bulk_mem (l := (List.range len).map D) (List.mem_map.2 ⟨i, List.mem_range.2 hi, rfl⟩)
          omega
        obtain ⟨xs, k, _, hD, hlen1, hlen, hg⟩ := DataW.trod_struct Tryd.underlying45 h2
        simp only [Prod.mk.injEq] at hD
        rw [hD.1] at hbi ⊢
        rw [ce45] at hlen1
        match xs, hlen, cs, hlen1 with
        | [y0, y1, y2, y3, y4], _, [v0, v1, v2, v3, v4], _ =>
          have g0 : DataW.trod enc Tryd.prog W 0 (fun _ => true) true k 3 (List.take (Tryd.prog.cellsOf 3) (List.drop 0 [v0, v1, v2, v3, v4])) = some y0 := hg 0 _ rfl
          have g1 : DataW.trod enc Tryd.prog W 0 (fun _ => true) true k 2 (List.take (Tryd.prog.cellsOf 2) (List.drop 1 [v0, v1, v2, v3, v4])) = some y1 := hg 1 _ rfl
          have g2 : DataW.trod enc Tryd.prog W 0 (fun _ => true) true k 9 (List.take (Tryd.prog.cellsOf 9) (List.drop 2 [v0, v1, v2, v3, v4])) = some y2 := hg 2 _ rfl
          have g3 : DataW.trod enc Tryd.prog W 0 (fun _ => true) true k 9 (List.take (Tryd.prog.cellsOf 9) (List.drop 3 [v0, v1, v2, v3, v4])) = some y3 := hg 3 _ rfl
          have g4 : DataW.trod enc Tryd.prog W 0 (fun _ => true) true k 43 (List.take (Tryd.prog.cellsOf 43) (List.drop 4 [v0, v1, v2, v3, v4])) = some y4 := hg 4 _ rfl
          rw [ce3] at g0
          rw [ce2] at g1
          rw [ce9] at g2 g3
          rw [ce43] at g4
          simp only [List.map_cons, List.map_nil, Rows.uptoBulk, Rows.uptoBulkAll] at hbi ⊢
          obtain ⟨z0, e0, d0, w0⟩ := DataW.trod_int Tryd.underlying3 g0
          obtain ⟨z1, e1, d1, w1⟩ := DataW.trod_int Tryd.underlying2 g1
          obtain ⟨s2, e2, d2, _⟩ := DataW.trod_string Tryd.underlying9 g2
          obtain ⟨s3, e3, d3, _⟩ := DataW.trod_string Tryd.underlying9 g3
          obtain ⟨l4, s4, ok4, b4⟩ := ih (by omega) (show DataW.trod enc Tryd.prog W 0 (fun _ => true) true k 43 [v4] = some y4 from g4)
          simp only [List.drop, List.take, List.cons.injEq, and_true] at e0 e1 e2 e3
          subst e0 e1 e2 e3 d0 d1 d2 d3
          refine ⟨⟨z0, z1, s2, s3, l4⟩, ⟨trivial, hc 0 _ rfl, hc 1 _ rfl, hc 2 _ rfl, hc 3 _ rfl, v4, hc 4 _ rfl, s4⟩, ⟨wf64 w0, wf64 w1, ok4⟩, ?_⟩
          simp only [Rows.uptoBulk, Ex.wt, sz]
          omega)
      refine ⟨exsOf ((List.range len).map f), ⟨some a, cap, a.block, a.off, ?_, ⟨?_, (fun e => by cases e), ?_⟩, exsOf_at _ _ _ fun i x hx => ?_⟩, exsOf_ok _ fun x hx => ?_, ?_⟩
      · rw [exsOf_len, List.length_map, List.length_range]
      · rw [exsOf_len, List.length_map, List.length_range]
        by_cases h0 : len = 0
        · exact .inl h0
        · right
          have := hsp (by omega)
          obtain ⟨b, off, spot⟩ := a
          simp only at this
          rw [this]
      · rw [exsOf_len, List.length_map, List.length_range]; exact hl
      · rw [List.getElem?_map] at hx
        obtain ⟨j, hj, rfl⟩ := Option.map_eq_some_iff.1 hx
        have hjl := (List.getElem?_eq_some_iff.1 hj).1
        rw [List.length_range] at hjl
        rw [List.getElem?_range hjl, Option.some.injEq] at hj
        subst hj
        exact (hf _ hjl).1
      · obtain ⟨i, hi, rfl⟩ := List.mem_map.1 hx
        exact (hf i (List.mem_range.1 hi)).2.1
      · simp only [Rows.uptoBulk]
        have := exs_bulk (f := f) (g := D) (List.range len) (fun i hi => (hf i (List.mem_range.1 hi)).2.2)
        omega
set_option maxRecDepth 100000 in
/-- Statements that came in. -/
theorem open_sts : ∀ (N : Nat) {fuel : Nat} {v : Value} {x : DataW H × List MemPlace}, Rows.uptoBulk x.1 ≤ N → DataW.trod enc Tryd.prog W 0 (fun _ => true) true fuel 23 [v] = some x →
    ∃ l : Sts, HS (fun _ => True) W v l ∧ l.Ok ∧ l.wt + 1 ≤ Rows.uptoBulk x.1
  | 0, _, _, x, hN, _ => by have := bulk_pos x.1; omega
  | N + 1, fuel, v, x, hN, h => by
    rcases Deep.open_slice Tryd.underlying23 h with ⟨e, rfl⟩ | ⟨a, len, cap, m, n, D, Pl, e, _, hl, _, hm, rfl, hx⟩
    · simp only [List.cons.injEq, and_true] at e
      subst e
      exact ⟨.nil, ⟨none, 0, 0, 0, rfl, ⟨.inl rfl, fun _ => rfl, Nat.le_refl _⟩, trivial⟩, trivial, by simp [Sts.wt, Rows.uptoBulk]⟩
    · simp only [List.cons.injEq, and_true] at e
      subst e
      simp only [if_true] at hm
      rw [ce52] at hx
      have ih : ∀ {fuel : Nat} {v : Value} {x : DataW H × List MemPlace}, Rows.uptoBulk x.1 ≤ N → DataW.trod enc Tryd.prog W 0 (fun _ => true) true fuel 23 [v] = some x → ∃ l : Sts, HS (fun _ => True) W v l ∧ l.Ok ∧ l.wt + 1 ≤ Rows.uptoBulk x.1 := open_sts N
      simp only [Rows.uptoBulk] at hN
      have hsp : 0 < len → a.spot = none := fun h0 => by
        obtain ⟨cs0, g0, _⟩ := hx 0 (by omega)
        have := (cells_at g0 (by omega)).1
        simpa [Addr.add] using this
      obtain ⟨f, hf⟩ := Deep.choose_lt (α := St) (n := len) (p := fun i q => AtS (fun _ => True) W a.block (a.off + i * 7) q ∧ q.Ok ∧ q.wt ≤ Rows.uptoBulk (D i)) (fun i hi => by
        obtain ⟨cs, h1, h2⟩ := hx i (by omega)
        obtain ⟨-, hc⟩ := cells_row (hsp (by omega)) h1 (by omega)
        have hbi : Rows.uptoBulk (D i) ≤ N := by
          have := bulk_mem (l := (List.range len).map D) (List.mem_map.2 ⟨i, List.mem_range.2 hi, rfl⟩)
          omega
        obtain ⟨xs, k, _, hD, hlen1, hlen, hg⟩ := DataW.trod_struct Tryd.underlying52 h2
        simp only [Prod.mk.injEq] at hD
        rw [hD.1] at hbi ⊢
        rw [ce52] at hlen1
        match xs, hlen, cs, hlen1 with
        | [y0, y1, y2, y3, y4, y5, y6], _, [v0, v1, v2, v3, v4, v5, v6], _ =>
          have g0 : DataW.trod enc Tryd.prog W 0 (fun _ => true) true k 3 (List.take (Tryd.prog.cellsOf 3) (List.drop 0 [v0, v1, v2, v3, v4, v5, v6])) = some y0 := hg 0 _ rfl
          have g1 : DataW.trod enc Tryd.prog W 0 (fun _ => true) true k 9 (List.take (Tryd.prog.cellsOf 9) (List.drop 1 [v0, v1, v2, v3, v4, v5, v6])) = some y1 := hg 1 _ rfl
          have g2 : DataW.trod enc Tryd.prog W 0 (fun _ => true) true k 9 (List.take (Tryd.prog.cellsOf 9) (List.drop 2 [v0, v1, v2, v3, v4, v5, v6])) = some y2 := hg 2 _ rfl
          have g3 : DataW.trod enc Tryd.prog W 0 (fun _ => true) true k 9 (List.take (Tryd.prog.cellsOf 9) (List.drop 3 [v0, v1, v2, v3, v4, v5, v6])) = some y3 := hg 3 _ rfl
          have g4 : DataW.trod enc Tryd.prog W 0 (fun _ => true) true k 43 (List.take (Tryd.prog.cellsOf 43) (List.drop 4 [v0, v1, v2, v3, v4, v5, v6])) = some y4 := hg 4 _ rfl
          have g5 : DataW.trod enc Tryd.prog W 0 (fun _ => true) true k 23 (List.take (Tryd.prog.cellsOf 23) (List.drop 5 [v0, v1, v2, v3, v4, v5, v6])) = some y5 := hg 5 _ rfl
          have g6 : DataW.trod enc Tryd.prog W 0 (fun _ => true) true k 23 (List.take (Tryd.prog.cellsOf 23) (List.drop 6 [v0, v1, v2, v3, v4, v5, v6])) = some y6 := hg 6 _ rfl
          rw [ce3] at g0
          rw [ce9] at g1 g2 g3
          rw [ce43] at g4
          rw [ce23] at g5 g6
          simp only [List.map_cons, List.map_nil, Rows.uptoBulk, Rows.uptoBulkAll] at hbi ⊢
          obtain ⟨z0, e0, d0, w0⟩ := DataW.trod_int Tryd.underlying3 g0
          obtain ⟨s1, e1, d1, _⟩ := DataW.trod_string Tryd.underlying9 g1
          obtain ⟨s2, e2, d2, _⟩ := DataW.trod_string Tryd.underlying9 g2
          obtain ⟨s3, e3, d3, _⟩ := DataW.trod_string Tryd.underlying9 g3
          obtain ⟨l4, s4, ok4, b4⟩ := open_exs (Rows.uptoBulk y4.1) (Nat.le_refl _) (show DataW.trod enc Tryd.prog W 0 (fun _ => true) true k 43 [v4] = some y4 from g4)
          obtain ⟨l5, s5, ok5, b5⟩ := ih (by omega) (show DataW.trod enc Tryd.prog W 0 (fun _ => true) true k 23 [v5] = some y5 from g5)
          obtain ⟨l6, s6, ok6, b6⟩ := ih (by omega) (show DataW.trod enc Tryd.prog W 0 (fun _ => true) true k 23 [v6] = some y6 from g6)
          simp only [List.drop, List.take, List.cons.injEq, and_true] at e0 e1 e2 e3
          subst e0 e1 e2 e3 d0 d1 d2 d3
          refine ⟨⟨z0, s1, s2, s3, l4, l5, l6⟩, ⟨trivial, hc 0 _ rfl, hc 1 _ rfl, hc 2 _ rfl, hc 3 _ rfl, ⟨v4, hc 4 _ rfl, s4⟩, ⟨v5, hc 5 _ rfl, s5⟩, ⟨v6, hc 6 _ rfl, s6⟩⟩, ⟨wf64 w0, ok4, ok5, ok6⟩, ?_⟩
          simp only [Rows.uptoBulk, St.wt, sz]
          omega)
      refine ⟨stsOf ((List.range len).map f), ⟨some a, cap, a.block, a.off, ?_, ⟨?_, (fun e => by cases e), ?_⟩, stsOf_at _ _ _ fun i x hx => ?_⟩, stsOf_ok _ fun x hx => ?_, ?_⟩
      · rw [stsOf_len, List.length_map, List.length_range]
      · rw [stsOf_len, List.length_map, List.length_range]
        by_cases h0 : len = 0
        · exact .inl h0
        · right
          have := hsp (by omega)
          obtain ⟨b, off, spot⟩ := a
          simp only at this
          rw [this]
      · rw [stsOf_len, List.length_map, List.length_range]; exact hl
      · rw [List.getElem?_map] at hx
        obtain ⟨j, hj, rfl⟩ := Option.map_eq_some_iff.1 hx
        have hjl := (List.getElem?_eq_some_iff.1 hj).1
        rw [List.length_range] at hjl
        rw [List.getElem?_range hjl, Option.some.injEq] at hj
        subst hj
        exact (hf _ hjl).1
      · obtain ⟨i, hi, rfl⟩ := List.mem_map.1 hx
        exact (hf i (List.mem_range.1 hi)).2.1
      · simp only [Rows.uptoBulk]
        have := sts_bulk (f := f) (g := D) (List.range len) (fun i hi => (hf i (List.mem_range.1 hi)).2.2)
        omega
/-- Names that came in. -/
theorem open_names {fuel : Nat} {v : Value} {x : DataW H × List MemPlace} (h : DataW.trod enc Tryd.prog W 0 (fun _ => true) true fuel 22 [v] = some x) :
    ∃ ms : List ByteArray, SV W 1 v ms.length (nsC ms) ∧ ms.length + 1 ≤ Rows.uptoBulk x.1 ∧ ∀ m ∈ ms, m.size + 2 ≤ Rows.uptoBulk x.1 := by
  rcases Deep.open_slice Tryd.underlying22 h with ⟨e, rfl⟩ | ⟨a, len, cap, m, n, D, Pl, e, _, hl, _, hm, rfl, hx⟩
  · simp only [List.cons.injEq, and_true] at e
    subst e
    exact ⟨[], ⟨none, 0, 0, 0, rfl, by simp [nsC], .inl rfl, fun _ => rfl, Nat.le_refl _, fun j u hj => by simp [nsC] at hj⟩, by simp [Rows.uptoBulk], fun m hm => by cases hm⟩
  · simp only [List.cons.injEq, and_true] at e
    subst e
    simp only [if_true] at hm
    rw [ce9] at hx
    have hsp : 0 < len → a.spot = none := fun h0 => by
      obtain ⟨cs0, g0, _⟩ := hx 0 (by omega)
      have := (cells_at g0 (by omega)).1
      simpa [Addr.add] using this
    obtain ⟨f, hf⟩ := Deep.choose_lt (α := ByteArray) (n := len) (p := fun i q => W.cell? ⟨a.block, a.off + i, none⟩ = some (.string q) ∧ q.size + 1 ≤ Rows.uptoBulk (D i)) (fun i hi => by
      obtain ⟨cs, h1, h2⟩ := hx i (by omega)
      obtain ⟨h3, hc⟩ := cells_row (hsp (by omega)) h1 (by omega)
      obtain ⟨s, e0, d0, _⟩ := DataW.trod_string Tryd.underlying9 h2
      subst e0
      rw [show D i = .lit (.string s.data.toList) from congrArg Prod.fst d0]
      refine ⟨s, ?_, ?_⟩
      · have := hc 0 _ rfl
        simpa using this
      · simp only [Rows.uptoBulk, sz]; omega)
    refine ⟨(List.range len).map f, ?_, ?_, fun x hx => ?_⟩
    · rw [List.length_map, List.length_range]
      refine ⟨some a, cap, a.block, a.off, rfl, by simp [nsC], ?_, (fun e => by cases e), hl, fun j u hj => ?_⟩
      · by_cases h0 : len = 0
        · exact .inl h0
        · right
          have := hsp (by omega)
          obtain ⟨b, off, spot⟩ := a
          simp only at this
          rw [this]
      · rw [nsC, List.getElem?_map, List.getElem?_map] at hj
        obtain ⟨y, hy, rfl⟩ := Option.map_eq_some_iff.1 hj
        obtain ⟨i, hi, rfl⟩ := Option.map_eq_some_iff.1 hy
        have hjl := (List.getElem?_eq_some_iff.1 hi).1
        rw [List.length_range] at hjl
        rw [List.getElem?_range hjl, Option.some.injEq] at hi
        subst hi
        exact (hf _ hjl).1
    · have : ∀ l : List (DataW H), l.length ≤ Rows.uptoBulkAll l := by
        intro l
        induction l with
        | nil => simp [Rows.uptoBulkAll]
        | cons d r ih => have := bulk_pos d; simp only [Rows.uptoBulkAll, List.length_cons]; omega
      have h1 := this ((List.range len).map D)
      simp only [List.length_map, List.length_range] at h1 ⊢
      simp only [Rows.uptoBulk]
      omega
    · obtain ⟨i, hi, rfl⟩ := List.mem_map.1 hx
      have h1 := (hf i (List.mem_range.1 hi)).2
      have h2 := bulk_mem (l := (List.range len).map D) (List.mem_map.2 ⟨i, hi, rfl⟩)
      simp only [Rows.uptoBulk]
      omega
set_option maxRecDepth 100000 in
/-- The program. -/
theorem open_prog {v : Value} {d : DataW H} {p : List MemPlace} (hv : Value.okWide Tryd.prog W .any 0 25 v) (h : DataW.Trod enc Tryd.prog W 0 (fun _ => true) true 25 v d p) (hb : Rows.uptoBulk d ≤ 1048576) :
    ∃ vm vs ms s, v = .agg #[vm, vs] ∧ SV W 1 vm ms.length (nsC ms) ∧ HS (fun _ => True) W vs s ∧ s.Ok ∧ ms.length ≤ 1048576 ∧ (∀ m ∈ ms, m.size ≤ 1048576) ∧ s.wt ≤ 1048576 := by
  obtain ⟨v0, v1, y0, y1, n, rfl, rfl, rfl, t0, t1⟩ := Joins.open_agg2 Tryd.underlying25 (by kernel_rfl) ce25 hv h
  obtain ⟨ms, h1, h2, h3⟩ := open_names t0
  obtain ⟨s, k1, k2, k3⟩ := open_sts (Rows.uptoBulk y1.1) (Nat.le_refl _) t1
  simp only [Rows.uptoBulk, Rows.uptoBulkAll] at hb
  exact ⟨v0, v1, ms, s, rfl, h1, k1, k2, by omega, fun m hm => by have := h3 m hm; omega, by omega⟩
end
theorem ce150 : Tryd.prog.cellsOf 150 = 4 := by kernel_rfl
theorem cell_at4 {cs : List Value} {m k : Nat} {v : Value} (h : List.take 1 (List.drop k (List.take 4 (List.drop m cs))) = [v]) (hk : k < 4) : cs[m + k]? = some v := by
  have h1 := congrArg (·[0]?) h
  simp only [List.getElem?_take, List.getElem?_drop, List.getElem?_cons_zero] at h1
  rw [if_pos (by omega), Nat.add_zero, if_pos hk] at h1
  simpa using h1
def formD (q : Int × Bool × Bool × Bool) : DataW Unit := .agg [.lit (.int .i64 q.1), .lit (.bool q.2.1), .lit (.bool q.2.2.1), .lit (.bool q.2.2.2)]
/-- A table of forms. -/
theorem form_cells {W : World} {t n fuel : Nat} {cs : List Value} {d : DataW Unit} {p : List MemPlace} {ls : List (Int × Bool × Bool × Bool)} (ht : Tryd.prog.underlying t = some (.array n 150)) (hd : d = .agg (ls.map formD)) (hn : ls.length = n)
    (h : DataW.trod (fun _ => ()) Tryd.prog W 0 (fun _ => true) false fuel t cs = some (d, p)) :
    ∀ i q, ls[i]? = some q → cs[i * 4]? = some (.int .i64 q.1) ∧ cs[i * 4 + 1]? = some (.bool q.2.1) ∧ cs[i * 4 + 2]? = some (.bool q.2.2.1) ∧ cs[i * 4 + 3]? = some (.bool q.2.2.2) := by
  intro i q hq
  subst hd
  obtain ⟨xs, m1, rfl, hx1, hlen, hn3, hel⟩ := DataW.trod_array ht h
  have hi : i < n := by have := (List.getElem?_eq_some_iff.1 hq).1; omega
  have hi' := hel i hi
  rw [ce150] at hi'
  have e : ls.map formD = xs.map (·.1) := by have := congrArg Prod.fst hx1; simpa using this
  have hx : (xs.map (·.1))[i]? = some (formD q) := by rw [← e, List.getElem?_map, hq]; rfl
  rw [List.getElem?_map] at hx
  obtain ⟨x, hxi, hxe⟩ := Option.map_eq_some_iff.1 hx
  rw [hxi] at hi'
  obtain ⟨ys, k, _, rfl, hl, hyl, hf⟩ := DataW.trod_struct Tryd.underlying150 hi'
  match ys, hyl, hf, hxe with
  | [y0, y1, y2, y3], _, hf, hxe =>
    have h0 := hf 0 _ rfl
    have h1 := hf 1 _ rfl
    have h2 := hf 2 _ rfl
    have h3 := hf 3 _ rfl
    replace h0 : DataW.trod (fun _ => ()) Tryd.prog W 0 (fun _ => true) false k 3 (List.take (Tryd.prog.cellsOf 3) (List.drop 0 (List.take 4 (List.drop (i * 4) cs)))) = some y0 := h0
    replace h1 : DataW.trod (fun _ => ()) Tryd.prog W 0 (fun _ => true) false k 4 (List.take (Tryd.prog.cellsOf 4) (List.drop 1 (List.take 4 (List.drop (i * 4) cs)))) = some y1 := h1
    replace h2 : DataW.trod (fun _ => ()) Tryd.prog W 0 (fun _ => true) false k 4 (List.take (Tryd.prog.cellsOf 4) (List.drop 2 (List.take 4 (List.drop (i * 4) cs)))) = some y2 := h2
    replace h3 : DataW.trod (fun _ => ()) Tryd.prog W 0 (fun _ => true) false k 4 (List.take (Tryd.prog.cellsOf 4) (List.drop 3 (List.take 4 (List.drop (i * 4) cs)))) = some y3 := h3
    rw [ce3] at h0
    rw [ce4] at h1 h2 h3
    obtain ⟨n0, e0, d0, _⟩ := DataW.trod_int Tryd.underlying3 h0
    obtain ⟨b1, e1, d1⟩ := DataW.trod_bool Tryd.underlying4 h1
    obtain ⟨b2, e2, d2⟩ := DataW.trod_bool Tryd.underlying4 h2
    obtain ⟨b3, e3, d3⟩ := DataW.trod_bool Tryd.underlying4 h3
    unfold formD at hxe
    simp only [List.map_cons, List.map_nil, DataW.agg.injEq, List.cons.injEq, and_true, d0, d1, d2, d3, DataW.lit.injEq, Lit.int.injEq, Lit.bool.injEq, true_and] at hxe
    obtain ⟨x0, x1, x2, x3⟩ := hxe
    subst x0 x1 x2 x3
    have g0 := cell_at4 e0 (by omega)
    rw [Nat.add_zero] at g0
    exact ⟨g0, cell_at4 e1 (by omega), cell_at4 e2 (by omega), cell_at4 e3 (by omega)⟩
/-- A table of words. -/
theorem word_cells {W : World} {t n fuel : Nat} {cs : List Value} {d : DataW Unit} {p : List MemPlace} {ls : List (List UInt8)} (ht : Tryd.prog.underlying t = some (.array n 9)) (hct : Tryd.prog.cellsOf t = n) (hd : d = .agg (ls.map fun l => .lit (.string l))) (hn : ls.length = n)
    (h : DataW.trod (fun _ => ()) Tryd.prog W 0 (fun _ => true) false fuel t cs = some (d, p)) : cs = ls.map fun l => .string (B l) := by
  subst hd
  obtain ⟨xs, m1, rfl, hx1, hlen, hn3, hel⟩ := DataW.trod_array ht h
  rw [hct] at hlen
  have e : (ls.map fun l => (DataW.lit (.string l) : DataW Unit)) = xs.map (·.1) := by have := congrArg Prod.fst hx1; simpa using this
  apply List.ext_getElem?
  intro i
  by_cases hi : i < n
  · have hi' := hel i hi
    rw [ce9] at hi'
    obtain ⟨x, hxi⟩ : ∃ x, xs[i]? = some x := ⟨_, List.getElem?_eq_getElem (by omega)⟩
    obtain ⟨l, hli⟩ : ∃ l, ls[i]? = some l := ⟨_, List.getElem?_eq_getElem (by omega)⟩
    have hxe : x.1 = .lit (.string l) := by
      have := congrArg (·[i]?) e
      simp only [List.getElem?_map, hxi, hli, Option.map_some, Option.some.injEq] at this
      exact this.symm
    rw [hxi] at hi'
    obtain ⟨s, e0, d0, _⟩ := DataW.trod_string Tryd.underlying9 hi'
    rw [d0] at hxe
    simp only [DataW.lit.injEq, Lit.string.injEq] at hxe
    have h1 := congrArg (·[0]?) e0
    simp only [List.getElem?_take, List.getElem?_drop, List.getElem?_cons_zero] at h1
    simp only [Nat.mul_one, Nat.add_zero] at h1
    rw [if_pos (by omega)] at h1
    rw [h1, List.getElem?_map, hli, Option.map_some, ← hxe, B_of]
  · rw [List.getElem?_eq_none (by omega), List.getElem?_eq_none (by rw [List.length_map]; omega)]
theorem gWo : Tryd.prog.globalNamed "larder/lang.words" = some 0 := by kernel_rfl
theorem tWo : (Tryd.prog.globals[0]?).map (·.type) = some 132 := by kernel_rfl
theorem gSf : Tryd.prog.globalNamed "larder/lang.stmtForms" = some 1 := by kernel_rfl
theorem tSf : (Tryd.prog.globals[1]?).map (·.type) = some 151 := by kernel_rfl
theorem gEf : Tryd.prog.globalNamed "larder/lang.exprForms" = some 3 := by kernel_rfl
theorem tEf : (Tryd.prog.globals[3]?).map (·.type) = some 168 := by kernel_rfl
theorem ce132 : Tryd.prog.cellsOf 132 = 13 := by kernel_rfl
def exL : List (Int × Bool × Bool × Bool) := [(0, false, false, false), (0, false, false, false), (0, true, false, false), (1, true, false, false), (1, true, false, false), (0, true, false, false), (1, false, false, false), (2, false, false, false)]
def stL : List (Int × Bool × Bool × Bool) := [(0, false, false, false), (1, true, false, false), (2, true, false, false), (1, true, false, false), (0, true, false, false), (-1, false, false, false), (1, false, true, false), (1, false, true, false), (0, true, true, true), (0, false, false, false), (0, false, false, false)]
/-- The three tables, as they are laid. -/
theorem of_tabs {W : World} {c0 c1 c3 : Array Value} {f0 f1 f3 : Nat} {p0 p1 p3 : List MemPlace} (v0 : W.var? Tryd.prog "larder/lang.words" = some c0) (v1 : W.var? Tryd.prog "larder/lang.stmtForms" = some c1) (v3 : W.var? Tryd.prog "larder/lang.exprForms" = some c3)
    (d0 : DataW.trod (fun _ => ()) Tryd.prog W 0 (fun _ => true) false f0 132 c0.toList = some (Rows.laid_larder_lang_words, p0)) (d1 : DataW.trod (fun _ => ()) Tryd.prog W 0 (fun _ => true) false f1 151 c1.toList = some (Rows.laid_larder_lang_stmtForms, p1))
    (d3 : DataW.trod (fun _ => ()) Tryd.prog W 0 (fun _ => true) false f3 168 c3.toList = some (Rows.laid_larder_lang_exprForms, p3)) : Tabs W := by
  have e0 := word_cells (ls := wordsL) Tryd.underlying132 ce132 rfl rfl d0
  have e1 := form_cells (ls := stL) Tryd.underlying151 rfl rfl d1
  have e3 := form_cells (ls := exL) Tryd.underlying168 rfl rfl d3
  obtain ⟨t0, r0, h0⟩ := var_heap gWo v0
  obtain ⟨t1, r1, h1⟩ := var_heap gSf v1
  obtain ⟨t3, r3, h3⟩ := var_heap gEf v3
  refine ⟨⟨t0, r0, ?_⟩, fun k hk => ?_, fun k hk => ?_⟩
  · rw [h0]
    obtain ⟨c⟩ := c0
    simp only at e0
    subst e0
    rfl
  · have hc : ∀ o, W.cell? ⟨3, o, none⟩ = c3.toList[o]? := fun o => by unfold World.cell?; rw [h3]; simp
    rw [hc, hc, hc, hc]
    match k, hk with
    | 0, _ => exact e3 0 _ rfl
    | 1, _ => exact e3 1 _ rfl
    | 2, _ => exact e3 2 _ rfl
    | 3, _ => exact e3 3 _ rfl
    | 4, _ => exact e3 4 _ rfl
    | 5, _ => exact e3 5 _ rfl
    | 6, _ => exact e3 6 _ rfl
    | 7, _ => exact e3 7 _ rfl
    | n + 8, hi => omega
  · have hc : ∀ o, W.cell? ⟨1, o, none⟩ = c1.toList[o]? := fun o => by unfold World.cell?; rw [h1]; simp
    rw [hc, hc, hc, hc]
    match k, hk with
    | 0, _ => exact e1 0 _ rfl
    | 1, _ => exact e1 1 _ rfl
    | 2, _ => exact e1 2 _ rfl
    | 3, _ => exact e1 3 _ rfl
    | 4, _ => exact e1 4 _ rfl
    | 5, _ => exact e1 5 _ rfl
    | 6, _ => exact e1 6 _ rfl
    | 7, _ => exact e1 7 _ rfl
    | 8, _ => exact e1 8 _ rfl
    | 9, _ => exact e1 9 _ rfl
    | 10, _ => exact e1 10 _ rfl
    | n + 11, hi => omega
end Go.Proofs.YthkmdmobeadigaaDoor.lg
