/- A script that came in: how it lies, that it fits, that it is no greater than its bulk. No walk here. -/
import Derived.Test.YtigaacbaaopfmaaDoorMc
import Derived.Test.YtigaacbaaopfmaaDoorRk
import Derived.Test.YtigaacbaaopfmaaDoorCr
import Derived.ChangeMaps5
import Derived.ChangeSlices
import Derived.Deep.SlicePairs
import Derived.Lib.SmallJoins
namespace Go.Proofs.YtigaacbaaopfmaaDoor.sh
open Go.ChangeShapes Go.WideShapes Go.ChangeAt Go.RowKit
set_option linter.unusedVariables false
set_option linter.unusedSimpArgs false
section
variable {H : Type} {enc : TypeId × Value → H} {W : World}
theorem bulk_pos : ∀ d : DataW H, 1 ≤ Rows.uptoBulk d := by
  intro d
  cases d with
  | lit l => cases l <;> simp [Rows.uptoBulk]
  | nil => simp [Rows.uptoBulk]
  | ptr d => simp [Rows.uptoBulk]
  | slice a b => simp [Rows.uptoBulk]
  | agg a => simp [Rows.uptoBulk]
  | iface a b => simp [Rows.uptoBulk]
  | map a => simp [Rows.uptoBulk]
  | held a => simp [Rows.uptoBulk]
theorem bulk_len : ∀ l : List (DataW H), l.length ≤ Rows.uptoBulkAll l
  | [] => by simp
  | d :: r => by
    have := bulk_len r
    have := bulk_pos d
    simp only [Rows.uptoBulkAll, List.length_cons]
    omega
theorem wf64 {n : Int} (h : (Lit.int .i64 n).wf = true) : In64 n := by
  have h2 : (decide (IntKind.i64.min ≤ n) && decide (n ≤ IntKind.i64.max)) = true := h
  simp only [Bool.and_eq_true, decide_eq_true_eq] at h2
  exact h2
theorem wfu64 {n : Int} (h : (Lit.int .u64 n).wf = true) : ∃ u : Nat, n = (u : Int) ∧ u < 18446744073709551616 := by
  have h2 : (decide (IntKind.u64.min ≤ n) && decide (n ≤ IntKind.u64.max)) = true := h
  simp only [Bool.and_eq_true, decide_eq_true_eq] at h2
  have e1 : IntKind.u64.min = 0 := rfl
  have e2 : IntKind.u64.max = 18446744073709551615 := rfl
  exact ⟨n.toNat, by omega, by omega⟩
theorem open_ivs2 {fuel : Nat} {cs : List Value} {x : DataW H × List MemPlace} (h : DataW.trod enc Tryd.prog W 0 (fun _ => true) true fuel 35 cs = some x) : ∃ v l, cs = [v] ∧ SV W 1 v l.length (iv l) ∧ Ins l ∧ l.length + 1 ≤ Rows.uptoBulk x.1 := by
  rcases open_ints Tryd.underlying35 Tryd.underlying3 cells3 h with ⟨rfl, rfl⟩ | ⟨a, len, cap, zs, rfl, _, hl, hm, hz, rfl, hc, hwf⟩
  · exact ⟨_, [], rfl, ⟨none, 0, 0, 0, rfl, by simp [iv], .inl rfl, fun _ => rfl, Nat.le_refl _, fun j u hj => by simp [iv] at hj⟩, fun x hx => by (cases hx), by simp [Rows.uptoBulk]⟩
  · simp only [if_true] at hz
    have hlt : (zs.take len).length = len := by rw [List.length_take]; omega
    have hspot : 0 < len → a.spot = none := fun hn => by simpa [Addr.add] using World.cell?_spot (hc 0 (by omega))
    obtain ⟨b, off, spot⟩ := a
    refine ⟨_, zs.take len, rfl, ⟨some ⟨b, off, spot⟩, cap, b, off, by rw [hlt], ⟨by rw [iv_len]; omega, ?_, (fun e => by cases e), by omega, fun j u hj => ?_⟩⟩, fun n hn => wf64 (hwf n (List.mem_of_mem_take hn)), ?_⟩
    · by_cases hn : len = 0
      · left; omega
      · right
        have : spot = none := hspot (by omega)
        rw [this]
    · rw [iv, List.getElem?_map] at hj
      obtain ⟨x, hx1, rfl⟩ := Option.map_eq_some_iff.1 hj
      have hjn : j < len := by have := (List.getElem?_eq_some_iff.1 hx1).1; omega
      have hsp : spot = none := hspot (by omega)
      subst hsp
      have := hc j (by omega)
      have e : (⟨b, off, none⟩ : Addr).add j = ⟨b, off + j, none⟩ := by unfold Addr.add; split <;> simp_all
      rw [e] at this
      rw [this]
      rw [List.getElem?_take, if_pos hjn] at hx1
      rw [List.getD_eq_getElem?_getD, hx1]; rfl
    · simp only [Rows.uptoBulk]
      have := bulk_len (lits (H := H) .i64 (zs.take len))
      simp only [lits, List.length_map] at this ⊢
      omega
theorem cells35 : Tryd.prog.cellsOf 35 = 1 := by kernel_rfl
theorem cells32' : Tryd.prog.cellsOf 32 = 1 := by kernel_rfl
theorem cells34 : Tryd.prog.cellsOf 34 = 2 := by kernel_rfl
theorem cells37 : Tryd.prog.cellsOf 37 = 9 := by kernel_rfl
theorem cells27 : Tryd.prog.cellsOf 27 = 1 := by kernel_rfl
theorem cells28 : Tryd.prog.cellsOf 28 = 1 := by kernel_rfl
theorem cells30 : Tryd.prog.cellsOf 30 = 3 := by kernel_rfl
set_option maxRecDepth 100000 in
/-- One command. -/
theorem open_cmd {fuel : Nat} {cs : List Value} {x : DataW H × List MemPlace} (h : DataW.trod enc Tryd.prog W 0 (fun _ => true) true fuel 37 cs = some x) :
    ∃ (c : Cm) (vf vh : Value), cs = cmC c vf vh ∧ SV W 1 vf c.fields.length (iv c.fields) ∧ SV W 1 vh c.hs.length (iv c.hs) ∧ In64 c.h ∧ In64 c.n ∧ c.u < 18446744073709551616 ∧ c.v < 18446744073709551616 ∧ Ins c.fields ∧ Ins c.hs ∧ cmW c ≤ Rows.uptoBulk x.1 := by
  obtain ⟨xs, k, _, rfl, hl, hlen, hf⟩ := DataW.trod_struct Tryd.underlying37 h
  rw [cells37] at hl
  match xs, hlen, cs, hl with
  | [y0, y1, y2, y3, y4, y5, y6, y7, y8], _, [v0, v1, v2, v3, v4, v5, v6, v7, v8], _ =>
    have g0 : DataW.trod enc Tryd.prog W 0 (fun _ => true) true k 3 (List.take (Tryd.prog.cellsOf 3) (List.drop 0 [v0, v1, v2, v3, v4, v5, v6, v7, v8])) = some y0 := hf 0 _ rfl
    have g1 : DataW.trod enc Tryd.prog W 0 (fun _ => true) true k 3 (List.take (Tryd.prog.cellsOf 3) (List.drop 1 [v0, v1, v2, v3, v4, v5, v6, v7, v8])) = some y1 := hf 1 _ rfl
    have g2 : DataW.trod enc Tryd.prog W 0 (fun _ => true) true k 35 (List.take (Tryd.prog.cellsOf 35) (List.drop 2 [v0, v1, v2, v3, v4, v5, v6, v7, v8])) = some y2 := hf 2 _ rfl
    have g3 : DataW.trod enc Tryd.prog W 0 (fun _ => true) true k 35 (List.take (Tryd.prog.cellsOf 35) (List.drop 3 [v0, v1, v2, v3, v4, v5, v6, v7, v8])) = some y3 := hf 3 _ rfl
    have g4 : DataW.trod enc Tryd.prog W 0 (fun _ => true) true k 32 (List.take (Tryd.prog.cellsOf 32) (List.drop 4 [v0, v1, v2, v3, v4, v5, v6, v7, v8])) = some y4 := hf 4 _ rfl
    have g5 : DataW.trod enc Tryd.prog W 0 (fun _ => true) true k 32 (List.take (Tryd.prog.cellsOf 32) (List.drop 5 [v0, v1, v2, v3, v4, v5, v6, v7, v8])) = some y5 := hf 5 _ rfl
    have g6 : DataW.trod enc Tryd.prog W 0 (fun _ => true) true k 3 (List.take (Tryd.prog.cellsOf 3) (List.drop 6 [v0, v1, v2, v3, v4, v5, v6, v7, v8])) = some y6 := hf 6 _ rfl
    have g7 : DataW.trod enc Tryd.prog W 0 (fun _ => true) true k 9 (List.take (Tryd.prog.cellsOf 9) (List.drop 7 [v0, v1, v2, v3, v4, v5, v6, v7, v8])) = some y7 := hf 7 _ rfl
    have g8 : DataW.trod enc Tryd.prog W 0 (fun _ => true) true k 9 (List.take (Tryd.prog.cellsOf 9) (List.drop 8 [v0, v1, v2, v3, v4, v5, v6, v7, v8])) = some y8 := hf 8 _ rfl
    simp only [cells3, cells9, cells35, cells32', List.drop_succ_cons, List.drop_zero, List.take_succ_cons, List.take_zero] at g0 g1 g2 g3 g4 g5 g6 g7 g8
    obtain ⟨z0, e0, d0, w0⟩ := DataW.trod_int Tryd.underlying3 g0
    obtain ⟨z1, e1, d1, w1⟩ := DataW.trod_int Tryd.underlying3 g1
    obtain ⟨vf, lf, e2, sf, inf, bf⟩ := open_ivs2 g2
    obtain ⟨vh, lh, e3, sh, inh, bh⟩ := open_ivs2 g3
    obtain ⟨z4, e4, d4, w4⟩ := DataW.trod_int Tryd.underlying32 g4
    obtain ⟨z5, e5, d5, w5⟩ := DataW.trod_int Tryd.underlying32 g5
    obtain ⟨z6, e6, d6, w6⟩ := DataW.trod_int Tryd.underlying3 g6
    obtain ⟨s7, e7, d7, _⟩ := DataW.trod_string Tryd.underlying9 g7
    obtain ⟨s8, e8, d8, _⟩ := DataW.trod_string Tryd.underlying9 g8
    obtain ⟨u4, rfl, hu4⟩ := wfu64 w4
    obtain ⟨u5, rfl, hu5⟩ := wfu64 w5
    simp only [List.cons.injEq, and_true] at e0 e1 e2 e3 e4 e5 e6 e7 e8
    subst e0 e1 e2 e3 e4 e5 e6 e7 e8
    refine ⟨⟨z0, z1, lf, lh, u4, u5, z6, s7.data.toList, s8.data.toList⟩, v2, v3, ?_, sf, sh, wf64 w1, wf64 w6, hu4, hu5, inf, inh, ?_⟩
    · unfold cmC
      rw [B_of, B_of]
    · subst d0 d1 d4 d5 d6 d7 d8
      unfold cmW
      simp only [ List.map_cons, List.map_nil, Rows.uptoBulk, Rows.uptoBulkAll]
      omega
theorem cells_at {a : Addr} {n : Nat} {cs : List Value} (h : W.cells? 0 a n = some cs) (hn : 0 < n) : a.spot = none ∧ cs.length = n ∧ ∀ (j : Nat) (u : Value), cs[j]? = some u → W.cell? ⟨a.block, a.off + j, none⟩ = some u := by
  obtain ⟨_, hlen, hcell⟩ := World.cells?_some h
  have h0 := hcell 0 hn
  have hsp : a.spot = none := by
    have : W.cell? (a.add 0) = some (cs[0]'(by omega)) := by
      rw [h0]; exact List.getElem?_eq_getElem _
    simpa [Addr.add] using World.cell?_spot this
  refine ⟨hsp, hlen, fun j u hj => ?_⟩
  have hlt : j < n := by have := (List.getElem?_eq_some_iff.1 hj).1; omega
  have h1 := hcell j hlt
  obtain ⟨b, off, spot⟩ := a
  simp only at hsp
  subst hsp
  have e : (⟨b, off, none⟩ : Addr).add j = ⟨b, off + j, none⟩ := by unfold Addr.add; split <;> simp_all
  rw [e] at h1
  rw [h1]; exact hj
/-- One override. -/
theorem open_ov {fuel : Nat} {v0 v1 : Value} {y0 y1 : DataW H × List MemPlace} (h0 : DataW.trod enc Tryd.prog W 0 (fun _ => true) true fuel 9 [v0] = some y0) (h1 : DataW.trod enc Tryd.prog W 0 (fun _ => true) true fuel 32 [v1] = some y1) :
    ∃ x : List UInt8 × Nat, v0 = .string (B x.1) ∧ v1 = .int .u64 (x.2 : Int) ∧ x.2 < 18446744073709551616 ∧ ovW x ≤ Rows.uptoBulk (.agg [y0.1, y1.1]) := by
  obtain ⟨s, e0, d0, _⟩ := DataW.trod_string Tryd.underlying9 h0
  obtain ⟨z, e1, d1, w1⟩ := DataW.trod_int Tryd.underlying32 h1
  obtain ⟨u, rfl, hu⟩ := wfu64 w1
  simp only [List.cons.injEq, and_true] at e0 e1
  subst e0 e1 d0 d1
  refine ⟨(s.data.toList, u), by rw [B_of], rfl, hu, ?_⟩
  unfold ovW
  simp only [Rows.uptoBulk, Rows.uptoBulkAll]
  omega
theorem ovs_bulk {f : Nat → List UInt8 × Nat} {g : Nat → DataW H} : ∀ l : List Nat, (∀ i ∈ l, ovW (f i) ≤ Rows.uptoBulk (g i)) → ovsW (l.map f) ≤ Rows.uptoBulkAll (l.map g)
  | [], _ => by simp [ovsW]
  | i :: l, h => by
    have h1 := h i (List.mem_cons_self ..)
    have h2 := ovs_bulk l (fun j hj => h j (List.mem_cons_of_mem _ hj))
    simp only [List.map_cons, ovsW, Rows.uptoBulkAll]
    omega
theorem cms_bulk {f : Nat → Cm} {g : Nat → DataW H} : ∀ l : List Nat, (∀ i ∈ l, cmW (f i) ≤ Rows.uptoBulk (g i)) → cmsW (l.map f) ≤ Rows.uptoBulkAll (l.map g)
  | [], _ => by simp [cmsW]
  | i :: l, h => by
    have h1 := h i (List.mem_cons_self ..)
    have h2 := cms_bulk l (fun j hj => h j (List.mem_cons_of_mem _ hj))
    simp only [List.map_cons, cmsW, Rows.uptoBulkAll]
    omega
theorem ovC_range_at {f : Nat → List UInt8 × Nat} {n j : Nat} {u : Value} (h : (ovC ((List.range n).map f))[j]? = some u) : ∃ i, i < n ∧ ((j = i * 2 ∧ u = .string (B (f i).1)) ∨ (j = i * 2 + 1 ∧ u = .int .u64 ((f i).2 : Int))) := by
  have hlt := (List.getElem?_eq_some_iff.1 h).1
  rw [ovC_len, List.length_map, List.length_range] at hlt
  have hi : j / 2 < n := by omega
  obtain ⟨e1, e2⟩ := ovC_at ((List.range n).map f) (j / 2) (f (j / 2)) (by rw [List.getElem?_map, List.getElem?_range hi]; rfl)
  refine ⟨j / 2, hi, ?_⟩
  by_cases hp : j % 2 = 0
  · left
    rw [show j / 2 * 2 = j by omega] at e1
    exact ⟨by omega, Option.some.inj (h.symm.trans e1)⟩
  · right
    rw [show j / 2 * 2 + 1 = j by omega] at e2
    exact ⟨by omega, Option.some.inj (h.symm.trans e2)⟩
theorem add_zero2 {a : Addr} (k : Nat) (h : W.cell? (a.add (0 * k)) ≠ none) : a.spot = none := by
  rw [Nat.zero_mul] at h
  cases hc : W.cell? (a.add 0) with
  | none => exact absurd hc h
  | some u => simpa [Addr.add] using World.cell?_spot hc
theorem add_plain2 {a : Addr} (hs : a.spot = none) (k : Nat) : a.add k = ⟨a.block, a.off + k, none⟩ := by
  obtain ⟨b, off, spot⟩ := a
  simp only at hs
  subst hs
  unfold Addr.add; split <;> simp_all
instance : Inhabited Cm := ⟨⟨0, 0, [], [], 0, 0, 0, [], []⟩⟩
theorem open_over {fuel : Nat} {v : Value} {x : DataW H × List MemPlace} (h : DataW.trod enc Tryd.prog W 0 (fun _ => true) true fuel 27 [v] = some x) :
    ∃ l, SV W 2 v l.length (ovC l) ∧ (∀ x ∈ l, x.2 < 18446744073709551616) ∧ ovsW l + 1 ≤ Rows.uptoBulk x.1 := by
  rcases Deep.open_slice_pairs Tryd.underlying27 Tryd.underlying34 cells34 rfl rfl cells9 cells32' h with ⟨e, rfl⟩ | ⟨a, len, cap, m, n, V0, V1, D0, D1, P0, P1, e, _, hl, _, hm, rfl, hx⟩
  · simp only [List.cons.injEq, and_true] at e
    subst e
    exact ⟨[], ⟨none, 0, 0, 0, rfl, by simp [ovC], .inl rfl, fun _ => rfl, Nat.le_refl _, fun j u hj => by simp [ovC] at hj⟩, fun x hx => by (cases hx), by simp [ovsW, Rows.uptoBulk]⟩
  · simp only [List.cons.injEq, and_true] at e
    subst e
    simp only [if_true] at hm
    obtain ⟨f, hf⟩ := Deep.choose_lt (α := List UInt8 × Nat) (n := len) (p := fun i q => V0 i = .string (B q.1) ∧ V1 i = .int .u64 (q.2 : Int) ∧ q.2 < 18446744073709551616 ∧ ovW q ≤ Rows.uptoBulk (.agg [D0 i, D1 i])) (fun i hi => by
      obtain ⟨_, _, t0, t1⟩ := hx i (by omega)
      exact open_ov t0 t1)
    refine ⟨(List.range len).map f, ?_, fun x hx => ?_, ?_⟩
    · rw [List.length_map, List.length_range]
      refine ⟨some a, cap, a.block, a.off, rfl, by rw [ovC_len, List.length_map, List.length_range], ?_, (fun e => by cases e), hl, fun j u hj => ?_⟩
      · by_cases h0 : len = 0
        · exact .inl h0
        · right
          have := add_zero2 (W := W) (a := a) 2 (by rw [(hx 0 (by omega)).1]; simp)
          obtain ⟨b, off, spot⟩ := a
          simp only at this
          rw [this]
      · obtain ⟨i, hi, hc⟩ := ovC_range_at hj
        have hq := hx i (by omega)
        have hsp := add_zero2 (W := W) (a := a) 2 (by rw [(hx 0 (by omega)).1]; simp)
        rw [add_plain2 hsp, add_plain2 hsp] at hq
        rcases hc with ⟨rfl, rfl⟩ | ⟨rfl, rfl⟩
        · rw [hq.1, (hf i hi).1]
        · rw [hq.2.1, (hf i hi).2.1]
    · obtain ⟨i, hi, rfl⟩ := List.mem_map.1 hx
      exact (hf i (List.mem_range.1 hi)).2.2.1
    · simp only [Rows.uptoBulk]
      have := ovs_bulk (f := f) (g := fun i => DataW.agg [D0 i, D1 i]) (List.range len) (fun i hi => (hf i (List.mem_range.1 hi)).2.2.2)
      omega
/-- The commands. -/
theorem open_cmds {fuel : Nat} {v : Value} {x : DataW H × List MemPlace} (h : DataW.trod enc Tryd.prog W 0 (fun _ => true) true fuel 28 [v] = some x) :
    ∃ l cs, SV W 9 v l.length cs ∧ CmV W cs l ∧ (∀ c ∈ l, In64 c.h ∧ In64 c.n ∧ c.u < 18446744073709551616 ∧ c.v < 18446744073709551616 ∧ Ins c.fields ∧ Ins c.hs) ∧ cmsW l + 1 ≤ Rows.uptoBulk x.1 := by
  rcases Deep.open_slice Tryd.underlying28 h with ⟨e, rfl⟩ | ⟨a, len, cap, m, n, D, Pl, e, _, hl, _, hm, rfl, hx⟩
  · simp only [List.cons.injEq, and_true] at e
    subst e
    exact ⟨[], [], ⟨none, 0, 0, 0, rfl, by simp, .inl rfl, fun _ => rfl, Nat.le_refl _, fun j u hj => by simp at hj⟩, fun i c hc => by simp at hc, fun x hx => by (cases hx), by simp [cmsW, Rows.uptoBulk]⟩
  · simp only [List.cons.injEq, and_true] at e
    subst e
    simp only [if_true] at hm
    rw [cells37] at hx
    obtain ⟨f, hf⟩ := Deep.choose_lt (α := Cm × Value × Value) (n := len) (p := fun i q => (a.spot = none ∧ ∀ (j : Nat) (u : Value), (cmC q.1 q.2.1 q.2.2)[j]? = some u → W.cell? ⟨a.block, a.off + i * 9 + j, none⟩ = some u) ∧ SV W 1 q.2.1 q.1.fields.length (iv q.1.fields) ∧ SV W 1 q.2.2 q.1.hs.length (iv q.1.hs) ∧ (In64 q.1.h ∧ In64 q.1.n ∧ q.1.u < 18446744073709551616 ∧ q.1.v < 18446744073709551616 ∧ Ins q.1.fields ∧ Ins q.1.hs) ∧ cmW q.1 ≤ Rows.uptoBulk (D i)) (fun i hi => by
      obtain ⟨cs', h1, h2⟩ := hx i (by omega)
      obtain ⟨c, vf, vh, rfl, sf, sh, q1, q2, q3, q4, q5, q6, hb⟩ := open_cmd h2
      obtain ⟨hs, _, hc⟩ := cells_at h1 (by omega)
      have hs2 : a.spot = none := by
        obtain ⟨cs0, h0, _⟩ := hx 0 (by omega)
        obtain ⟨hs0, _, _⟩ := cells_at h0 (by omega)
        simpa [Addr.add] using hs0
      refine ⟨(c, vf, vh), ⟨hs2, fun j u hj => ?_⟩, sf, sh, ⟨q1, q2, q3, q4, q5, q6⟩, hb⟩
      have := hc j u hj
      obtain ⟨b, off, spot⟩ := a
      simp only at hs2
      subst hs2
      have e : (⟨b, off, none⟩ : Addr).add (i * 9) = ⟨b, off + i * 9, none⟩ := by unfold Addr.add; split <;> simp_all
      rw [e] at this
      exact this)
    have hlen : ∀ l : List Nat, (l.flatMap fun i => cmC (f i).1 (f i).2.1 (f i).2.2).length = l.length * 9 := by
      intro l
      induction l with
      | nil => rfl
      | cons i l ih => rw [List.flatMap_cons, List.length_append, ih, List.length_cons]; simp [cmC]; omega
    have hat : ∀ (i t : Nat), i < len → t < 9 → ((List.range len).flatMap fun i => cmC (f i).1 (f i).2.1 (f i).2.2)[i * 9 + t]? = (cmC (f i).1 (f i).2.1 (f i).2.2)[t]? := by
      intro i t hi ht
      have hsplit : List.range len = List.range i ++ i :: (List.range (len - i - 1)).map (· + (i + 1)) := by
        have e : len = i + (1 + (len - i - 1)) := by omega
        conv => lhs; rw [e, List.range_add, List.range_add]
        simp [List.map_append, List.map_map, Function.comp_def, Nat.add_comm, Nat.add_left_comm]
      rw [hsplit, List.flatMap_append, List.getElem?_append_right (by rw [hlen, List.length_range]; omega), hlen, List.length_range, List.flatMap_cons, show i * 9 + t - i * 9 = t by omega, List.getElem?_append_left (by simp [cmC]; omega)]
    refine ⟨(List.range len).map fun i => (f i).1, (List.range len).flatMap fun i => cmC (f i).1 (f i).2.1 (f i).2.2, ?_, ?_, fun c hc => ?_, ?_⟩
    · rw [List.length_map, List.length_range]
      refine ⟨some a, cap, a.block, a.off, rfl, by rw [hlen, List.length_range], ?_, (fun e => by cases e), hl, fun j u hj => ?_⟩
      · by_cases h0 : len = 0
        · exact .inl h0
        · right
          have := (hf 0 (by omega)).1.1
          obtain ⟨b, off, spot⟩ := a
          simp only at this
          rw [this]
      · have hlt := (List.getElem?_eq_some_iff.1 hj).1
        rw [hlen, List.length_range] at hlt
        have e := hat (j / 9) (j % 9) (by omega) (by omega)
        rw [show j / 9 * 9 + j % 9 = j by omega, hj] at e
        have := (hf (j / 9) (by omega)).1.2 (j % 9) u e.symm
        rw [Nat.add_assoc, show j / 9 * 9 + j % 9 = j by omega] at this
        exact this
    · intro i c hc
      have hi : i < len := by have := (List.getElem?_eq_some_iff.1 hc).1; simpa using this
      rw [List.getElem?_map, List.getElem?_range hi] at hc
      simp only [Option.map_some, Option.some.injEq] at hc
      subst hc
      exact ⟨(f i).2.1, (f i).2.2, (hf i hi).2.1, (hf i hi).2.2.1, fun t ht => hat i t hi ht⟩
    · obtain ⟨i, hi, rfl⟩ := List.mem_map.1 hc
      exact (hf i (List.mem_range.1 hi)).2.2.2.1
    · simp only [Rows.uptoBulk]
      have := cms_bulk (f := fun i => (f i).1) (g := D) (List.range len) (fun i hi => (hf i (List.mem_range.1 hi)).2.2.2.2)
      omega
set_option maxRecDepth 100000 in
/-- The script. -/
theorem open_script {v : Value} {d : DataW H} {p : List MemPlace} (hv : Value.okWide Tryd.prog W .any 0 30 v) (h : DataW.Trod enc Tryd.prog W 0 (fun _ => true) true 30 v d p) (hb : Rows.uptoBulk d ≤ 1048576) :
    ∃ s, ScV W v s ∧ s.Ok := by
  obtain ⟨v0, v1, v2, y0, y1, y2, n, rfl, rfl, rfl, t0, t1, t2⟩ := Joins.open_agg3 Tryd.underlying30 (by kernel_rfl) cells30 hv h
  obtain ⟨z, e0, d0, w0⟩ := DataW.trod_int Tryd.underlying3 t0
  obtain ⟨ov, s1, b1, k1⟩ := open_over t1
  obtain ⟨cm, cs, s2, s3, b2, k2⟩ := open_cmds t2
  simp only [List.cons.injEq, and_true] at e0
  subst e0
  simp only [Rows.uptoBulk, Rows.uptoBulkAll] at hb
  refine ⟨⟨z, ov, cm⟩, ⟨v1, v2, cs, rfl, s1, s2, s3⟩, ⟨wf64 w0, by show ovsW ov + cmsW cm ≤ 3000000; omega, b1, fun c hc => ?_⟩⟩
  have hw : cmW c ≤ cmsW cm := by
    clear s2 s3 b2 k2
    induction cm with
    | nil => cases hc
    | cons x r ih =>
      rcases List.mem_cons.1 hc with rfl | h'
      · simp only [cmsW]; omega
      · have := ih h'; simp only [cmsW]; omega
  obtain ⟨q1, q2, q3, q4, q5, q6⟩ := b2 c hc
  unfold cmW at hw
  exact ⟨q1, q2, q3, q4, by omega, by omega, q5, by omega, q6, by omega⟩
end
end Go.Proofs.YtigaacbaaopfmaaDoor.sh
