/- ScriptPrints: a copy whose lists have one element more behind, and pointers to these. No walk here. -/
import Derived.Test.YtigaacbaaopfmaaDoorCp
namespace Go.Proofs.YtigaacbaaopfmaaDoor.sh
open Go.RowKit
set_option linter.unusedVariables false
set_option linter.unusedSimpArgs false
/-- A slice without its last element. -/
def cutV : Value → Value
  | .slice a n c => .slice a (n - 1) c
  | v => v
/-- The pointer to an element. -/
def ptrV : Value → Nat → Value
  | .slice (some a) _ _, j => .pointer (some ⟨a.block, a.off + j, none⟩)
  | _, _ => .nilIface
/-- The command that stands behind the copy's. -/
def endC : List Value := [.int .i64 (-80), .int .i64 0, .slice none 0 0, .slice none 0 0, .int .u64 0, .int .u64 0, .int .i64 0, .string ⟨#[]⟩, .string ⟨#[]⟩]
/-- The copy t of ScriptPrints: its head in block p; NU cells of lists are cut, NV lists have 77 behind, v6 holds the pointers ps. -/
structure TJ (m : Nat) (W : World) (lim : Int) (over : List (List UInt8 × Nat)) (no nc : Nat) (cmds : List Cm) (p : Nat) (vo vc v6 : Value) (NU NV : Nat) (cs : List Value) (U V : Nat → Value) (X : Nat → List Int) (ps : List Value) (wr : World) : Prop where
  head : wr.heap[p]? = some (.cells #[.int .i64 lim, cutV vo, cutV vc] 30 (0, 0))
  hp : m + 1 ≤ p
  ho : OwnA wr (m + 1) 34 2 vo (no + 1) (ovC over ++ [.string ⟨#[]⟩, .int .u64 79])
  hc : OwnA wr (m + 1) 37 9 vc (nc + 1) (cs ++ endC)
  cx : CmX cs cmds U
  rs : Rws wr (m + 1) (2 * nc) V X
  ux : ∀ k, k < 2 * nc → (k < NU → U k = cutV (V k)) ∧ (NV ≤ k → U k = V k)
  xx : ∀ k, k < 2 * nc → X k = if k < NV then lstX cmds k ++ [77] else lstX cmds k
  ht : OwnA wr (m + 1) 39 1 v6 ps.length ps
  px : ps.length ≤ NV ∧ ∀ k, k < ps.length → ps[k]? = some (ptrV (V k) (lstX cmds k).length)
  bz : BZ m W wr
section
variable {m : Nat} {W : World} {lim : Int} {over : List (List UInt8 × Nat)} {no nc : Nat} {cmds : List Cm} {p : Nat} {vo vc v6 : Value} {NU NV : Nat} {cs : List Value} {U V : Nat → Value} {X : Nat → List Int} {ps : List Value} {wr w2 : World}
theorem TJ.next (h : TJ m W lim over no nc cmds p vo vc v6 NU NV cs U V X ps wr) (hb : Below wr.heap.size wr w2) : TJ m W lim over no nc cmds p vo vc v6 NU NV cs U V X ps w2 :=
  { h with
    head := (hb.block p (Array.getElem?_eq_some_iff.1 h.head).1).trans h.head
    ho := h.ho.below hb (Nat.le_refl _)
    hc := h.hc.below hb (Nat.le_refl _)
    rs := h.rs.below hb (Nat.le_refl _)
    ht := h.ht.below hb (Nat.le_refl _)
    bz := h.bz.next hb }
/-- A block of another type is not the row that grows. -/
theorem row_ne {w : World} {base E size n : Nat} {v : Value} {xs : List Value} (h : OwnA w base E size v n xs) {q T : Nat} {d : Array Value} {f : Nat × Nat} (hq : w.heap[q]? = some (.cells d T f)) (hT : E ≠ T) : rowOf v ≠ some q := fun e => by
  obtain ⟨c1, f1, h1⟩ := h.type q e
  rw [hq] at h1
  simp only [Option.some.injEq, Obj.cells.injEq] at h1
  exact hT h1.2.1.symm
theorem BZ.grown {row : Option Nat} (h : BZ m W wr) (hg : wr.grownBy w2 row) (hr : ∀ k, row = some k → m + 1 ≤ k) : BZ m W w2 :=
  ⟨h.1.grown hg h.2 hr, by have := hg.size; have := h.2; omega⟩
theorem TJ.list {k : Nat} {v : Value} (h : TJ m W lim over no nc cmds p vo vc v6 NU k cs U V X ps wr) (hk : k < 2 * nc) (hu : NU ≤ k) (hg : wr.grownBy w2 (rowOf (V k))) (ho : OwnA w2 (m + 1) 3 1 v ((lstX cmds k).length + 1) (iv (lstX cmds k) ++ [.int .i64 77]))
    (hn : rowOf v = rowOf (V k) ∨ rowOf v = some wr.heap.size) : TJ m W lim over no nc cmds p vo vc v6 NU (k + 1) cs U (upd V k v) (upd X k (lstX cmds k ++ [77])) ps w2 := by
  have hown := h.rs.own k hk
  have hne : ∀ {E size n : Nat} {u : Value} {xs : List Value}, OwnA wr (m + 1) E size u n xs → E ≠ 3 → OwnA w2 (m + 1) E size u n xs := fun h1 hE => h1.kept hg (h1.other hown hE)
  refine { head := (hg.block p (Array.getElem?_eq_some_iff.1 h.head).1 (Ne.symm (row_ne hown h.head (by decide)))).trans h.head, hp := h.hp, ho := hne h.ho (by decide), hc := hne h.hc (by decide), cx := h.cx, rs := ?_, ux := ?_, xx := ?_, ht := hne h.ht (by decide), px := ?_, bz := h.bz.grown hg fun q e => (hown.lt q e).1 }
  · refine h.rs.put hk hg (by rw [List.length_append]; simpa [iv] using ho) (hn.imp id fun e => ⟨_, e, Nat.le_refl _⟩)
  · intro j hj
    refine ⟨fun h1 => ?_, fun h1 => ?_⟩
    · rw [upd_other _ _ (by omega)]; exact (h.ux j hj).1 h1
    · rw [upd_other _ _ (by omega)]; exact (h.ux j hj).2 (by omega)
  · intro j hj
    by_cases e : j = k
    · subst e; rw [upd_same, if_pos (by omega)]
    · rw [upd_other _ _ e, h.xx j hj]
      by_cases h2 : j < k
      · rw [if_pos h2, if_pos (by omega)]
      · rw [if_neg h2, if_neg (by omega)]
  · refine ⟨by have := h.px.1; omega, fun j hj => ?_⟩
    rw [upd_other _ _ (by have := h.px.1; omega)]
    exact h.px.2 j hj
theorem TJ.tail {qs : List Value} {v : Value} (h : TJ m W lim over no nc cmds p vo vc v6 NU NV cs U V X ps wr) (hg : wr.grownBy w2 (rowOf v6)) (ho : OwnA w2 (m + 1) 39 1 v (ps ++ qs).length (ps ++ qs)) (hl : ps.length + qs.length ≤ NV)
    (hq : ∀ j, j < qs.length → qs[j]? = some (ptrV (V (ps.length + j)) (lstX cmds (ps.length + j)).length)) : TJ m W lim over no nc cmds p vo vc v NU NV cs U V X (ps ++ qs) w2 := by
  have hne : ∀ {E size n : Nat} {u : Value} {xs : List Value}, OwnA wr (m + 1) E size u n xs → E ≠ 39 → OwnA w2 (m + 1) E size u n xs := fun h1 hE => h1.kept hg (h1.other h.ht hE)
  refine { head := (hg.block p (Array.getElem?_eq_some_iff.1 h.head).1 (Ne.symm (row_ne h.ht h.head (by decide)))).trans h.head, hp := h.hp, ho := hne h.ho (by decide), hc := hne h.hc (by decide), cx := h.cx, rs := ?_, ux := h.ux, xx := h.xx, ht := ho, px := ?_, bz := h.bz.grown hg fun q e => (h.ht.lt q e).1 }
  · refine h.rs.keep fun k g hk hv => hg.block g ((h.rs.own k hk).lt g hv).2 (fun e => ?_)
    rcases (h.rs.own k hk).other h.ht (by decide) with h1 | h1
    · rw [h1] at hv; cases hv
    · exact h1 (hv.trans e)
  · refine ⟨by rw [List.length_append]; exact hl, fun k hk => ?_⟩
    by_cases h1 : k < ps.length
    · rw [List.getElem?_append_left h1]; exact h.px.2 k h1
    · rw [List.getElem?_append_right (by omega), hq (k - ps.length) (by rw [List.length_append] at hk; omega), show ps.length + (k - ps.length) = k by omega]
theorem TJ.vcf (h : TJ m W lim over no nc cmds p vo vc v6 NU NV cs U V X ps wr) : ∃ gc oc cap, vc = .slice (some ⟨gc, oc, none⟩) (nc + 1) cap ∧ nc + 1 ≤ cap := by
  rcases h.hc.2 with ⟨_, _, e⟩ | ⟨gc, oc, cap, cur, fz, e, hc, hb⟩
  · omega
  · exact ⟨gc, oc, cap, e, hb.hn⟩
theorem TJ.vof (h : TJ m W lim over no nc cmds p vo vc v6 NU NV cs U V X ps wr) : ∃ gc oc cap, vo = .slice (some ⟨gc, oc, none⟩) (no + 1) cap ∧ no + 1 ≤ cap := by
  rcases h.ho.2 with ⟨_, _, e⟩ | ⟨gc, oc, cap, cur, fz, e, hc, hb⟩
  · omega
  · exact ⟨gc, oc, cap, e, hb.hn⟩
theorem own_cell {w : World} {base E size n : Nat} {xs : List Value} {g o c : Nat} (h : OwnA w base E size (.slice (some ⟨g, o, none⟩) n c) n xs) {j : Nat} {u : Value} (hj : xs[j]? = some u) : w.cell? ⟨g, o + j, none⟩ = some u ∧ w.frozen? ⟨g, o + j, none⟩ = false := by
  rcases h.2 with ⟨_, e, e2⟩ | ⟨g', o', cap', cur, fz, e, hc, hb⟩
  · have := (List.getElem?_eq_some_iff.1 hj).1
    have := h.1
    subst e2
    omega
  · simp only [Value.slice.injEq, Option.some.injEq, Addr.mk.injEq, and_true, true_and] at e
    obtain ⟨⟨rfl, rfl⟩, rfl⟩ := e
    exact hb.cell hj (by rw [h.1]; exact Nat.mul_le_mul_right _ hb.hn)
theorem TJ.cell {gc oc cap i d : Nat} (h : TJ m W lim over no nc cmds p vo (.slice (some ⟨gc, oc, none⟩) (nc + 1) cap) v6 NU NV cs U V X ps wr) (hl : cmds.length = nc) {c : Cm} (hi : cmds[i]? = some c) {u : Value} (hd : d < 9) (hu : (cmC c (U (2 * i)) (U (2 * i + 1)))[d]? = some u) :
    wr.cell? ⟨gc, oc + i * 9 + d, none⟩ = some u ∧ wr.frozen? ⟨gc, oc + i * 9 + d, none⟩ = false := by
  have hlt := (List.getElem?_eq_some_iff.1 hi).1
  have hx := h.cx.2 i c hi d hd
  have := own_cell h.hc (j := i * 9 + d) (u := u) (by rw [List.getElem?_append_left (by rw [h.cx.1]; omega), hx]; exact hu)
  rwa [← Nat.add_assoc] at this
theorem TJ.cut {gc oc cap i : Nat} (d : Bool) (h : TJ m W lim over no nc cmds p vo (.slice (some ⟨gc, oc, none⟩) (nc + 1) cap) v6 (2 * i + if d then 1 else 0) NV cs U V X ps wr) (hl : cmds.length = nc) (hi : i < nc) (hv : (2 * i + if d then 1 else 0) < NV) :
    TJ m W lim over no nc cmds p vo (.slice (some ⟨gc, oc, none⟩) (nc + 1) cap) v6 (2 * i + (if d then 1 else 0) + 1) NV (cs.set (i * 9 + if d then 3 else 2) (cutV (V (2 * i + if d then 1 else 0)))) (upd U (2 * i + if d then 1 else 0) (cutV (V (2 * i + if d then 1 else 0)))) V X ps (wr.setCell ⟨gc, oc + i * 9 + (if d then 3 else 2), none⟩ (cutV (V (2 * i + if d then 1 else 0)))) := by
  have hlen : cs.length = nc * 9 := by rw [h.cx.1, hl]
  rcases h.hc.2 with ⟨_, e, e2⟩ | ⟨gc', oc', cap', cur, fz, e, hc0, hbb⟩
  · omega
  · simp only [Value.slice.injEq, Option.some.injEq, Addr.mk.injEq, and_true, true_and] at e
    obtain ⟨⟨rfl, rfl⟩, rfl⟩ := e
    have hj : i * 9 + (if d then 3 else 2) < cs.length := by rw [hlen]; split <;> omega
    have hst := hbb.store (i * 9 + (if d then 3 else 2)) (by rw [List.length_append]; omega) (by rw [h.hc.1]; exact Nat.mul_le_mul_right _ hbb.hn) (cutV (V (2 * i + if d then 1 else 0)))
    rw [← Nat.add_assoc, List.set_append_left _ _ hj] at hst
    have hgp : gc ≠ p := fun e => by
      have := hbb.blk
      rw [e, h.head] at this
      simp only [Option.some.injEq, Obj.cells.injEq] at this
      exact absurd this.2.1 (by decide)
    have hbs := hbb.bs
    have far : ∀ {E size n : Nat} {v : Value} {xs : List Value}, OwnA wr (m + 1) E size v n xs → E ≠ 37 → ∀ q u, OwnA (wr.setCell ⟨gc, q, none⟩ u) (m + 1) E size v n xs := fun h1 hE q u => h1.set (row_ne h1 hbb.blk hE)
    refine { head := (heap_setCell_other wr ⟨gc, _, none⟩ p _ (Ne.symm hgp)).trans h.head, hp := h.hp, ho := far h.ho (by decide) _ _, hc := ⟨by rw [List.length_append, List.length_set, ← List.length_append]; exact h.hc.1, .inr ⟨gc, oc, cap, _, fz, rfl, hc0, hst⟩⟩, cx := ?_, rs := h.rs.set ⟨_, _, hbb.blk⟩ (by decide), ux := ?_, xx := h.xx, ht := far h.ht (by decide) _ _, px := h.px, bz := ⟨below_set h.bz.1 hbs _, by have := h.bz.2; simpa using this⟩ }
    · cases d
      · exact h.cx.setF (by omega) _
      · exact h.cx.setH (by omega) _
    · intro j hj2
      refine ⟨fun h1 => ?_, fun h1 => ?_⟩
      · by_cases e : j = 2 * i + (if d then 1 else 0)
        · subst e; rw [upd_same]
        · rw [upd_other _ _ e]; exact (h.ux j hj2).1 (by omega)
      · rw [upd_other _ _ (by omega)]; exact (h.ux j hj2).2 h1
theorem cut_sv {w : World} {size n : Nat} {v : Value} {xs ys : List Value} (h : SV w size v (n + 1) (xs ++ ys)) (hx : xs.length = n * size) : SV w size (cutV v) n xs := by
  obtain ⟨ao, c, g, o, rfl, hs⟩ := h
  refine ⟨ao, c, g, o, rfl, hx, hs.lead.elim (fun e => by omega) .inr, hs.bare, by have := hs.cap; omega, fun j u hu => hs.cells j u ?_⟩
  rw [List.getElem?_append_left (List.getElem?_eq_some_iff.1 hu).1]; exact hu
theorem TJ.fin {s : Sc} (h : TJ m W s.limit s.over s.over.length s.cmds.length s.cmds p vo vc v6 (2 * s.cmds.length) (2 * s.cmds.length) cs U V X ps wr) : ScV wr (.agg #[.int .i64 s.limit, cutV vo, cutV vc]) s := by
  refine ⟨_, _, cs, rfl, cut_sv h.ho.sv (by
    have := h.ho.1
    rw [List.length_append] at this
    simp at this
    omega), cut_sv h.hc.sv h.cx.1, fun i c hc => ?_⟩
  have hi := (List.getElem?_eq_some_iff.1 hc).1
  have one : ∀ k, k < 2 * s.cmds.length → SV wr 1 (U k) (lstX s.cmds k).length (iv (lstX s.cmds k)) := fun k hk => by
    have e1 := (h.rs.own k hk).sv
    rw [h.xx k hk, if_pos hk, List.length_append, iv_append] at e1
    rw [(h.ux k hk).1 hk]
    exact cut_sv e1 (by rw [iv_len]; omega)
  have e1 := one (2 * i) (by omega)
  have e2 := one (2 * i + 1) (by omega)
  rw [lstX_f hc] at e1
  rw [lstX_h hc] at e2
  exact ⟨_, _, e1, e2, h.cx.2 i c hc⟩
/-- What a pointer points to. -/
theorem TJ.point {k : Nat} (h : TJ m W lim over no nc cmds p vo vc v6 NU NV cs U V X ps wr) (hk : k < ps.length) (hn : ps.length ≤ 2 * nc) : ∃ g o, ps[k]? = some (.pointer (some ⟨g, o, none⟩)) ∧ wr.cell? ⟨g, o, none⟩ = some (.int .i64 77) := by
  have hk2 : k < NV := by have := h.px.1; omega
  have ho := h.rs.own k (by omega)
  rw [h.xx k (by omega), if_pos hk2] at ho
  rw [h.px.2 k hk]
  generalize V k = v at ho
  rcases ho.2 with ⟨_, _, e⟩ | ⟨g, o, cap, cur, fz, rfl, hc, hb⟩
  · simp at e
  · refine ⟨g, o + (lstX cmds k).length, rfl, (own_cell ho (j := (lstX cmds k).length) ?_).1⟩
    rw [iv_append, List.getElem?_append_right (by rw [iv_len]; omega), iv_len, Nat.sub_self]
    rfl
end
end Go.Proofs.YtigaacbaaopfmaaDoor.sh
