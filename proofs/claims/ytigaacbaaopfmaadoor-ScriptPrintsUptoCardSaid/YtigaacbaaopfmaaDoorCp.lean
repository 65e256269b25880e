/- A script with lists of its own: the law's copied, walked. -/
import Derived.Test.YtigaacbaaopfmaaDoorCr
import Derived.Deep.DeepCutAuto
import Derived.Laws.Tables
import Derived.Deep.CutBlock
set_option linter.unusedSimpArgs false
namespace Go.Proofs.YtigaacbaaopfmaaDoor.sh
open Go.RowKit
set_option linter.unusedVariables false
theorem BZ.cell {m : Nat} {W w' : World} {b i : Nat} {u : Value} (h : BZ m W w') (hc : W.cell? ⟨b, i, none⟩ = some u) (hb : b ≤ m) : w'.cell? ⟨b, i, none⟩ = some u := (h.1.cell (p := ⟨b, i, none⟩) (show b < m + 1 by omega)).trans hc
theorem ovC_one (l : List (List UInt8 × Nat)) : ∀ u ∈ ovC l, u.oneCell' = true := by
  intro u hu
  obtain ⟨x, _, hx⟩ := List.mem_flatMap.1 hu
  simp at hx
  rcases hx with rfl | rfl <;> rfl
theorem iv_one (l : List Int) : ∀ u ∈ iv l, u.oneCell' = true := by
  intro u hu
  obtain ⟨x, _, rfl⟩ := List.mem_map.1 hu
  rfl
theorem cmv_len {w : World} {ao : Option Addr} {n c g o : Nat} {cs : List Value} {cmds : List Cm} (h : SW w 9 ao n c g o cs) (hn : cmds.length = n) : cs.length = cmds.length * 9 := by rw [hn]; exact h.len
theorem cmv_one {w : World} {cs : List Value} {cmds : List Cm} (h : CmV w cs cmds) (hl : cs.length = cmds.length * 9) : ∀ u ∈ cs, u.oneCell' = true := by
  intro u hu
  obtain ⟨j, hj⟩ := List.mem_iff_getElem?.1 hu
  have hlt := (List.getElem?_eq_some_iff.1 hj).1
  obtain ⟨vf, vh, ⟨a1, c1, g1, o1, rfl, _⟩, ⟨a2, c2, g2, o2, rfl, _⟩, h3⟩ := h (j / 9) _ (List.getElem?_eq_getElem (by omega))
  have h4 := h3 (j % 9) (by omega)
  rw [show j / 9 * 9 + j % 9 = j by omega, hj] at h4
  have h5 := List.mem_of_getElem? h4.symm
  simp [cmC] at h5
  rcases h5 with rfl | rfl | rfl | rfl | rfl | rfl | rfl | rfl | rfl <;> rfl
/-- The commands as they came, their lists where they were. -/
theorem cmv_x {w : World} {cs : List Value} {cmds : List Cm} (h : CmV w cs cmds) (hl : cs.length = cmds.length * 9) : ∃ V, CmX cs cmds V := by
  refine ⟨fun k => (cs[(k / 2) * 9 + (2 + k % 2)]?).getD undef, hl, fun i c hc t ht => ?_⟩
  obtain ⟨vf, vh, _, _, h3⟩ := h i c hc
  have e1 : (cs[2 * i / 2 * 9 + (2 + 2 * i % 2)]?).getD undef = vf := by
    rw [show 2 * i / 2 = i by omega, show 2 * i % 2 = 0 by omega, h3 2 (by omega)]; rfl
  have e2 : (cs[(2 * i + 1) / 2 * 9 + (2 + (2 * i + 1) % 2)]?).getD undef = vh := by
    rw [show (2 * i + 1) / 2 = i by omega, show (2 * i + 1) % 2 = 1 by omega, h3 3 (by omega)]; rfl
  dsimp only
  rw [e1, e2]
  exact h3 t ht
/-- Behind the first statement: the copy's head in block p. -/
def CutCp (m : Nat) (W : World) (lim : Int) (over : List (List UInt8 × Nat)) (no nc : Nat) (cs : List Value) (v3 : Value) (wx : World) : Prop :=
  ∃ p vo vc, v3 = .pointer (some ⟨p, 0, none⟩) ∧ m + 1 ≤ p ∧ wx.heap[p]? = some (.cells #[.int .i64 lim, vo, vc] 30 (0, 0)) ∧ OwnA wx (m + 1) 34 2 vo no (ovC over) ∧ OwnA wx (m + 1) 37 9 vc nc cs ∧ BZ m W wx
theorem cutCp_of {m : Nat} {W w1 : World} {lim : Int} {over : List (List UInt8 × Nat)} {no nc p : Nat} {cs : List Value} {vo vc : Value} {a b c : Value} (h : BZ m W w1) (hp : m + 1 ≤ p) (hb : w1.heap[p]? = some (.cells #[a, b, c] 30 (0, 0))) (ho : OwnA w1 (m + 1) 34 2 vo no (ovC over)) (hc : OwnA w1 (m + 1) 37 9 vc nc cs) :
    CutCp m W lim over no nc cs (.pointer (some ⟨p, 0, none⟩)) (((w1.setCell ⟨p, 0, none⟩ (.int .i64 lim)).setCell ⟨p, 1, none⟩ vo).setCell ⟨p, 2, none⟩ vc) := by
  have far : ∀ {E size n : Nat} {v : Value} {xs : List Value} (w2 : World) (d : Array Value), w2.heap[p]? = some (.cells d 30 (0, 0)) → E ≠ 30 → OwnA w2 (m + 1) E size v n xs → ∀ i u, OwnA (w2.setCell ⟨p, i, none⟩ u) (m + 1) E size v n xs := fun w2 d hd hE ho i u => ho.set (fun e => by
    obtain ⟨c1, f1, h1⟩ := ho.type p e
    rw [hd] at h1
    simp only [Option.some.injEq, Obj.cells.injEq] at h1
    exact hE h1.2.1.symm)
  have b1 := set_blk (i := 0) (u := Value.int .i64 lim) hb
  have b2 := set_blk (i := 1) (u := vo) b1
  have b3 := set_blk (i := 2) (u := vc) b2
  refine ⟨p, vo, vc, rfl, hp, b3, far _ _ b2 (by decide) (far _ _ b1 (by decide) (far _ _ hb (by decide) ho _ _) _ _) _ _, far _ _ b2 (by decide) (far _ _ b1 (by decide) (far _ _ hb (by decide) hc _ _) _ _) _ _, ?_, ?_⟩
  · exact below_set (below_set (below_set h.1 hp _) hp _) hp _
  · have := h.2
    have e : ∀ (w2 : World) q u, (w2.setCell q u).heap.size = w2.heap.size := fun w2 q u => by simp
    rw [e, e, e]; exact this
/-- What holds when the first N lists have been copied. -/
def CpJ (m : Nat) (W : World) (lim : Int) (over : List (List UInt8 × Nat)) (no nc : Nat) (cmds : List Cm) (p : Nat) (vo vc : Value) (N : Nat) (wr : World) : Prop :=
  ∃ cs V, wr.heap[p]? = some (.cells #[.int .i64 lim, vo, vc] 30 (0, 0)) ∧ OwnA wr (m + 1) 34 2 vo no (ovC over) ∧ OwnA wr (m + 1) 37 9 vc nc cs ∧ CmX cs cmds V ∧ Rws wr (m + 1) N V (lstX cmds) ∧ BZ m W wr
section
variable {m : Nat} {W : World} {lim : Int} {over : List (List UInt8 × Nat)} {no nc : Nat} {cmds : List Cm} {p : Nat} {vo vc : Value} {N : Nat} {wr w2 : World}
theorem CpJ.next (h : CpJ m W lim over no nc cmds p vo vc N wr) (hb : Below wr.heap.size wr w2) : CpJ m W lim over no nc cmds p vo vc N w2 := by
  obtain ⟨cs, V, h1, h2, h3, h4, h5, h6⟩ := h
  exact ⟨cs, V, (hb.block p (Array.getElem?_eq_some_iff.1 h1).1).trans h1, h2.below hb (Nat.le_refl _), h3.below hb (Nat.le_refl _), h4, h5.below hb (Nat.le_refl _), h6.next hb⟩
theorem CpJ.bz (h : CpJ m W lim over no nc cmds p vo vc N wr) : BZ m W wr := h.choose_spec.choose_spec.2.2.2.2.2
theorem CpJ.head (h : CpJ m W lim over no nc cmds p vo vc N wr) : wr.cell? ⟨p, 2, none⟩ = some vc := by
  obtain ⟨cs, V, h1, -⟩ := h
  unfold World.cell?
  rw [h1]; rfl
theorem CpJ.form (h : CpJ m W lim over no nc cmds p vo vc N wr) (hn : 0 < nc) : ∃ gc oc cap, vc = .slice (some ⟨gc, oc, none⟩) nc cap ∧ nc ≤ cap := by
  obtain ⟨cs, V, h1, h2, h3, h4, h5, h6⟩ := h
  rcases h3.2 with ⟨_, _, e⟩ | ⟨gc, oc, cap, cur, fz, e, hc, hb⟩
  · omega
  · exact ⟨gc, oc, cap, e, hb.hn⟩
theorem CpJ.cell {gc oc cap i d : Nat} (h : CpJ m W lim over no nc cmds p vo (.slice (some ⟨gc, oc, none⟩) nc cap) N wr) (hl : cmds.length = nc) (hi : i < nc) (hd : d < 9) : ∃ u, wr.cell? ⟨gc, oc + i * 9 + d, none⟩ = some u ∧ wr.frozen? ⟨gc, oc + i * 9 + d, none⟩ = false := by
  obtain ⟨cs, V, h1, h2, h3, h4, h5, h6⟩ := h
  rcases h3.2 with ⟨_, e, e2⟩ | ⟨gc', oc', cap', cur, fz, e, hc, hb⟩
  · omega
  · simp only [Value.slice.injEq, Option.some.injEq, Addr.mk.injEq, and_true, true_and] at e
    obtain ⟨⟨rfl, rfl⟩, rfl⟩ := e
    have hlt : i * 9 + d < cs.length := by rw [h4.1, hl]; omega
    have hm : nc * 9 ≤ cap * 9 := Nat.mul_le_mul_right _ hb.hn
    have := hb.cell (j := i * 9 + d) (List.getElem?_eq_getElem hlt) (by rw [h4.1, hl]; exact hm)
    rw [← Nat.add_assoc] at this
    exact ⟨_, this.1, this.2⟩
theorem CpJ.put {gc oc cap i : Nat} {v : Value} {x : List Int} {w1 : World} (d : Bool) (h : CpJ m W lim over no nc cmds p vo (.slice (some ⟨gc, oc, none⟩) nc cap) (2 * i + if d then 1 else 0) w1) (hl : cmds.length = nc) (hi : i < nc) (hx : lstX cmds (2 * i + if d then 1 else 0) = x)
    (hb : Below w1.heap.size w1 w2) (ho : OwnA w2 (m + 1) 3 1 v x.length (iv x)) (hn : rowOf v = none ∨ rowOf v = some w1.heap.size) :
    CpJ m W lim over no nc cmds p vo (.slice (some ⟨gc, oc, none⟩) nc cap) (2 * i + (if d then 1 else 0) + 1) (w2.setCell ⟨gc, oc + i * 9 + (if d then 3 else 2), none⟩ v) := by
  obtain ⟨cs, V, h1, h2, h3, h4, h5, h6⟩ := h
  have h1' := (hb.block p (Array.getElem?_eq_some_iff.1 h1).1).trans h1
  have h2' := h2.below hb (Nat.le_refl _)
  have h3' := h3.below hb (Nat.le_refl _)
  have h5' := h5.snoc hb (hx ▸ ho) (hn.imp id (fun e => ⟨_, e, Nat.le_refl _⟩))
  have h6' := h6.next hb
  have hlen : cs.length = nc * 9 := by rw [h4.1, hl]
  rcases h3'.2 with ⟨_, e, e2⟩ | ⟨gc', oc', cap', cur, fz, e, hc, hbb⟩
  · omega
  · simp only [Value.slice.injEq, Option.some.injEq, Addr.mk.injEq, and_true, true_and] at e
    obtain ⟨⟨rfl, rfl⟩, rfl⟩ := e
    have hm : nc * 9 ≤ cap * 9 := Nat.mul_le_mul_right _ hbb.hn
    have hst := hbb.store (i * 9 + (if d then 3 else 2)) (by rw [hlen]; split <;> omega) (by rw [hlen]; exact hm) v
    rw [← Nat.add_assoc] at hst
    have hgp : gc ≠ p := fun e => by
      have := hbb.blk
      rw [e, h1'] at this
      simp only [Option.some.injEq, Obj.cells.injEq] at this
      exact absurd this.2.1 (by decide)
    have hbs := hbb.bs
    refine ⟨cs.set (i * 9 + (if d then 3 else 2)) v, upd V (2 * i + (if d then 1 else 0)) v, (heap_setCell_other w2 ⟨gc, _, none⟩ p v (Ne.symm hgp)).trans h1', h2'.set (fun e => ?_), ⟨by rw [List.length_set]; exact hlen, .inr ⟨gc, oc, cap, _, fz, rfl, hc, hst⟩⟩, ?_, h5'.set ⟨_, _, hbb.blk⟩ (by decide), below_set h6'.1 hbs _, by have := h6'.2; simpa using this⟩
    · obtain ⟨c1, f1, q1⟩ := h2'.type gc e
      rw [hbb.blk] at q1
      simp only [Option.some.injEq, Obj.cells.injEq] at q1
      exact absurd q1.2.1 (by decide)
    · cases d
      · exact h4.setF (by omega) v
      · exact h4.setH (by omega) v
theorem CpJ.fin {v : Sc} (h : CpJ m W v.limit v.over v.over.length v.cmds.length v.cmds p vo vc (2 * v.cmds.length) wr) : ScS wr (m + 1) vo vc v := by
  obtain ⟨cs, V, h1, h2, h3, h4, h5, h6⟩ := h
  exact ⟨cs, V, h2, h3, h4, h5⟩
end
set_option maxHeartbeats 8000000 in
set_option maxRecDepth 100000 in
theorem copied_walk (w : World) (s : Sc) (ok : s.Ok) (v : Value) (h : ScV w v s) :
    Calls Tryd.prog 16 #[v] w fun e w' => ∃ vo vc, e = .returned (.agg #[.int .i64 s.limit, vo, vc]) ∧ ScS w' w.heap.size vo vc s ∧ Below w.heap.size w w' := by
  obtain ⟨_, _, cs, rfl, ⟨a1, c1, g1, o1, rfl, p1⟩, ⟨b1, d1, k1, q1, rfl, r1⟩, m1⟩ := h
  have hcl := cmv_len r1 rfl
  obtain ⟨V0, hV0⟩ := cmv_x m1 hcl
  have HX : Aside0 (CmX cs s.cmds V0 ∧ ∀ u ∈ cs, u.oneCell' = true) := ⟨hV0, cmv_one m1 hcl⟩
  have HO : Aside0 (SW w 2 a1 s.over.length c1 g1 o1 (ovC s.over)) := ⟨p1⟩
  have HC : Aside0 (SW w 9 b1 s.cmds.length d1 k1 q1 cs ∧ CmV w cs s.cmds) := ⟨r1, m1⟩
  clear p1 r1 m1 hcl hV0
  obtain ⟨no, hno⟩ : ∃ n, s.over.length = n := ⟨_, rfl⟩
  obtain ⟨nc, hnc⟩ : ∃ n, s.cmds.length = n := ⟨_, rfl⟩
  have hno2 : no ≤ 3000000 := by have := ovsW_len s.over; have := ok.wt; omega
  have hnc2 : nc ≤ 3000000 := by have := cmsW_len s.cmds; have := ok.wt; omega
  rw [hno] at HO ⊢
  rw [hnc] at HC ⊢
  have HR : Aside0 (s.over.length = no ∧ s.cmds.length = nc) := ⟨hno, hnc⟩
  have HOK : Aside0 s.Ok := ⟨ok⟩
  obtain ⟨m, hm⟩ : ∃ m, w.heap.size = m := ⟨_, rfl⟩
  obtain ⟨Q, hQ⟩ : ∃ Q : Ending → World → Prop, (fun e w' => ∃ vo vc, e = .returned (.agg #[.int .i64 s.limit, vo, vc]) ∧ ScS w' w.heap.size vo vc s ∧ Below w.heap.size w w') = Q := ⟨_, rfl⟩
  have HQ : Aside0 (∀ vo vc w', ScS w' m vo vc s → Below m w w' → Q (.returned (.agg #[.int .i64 s.limit, vo, vc])) w') := ⟨fun vo vc w' h1 h2 => by rw [← hQ]; exact ⟨vo, vc, rfl, by rw [hm]; exact h1, by rw [hm]; exact h2⟩⟩
  rw [hQ]
  obtain ⟨lim, hlim⟩ : ∃ x, s.limit = x := ⟨_, rfl⟩
  rw [hlim] at HQ ⊢
  clear hno hnc ok hQ hlim
  have HWX := two_allocs w (.cells #[.int .i64 lim, .slice a1 no c1, .slice b1 nc d1] 30) (.cells zero30 30) m hm
  have HM : Aside0 (w.heap.size = m) := ⟨hm⟩
  unfold zero30 at HWX
  go_enter Tryd.func16, Tryd.ntmps16
  go_upto_region 1 with fail
  generalize hW : (w.alloc (.cells #[.int .i64 lim, .slice a1 no c1, .slice b1 nc d1] 30)).alloc (.cells #[.int .i64 0, .slice none 0 0, .slice none 0 0] 30) = W
  obtain ⟨hbk, hb2, hz, hB⟩ := HWX W hW
  clear hW HWX hm
  have HBW : Aside0 (∀ w', BZ (m + 1) W w' → Below w.heap.size w w') := ⟨fun w' h => by rw [HM.out]; exact hB.trans (h.1.mono (by omega))⟩
  have HB2 : Aside0 (W.heap[m + 1]? = some (.cells #[.int .i64 0, .slice none 0 0, .slice none 0 0] 30 (0, 0))) := ⟨hb2⟩
  have k0 : W.cell? ⟨m, 0, none⟩ = some (.int .i64 lim) := by unfold World.cell?; rw [hbk]; rfl
  have k1' : W.cell? ⟨m, 1, none⟩ = some (.slice a1 no c1) := by unfold World.cell?; rw [hbk]; rfl
  have k2 : W.cell? ⟨m, 2, none⟩ = some (.slice b1 nc d1) := by unfold World.cell?; rw [hbk]; rfl
  have keepS : ∀ w', BZ (m + 1) W w' → w'.cell? ⟨m, 0, none⟩ = some (.int .i64 lim) ∧ w'.cell? ⟨m, 1, none⟩ = some (.slice a1 no c1) ∧ w'.cell? ⟨m, 2, none⟩ = some (.slice b1 nc d1) := fun w' h => ⟨h.cell k0 (by omega), h.cell k1' (by omega), h.cell k2 (by omega)⟩
  have HSO : ∀ w', BZ (m + 1) W w' → SV w' 2 (.slice a1 no c1) no (ovC s.over) := fun w' h => ⟨_, _, _, _, rfl, HO.out.below (HBW.out w' h) (Nat.le_refl _)⟩
  have HSC : ∀ w', BZ (m + 1) W w' → SV w' 9 (.slice b1 nc d1) nc cs := fun w' h => ⟨_, _, _, _, rfl, HC.out.1.below (HBW.out w' h) (Nat.le_refl _)⟩
  have I0 : BZ (m + 1) W W.drew := ⟨(Below.refl _ W).drew, by show m + 2 ≤ W.heap.size; omega⟩
  clear hbk hb2 hB k1'
  go_cut [3] (fun v3 wx => CutCp (m + 1) W lim s.over no nc cs v3 wx)
  case first =>
    refine wp_region_L (fun _ => True) (fun w' => w'.cell? ⟨m, 0, none⟩ = some (.int .i64 lim) ∧ w'.cell? ⟨m, 1, none⟩ = some (.slice a1 no c1) ∧ w'.cell? ⟨m, 2, none⟩ = some (.slice b1 nc d1)) 12 (by kernel_rfl) trivial (keepS _ I0) (fun hsh hS => ?_)
    generalize W.drew = w0 at *
    refine anyL_take1 20 (i := 0) (v := ?_) rfl (by kernel_rfl) (by kernel_rfl) (by kernel_rfl) (by decide) (by kernel_rfl) hsh (fun _ _ _ h => h) (Or.inl ⟨by rfl, ?_⟩) hS ?_
    rotate_left 1
    · (intro wS hSw; (try dsimp only at hSw); first | (go_simp; done) | (go_simp; with_reducible rfl))
    intro hsh1 hS1; clear hsh hS; have hsh := hsh1; have hS := hS1; clear hsh1 hS1
    simp only [Act.put, List.setIfInBounds_toArray, List.set_cons_zero, List.set_cons_succ]
    refine anyL_take1 20 (i := 1) (v := ?_) rfl (by kernel_rfl) (by kernel_rfl) (by kernel_rfl) (by decide) (by kernel_rfl) hsh (fun _ _ _ h => h) (Or.inl ⟨by rfl, ?_⟩) hS ?_
    rotate_left 1
    · (intro wS hSw; (try dsimp only at hSw); first | (go_simp; done) | (go_simp; with_reducible rfl))
    intro hsh1 hS1; clear hsh hS; have hsh := hsh1; have hS := hS1; clear hsh1 hS1
    simp only [Act.put, List.setIfInBounds_toArray, List.set_cons_zero, List.set_cons_succ]
    refine anyL_take1 20 (i := 3) (v := ?_) rfl (by kernel_rfl) (by kernel_rfl) (by kernel_rfl) (by decide) (by kernel_rfl) hsh (fun _ _ _ h => h) (Or.inl ⟨by rfl, ?_⟩) hS ?_
    rotate_left 1
    · (intro wS hSw; (try dsimp only at hSw); first | (go_simp; done) | (go_simp; with_reducible rfl))
    intro hsh1 hS1; clear hsh hS; have hsh := hsh1; have hS := hS1; clear hsh1 hS1
    simp only [Act.put, List.setIfInBounds_toArray, List.set_cons_zero, List.set_cons_succ]
    refine anyL_take1 20 (i := 4) (v := ?_) rfl (by kernel_rfl) (by kernel_rfl) (by kernel_rfl) (by decide) (by kernel_rfl) hsh (fun _ _ _ h => h) (Or.inl ⟨by rfl, ?_⟩) hS ?_
    rotate_left 1
    · (intro wS hSw; (try dsimp only at hSw); first | (go_simp; done) | (go_simp; with_reducible rfl))
    intro hsh1 hS1; clear hsh hS; have hsh := hsh1; have hS := hS1; clear hsh1 hS1
    simp only [Act.put, List.setIfInBounds_toArray, List.set_cons_zero, List.set_cons_succ]
    refine anyL_take1 20 (i := 7) (v := ?_) rfl (by kernel_rfl) (by kernel_rfl) (by kernel_rfl) (by decide) (by kernel_rfl) hsh (fun _ _ _ h => h) (Or.inl ⟨by rfl, ?_⟩) hS ?_
    rotate_left 1
    · (intro wS hSw; (try dsimp only at hSw); first | (go_simp; done) | (go_simp; with_reducible rfl))
    intro hsh1 hS1; clear hsh hS; have hsh := hsh1; have hS := hS1; clear hsh1 hS1
    simp only [Act.put, List.setIfInBounds_toArray, List.set_cons_zero, List.set_cons_succ]
    refine anyL_take1 20 (i := 8) (v := ?_) rfl (by kernel_rfl) (by kernel_rfl) (by kernel_rfl) (by decide) (by kernel_rfl) hsh (fun _ _ _ h => h) (Or.inl ⟨by rfl, ?_⟩) hS ?_
    rotate_left 1
    · (intro wS hSw; (try dsimp only at hSw); first | (go_simp; done) | (go_simp; with_reducible rfl))
    intro hsh1 hS1; clear hsh hS; have hsh := hsh1; have hS := hS1; clear hsh1 hS1
    simp only [Act.put, List.setIfInBounds_toArray, List.set_cons_zero, List.set_cons_succ]
    refine anyL_ready (rs := [2, 6, 11]) (by kernel_rfl) (by simp) ?_
    refine AllL.cons rfl (by kernel_rfl) hsh (fun K hK => ?_) (AllL.cons rfl (by kernel_rfl) hsh (fun K hK => ?_) (AllL.cons rfl (by kernel_rfl) hsh (fun K hK => ?_) (AllL.nil)))
    · have hst := round_new2 (.cells #[] 34) (Below.refl w0.heap.size w0) (Nat.le_refl _) rfl
      go_simp
      generalize w0.alloc (.cells #[] 34) = w1 at hst ⊢
      obtain ⟨hsz1, hbk1, hbel, -⟩ := hst w1 rfl
      clear hst
      have I1 := I0.next hbel
      clear hbk1 hsz1
      clear hbel
      refine hK.out _ _ ⟨trivial, fun _ => keepS _ I1⟩ (fun hsh1 hS1 => ?_)
      clear hsh hS hK K; have hsh := hsh1; have hS := hS1; clear hsh1 hS1
      refine anyL_ready (rs := [5, 6, 11]) (by kernel_rfl) (by simp) ?_
      refine AllL.cons rfl (by kernel_rfl) hsh (fun K hK => ?_) (AllL.cons rfl (by kernel_rfl) hsh (fun K hK => ?_) (AllL.cons rfl (by kernel_rfl) hsh (fun K hK => ?_) (AllL.nil)))
      · refine step_append_sv (w := w1) (by rfl) (.tmp 7) (.tmp 9) (by rfl) Tryd.underlying27 info34 rfl (by decide) (m + 2) 0 _ [] (by rfl) (OwnA.bare _ _ _ _ _) _ no (ovC s.over) (by rfl) (HSO _ I1) (ovC_one _) (by unfold maxLen; omega) (by omega) I1.2 ?_
        intro v5 w2 own5 gr5 at5
        rw [rowOf_zero] at gr5
        obtain ⟨ao, co, rfl⟩ := own5.slice
        have hbel := grown_none_below gr5
        simp only [Nat.zero_add, List.nil_append] at own5 ⊢
        have I2 := I1.next hbel
        have hov := own5
        clear own5 gr5 at5
        clear hbel
        refine hK.out _ _ ⟨trivial, fun _ => keepS _ I2⟩ (fun hsh1 hS1 => ?_)
        clear hsh hS hK K; have hsh := hsh1; have hS := hS1; clear hsh1 hS1
        refine anyL_ready (rs := [6, 11]) (by kernel_rfl) (by simp) ?_
        refine AllL.cons rfl (by kernel_rfl) hsh (fun K hK => ?_) (AllL.cons rfl (by kernel_rfl) hsh (fun K hK => ?_) (AllL.nil))
        · have hst := round_new2 (.cells #[] 37) (Below.refl w2.heap.size w2) (Nat.le_refl _) rfl
          go_simp
          generalize w2.alloc (.cells #[] 37) = w3 at hst ⊢
          obtain ⟨hsz1, hbk1, hbel, -⟩ := hst w3 rfl
          clear hst
          have I3 := I2.next hbel
          have hov1 := hov.below hbel (Nat.le_refl _)
          clear hov
          have hov := hov1
          clear hov1
          clear hbk1 hsz1
          clear hbel
          refine hK.out _ _ ⟨trivial, fun _ => keepS _ I3⟩ (fun hsh1 hS1 => ?_)
          clear hsh hS hK K; have hsh := hsh1; have hS := hS1; clear hsh1 hS1
          refine anyL_ready (rs := [9, 11]) (by kernel_rfl) (by simp) ?_
          refine AllL.cons rfl (by kernel_rfl) hsh (fun K hK => ?_) (AllL.cons rfl (by kernel_rfl) hsh (fun K hK => ?_) (AllL.nil))
          · refine step_append_sv (w := w3) (by rfl) (.tmp 11) (.tmp 13) (by rfl) Tryd.underlying28 info37 rfl (by decide) (m + 2) 0 _ [] (by rfl) (OwnA.bare _ _ _ _ _) _ nc cs (by rfl) (HSC _ I3) HX.out.2 (by unfold maxLen; omega) (by omega) I3.2 ?_
            intro v9 w4 own9 gr9 at9
            rw [rowOf_zero] at gr9
            obtain ⟨ac, cc, rfl⟩ := own9.slice
            have hbel := grown_none_below gr9
            simp only [Nat.zero_add, List.nil_append] at own9 ⊢
            have I4 := I3.next hbel
            have hov1 := hov.below hbel (Nat.le_refl _)
            clear hov
            have hov := hov1
            clear hov1
            have hcm := own9
            clear own9 gr9 at9
            clear hbel
            refine hK.out _ _ ⟨trivial, fun _ => keepS _ I4⟩ (fun hsh1 hS1 => ?_)
            clear hsh hS hK K; have hsh := hsh1; have hS := hS1; clear hsh1 hS1
            refine anyL_take1 20 (i := 10) (v := ?_) rfl (by kernel_rfl) (by kernel_rfl) (by kernel_rfl) (by decide) (by kernel_rfl) hsh (fun _ _ _ h => h) (Or.inl ⟨by rfl, ?_⟩) hS ?_
            rotate_left 1
            · (intro wS hSw; (try dsimp only at hSw); first | (go_simp; done) | (go_simp; with_reducible rfl))
            intro hsh1 hS1; clear hsh hS; have hsh := hsh1; have hS := hS1; clear hsh1 hS1
            simp only [Act.put, List.setIfInBounds_toArray, List.set_cons_zero, List.set_cons_succ]
            refine anyL_one (i := 11) (by kernel_rfl) rfl hsh (fun K hK => ?_)
            have hst := round_new2 (.cells #[.int .i64 0, .slice none 0 0, .slice none 0 0] 30) (Below.refl w4.heap.size w4) (Nat.le_refl _) rfl
            go_simp
            generalize w4.alloc (.cells #[.int .i64 0, .slice none 0 0, .slice none 0 0] 30) = w5 at hst ⊢
            obtain ⟨hsz1, hbk1, hbel, -⟩ := hst w5 rfl
            clear hst
            have I5 := I4.next hbel
            have hov1 := hov.below hbel (Nat.le_refl _)
            clear hov
            have hov := hov1
            clear hov1
            have hcm1 := hcm.below hbel (Nat.le_refl _)
            clear hcm
            have hcm := hcm1
            clear hcm1
            have hT := hbk1
            obtain ⟨pT, hpTe⟩ : ∃ p, w4.heap.size = p := ⟨_, rfl⟩
            have hpT : m + 2 ≤ pT := by have := I4.2; omega
            rw [hpTe] at hT ⊢
            clear hpTe
            clear hbk1 hsz1
            clear hbel
            refine hK.out _ _ ⟨trivial, fun _ => keepS _ I5⟩ (fun hsh1 hS1 => ?_)
            clear hsh hS hK K; have hsh := hsh1; have hS := hS1; clear hsh1 hS1
            have hz0 := hT
            have t0 : w5.cell? ⟨pT, 0, none⟩ = some (.int .i64 0) := by unfold World.cell?; rw [hT]; rfl
            have t1 : w5.cell? ⟨pT, 1, none⟩ = some (.slice none 0 0) := by unfold World.cell?; rw [hT]; rfl
            have t2 : w5.cell? ⟨pT, 2, none⟩ = some (.slice none 0 0) := by unfold World.cell?; rw [hT]; rfl
            have f0 : w5.frozen? ⟨pT, 0, none⟩ = false := by unfold World.frozen?; rw [hT]; rfl
            have f1 : w5.frozen? ⟨pT, 1, none⟩ = false := by unfold World.frozen?; rw [hT]; rfl
            have f2 : w5.frozen? ⟨pT, 2, none⟩ = false := by unfold World.frozen?; rw [hT]; rfl
            have hcut := cutCp_of (lim := lim) I5 hpT hT hov hcm
            clear hz0 hov hcm
            refine anyL_one (i := 12) (by kernel_rfl) rfl hsh (fun K hK => ?_)
            go_simp
            refine hK.out _ _ ⟨trivial, fun h => absurd h (by decide)⟩ (fun hsh1 hS1 => ?_)
            clear hsh hS hK K; have hsh := hsh1; have hS := hS1; clear hsh1 hS1
            refine anyL_done (by kernel_rfl) ?_ _
            go_wp2_with fail
            go_meet
            case rel => exact hcut
          · have hst := round_new2 (.cells #[.int .i64 0, .slice none 0 0, .slice none 0 0] 30) (Below.refl w3.heap.size w3) (Nat.le_refl _) rfl
            go_simp
            generalize w3.alloc (.cells #[.int .i64 0, .slice none 0 0, .slice none 0 0] 30) = w4 at hst ⊢
            obtain ⟨hsz1, hbk1, hbel, -⟩ := hst w4 rfl
            clear hst
            have I4 := I3.next hbel
            have hov1 := hov.below hbel (Nat.le_refl _)
            clear hov
            have hov := hov1
            clear hov1
            have hT := hbk1
            obtain ⟨pT, hpTe⟩ : ∃ p, w3.heap.size = p := ⟨_, rfl⟩
            have hpT : m + 2 ≤ pT := by have := I3.2; omega
            rw [hpTe] at hT ⊢
            clear hpTe
            clear hbk1 hsz1
            clear hbel
            refine hK.out _ _ ⟨trivial, fun _ => keepS _ I4⟩ (fun hsh1 hS1 => ?_)
            clear hsh hS hK K; have hsh := hsh1; have hS := hS1; clear hsh1 hS1
            refine anyL_one (i := 9) (by kernel_rfl) rfl hsh (fun K hK => ?_)
            refine step_append_sv (w := w4) (by rfl) (.tmp 11) (.tmp 13) (by rfl) Tryd.underlying28 info37 rfl (by decide) (m + 2) 0 _ [] (by rfl) (OwnA.bare _ _ _ _ _) _ nc cs (by rfl) (HSC _ I4) HX.out.2 (by unfold maxLen; omega) (by omega) I4.2 ?_
            intro v9 w5 own9 gr9 at9
            rw [rowOf_zero] at gr9
            obtain ⟨ac, cc, rfl⟩ := own9.slice
            have hbel := grown_none_below gr9
            simp only [Nat.zero_add, List.nil_append] at own9 ⊢
            have I5 := I4.next hbel
            have hT1 := (hbel.block pT (Array.getElem?_eq_some_iff.1 hT).1).trans hT
            clear hT
            have hT := hT1
            clear hT1
            have hov1 := hov.below hbel (Nat.le_refl _)
            clear hov
            have hov := hov1
            clear hov1
            have hcm := own9
            clear own9 gr9 at9
            clear hbel
            refine hK.out _ _ ⟨trivial, fun _ => keepS _ I5⟩ (fun hsh1 hS1 => ?_)
            clear hsh hS hK K; have hsh := hsh1; have hS := hS1; clear hsh1 hS1
            refine anyL_take1 20 (i := 10) (v := ?_) rfl (by kernel_rfl) (by kernel_rfl) (by kernel_rfl) (by decide) (by kernel_rfl) hsh (fun _ _ _ h => h) (Or.inl ⟨by rfl, ?_⟩) hS ?_
            rotate_left 1
            · (intro wS hSw; (try dsimp only at hSw); first | (go_simp; done) | (go_simp; with_reducible rfl))
            intro hsh1 hS1; clear hsh hS; have hsh := hsh1; have hS := hS1; clear hsh1 hS1
            simp only [Act.put, List.setIfInBounds_toArray, List.set_cons_zero, List.set_cons_succ]
            have hz0 := hT
            have t0 : w5.cell? ⟨pT, 0, none⟩ = some (.int .i64 0) := by unfold World.cell?; rw [hT]; rfl
            have t1 : w5.cell? ⟨pT, 1, none⟩ = some (.slice none 0 0) := by unfold World.cell?; rw [hT]; rfl
            have t2 : w5.cell? ⟨pT, 2, none⟩ = some (.slice none 0 0) := by unfold World.cell?; rw [hT]; rfl
            have f0 : w5.frozen? ⟨pT, 0, none⟩ = false := by unfold World.frozen?; rw [hT]; rfl
            have f1 : w5.frozen? ⟨pT, 1, none⟩ = false := by unfold World.frozen?; rw [hT]; rfl
            have f2 : w5.frozen? ⟨pT, 2, none⟩ = false := by unfold World.frozen?; rw [hT]; rfl
            have hcut := cutCp_of (lim := lim) I5 hpT hT hov hcm
            clear hz0 hov hcm
            refine anyL_one (i := 12) (by kernel_rfl) rfl hsh (fun K hK => ?_)
            go_simp
            refine hK.out _ _ ⟨trivial, fun h => absurd h (by decide)⟩ (fun hsh1 hS1 => ?_)
            clear hsh hS hK K; have hsh := hsh1; have hS := hS1; clear hsh1 hS1
            refine anyL_done (by kernel_rfl) ?_ _
            go_wp2_with fail
            go_meet
            case rel => exact hcut
        · have hst := round_new2 (.cells #[.int .i64 0, .slice none 0 0, .slice none 0 0] 30) (Below.refl w2.heap.size w2) (Nat.le_refl _) rfl
          go_simp
          generalize w2.alloc (.cells #[.int .i64 0, .slice none 0 0, .slice none 0 0] 30) = w3 at hst ⊢
          obtain ⟨hsz1, hbk1, hbel, -⟩ := hst w3 rfl
          clear hst
          have I3 := I2.next hbel
          have hov1 := hov.below hbel (Nat.le_refl _)
          clear hov
          have hov := hov1
          clear hov1
          have hT := hbk1
          obtain ⟨pT, hpTe⟩ : ∃ p, w2.heap.size = p := ⟨_, rfl⟩
          have hpT : m + 2 ≤ pT := by have := I2.2; omega
          rw [hpTe] at hT ⊢
          clear hpTe
          clear hbk1 hsz1
          clear hbel
          refine hK.out _ _ ⟨trivial, fun _ => keepS _ I3⟩ (fun hsh1 hS1 => ?_)
          clear hsh hS hK K; have hsh := hsh1; have hS := hS1; clear hsh1 hS1
          refine anyL_one (i := 6) (by kernel_rfl) rfl hsh (fun K hK => ?_)
          have hst := round_new2 (.cells #[] 37) (Below.refl w3.heap.size w3) (Nat.le_refl _) rfl
          go_simp
          generalize w3.alloc (.cells #[] 37) = w4 at hst ⊢
          obtain ⟨hsz1, hbk1, hbel, -⟩ := hst w4 rfl
          clear hst
          have I4 := I3.next hbel
          have hT1 := (hbel.block pT (Array.getElem?_eq_some_iff.1 hT).1).trans hT
          clear hT
          have hT := hT1
          clear hT1
          have hov1 := hov.below hbel (Nat.le_refl _)
          clear hov
          have hov := hov1
          clear hov1
          clear hbk1 hsz1
          clear hbel
          refine hK.out _ _ ⟨trivial, fun _ => keepS _ I4⟩ (fun hsh1 hS1 => ?_)
          clear hsh hS hK K; have hsh := hsh1; have hS := hS1; clear hsh1 hS1
          refine anyL_one (i := 9) (by kernel_rfl) rfl hsh (fun K hK => ?_)
          refine step_append_sv (w := w4) (by rfl) (.tmp 11) (.tmp 13) (by rfl) Tryd.underlying28 info37 rfl (by decide) (m + 2) 0 _ [] (by rfl) (OwnA.bare _ _ _ _ _) _ nc cs (by rfl) (HSC _ I4) HX.out.2 (by unfold maxLen; omega) (by omega) I4.2 ?_
          intro v9 w5 own9 gr9 at9
          rw [rowOf_zero] at gr9
          obtain ⟨ac, cc, rfl⟩ := own9.slice
          have hbel := grown_none_below gr9
          simp only [Nat.zero_add, List.nil_append] at own9 ⊢
          have I5 := I4.next hbel
          have hT1 := (hbel.block pT (Array.getElem?_eq_some_iff.1 hT).1).trans hT
          clear hT
          have hT := hT1
          clear hT1
          have hov1 := hov.below hbel (Nat.le_refl _)
          clear hov
          have hov := hov1
          clear hov1
          have hcm := own9
          clear own9 gr9 at9
          clear hbel
          refine hK.out _ _ ⟨trivial, fun _ => keepS _ I5⟩ (fun hsh1 hS1 => ?_)
          clear hsh hS hK K; have hsh := hsh1; have hS := hS1; clear hsh1 hS1
          refine anyL_take1 20 (i := 10) (v := ?_) rfl (by kernel_rfl) (by kernel_rfl) (by kernel_rfl) (by decide) (by kernel_rfl) hsh (fun _ _ _ h => h) (Or.inl ⟨by rfl, ?_⟩) hS ?_
          rotate_left 1
          · (intro wS hSw; (try dsimp only at hSw); first | (go_simp; done) | (go_simp; with_reducible rfl))
          intro hsh1 hS1; clear hsh hS; have hsh := hsh1; have hS := hS1; clear hsh1 hS1
          simp only [Act.put, List.setIfInBounds_toArray, List.set_cons_zero, List.set_cons_succ]
          have hz0 := hT
          have t0 : w5.cell? ⟨pT, 0, none⟩ = some (.int .i64 0) := by unfold World.cell?; rw [hT]; rfl
          have t1 : w5.cell? ⟨pT, 1, none⟩ = some (.slice none 0 0) := by unfold World.cell?; rw [hT]; rfl
          have t2 : w5.cell? ⟨pT, 2, none⟩ = some (.slice none 0 0) := by unfold World.cell?; rw [hT]; rfl
          have f0 : w5.frozen? ⟨pT, 0, none⟩ = false := by unfold World.frozen?; rw [hT]; rfl
          have f1 : w5.frozen? ⟨pT, 1, none⟩ = false := by unfold World.frozen?; rw [hT]; rfl
          have f2 : w5.frozen? ⟨pT, 2, none⟩ = false := by unfold World.frozen?; rw [hT]; rfl
          have hcut := cutCp_of (lim := lim) I5 hpT hT hov hcm
          clear hz0 hov hcm
          refine anyL_one (i := 12) (by kernel_rfl) rfl hsh (fun K hK => ?_)
          go_simp
          refine hK.out _ _ ⟨trivial, fun h => absurd h (by decide)⟩ (fun hsh1 hS1 => ?_)
          clear hsh hS hK K; have hsh := hsh1; have hS := hS1; clear hsh1 hS1
          refine anyL_done (by kernel_rfl) ?_ _
          go_wp2_with fail
          go_meet
          case rel => exact hcut
      · have hst := round_new2 (.cells #[] 37) (Below.refl w1.heap.size w1) (Nat.le_refl _) rfl
        go_simp
        generalize w1.alloc (.cells #[] 37) = w2 at hst ⊢
        obtain ⟨hsz1, hbk1, hbel, -⟩ := hst w2 rfl
        clear hst
        have I2 := I1.next hbel
        clear hbk1 hsz1
        clear hbel
        refine hK.out _ _ ⟨trivial, fun _ => keepS _ I2⟩ (fun hsh1 hS1 => ?_)
        clear hsh hS hK K; have hsh := hsh1; have hS := hS1; clear hsh1 hS1
        refine anyL_ready (rs := [5, 11]) (by kernel_rfl) (by simp) ?_
        refine AllL.cons rfl (by kernel_rfl) hsh (fun K hK => ?_) (AllL.cons rfl (by kernel_rfl) hsh (fun K hK => ?_) (AllL.nil))
        · refine step_append_sv (w := w2) (by rfl) (.tmp 7) (.tmp 9) (by rfl) Tryd.underlying27 info34 rfl (by decide) (m + 2) 0 _ [] (by rfl) (OwnA.bare _ _ _ _ _) _ no (ovC s.over) (by rfl) (HSO _ I2) (ovC_one _) (by unfold maxLen; omega) (by omega) I2.2 ?_
          intro v5 w3 own5 gr5 at5
          rw [rowOf_zero] at gr5
          obtain ⟨ao, co, rfl⟩ := own5.slice
          have hbel := grown_none_below gr5
          simp only [Nat.zero_add, List.nil_append] at own5 ⊢
          have I3 := I2.next hbel
          have hov := own5
          clear own5 gr5 at5
          clear hbel
          refine hK.out _ _ ⟨trivial, fun _ => keepS _ I3⟩ (fun hsh1 hS1 => ?_)
          clear hsh hS hK K; have hsh := hsh1; have hS := hS1; clear hsh1 hS1
          refine anyL_ready (rs := [9, 11]) (by kernel_rfl) (by simp) ?_
          refine AllL.cons rfl (by kernel_rfl) hsh (fun K hK => ?_) (AllL.cons rfl (by kernel_rfl) hsh (fun K hK => ?_) (AllL.nil))
          · refine step_append_sv (w := w3) (by rfl) (.tmp 11) (.tmp 13) (by rfl) Tryd.underlying28 info37 rfl (by decide) (m + 2) 0 _ [] (by rfl) (OwnA.bare _ _ _ _ _) _ nc cs (by rfl) (HSC _ I3) HX.out.2 (by unfold maxLen; omega) (by omega) I3.2 ?_
            intro v9 w4 own9 gr9 at9
            rw [rowOf_zero] at gr9
            obtain ⟨ac, cc, rfl⟩ := own9.slice
            have hbel := grown_none_below gr9
            simp only [Nat.zero_add, List.nil_append] at own9 ⊢
            have I4 := I3.next hbel
            have hov1 := hov.below hbel (Nat.le_refl _)
            clear hov
            have hov := hov1
            clear hov1
            have hcm := own9
            clear own9 gr9 at9
            clear hbel
            refine hK.out _ _ ⟨trivial, fun _ => keepS _ I4⟩ (fun hsh1 hS1 => ?_)
            clear hsh hS hK K; have hsh := hsh1; have hS := hS1; clear hsh1 hS1
            refine anyL_take1 20 (i := 10) (v := ?_) rfl (by kernel_rfl) (by kernel_rfl) (by kernel_rfl) (by decide) (by kernel_rfl) hsh (fun _ _ _ h => h) (Or.inl ⟨by rfl, ?_⟩) hS ?_
            rotate_left 1
            · (intro wS hSw; (try dsimp only at hSw); first | (go_simp; done) | (go_simp; with_reducible rfl))
            intro hsh1 hS1; clear hsh hS; have hsh := hsh1; have hS := hS1; clear hsh1 hS1
            simp only [Act.put, List.setIfInBounds_toArray, List.set_cons_zero, List.set_cons_succ]
            refine anyL_one (i := 11) (by kernel_rfl) rfl hsh (fun K hK => ?_)
            have hst := round_new2 (.cells #[.int .i64 0, .slice none 0 0, .slice none 0 0] 30) (Below.refl w4.heap.size w4) (Nat.le_refl _) rfl
            go_simp
            generalize w4.alloc (.cells #[.int .i64 0, .slice none 0 0, .slice none 0 0] 30) = w5 at hst ⊢
            obtain ⟨hsz1, hbk1, hbel, -⟩ := hst w5 rfl
            clear hst
            have I5 := I4.next hbel
            have hov1 := hov.below hbel (Nat.le_refl _)
            clear hov
            have hov := hov1
            clear hov1
            have hcm1 := hcm.below hbel (Nat.le_refl _)
            clear hcm
            have hcm := hcm1
            clear hcm1
            have hT := hbk1
            obtain ⟨pT, hpTe⟩ : ∃ p, w4.heap.size = p := ⟨_, rfl⟩
            have hpT : m + 2 ≤ pT := by have := I4.2; omega
            rw [hpTe] at hT ⊢
            clear hpTe
            clear hbk1 hsz1
            clear hbel
            refine hK.out _ _ ⟨trivial, fun _ => keepS _ I5⟩ (fun hsh1 hS1 => ?_)
            clear hsh hS hK K; have hsh := hsh1; have hS := hS1; clear hsh1 hS1
            have hz0 := hT
            have t0 : w5.cell? ⟨pT, 0, none⟩ = some (.int .i64 0) := by unfold World.cell?; rw [hT]; rfl
            have t1 : w5.cell? ⟨pT, 1, none⟩ = some (.slice none 0 0) := by unfold World.cell?; rw [hT]; rfl
            have t2 : w5.cell? ⟨pT, 2, none⟩ = some (.slice none 0 0) := by unfold World.cell?; rw [hT]; rfl
            have f0 : w5.frozen? ⟨pT, 0, none⟩ = false := by unfold World.frozen?; rw [hT]; rfl
            have f1 : w5.frozen? ⟨pT, 1, none⟩ = false := by unfold World.frozen?; rw [hT]; rfl
            have f2 : w5.frozen? ⟨pT, 2, none⟩ = false := by unfold World.frozen?; rw [hT]; rfl
            have hcut := cutCp_of (lim := lim) I5 hpT hT hov hcm
            clear hz0 hov hcm
            refine anyL_one (i := 12) (by kernel_rfl) rfl hsh (fun K hK => ?_)
            go_simp
            refine hK.out _ _ ⟨trivial, fun h => absurd h (by decide)⟩ (fun hsh1 hS1 => ?_)
            clear hsh hS hK K; have hsh := hsh1; have hS := hS1; clear hsh1 hS1
            refine anyL_done (by kernel_rfl) ?_ _
            go_wp2_with fail
            go_meet
            case rel => exact hcut
          · have hst := round_new2 (.cells #[.int .i64 0, .slice none 0 0, .slice none 0 0] 30) (Below.refl w3.heap.size w3) (Nat.le_refl _) rfl
            go_simp
            generalize w3.alloc (.cells #[.int .i64 0, .slice none 0 0, .slice none 0 0] 30) = w4 at hst ⊢
            obtain ⟨hsz1, hbk1, hbel, -⟩ := hst w4 rfl
            clear hst
            have I4 := I3.next hbel
            have hov1 := hov.below hbel (Nat.le_refl _)
            clear hov
            have hov := hov1
            clear hov1
            have hT := hbk1
            obtain ⟨pT, hpTe⟩ : ∃ p, w3.heap.size = p := ⟨_, rfl⟩
            have hpT : m + 2 ≤ pT := by have := I3.2; omega
            rw [hpTe] at hT ⊢
            clear hpTe
            clear hbk1 hsz1
            clear hbel
            refine hK.out _ _ ⟨trivial, fun _ => keepS _ I4⟩ (fun hsh1 hS1 => ?_)
            clear hsh hS hK K; have hsh := hsh1; have hS := hS1; clear hsh1 hS1
            refine anyL_one (i := 9) (by kernel_rfl) rfl hsh (fun K hK => ?_)
            refine step_append_sv (w := w4) (by rfl) (.tmp 11) (.tmp 13) (by rfl) Tryd.underlying28 info37 rfl (by decide) (m + 2) 0 _ [] (by rfl) (OwnA.bare _ _ _ _ _) _ nc cs (by rfl) (HSC _ I4) HX.out.2 (by unfold maxLen; omega) (by omega) I4.2 ?_
            intro v9 w5 own9 gr9 at9
            rw [rowOf_zero] at gr9
            obtain ⟨ac, cc, rfl⟩ := own9.slice
            have hbel := grown_none_below gr9
            simp only [Nat.zero_add, List.nil_append] at own9 ⊢
            have I5 := I4.next hbel
            have hT1 := (hbel.block pT (Array.getElem?_eq_some_iff.1 hT).1).trans hT
            clear hT
            have hT := hT1
            clear hT1
            have hov1 := hov.below hbel (Nat.le_refl _)
            clear hov
            have hov := hov1
            clear hov1
            have hcm := own9
            clear own9 gr9 at9
            clear hbel
            refine hK.out _ _ ⟨trivial, fun _ => keepS _ I5⟩ (fun hsh1 hS1 => ?_)
            clear hsh hS hK K; have hsh := hsh1; have hS := hS1; clear hsh1 hS1
            refine anyL_take1 20 (i := 10) (v := ?_) rfl (by kernel_rfl) (by kernel_rfl) (by kernel_rfl) (by decide) (by kernel_rfl) hsh (fun _ _ _ h => h) (Or.inl ⟨by rfl, ?_⟩) hS ?_
            rotate_left 1
            · (intro wS hSw; (try dsimp only at hSw); first | (go_simp; done) | (go_simp; with_reducible rfl))
            intro hsh1 hS1; clear hsh hS; have hsh := hsh1; have hS := hS1; clear hsh1 hS1
            simp only [Act.put, List.setIfInBounds_toArray, List.set_cons_zero, List.set_cons_succ]
            have hz0 := hT
            have t0 : w5.cell? ⟨pT, 0, none⟩ = some (.int .i64 0) := by unfold World.cell?; rw [hT]; rfl
            have t1 : w5.cell? ⟨pT, 1, none⟩ = some (.slice none 0 0) := by unfold World.cell?; rw [hT]; rfl
            have t2 : w5.cell? ⟨pT, 2, none⟩ = some (.slice none 0 0) := by unfold World.cell?; rw [hT]; rfl
            have f0 : w5.frozen? ⟨pT, 0, none⟩ = false := by unfold World.frozen?; rw [hT]; rfl
            have f1 : w5.frozen? ⟨pT, 1, none⟩ = false := by unfold World.frozen?; rw [hT]; rfl
            have f2 : w5.frozen? ⟨pT, 2, none⟩ = false := by unfold World.frozen?; rw [hT]; rfl
            have hcut := cutCp_of (lim := lim) I5 hpT hT hov hcm
            clear hz0 hov hcm
            refine anyL_one (i := 12) (by kernel_rfl) rfl hsh (fun K hK => ?_)
            go_simp
            refine hK.out _ _ ⟨trivial, fun h => absurd h (by decide)⟩ (fun hsh1 hS1 => ?_)
            clear hsh hS hK K; have hsh := hsh1; have hS := hS1; clear hsh1 hS1
            refine anyL_done (by kernel_rfl) ?_ _
            go_wp2_with fail
            go_meet
            case rel => exact hcut
        · have hst := round_new2 (.cells #[.int .i64 0, .slice none 0 0, .slice none 0 0] 30) (Below.refl w2.heap.size w2) (Nat.le_refl _) rfl
          go_simp
          generalize w2.alloc (.cells #[.int .i64 0, .slice none 0 0, .slice none 0 0] 30) = w3 at hst ⊢
          obtain ⟨hsz1, hbk1, hbel, -⟩ := hst w3 rfl
          clear hst
          have I3 := I2.next hbel
          have hT := hbk1
          obtain ⟨pT, hpTe⟩ : ∃ p, w2.heap.size = p := ⟨_, rfl⟩
          have hpT : m + 2 ≤ pT := by have := I2.2; omega
          rw [hpTe] at hT ⊢
          clear hpTe
          clear hbk1 hsz1
          clear hbel
          refine hK.out _ _ ⟨trivial, fun _ => keepS _ I3⟩ (fun hsh1 hS1 => ?_)
          clear hsh hS hK K; have hsh := hsh1; have hS := hS1; clear hsh1 hS1
          refine anyL_one (i := 5) (by kernel_rfl) rfl hsh (fun K hK => ?_)
          refine step_append_sv (w := w3) (by rfl) (.tmp 7) (.tmp 9) (by rfl) Tryd.underlying27 info34 rfl (by decide) (m + 2) 0 _ [] (by rfl) (OwnA.bare _ _ _ _ _) _ no (ovC s.over) (by rfl) (HSO _ I3) (ovC_one _) (by unfold maxLen; omega) (by omega) I3.2 ?_
          intro v5 w4 own5 gr5 at5
          rw [rowOf_zero] at gr5
          obtain ⟨ao, co, rfl⟩ := own5.slice
          have hbel := grown_none_below gr5
          simp only [Nat.zero_add, List.nil_append] at own5 ⊢
          have I4 := I3.next hbel
          have hT1 := (hbel.block pT (Array.getElem?_eq_some_iff.1 hT).1).trans hT
          clear hT
          have hT := hT1
          clear hT1
          have hov := own5
          clear own5 gr5 at5
          clear hbel
          refine hK.out _ _ ⟨trivial, fun _ => keepS _ I4⟩ (fun hsh1 hS1 => ?_)
          clear hsh hS hK K; have hsh := hsh1; have hS := hS1; clear hsh1 hS1
          refine anyL_one (i := 9) (by kernel_rfl) rfl hsh (fun K hK => ?_)
          refine step_append_sv (w := w4) (by rfl) (.tmp 11) (.tmp 13) (by rfl) Tryd.underlying28 info37 rfl (by decide) (m + 2) 0 _ [] (by rfl) (OwnA.bare _ _ _ _ _) _ nc cs (by rfl) (HSC _ I4) HX.out.2 (by unfold maxLen; omega) (by omega) I4.2 ?_
          intro v9 w5 own9 gr9 at9
          rw [rowOf_zero] at gr9
          obtain ⟨ac, cc, rfl⟩ := own9.slice
          have hbel := grown_none_below gr9
          simp only [Nat.zero_add, List.nil_append] at own9 ⊢
          have I5 := I4.next hbel
          have hT1 := (hbel.block pT (Array.getElem?_eq_some_iff.1 hT).1).trans hT
          clear hT
          have hT := hT1
          clear hT1
          have hov1 := hov.below hbel (Nat.le_refl _)
          clear hov
          have hov := hov1
          clear hov1
          have hcm := own9
          clear own9 gr9 at9
          clear hbel
          refine hK.out _ _ ⟨trivial, fun _ => keepS _ I5⟩ (fun hsh1 hS1 => ?_)
          clear hsh hS hK K; have hsh := hsh1; have hS := hS1; clear hsh1 hS1
          refine anyL_take1 20 (i := 10) (v := ?_) rfl (by kernel_rfl) (by kernel_rfl) (by kernel_rfl) (by decide) (by kernel_rfl) hsh (fun _ _ _ h => h) (Or.inl ⟨by rfl, ?_⟩) hS ?_
          rotate_left 1
          · (intro wS hSw; (try dsimp only at hSw); first | (go_simp; done) | (go_simp; with_reducible rfl))
          intro hsh1 hS1; clear hsh hS; have hsh := hsh1; have hS := hS1; clear hsh1 hS1
          simp only [Act.put, List.setIfInBounds_toArray, List.set_cons_zero, List.set_cons_succ]
          have hz0 := hT
          have t0 : w5.cell? ⟨pT, 0, none⟩ = some (.int .i64 0) := by unfold World.cell?; rw [hT]; rfl
          have t1 : w5.cell? ⟨pT, 1, none⟩ = some (.slice none 0 0) := by unfold World.cell?; rw [hT]; rfl
          have t2 : w5.cell? ⟨pT, 2, none⟩ = some (.slice none 0 0) := by unfold World.cell?; rw [hT]; rfl
          have f0 : w5.frozen? ⟨pT, 0, none⟩ = false := by unfold World.frozen?; rw [hT]; rfl
          have f1 : w5.frozen? ⟨pT, 1, none⟩ = false := by unfold World.frozen?; rw [hT]; rfl
          have f2 : w5.frozen? ⟨pT, 2, none⟩ = false := by unfold World.frozen?; rw [hT]; rfl
          have hcut := cutCp_of (lim := lim) I5 hpT hT hov hcm
          clear hz0 hov hcm
          refine anyL_one (i := 12) (by kernel_rfl) rfl hsh (fun K hK => ?_)
          go_simp
          refine hK.out _ _ ⟨trivial, fun h => absurd h (by decide)⟩ (fun hsh1 hS1 => ?_)
          clear hsh hS hK K; have hsh := hsh1; have hS := hS1; clear hsh1 hS1
          refine anyL_done (by kernel_rfl) ?_ _
          go_wp2_with fail
          go_meet
          case rel => exact hcut
      · have hst := round_new2 (.cells #[.int .i64 0, .slice none 0 0, .slice none 0 0] 30) (Below.refl w1.heap.size w1) (Nat.le_refl _) rfl
        go_simp
        generalize w1.alloc (.cells #[.int .i64 0, .slice none 0 0, .slice none 0 0] 30) = w2 at hst ⊢
        obtain ⟨hsz1, hbk1, hbel, -⟩ := hst w2 rfl
        clear hst
        have I2 := I1.next hbel
        have hT := hbk1
        obtain ⟨pT, hpTe⟩ : ∃ p, w1.heap.size = p := ⟨_, rfl⟩
        have hpT : m + 2 ≤ pT := by have := I1.2; omega
        rw [hpTe] at hT ⊢
        clear hpTe
        clear hbk1 hsz1
        clear hbel
        refine hK.out _ _ ⟨trivial, fun _ => keepS _ I2⟩ (fun hsh1 hS1 => ?_)
        clear hsh hS hK K; have hsh := hsh1; have hS := hS1; clear hsh1 hS1
        refine anyL_ready (rs := [5, 6]) (by kernel_rfl) (by simp) ?_
        refine AllL.cons rfl (by kernel_rfl) hsh (fun K hK => ?_) (AllL.cons rfl (by kernel_rfl) hsh (fun K hK => ?_) (AllL.nil))
        · refine step_append_sv (w := w2) (by rfl) (.tmp 7) (.tmp 9) (by rfl) Tryd.underlying27 info34 rfl (by decide) (m + 2) 0 _ [] (by rfl) (OwnA.bare _ _ _ _ _) _ no (ovC s.over) (by rfl) (HSO _ I2) (ovC_one _) (by unfold maxLen; omega) (by omega) I2.2 ?_
          intro v5 w3 own5 gr5 at5
          rw [rowOf_zero] at gr5
          obtain ⟨ao, co, rfl⟩ := own5.slice
          have hbel := grown_none_below gr5
          simp only [Nat.zero_add, List.nil_append] at own5 ⊢
          have I3 := I2.next hbel
          have hT1 := (hbel.block pT (Array.getElem?_eq_some_iff.1 hT).1).trans hT
          clear hT
          have hT := hT1
          clear hT1
          have hov := own5
          clear own5 gr5 at5
          clear hbel
          refine hK.out _ _ ⟨trivial, fun _ => keepS _ I3⟩ (fun hsh1 hS1 => ?_)
          clear hsh hS hK K; have hsh := hsh1; have hS := hS1; clear hsh1 hS1
          refine anyL_one (i := 6) (by kernel_rfl) rfl hsh (fun K hK => ?_)
          have hst := round_new2 (.cells #[] 37) (Below.refl w3.heap.size w3) (Nat.le_refl _) rfl
          go_simp
          generalize w3.alloc (.cells #[] 37) = w4 at hst ⊢
          obtain ⟨hsz1, hbk1, hbel, -⟩ := hst w4 rfl
          clear hst
          have I4 := I3.next hbel
          have hT1 := (hbel.block pT (Array.getElem?_eq_some_iff.1 hT).1).trans hT
          clear hT
          have hT := hT1
          clear hT1
          have hov1 := hov.below hbel (Nat.le_refl _)
          clear hov
          have hov := hov1
          clear hov1
          clear hbk1 hsz1
          clear hbel
          refine hK.out _ _ ⟨trivial, fun _ => keepS _ I4⟩ (fun hsh1 hS1 => ?_)
          clear hsh hS hK K; have hsh := hsh1; have hS := hS1; clear hsh1 hS1
          refine anyL_one (i := 9) (by kernel_rfl) rfl hsh (fun K hK => ?_)
          refine step_append_sv (w := w4) (by rfl) (.tmp 11) (.tmp 13) (by rfl) Tryd.underlying28 info37 rfl (by decide) (m + 2) 0 _ [] (by rfl) (OwnA.bare _ _ _ _ _) _ nc cs (by rfl) (HSC _ I4) HX.out.2 (by unfold maxLen; omega) (by omega) I4.2 ?_
          intro v9 w5 own9 gr9 at9
          rw [rowOf_zero] at gr9
          obtain ⟨ac, cc, rfl⟩ := own9.slice
          have hbel := grown_none_below gr9
          simp only [Nat.zero_add, List.nil_append] at own9 ⊢
          have I5 := I4.next hbel
          have hT1 := (hbel.block pT (Array.getElem?_eq_some_iff.1 hT).1).trans hT
          clear hT
          have hT := hT1
          clear hT1
          have hov1 := hov.below hbel (Nat.le_refl _)
          clear hov
          have hov := hov1
          clear hov1
          have hcm := own9
          clear own9 gr9 at9
          clear hbel
          refine hK.out _ _ ⟨trivial, fun _ => keepS _ I5⟩ (fun hsh1 hS1 => ?_)
          clear hsh hS hK K; have hsh := hsh1; have hS := hS1; clear hsh1 hS1
          refine anyL_take1 20 (i := 10) (v := ?_) rfl (by kernel_rfl) (by kernel_rfl) (by kernel_rfl) (by decide) (by kernel_rfl) hsh (fun _ _ _ h => h) (Or.inl ⟨by rfl, ?_⟩) hS ?_
          rotate_left 1
          · (intro wS hSw; (try dsimp only at hSw); first | (go_simp; done) | (go_simp; with_reducible rfl))
          intro hsh1 hS1; clear hsh hS; have hsh := hsh1; have hS := hS1; clear hsh1 hS1
          simp only [Act.put, List.setIfInBounds_toArray, List.set_cons_zero, List.set_cons_succ]
          have hz0 := hT
          have t0 : w5.cell? ⟨pT, 0, none⟩ = some (.int .i64 0) := by unfold World.cell?; rw [hT]; rfl
          have t1 : w5.cell? ⟨pT, 1, none⟩ = some (.slice none 0 0) := by unfold World.cell?; rw [hT]; rfl
          have t2 : w5.cell? ⟨pT, 2, none⟩ = some (.slice none 0 0) := by unfold World.cell?; rw [hT]; rfl
          have f0 : w5.frozen? ⟨pT, 0, none⟩ = false := by unfold World.frozen?; rw [hT]; rfl
          have f1 : w5.frozen? ⟨pT, 1, none⟩ = false := by unfold World.frozen?; rw [hT]; rfl
          have f2 : w5.frozen? ⟨pT, 2, none⟩ = false := by unfold World.frozen?; rw [hT]; rfl
          have hcut := cutCp_of (lim := lim) I5 hpT hT hov hcm
          clear hz0 hov hcm
          refine anyL_one (i := 12) (by kernel_rfl) rfl hsh (fun K hK => ?_)
          go_simp
          refine hK.out _ _ ⟨trivial, fun h => absurd h (by decide)⟩ (fun hsh1 hS1 => ?_)
          clear hsh hS hK K; have hsh := hsh1; have hS := hS1; clear hsh1 hS1
          refine anyL_done (by kernel_rfl) ?_ _
          go_wp2_with fail
          go_meet
          case rel => exact hcut
        · have hst := round_new2 (.cells #[] 37) (Below.refl w2.heap.size w2) (Nat.le_refl _) rfl
          go_simp
          generalize w2.alloc (.cells #[] 37) = w3 at hst ⊢
          obtain ⟨hsz1, hbk1, hbel, -⟩ := hst w3 rfl
          clear hst
          have I3 := I2.next hbel
          have hT1 := (hbel.block pT (Array.getElem?_eq_some_iff.1 hT).1).trans hT
          clear hT
          have hT := hT1
          clear hT1
          clear hbk1 hsz1
          clear hbel
          refine hK.out _ _ ⟨trivial, fun _ => keepS _ I3⟩ (fun hsh1 hS1 => ?_)
          clear hsh hS hK K; have hsh := hsh1; have hS := hS1; clear hsh1 hS1
          refine anyL_one (i := 5) (by kernel_rfl) rfl hsh (fun K hK => ?_)
          refine step_append_sv (w := w3) (by rfl) (.tmp 7) (.tmp 9) (by rfl) Tryd.underlying27 info34 rfl (by decide) (m + 2) 0 _ [] (by rfl) (OwnA.bare _ _ _ _ _) _ no (ovC s.over) (by rfl) (HSO _ I3) (ovC_one _) (by unfold maxLen; omega) (by omega) I3.2 ?_
          intro v5 w4 own5 gr5 at5
          rw [rowOf_zero] at gr5
          obtain ⟨ao, co, rfl⟩ := own5.slice
          have hbel := grown_none_below gr5
          simp only [Nat.zero_add, List.nil_append] at own5 ⊢
          have I4 := I3.next hbel
          have hT1 := (hbel.block pT (Array.getElem?_eq_some_iff.1 hT).1).trans hT
          clear hT
          have hT := hT1
          clear hT1
          have hov := own5
          clear own5 gr5 at5
          clear hbel
          refine hK.out _ _ ⟨trivial, fun _ => keepS _ I4⟩ (fun hsh1 hS1 => ?_)
          clear hsh hS hK K; have hsh := hsh1; have hS := hS1; clear hsh1 hS1
          refine anyL_one (i := 9) (by kernel_rfl) rfl hsh (fun K hK => ?_)
          refine step_append_sv (w := w4) (by rfl) (.tmp 11) (.tmp 13) (by rfl) Tryd.underlying28 info37 rfl (by decide) (m + 2) 0 _ [] (by rfl) (OwnA.bare _ _ _ _ _) _ nc cs (by rfl) (HSC _ I4) HX.out.2 (by unfold maxLen; omega) (by omega) I4.2 ?_
          intro v9 w5 own9 gr9 at9
          rw [rowOf_zero] at gr9
          obtain ⟨ac, cc, rfl⟩ := own9.slice
          have hbel := grown_none_below gr9
          simp only [Nat.zero_add, List.nil_append] at own9 ⊢
          have I5 := I4.next hbel
          have hT1 := (hbel.block pT (Array.getElem?_eq_some_iff.1 hT).1).trans hT
          clear hT
          have hT := hT1
          clear hT1
          have hov1 := hov.below hbel (Nat.le_refl _)
          clear hov
          have hov := hov1
          clear hov1
          have hcm := own9
          clear own9 gr9 at9
          clear hbel
          refine hK.out _ _ ⟨trivial, fun _ => keepS _ I5⟩ (fun hsh1 hS1 => ?_)
          clear hsh hS hK K; have hsh := hsh1; have hS := hS1; clear hsh1 hS1
          refine anyL_take1 20 (i := 10) (v := ?_) rfl (by kernel_rfl) (by kernel_rfl) (by kernel_rfl) (by decide) (by kernel_rfl) hsh (fun _ _ _ h => h) (Or.inl ⟨by rfl, ?_⟩) hS ?_
          rotate_left 1
          · (intro wS hSw; (try dsimp only at hSw); first | (go_simp; done) | (go_simp; with_reducible rfl))
          intro hsh1 hS1; clear hsh hS; have hsh := hsh1; have hS := hS1; clear hsh1 hS1
          simp only [Act.put, List.setIfInBounds_toArray, List.set_cons_zero, List.set_cons_succ]
          have hz0 := hT
          have t0 : w5.cell? ⟨pT, 0, none⟩ = some (.int .i64 0) := by unfold World.cell?; rw [hT]; rfl
          have t1 : w5.cell? ⟨pT, 1, none⟩ = some (.slice none 0 0) := by unfold World.cell?; rw [hT]; rfl
          have t2 : w5.cell? ⟨pT, 2, none⟩ = some (.slice none 0 0) := by unfold World.cell?; rw [hT]; rfl
          have f0 : w5.frozen? ⟨pT, 0, none⟩ = false := by unfold World.frozen?; rw [hT]; rfl
          have f1 : w5.frozen? ⟨pT, 1, none⟩ = false := by unfold World.frozen?; rw [hT]; rfl
          have f2 : w5.frozen? ⟨pT, 2, none⟩ = false := by unfold World.frozen?; rw [hT]; rfl
          have hcut := cutCp_of (lim := lim) I5 hpT hT hov hcm
          clear hz0 hov hcm
          refine anyL_one (i := 12) (by kernel_rfl) rfl hsh (fun K hK => ?_)
          go_simp
          refine hK.out _ _ ⟨trivial, fun h => absurd h (by decide)⟩ (fun hsh1 hS1 => ?_)
          clear hsh hS hK K; have hsh := hsh1; have hS := hS1; clear hsh1 hS1
          refine anyL_done (by kernel_rfl) ?_ _
          go_wp2_with fail
          go_meet
          case rel => exact hcut
    · have hst := round_new2 (.cells #[] 37) (Below.refl w0.heap.size w0) (Nat.le_refl _) rfl
      go_simp
      generalize w0.alloc (.cells #[] 37) = w1 at hst ⊢
      obtain ⟨hsz1, hbk1, hbel, -⟩ := hst w1 rfl
      clear hst
      have I1 := I0.next hbel
      clear hbk1 hsz1
      clear hbel
      refine hK.out _ _ ⟨trivial, fun _ => keepS _ I1⟩ (fun hsh1 hS1 => ?_)
      clear hsh hS hK K; have hsh := hsh1; have hS := hS1; clear hsh1 hS1
      refine anyL_ready (rs := [2, 11]) (by kernel_rfl) (by simp) ?_
      refine AllL.cons rfl (by kernel_rfl) hsh (fun K hK => ?_) (AllL.cons rfl (by kernel_rfl) hsh (fun K hK => ?_) (AllL.nil))
      · have hst := round_new2 (.cells #[] 34) (Below.refl w1.heap.size w1) (Nat.le_refl _) rfl
        go_simp
        generalize w1.alloc (.cells #[] 34) = w2 at hst ⊢
        obtain ⟨hsz1, hbk1, hbel, -⟩ := hst w2 rfl
        clear hst
        have I2 := I1.next hbel
        clear hbk1 hsz1
        clear hbel
        refine hK.out _ _ ⟨trivial, fun _ => keepS _ I2⟩ (fun hsh1 hS1 => ?_)
        clear hsh hS hK K; have hsh := hsh1; have hS := hS1; clear hsh1 hS1
        refine anyL_ready (rs := [5, 11]) (by kernel_rfl) (by simp) ?_
        refine AllL.cons rfl (by kernel_rfl) hsh (fun K hK => ?_) (AllL.cons rfl (by kernel_rfl) hsh (fun K hK => ?_) (AllL.nil))
        · refine step_append_sv (w := w2) (by rfl) (.tmp 7) (.tmp 9) (by rfl) Tryd.underlying27 info34 rfl (by decide) (m + 2) 0 _ [] (by rfl) (OwnA.bare _ _ _ _ _) _ no (ovC s.over) (by rfl) (HSO _ I2) (ovC_one _) (by unfold maxLen; omega) (by omega) I2.2 ?_
          intro v5 w3 own5 gr5 at5
          rw [rowOf_zero] at gr5
          obtain ⟨ao, co, rfl⟩ := own5.slice
          have hbel := grown_none_below gr5
          simp only [Nat.zero_add, List.nil_append] at own5 ⊢
          have I3 := I2.next hbel
          have hov := own5
          clear own5 gr5 at5
          clear hbel
          refine hK.out _ _ ⟨trivial, fun _ => keepS _ I3⟩ (fun hsh1 hS1 => ?_)
          clear hsh hS hK K; have hsh := hsh1; have hS := hS1; clear hsh1 hS1
          refine anyL_ready (rs := [9, 11]) (by kernel_rfl) (by simp) ?_
          refine AllL.cons rfl (by kernel_rfl) hsh (fun K hK => ?_) (AllL.cons rfl (by kernel_rfl) hsh (fun K hK => ?_) (AllL.nil))
          · refine step_append_sv (w := w3) (by rfl) (.tmp 11) (.tmp 13) (by rfl) Tryd.underlying28 info37 rfl (by decide) (m + 2) 0 _ [] (by rfl) (OwnA.bare _ _ _ _ _) _ nc cs (by rfl) (HSC _ I3) HX.out.2 (by unfold maxLen; omega) (by omega) I3.2 ?_
            intro v9 w4 own9 gr9 at9
            rw [rowOf_zero] at gr9
            obtain ⟨ac, cc, rfl⟩ := own9.slice
            have hbel := grown_none_below gr9
            simp only [Nat.zero_add, List.nil_append] at own9 ⊢
            have I4 := I3.next hbel
            have hov1 := hov.below hbel (Nat.le_refl _)
            clear hov
            have hov := hov1
            clear hov1
            have hcm := own9
            clear own9 gr9 at9
            clear hbel
            refine hK.out _ _ ⟨trivial, fun _ => keepS _ I4⟩ (fun hsh1 hS1 => ?_)
            clear hsh hS hK K; have hsh := hsh1; have hS := hS1; clear hsh1 hS1
            refine anyL_take1 20 (i := 10) (v := ?_) rfl (by kernel_rfl) (by kernel_rfl) (by kernel_rfl) (by decide) (by kernel_rfl) hsh (fun _ _ _ h => h) (Or.inl ⟨by rfl, ?_⟩) hS ?_
            rotate_left 1
            · (intro wS hSw; (try dsimp only at hSw); first | (go_simp; done) | (go_simp; with_reducible rfl))
            intro hsh1 hS1; clear hsh hS; have hsh := hsh1; have hS := hS1; clear hsh1 hS1
            simp only [Act.put, List.setIfInBounds_toArray, List.set_cons_zero, List.set_cons_succ]
            refine anyL_one (i := 11) (by kernel_rfl) rfl hsh (fun K hK => ?_)
            have hst := round_new2 (.cells #[.int .i64 0, .slice none 0 0, .slice none 0 0] 30) (Below.refl w4.heap.size w4) (Nat.le_refl _) rfl
            go_simp
            generalize w4.alloc (.cells #[.int .i64 0, .slice none 0 0, .slice none 0 0] 30) = w5 at hst ⊢
            obtain ⟨hsz1, hbk1, hbel, -⟩ := hst w5 rfl
            clear hst
            have I5 := I4.next hbel
            have hov1 := hov.below hbel (Nat.le_refl _)
            clear hov
            have hov := hov1
            clear hov1
            have hcm1 := hcm.below hbel (Nat.le_refl _)
            clear hcm
            have hcm := hcm1
            clear hcm1
            have hT := hbk1
            obtain ⟨pT, hpTe⟩ : ∃ p, w4.heap.size = p := ⟨_, rfl⟩
            have hpT : m + 2 ≤ pT := by have := I4.2; omega
            rw [hpTe] at hT ⊢
            clear hpTe
            clear hbk1 hsz1
            clear hbel
            refine hK.out _ _ ⟨trivial, fun _ => keepS _ I5⟩ (fun hsh1 hS1 => ?_)
            clear hsh hS hK K; have hsh := hsh1; have hS := hS1; clear hsh1 hS1
            have hz0 := hT
            have t0 : w5.cell? ⟨pT, 0, none⟩ = some (.int .i64 0) := by unfold World.cell?; rw [hT]; rfl
            have t1 : w5.cell? ⟨pT, 1, none⟩ = some (.slice none 0 0) := by unfold World.cell?; rw [hT]; rfl
            have t2 : w5.cell? ⟨pT, 2, none⟩ = some (.slice none 0 0) := by unfold World.cell?; rw [hT]; rfl
            have f0 : w5.frozen? ⟨pT, 0, none⟩ = false := by unfold World.frozen?; rw [hT]; rfl
            have f1 : w5.frozen? ⟨pT, 1, none⟩ = false := by unfold World.frozen?; rw [hT]; rfl
            have f2 : w5.frozen? ⟨pT, 2, none⟩ = false := by unfold World.frozen?; rw [hT]; rfl
            have hcut := cutCp_of (lim := lim) I5 hpT hT hov hcm
            clear hz0 hov hcm
            refine anyL_one (i := 12) (by kernel_rfl) rfl hsh (fun K hK => ?_)
            go_simp
            refine hK.out _ _ ⟨trivial, fun h => absurd h (by decide)⟩ (fun hsh1 hS1 => ?_)
            clear hsh hS hK K; have hsh := hsh1; have hS := hS1; clear hsh1 hS1
            refine anyL_done (by kernel_rfl) ?_ _
            go_wp2_with fail
            go_meet
            case rel => exact hcut
          · have hst := round_new2 (.cells #[.int .i64 0, .slice none 0 0, .slice none 0 0] 30) (Below.refl w3.heap.size w3) (Nat.le_refl _) rfl
            go_simp
            generalize w3.alloc (.cells #[.int .i64 0, .slice none 0 0, .slice none 0 0] 30) = w4 at hst ⊢
            obtain ⟨hsz1, hbk1, hbel, -⟩ := hst w4 rfl
            clear hst
            have I4 := I3.next hbel
            have hov1 := hov.below hbel (Nat.le_refl _)
            clear hov
            have hov := hov1
            clear hov1
            have hT := hbk1
            obtain ⟨pT, hpTe⟩ : ∃ p, w3.heap.size = p := ⟨_, rfl⟩
            have hpT : m + 2 ≤ pT := by have := I3.2; omega
            rw [hpTe] at hT ⊢
            clear hpTe
            clear hbk1 hsz1
            clear hbel
            refine hK.out _ _ ⟨trivial, fun _ => keepS _ I4⟩ (fun hsh1 hS1 => ?_)
            clear hsh hS hK K; have hsh := hsh1; have hS := hS1; clear hsh1 hS1
            refine anyL_one (i := 9) (by kernel_rfl) rfl hsh (fun K hK => ?_)
            refine step_append_sv (w := w4) (by rfl) (.tmp 11) (.tmp 13) (by rfl) Tryd.underlying28 info37 rfl (by decide) (m + 2) 0 _ [] (by rfl) (OwnA.bare _ _ _ _ _) _ nc cs (by rfl) (HSC _ I4) HX.out.2 (by unfold maxLen; omega) (by omega) I4.2 ?_
            intro v9 w5 own9 gr9 at9
            rw [rowOf_zero] at gr9
            obtain ⟨ac, cc, rfl⟩ := own9.slice
            have hbel := grown_none_below gr9
            simp only [Nat.zero_add, List.nil_append] at own9 ⊢
            have I5 := I4.next hbel
            have hT1 := (hbel.block pT (Array.getElem?_eq_some_iff.1 hT).1).trans hT
            clear hT
            have hT := hT1
            clear hT1
            have hov1 := hov.below hbel (Nat.le_refl _)
            clear hov
            have hov := hov1
            clear hov1
            have hcm := own9
            clear own9 gr9 at9
            clear hbel
            refine hK.out _ _ ⟨trivial, fun _ => keepS _ I5⟩ (fun hsh1 hS1 => ?_)
            clear hsh hS hK K; have hsh := hsh1; have hS := hS1; clear hsh1 hS1
            refine anyL_take1 20 (i := 10) (v := ?_) rfl (by kernel_rfl) (by kernel_rfl) (by kernel_rfl) (by decide) (by kernel_rfl) hsh (fun _ _ _ h => h) (Or.inl ⟨by rfl, ?_⟩) hS ?_
            rotate_left 1
            · (intro wS hSw; (try dsimp only at hSw); first | (go_simp; done) | (go_simp; with_reducible rfl))
            intro hsh1 hS1; clear hsh hS; have hsh := hsh1; have hS := hS1; clear hsh1 hS1
            simp only [Act.put, List.setIfInBounds_toArray, List.set_cons_zero, List.set_cons_succ]
            have hz0 := hT
            have t0 : w5.cell? ⟨pT, 0, none⟩ = some (.int .i64 0) := by unfold World.cell?; rw [hT]; rfl
            have t1 : w5.cell? ⟨pT, 1, none⟩ = some (.slice none 0 0) := by unfold World.cell?; rw [hT]; rfl
            have t2 : w5.cell? ⟨pT, 2, none⟩ = some (.slice none 0 0) := by unfold World.cell?; rw [hT]; rfl
            have f0 : w5.frozen? ⟨pT, 0, none⟩ = false := by unfold World.frozen?; rw [hT]; rfl
            have f1 : w5.frozen? ⟨pT, 1, none⟩ = false := by unfold World.frozen?; rw [hT]; rfl
            have f2 : w5.frozen? ⟨pT, 2, none⟩ = false := by unfold World.frozen?; rw [hT]; rfl
            have hcut := cutCp_of (lim := lim) I5 hpT hT hov hcm
            clear hz0 hov hcm
            refine anyL_one (i := 12) (by kernel_rfl) rfl hsh (fun K hK => ?_)
            go_simp
            refine hK.out _ _ ⟨trivial, fun h => absurd h (by decide)⟩ (fun hsh1 hS1 => ?_)
            clear hsh hS hK K; have hsh := hsh1; have hS := hS1; clear hsh1 hS1
            refine anyL_done (by kernel_rfl) ?_ _
            go_wp2_with fail
            go_meet
            case rel => exact hcut
        · have hst := round_new2 (.cells #[.int .i64 0, .slice none 0 0, .slice none 0 0] 30) (Below.refl w2.heap.size w2) (Nat.le_refl _) rfl
          go_simp
          generalize w2.alloc (.cells #[.int .i64 0, .slice none 0 0, .slice none 0 0] 30) = w3 at hst ⊢
          obtain ⟨hsz1, hbk1, hbel, -⟩ := hst w3 rfl
          clear hst
          have I3 := I2.next hbel
          have hT := hbk1
          obtain ⟨pT, hpTe⟩ : ∃ p, w2.heap.size = p := ⟨_, rfl⟩
          have hpT : m + 2 ≤ pT := by have := I2.2; omega
          rw [hpTe] at hT ⊢
          clear hpTe
          clear hbk1 hsz1
          clear hbel
          refine hK.out _ _ ⟨trivial, fun _ => keepS _ I3⟩ (fun hsh1 hS1 => ?_)
          clear hsh hS hK K; have hsh := hsh1; have hS := hS1; clear hsh1 hS1
          refine anyL_one (i := 5) (by kernel_rfl) rfl hsh (fun K hK => ?_)
          refine step_append_sv (w := w3) (by rfl) (.tmp 7) (.tmp 9) (by rfl) Tryd.underlying27 info34 rfl (by decide) (m + 2) 0 _ [] (by rfl) (OwnA.bare _ _ _ _ _) _ no (ovC s.over) (by rfl) (HSO _ I3) (ovC_one _) (by unfold maxLen; omega) (by omega) I3.2 ?_
          intro v5 w4 own5 gr5 at5
          rw [rowOf_zero] at gr5
          obtain ⟨ao, co, rfl⟩ := own5.slice
          have hbel := grown_none_below gr5
          simp only [Nat.zero_add, List.nil_append] at own5 ⊢
          have I4 := I3.next hbel
          have hT1 := (hbel.block pT (Array.getElem?_eq_some_iff.1 hT).1).trans hT
          clear hT
          have hT := hT1
          clear hT1
          have hov := own5
          clear own5 gr5 at5
          clear hbel
          refine hK.out _ _ ⟨trivial, fun _ => keepS _ I4⟩ (fun hsh1 hS1 => ?_)
          clear hsh hS hK K; have hsh := hsh1; have hS := hS1; clear hsh1 hS1
          refine anyL_one (i := 9) (by kernel_rfl) rfl hsh (fun K hK => ?_)
          refine step_append_sv (w := w4) (by rfl) (.tmp 11) (.tmp 13) (by rfl) Tryd.underlying28 info37 rfl (by decide) (m + 2) 0 _ [] (by rfl) (OwnA.bare _ _ _ _ _) _ nc cs (by rfl) (HSC _ I4) HX.out.2 (by unfold maxLen; omega) (by omega) I4.2 ?_
          intro v9 w5 own9 gr9 at9
          rw [rowOf_zero] at gr9
          obtain ⟨ac, cc, rfl⟩ := own9.slice
          have hbel := grown_none_below gr9
          simp only [Nat.zero_add, List.nil_append] at own9 ⊢
          have I5 := I4.next hbel
          have hT1 := (hbel.block pT (Array.getElem?_eq_some_iff.1 hT).1).trans hT
          clear hT
          have hT := hT1
          clear hT1
          have hov1 := hov.below hbel (Nat.le_refl _)
          clear hov
          have hov := hov1
          clear hov1
          have hcm := own9
          clear own9 gr9 at9
          clear hbel
          refine hK.out _ _ ⟨trivial, fun _ => keepS _ I5⟩ (fun hsh1 hS1 => ?_)
          clear hsh hS hK K; have hsh := hsh1; have hS := hS1; clear hsh1 hS1
          refine anyL_take1 20 (i := 10) (v := ?_) rfl (by kernel_rfl) (by kernel_rfl) (by kernel_rfl) (by decide) (by kernel_rfl) hsh (fun _ _ _ h => h) (Or.inl ⟨by rfl, ?_⟩) hS ?_
          rotate_left 1
          · (intro wS hSw; (try dsimp only at hSw); first | (go_simp; done) | (go_simp; with_reducible rfl))
          intro hsh1 hS1; clear hsh hS; have hsh := hsh1; have hS := hS1; clear hsh1 hS1
          simp only [Act.put, List.setIfInBounds_toArray, List.set_cons_zero, List.set_cons_succ]
          have hz0 := hT
          have t0 : w5.cell? ⟨pT, 0, none⟩ = some (.int .i64 0) := by unfold World.cell?; rw [hT]; rfl
          have t1 : w5.cell? ⟨pT, 1, none⟩ = some (.slice none 0 0) := by unfold World.cell?; rw [hT]; rfl
          have t2 : w5.cell? ⟨pT, 2, none⟩ = some (.slice none 0 0) := by unfold World.cell?; rw [hT]; rfl
          have f0 : w5.frozen? ⟨pT, 0, none⟩ = false := by unfold World.frozen?; rw [hT]; rfl
          have f1 : w5.frozen? ⟨pT, 1, none⟩ = false := by unfold World.frozen?; rw [hT]; rfl
          have f2 : w5.frozen? ⟨pT, 2, none⟩ = false := by unfold World.frozen?; rw [hT]; rfl
          have hcut := cutCp_of (lim := lim) I5 hpT hT hov hcm
          clear hz0 hov hcm
          refine anyL_one (i := 12) (by kernel_rfl) rfl hsh (fun K hK => ?_)
          go_simp
          refine hK.out _ _ ⟨trivial, fun h => absurd h (by decide)⟩ (fun hsh1 hS1 => ?_)
          clear hsh hS hK K; have hsh := hsh1; have hS := hS1; clear hsh1 hS1
          refine anyL_done (by kernel_rfl) ?_ _
          go_wp2_with fail
          go_meet
          case rel => exact hcut
      · have hst := round_new2 (.cells #[.int .i64 0, .slice none 0 0, .slice none 0 0] 30) (Below.refl w1.heap.size w1) (Nat.le_refl _) rfl
        go_simp
        generalize w1.alloc (.cells #[.int .i64 0, .slice none 0 0, .slice none 0 0] 30) = w2 at hst ⊢
        obtain ⟨hsz1, hbk1, hbel, -⟩ := hst w2 rfl
        clear hst
        have I2 := I1.next hbel
        have hT := hbk1
        obtain ⟨pT, hpTe⟩ : ∃ p, w1.heap.size = p := ⟨_, rfl⟩
        have hpT : m + 2 ≤ pT := by have := I1.2; omega
        rw [hpTe] at hT ⊢
        clear hpTe
        clear hbk1 hsz1
        clear hbel
        refine hK.out _ _ ⟨trivial, fun _ => keepS _ I2⟩ (fun hsh1 hS1 => ?_)
        clear hsh hS hK K; have hsh := hsh1; have hS := hS1; clear hsh1 hS1
        refine anyL_one (i := 2) (by kernel_rfl) rfl hsh (fun K hK => ?_)
        have hst := round_new2 (.cells #[] 34) (Below.refl w2.heap.size w2) (Nat.le_refl _) rfl
        go_simp
        generalize w2.alloc (.cells #[] 34) = w3 at hst ⊢
        obtain ⟨hsz1, hbk1, hbel, -⟩ := hst w3 rfl
        clear hst
        have I3 := I2.next hbel
        have hT1 := (hbel.block pT (Array.getElem?_eq_some_iff.1 hT).1).trans hT
        clear hT
        have hT := hT1
        clear hT1
        clear hbk1 hsz1
        clear hbel
        refine hK.out _ _ ⟨trivial, fun _ => keepS _ I3⟩ (fun hsh1 hS1 => ?_)
        clear hsh hS hK K; have hsh := hsh1; have hS := hS1; clear hsh1 hS1
        refine anyL_one (i := 5) (by kernel_rfl) rfl hsh (fun K hK => ?_)
        refine step_append_sv (w := w3) (by rfl) (.tmp 7) (.tmp 9) (by rfl) Tryd.underlying27 info34 rfl (by decide) (m + 2) 0 _ [] (by rfl) (OwnA.bare _ _ _ _ _) _ no (ovC s.over) (by rfl) (HSO _ I3) (ovC_one _) (by unfold maxLen; omega) (by omega) I3.2 ?_
        intro v5 w4 own5 gr5 at5
        rw [rowOf_zero] at gr5
        obtain ⟨ao, co, rfl⟩ := own5.slice
        have hbel := grown_none_below gr5
        simp only [Nat.zero_add, List.nil_append] at own5 ⊢
        have I4 := I3.next hbel
        have hT1 := (hbel.block pT (Array.getElem?_eq_some_iff.1 hT).1).trans hT
        clear hT
        have hT := hT1
        clear hT1
        have hov := own5
        clear own5 gr5 at5
        clear hbel
        refine hK.out _ _ ⟨trivial, fun _ => keepS _ I4⟩ (fun hsh1 hS1 => ?_)
        clear hsh hS hK K; have hsh := hsh1; have hS := hS1; clear hsh1 hS1
        refine anyL_one (i := 9) (by kernel_rfl) rfl hsh (fun K hK => ?_)
        refine step_append_sv (w := w4) (by rfl) (.tmp 11) (.tmp 13) (by rfl) Tryd.underlying28 info37 rfl (by decide) (m + 2) 0 _ [] (by rfl) (OwnA.bare _ _ _ _ _) _ nc cs (by rfl) (HSC _ I4) HX.out.2 (by unfold maxLen; omega) (by omega) I4.2 ?_
        intro v9 w5 own9 gr9 at9
        rw [rowOf_zero] at gr9
        obtain ⟨ac, cc, rfl⟩ := own9.slice
        have hbel := grown_none_below gr9
        simp only [Nat.zero_add, List.nil_append] at own9 ⊢
        have I5 := I4.next hbel
        have hT1 := (hbel.block pT (Array.getElem?_eq_some_iff.1 hT).1).trans hT
        clear hT
        have hT := hT1
        clear hT1
        have hov1 := hov.below hbel (Nat.le_refl _)
        clear hov
        have hov := hov1
        clear hov1
        have hcm := own9
        clear own9 gr9 at9
        clear hbel
        refine hK.out _ _ ⟨trivial, fun _ => keepS _ I5⟩ (fun hsh1 hS1 => ?_)
        clear hsh hS hK K; have hsh := hsh1; have hS := hS1; clear hsh1 hS1
        refine anyL_take1 20 (i := 10) (v := ?_) rfl (by kernel_rfl) (by kernel_rfl) (by kernel_rfl) (by decide) (by kernel_rfl) hsh (fun _ _ _ h => h) (Or.inl ⟨by rfl, ?_⟩) hS ?_
        rotate_left 1
        · (intro wS hSw; (try dsimp only at hSw); first | (go_simp; done) | (go_simp; with_reducible rfl))
        intro hsh1 hS1; clear hsh hS; have hsh := hsh1; have hS := hS1; clear hsh1 hS1
        simp only [Act.put, List.setIfInBounds_toArray, List.set_cons_zero, List.set_cons_succ]
        have hz0 := hT
        have t0 : w5.cell? ⟨pT, 0, none⟩ = some (.int .i64 0) := by unfold World.cell?; rw [hT]; rfl
        have t1 : w5.cell? ⟨pT, 1, none⟩ = some (.slice none 0 0) := by unfold World.cell?; rw [hT]; rfl
        have t2 : w5.cell? ⟨pT, 2, none⟩ = some (.slice none 0 0) := by unfold World.cell?; rw [hT]; rfl
        have f0 : w5.frozen? ⟨pT, 0, none⟩ = false := by unfold World.frozen?; rw [hT]; rfl
        have f1 : w5.frozen? ⟨pT, 1, none⟩ = false := by unfold World.frozen?; rw [hT]; rfl
        have f2 : w5.frozen? ⟨pT, 2, none⟩ = false := by unfold World.frozen?; rw [hT]; rfl
        have hcut := cutCp_of (lim := lim) I5 hpT hT hov hcm
        clear hz0 hov hcm
        refine anyL_one (i := 12) (by kernel_rfl) rfl hsh (fun K hK => ?_)
        go_simp
        refine hK.out _ _ ⟨trivial, fun h => absurd h (by decide)⟩ (fun hsh1 hS1 => ?_)
        clear hsh hS hK K; have hsh := hsh1; have hS := hS1; clear hsh1 hS1
        refine anyL_done (by kernel_rfl) ?_ _
        go_wp2_with fail
        go_meet
        case rel => exact hcut
    · have hst := round_new2 (.cells #[.int .i64 0, .slice none 0 0, .slice none 0 0] 30) (Below.refl w0.heap.size w0) (Nat.le_refl _) rfl
      go_simp
      generalize w0.alloc (.cells #[.int .i64 0, .slice none 0 0, .slice none 0 0] 30) = w1 at hst ⊢
      obtain ⟨hsz1, hbk1, hbel, -⟩ := hst w1 rfl
      clear hst
      have I1 := I0.next hbel
      have hT := hbk1
      obtain ⟨pT, hpTe⟩ : ∃ p, w0.heap.size = p := ⟨_, rfl⟩
      have hpT : m + 2 ≤ pT := by have := I0.2; omega
      rw [hpTe] at hT ⊢
      clear hpTe
      clear hbk1 hsz1
      clear hbel
      refine hK.out _ _ ⟨trivial, fun _ => keepS _ I1⟩ (fun hsh1 hS1 => ?_)
      clear hsh hS hK K; have hsh := hsh1; have hS := hS1; clear hsh1 hS1
      refine anyL_ready (rs := [2, 6]) (by kernel_rfl) (by simp) ?_
      refine AllL.cons rfl (by kernel_rfl) hsh (fun K hK => ?_) (AllL.cons rfl (by kernel_rfl) hsh (fun K hK => ?_) (AllL.nil))
      · have hst := round_new2 (.cells #[] 34) (Below.refl w1.heap.size w1) (Nat.le_refl _) rfl
        go_simp
        generalize w1.alloc (.cells #[] 34) = w2 at hst ⊢
        obtain ⟨hsz1, hbk1, hbel, -⟩ := hst w2 rfl
        clear hst
        have I2 := I1.next hbel
        have hT1 := (hbel.block pT (Array.getElem?_eq_some_iff.1 hT).1).trans hT
        clear hT
        have hT := hT1
        clear hT1
        clear hbk1 hsz1
        clear hbel
        refine hK.out _ _ ⟨trivial, fun _ => keepS _ I2⟩ (fun hsh1 hS1 => ?_)
        clear hsh hS hK K; have hsh := hsh1; have hS := hS1; clear hsh1 hS1
        refine anyL_ready (rs := [5, 6]) (by kernel_rfl) (by simp) ?_
        refine AllL.cons rfl (by kernel_rfl) hsh (fun K hK => ?_) (AllL.cons rfl (by kernel_rfl) hsh (fun K hK => ?_) (AllL.nil))
        · refine step_append_sv (w := w2) (by rfl) (.tmp 7) (.tmp 9) (by rfl) Tryd.underlying27 info34 rfl (by decide) (m + 2) 0 _ [] (by rfl) (OwnA.bare _ _ _ _ _) _ no (ovC s.over) (by rfl) (HSO _ I2) (ovC_one _) (by unfold maxLen; omega) (by omega) I2.2 ?_
          intro v5 w3 own5 gr5 at5
          rw [rowOf_zero] at gr5
          obtain ⟨ao, co, rfl⟩ := own5.slice
          have hbel := grown_none_below gr5
          simp only [Nat.zero_add, List.nil_append] at own5 ⊢
          have I3 := I2.next hbel
          have hT1 := (hbel.block pT (Array.getElem?_eq_some_iff.1 hT).1).trans hT
          clear hT
          have hT := hT1
          clear hT1
          have hov := own5
          clear own5 gr5 at5
          clear hbel
          refine hK.out _ _ ⟨trivial, fun _ => keepS _ I3⟩ (fun hsh1 hS1 => ?_)
          clear hsh hS hK K; have hsh := hsh1; have hS := hS1; clear hsh1 hS1
          refine anyL_one (i := 6) (by kernel_rfl) rfl hsh (fun K hK => ?_)
          have hst := round_new2 (.cells #[] 37) (Below.refl w3.heap.size w3) (Nat.le_refl _) rfl
          go_simp
          generalize w3.alloc (.cells #[] 37) = w4 at hst ⊢
          obtain ⟨hsz1, hbk1, hbel, -⟩ := hst w4 rfl
          clear hst
          have I4 := I3.next hbel
          have hT1 := (hbel.block pT (Array.getElem?_eq_some_iff.1 hT).1).trans hT
          clear hT
          have hT := hT1
          clear hT1
          have hov1 := hov.below hbel (Nat.le_refl _)
          clear hov
          have hov := hov1
          clear hov1
          clear hbk1 hsz1
          clear hbel
          refine hK.out _ _ ⟨trivial, fun _ => keepS _ I4⟩ (fun hsh1 hS1 => ?_)
          clear hsh hS hK K; have hsh := hsh1; have hS := hS1; clear hsh1 hS1
          refine anyL_one (i := 9) (by kernel_rfl) rfl hsh (fun K hK => ?_)
          refine step_append_sv (w := w4) (by rfl) (.tmp 11) (.tmp 13) (by rfl) Tryd.underlying28 info37 rfl (by decide) (m + 2) 0 _ [] (by rfl) (OwnA.bare _ _ _ _ _) _ nc cs (by rfl) (HSC _ I4) HX.out.2 (by unfold maxLen; omega) (by omega) I4.2 ?_
          intro v9 w5 own9 gr9 at9
          rw [rowOf_zero] at gr9
          obtain ⟨ac, cc, rfl⟩ := own9.slice
          have hbel := grown_none_below gr9
          simp only [Nat.zero_add, List.nil_append] at own9 ⊢
          have I5 := I4.next hbel
          have hT1 := (hbel.block pT (Array.getElem?_eq_some_iff.1 hT).1).trans hT
          clear hT
          have hT := hT1
          clear hT1
          have hov1 := hov.below hbel (Nat.le_refl _)
          clear hov
          have hov := hov1
          clear hov1
          have hcm := own9
          clear own9 gr9 at9
          clear hbel
          refine hK.out _ _ ⟨trivial, fun _ => keepS _ I5⟩ (fun hsh1 hS1 => ?_)
          clear hsh hS hK K; have hsh := hsh1; have hS := hS1; clear hsh1 hS1
          refine anyL_take1 20 (i := 10) (v := ?_) rfl (by kernel_rfl) (by kernel_rfl) (by kernel_rfl) (by decide) (by kernel_rfl) hsh (fun _ _ _ h => h) (Or.inl ⟨by rfl, ?_⟩) hS ?_
          rotate_left 1
          · (intro wS hSw; (try dsimp only at hSw); first | (go_simp; done) | (go_simp; with_reducible rfl))
          intro hsh1 hS1; clear hsh hS; have hsh := hsh1; have hS := hS1; clear hsh1 hS1
          simp only [Act.put, List.setIfInBounds_toArray, List.set_cons_zero, List.set_cons_succ]
          have hz0 := hT
          have t0 : w5.cell? ⟨pT, 0, none⟩ = some (.int .i64 0) := by unfold World.cell?; rw [hT]; rfl
          have t1 : w5.cell? ⟨pT, 1, none⟩ = some (.slice none 0 0) := by unfold World.cell?; rw [hT]; rfl
          have t2 : w5.cell? ⟨pT, 2, none⟩ = some (.slice none 0 0) := by unfold World.cell?; rw [hT]; rfl
          have f0 : w5.frozen? ⟨pT, 0, none⟩ = false := by unfold World.frozen?; rw [hT]; rfl
          have f1 : w5.frozen? ⟨pT, 1, none⟩ = false := by unfold World.frozen?; rw [hT]; rfl
          have f2 : w5.frozen? ⟨pT, 2, none⟩ = false := by unfold World.frozen?; rw [hT]; rfl
          have hcut := cutCp_of (lim := lim) I5 hpT hT hov hcm
          clear hz0 hov hcm
          refine anyL_one (i := 12) (by kernel_rfl) rfl hsh (fun K hK => ?_)
          go_simp
          refine hK.out _ _ ⟨trivial, fun h => absurd h (by decide)⟩ (fun hsh1 hS1 => ?_)
          clear hsh hS hK K; have hsh := hsh1; have hS := hS1; clear hsh1 hS1
          refine anyL_done (by kernel_rfl) ?_ _
          go_wp2_with fail
          go_meet
          case rel => exact hcut
        · have hst := round_new2 (.cells #[] 37) (Below.refl w2.heap.size w2) (Nat.le_refl _) rfl
          go_simp
          generalize w2.alloc (.cells #[] 37) = w3 at hst ⊢
          obtain ⟨hsz1, hbk1, hbel, -⟩ := hst w3 rfl
          clear hst
          have I3 := I2.next hbel
          have hT1 := (hbel.block pT (Array.getElem?_eq_some_iff.1 hT).1).trans hT
          clear hT
          have hT := hT1
          clear hT1
          clear hbk1 hsz1
          clear hbel
          refine hK.out _ _ ⟨trivial, fun _ => keepS _ I3⟩ (fun hsh1 hS1 => ?_)
          clear hsh hS hK K; have hsh := hsh1; have hS := hS1; clear hsh1 hS1
          refine anyL_one (i := 5) (by kernel_rfl) rfl hsh (fun K hK => ?_)
          refine step_append_sv (w := w3) (by rfl) (.tmp 7) (.tmp 9) (by rfl) Tryd.underlying27 info34 rfl (by decide) (m + 2) 0 _ [] (by rfl) (OwnA.bare _ _ _ _ _) _ no (ovC s.over) (by rfl) (HSO _ I3) (ovC_one _) (by unfold maxLen; omega) (by omega) I3.2 ?_
          intro v5 w4 own5 gr5 at5
          rw [rowOf_zero] at gr5
          obtain ⟨ao, co, rfl⟩ := own5.slice
          have hbel := grown_none_below gr5
          simp only [Nat.zero_add, List.nil_append] at own5 ⊢
          have I4 := I3.next hbel
          have hT1 := (hbel.block pT (Array.getElem?_eq_some_iff.1 hT).1).trans hT
          clear hT
          have hT := hT1
          clear hT1
          have hov := own5
          clear own5 gr5 at5
          clear hbel
          refine hK.out _ _ ⟨trivial, fun _ => keepS _ I4⟩ (fun hsh1 hS1 => ?_)
          clear hsh hS hK K; have hsh := hsh1; have hS := hS1; clear hsh1 hS1
          refine anyL_one (i := 9) (by kernel_rfl) rfl hsh (fun K hK => ?_)
          refine step_append_sv (w := w4) (by rfl) (.tmp 11) (.tmp 13) (by rfl) Tryd.underlying28 info37 rfl (by decide) (m + 2) 0 _ [] (by rfl) (OwnA.bare _ _ _ _ _) _ nc cs (by rfl) (HSC _ I4) HX.out.2 (by unfold maxLen; omega) (by omega) I4.2 ?_
          intro v9 w5 own9 gr9 at9
          rw [rowOf_zero] at gr9
          obtain ⟨ac, cc, rfl⟩ := own9.slice
          have hbel := grown_none_below gr9
          simp only [Nat.zero_add, List.nil_append] at own9 ⊢
          have I5 := I4.next hbel
          have hT1 := (hbel.block pT (Array.getElem?_eq_some_iff.1 hT).1).trans hT
          clear hT
          have hT := hT1
          clear hT1
          have hov1 := hov.below hbel (Nat.le_refl _)
          clear hov
          have hov := hov1
          clear hov1
          have hcm := own9
          clear own9 gr9 at9
          clear hbel
          refine hK.out _ _ ⟨trivial, fun _ => keepS _ I5⟩ (fun hsh1 hS1 => ?_)
          clear hsh hS hK K; have hsh := hsh1; have hS := hS1; clear hsh1 hS1
          refine anyL_take1 20 (i := 10) (v := ?_) rfl (by kernel_rfl) (by kernel_rfl) (by kernel_rfl) (by decide) (by kernel_rfl) hsh (fun _ _ _ h => h) (Or.inl ⟨by rfl, ?_⟩) hS ?_
          rotate_left 1
          · (intro wS hSw; (try dsimp only at hSw); first | (go_simp; done) | (go_simp; with_reducible rfl))
          intro hsh1 hS1; clear hsh hS; have hsh := hsh1; have hS := hS1; clear hsh1 hS1
          simp only [Act.put, List.setIfInBounds_toArray, List.set_cons_zero, List.set_cons_succ]
          have hz0 := hT
          have t0 : w5.cell? ⟨pT, 0, none⟩ = some (.int .i64 0) := by unfold World.cell?; rw [hT]; rfl
          have t1 : w5.cell? ⟨pT, 1, none⟩ = some (.slice none 0 0) := by unfold World.cell?; rw [hT]; rfl
          have t2 : w5.cell? ⟨pT, 2, none⟩ = some (.slice none 0 0) := by unfold World.cell?; rw [hT]; rfl
          have f0 : w5.frozen? ⟨pT, 0, none⟩ = false := by unfold World.frozen?; rw [hT]; rfl
          have f1 : w5.frozen? ⟨pT, 1, none⟩ = false := by unfold World.frozen?; rw [hT]; rfl
          have f2 : w5.frozen? ⟨pT, 2, none⟩ = false := by unfold World.frozen?; rw [hT]; rfl
          have hcut := cutCp_of (lim := lim) I5 hpT hT hov hcm
          clear hz0 hov hcm
          refine anyL_one (i := 12) (by kernel_rfl) rfl hsh (fun K hK => ?_)
          go_simp
          refine hK.out _ _ ⟨trivial, fun h => absurd h (by decide)⟩ (fun hsh1 hS1 => ?_)
          clear hsh hS hK K; have hsh := hsh1; have hS := hS1; clear hsh1 hS1
          refine anyL_done (by kernel_rfl) ?_ _
          go_wp2_with fail
          go_meet
          case rel => exact hcut
      · have hst := round_new2 (.cells #[] 37) (Below.refl w1.heap.size w1) (Nat.le_refl _) rfl
        go_simp
        generalize w1.alloc (.cells #[] 37) = w2 at hst ⊢
        obtain ⟨hsz1, hbk1, hbel, -⟩ := hst w2 rfl
        clear hst
        have I2 := I1.next hbel
        have hT1 := (hbel.block pT (Array.getElem?_eq_some_iff.1 hT).1).trans hT
        clear hT
        have hT := hT1
        clear hT1
        clear hbk1 hsz1
        clear hbel
        refine hK.out _ _ ⟨trivial, fun _ => keepS _ I2⟩ (fun hsh1 hS1 => ?_)
        clear hsh hS hK K; have hsh := hsh1; have hS := hS1; clear hsh1 hS1
        refine anyL_one (i := 2) (by kernel_rfl) rfl hsh (fun K hK => ?_)
        have hst := round_new2 (.cells #[] 34) (Below.refl w2.heap.size w2) (Nat.le_refl _) rfl
        go_simp
        generalize w2.alloc (.cells #[] 34) = w3 at hst ⊢
        obtain ⟨hsz1, hbk1, hbel, -⟩ := hst w3 rfl
        clear hst
        have I3 := I2.next hbel
        have hT1 := (hbel.block pT (Array.getElem?_eq_some_iff.1 hT).1).trans hT
        clear hT
        have hT := hT1
        clear hT1
        clear hbk1 hsz1
        clear hbel
        refine hK.out _ _ ⟨trivial, fun _ => keepS _ I3⟩ (fun hsh1 hS1 => ?_)
        clear hsh hS hK K; have hsh := hsh1; have hS := hS1; clear hsh1 hS1
        refine anyL_one (i := 5) (by kernel_rfl) rfl hsh (fun K hK => ?_)
        refine step_append_sv (w := w3) (by rfl) (.tmp 7) (.tmp 9) (by rfl) Tryd.underlying27 info34 rfl (by decide) (m + 2) 0 _ [] (by rfl) (OwnA.bare _ _ _ _ _) _ no (ovC s.over) (by rfl) (HSO _ I3) (ovC_one _) (by unfold maxLen; omega) (by omega) I3.2 ?_
        intro v5 w4 own5 gr5 at5
        rw [rowOf_zero] at gr5
        obtain ⟨ao, co, rfl⟩ := own5.slice
        have hbel := grown_none_below gr5
        simp only [Nat.zero_add, List.nil_append] at own5 ⊢
        have I4 := I3.next hbel
        have hT1 := (hbel.block pT (Array.getElem?_eq_some_iff.1 hT).1).trans hT
        clear hT
        have hT := hT1
        clear hT1
        have hov := own5
        clear own5 gr5 at5
        clear hbel
        refine hK.out _ _ ⟨trivial, fun _ => keepS _ I4⟩ (fun hsh1 hS1 => ?_)
        clear hsh hS hK K; have hsh := hsh1; have hS := hS1; clear hsh1 hS1
        refine anyL_one (i := 9) (by kernel_rfl) rfl hsh (fun K hK => ?_)
        refine step_append_sv (w := w4) (by rfl) (.tmp 11) (.tmp 13) (by rfl) Tryd.underlying28 info37 rfl (by decide) (m + 2) 0 _ [] (by rfl) (OwnA.bare _ _ _ _ _) _ nc cs (by rfl) (HSC _ I4) HX.out.2 (by unfold maxLen; omega) (by omega) I4.2 ?_
        intro v9 w5 own9 gr9 at9
        rw [rowOf_zero] at gr9
        obtain ⟨ac, cc, rfl⟩ := own9.slice
        have hbel := grown_none_below gr9
        simp only [Nat.zero_add, List.nil_append] at own9 ⊢
        have I5 := I4.next hbel
        have hT1 := (hbel.block pT (Array.getElem?_eq_some_iff.1 hT).1).trans hT
        clear hT
        have hT := hT1
        clear hT1
        have hov1 := hov.below hbel (Nat.le_refl _)
        clear hov
        have hov := hov1
        clear hov1
        have hcm := own9
        clear own9 gr9 at9
        clear hbel
        refine hK.out _ _ ⟨trivial, fun _ => keepS _ I5⟩ (fun hsh1 hS1 => ?_)
        clear hsh hS hK K; have hsh := hsh1; have hS := hS1; clear hsh1 hS1
        refine anyL_take1 20 (i := 10) (v := ?_) rfl (by kernel_rfl) (by kernel_rfl) (by kernel_rfl) (by decide) (by kernel_rfl) hsh (fun _ _ _ h => h) (Or.inl ⟨by rfl, ?_⟩) hS ?_
        rotate_left 1
        · (intro wS hSw; (try dsimp only at hSw); first | (go_simp; done) | (go_simp; with_reducible rfl))
        intro hsh1 hS1; clear hsh hS; have hsh := hsh1; have hS := hS1; clear hsh1 hS1
        simp only [Act.put, List.setIfInBounds_toArray, List.set_cons_zero, List.set_cons_succ]
        have hz0 := hT
        have t0 : w5.cell? ⟨pT, 0, none⟩ = some (.int .i64 0) := by unfold World.cell?; rw [hT]; rfl
        have t1 : w5.cell? ⟨pT, 1, none⟩ = some (.slice none 0 0) := by unfold World.cell?; rw [hT]; rfl
        have t2 : w5.cell? ⟨pT, 2, none⟩ = some (.slice none 0 0) := by unfold World.cell?; rw [hT]; rfl
        have f0 : w5.frozen? ⟨pT, 0, none⟩ = false := by unfold World.frozen?; rw [hT]; rfl
        have f1 : w5.frozen? ⟨pT, 1, none⟩ = false := by unfold World.frozen?; rw [hT]; rfl
        have f2 : w5.frozen? ⟨pT, 2, none⟩ = false := by unfold World.frozen?; rw [hT]; rfl
        have hcut := cutCp_of (lim := lim) I5 hpT hT hov hcm
        clear hz0 hov hcm
        refine anyL_one (i := 12) (by kernel_rfl) rfl hsh (fun K hK => ?_)
        go_simp
        refine hK.out _ _ ⟨trivial, fun h => absurd h (by decide)⟩ (fun hsh1 hS1 => ?_)
        clear hsh hS hK K; have hsh := hsh1; have hS := hS1; clear hsh1 hS1
        refine anyL_done (by kernel_rfl) ?_ _
        go_wp2_with fail
        go_meet
        case rel => exact hcut
  case rest =>
    obtain ⟨p, vo, vc, rfl, hp, hT, hov, hcm, hI⟩ := hcut
    obtain ⟨ao, co, rfl⟩ := hov.slice
    obtain ⟨ac, cc, rfl⟩ := hcm.slice
    have t2 : wc.cell? ⟨p, 2, none⟩ = some (.slice ac nc cc) := by unfold World.cell?; rw [hT]; rfl
    have hJ : CpJ (m + 1) W lim s.over no nc s.cmds p (.slice ao no co) (.slice ac nc cc) (2 * 0) wc := ⟨cs, V0, hT, hov, hcm, HX.out.1, Rws.zero _ _ _ _, hI⟩
    have HP : Aside0 (m + 2 ≤ p) := ⟨hp⟩
    clear hT hov hcm hI I0 keepS HSO HSC k0
    go_wp2
    go_loopg [19] nc (fun q v19 wr => ∃ i : Nat, v19 = .int .i64 i ∧ i + q = nc ∧ CpJ (m + 1) W lim s.over no nc s.cmds p (.slice ao no co) (.slice ac nc cc) (2 * i) wr)
    case atStart => exact ⟨0, rfl, by omega, hJ⟩
    case round =>
      clear hJ t2
      obtain ⟨i, rfl, hiq, hJ⟩ := hrel
      by_cases hi : i < nc
      · obtain ⟨q, rfl⟩ : ∃ q, gk = q + 1 := ⟨gk - 1, by omega⟩
        have hil : (i : Int) < (nc : Int) := by omega
        obtain ⟨gc, oc, cap, e, hcap⟩ := hJ.form (by omega)
        simp only [Value.slice.injEq, true_and] at e
        obtain ⟨rfl, rfl⟩ := e
        obtain ⟨hps, hms⟩ := HC.out
        obtain ⟨x, hx⟩ : ∃ x, s.cmds[i]? = some x := ⟨_, List.getElem?_eq_getElem (by rw [HR.out.2]; exact hi)⟩
        obtain ⟨vf, vh, u1, u2, e1⟩ := hms i x hx
        have fit := HOK.out.cm x (List.mem_of_getElem? hx)
        obtain rfl : b1 = some ⟨k1, q1, none⟩ := by rcases hps.lead with h | h; omega; exact h
        have HSF : ∀ w', BZ (m + 1) W w' → SV w' 1 vf x.fields.length (iv x.fields) := fun w' h => u1.below (HBW.out w' h) (Nat.le_refl _)
        have HSH : ∀ w', BZ (m + 1) W w' → SV w' 1 vh x.hs.length (iv x.hs) := fun w' h => u2.below (HBW.out w' h) (Nat.le_refl _)
        have hcs := fun w' (h : BZ (m + 1) W w') => (hps.below (HBW.out w' h) (Nat.le_refl _)).cells
        have y2 := fun w' (h : BZ (m + 1) W w') => hcs w' h _ _ ((e1 2 (by omega)).trans rfl)
        have y3 := fun w' (h : BZ (m + 1) W w') => hcs w' h _ _ ((e1 3 (by omega)).trans rfl)
        simp only [← Nat.add_assoc] at y2 y3
        obtain ⟨af, cf, gf, of', rfl, -⟩ := u1
        obtain ⟨ah, ch, gh, oh, rfl, -⟩ := u2
        have kk2 := fun w' (h : BZ (m + 1) W w') => h.cell k2 (by omega)
        have keepF : ∀ w', CpJ (m + 1) W lim s.over no nc s.cmds p (.slice ao no co) (.slice (some ⟨gc, oc, none⟩) nc cc) (2 * i) w' → w'.cell? ⟨p, 2, none⟩ = some (.slice (some ⟨gc, oc, none⟩) nc cc) ∧ w'.cell? ⟨m, 2, none⟩ = some (.slice (some ⟨k1, q1, none⟩) nc d1) ∧ w'.cell? ⟨k1, q1 + i * 9 + 2, none⟩ = some (.slice af x.fields.length cf) := fun w' h => ⟨h.head, kk2 w' h.bz, y2 w' h.bz⟩
        have keepH : ∀ w', CpJ (m + 1) W lim s.over no nc s.cmds p (.slice ao no co) (.slice (some ⟨gc, oc, none⟩) nc cc) (2 * i + 1) w' → w'.cell? ⟨p, 2, none⟩ = some (.slice (some ⟨gc, oc, none⟩) nc cc) ∧ w'.cell? ⟨m, 2, none⟩ = some (.slice (some ⟨k1, q1, none⟩) nc d1) ∧ w'.cell? ⟨k1, q1 + i * 9 + 3, none⟩ = some (.slice ah x.hs.length ch) := fun w' h => ⟨h.head, kk2 w' h.bz, y3 w' h.bz⟩
        have hfl := fit.fl
        have hhl := fit.hl
        have hxf := lstX_f hx
        have hxh := lstX_h hx
        have HLF : Aside0 (lstX s.cmds (2 * i) = x.fields ∧ lstX s.cmds (2 * i + 1) = x.hs) := ⟨hxf, hxh⟩
        have HN : Aside0 (x.fields.length = x.fields.length) := ⟨rfl⟩
        clear hps hms hx e1 fit hcs y2 y3 kk2 hxf hxh HN
        obtain ⟨nf, hnf⟩ : ∃ n, x.fields.length = n := ⟨_, rfl⟩
        obtain ⟨nh, hnh⟩ : ∃ n, x.hs.length = n := ⟨_, rfl⟩
        rw [hnf] at keepF HSF hfl
        rw [hnh] at keepH HSH hhl
        have HNF : Aside0 (x.fields.length = nf ∧ x.hs.length = nh) := ⟨hnf, hnh⟩
        clear hnf hnh
        go_upto_region 5 with fail
        have J0 := hJ.next (Below.refl _ wr).drew
        clear hJ
        refine wp_region_L (fun _ => True) (fun w' => w'.cell? ⟨p, 2, none⟩ = some (.slice (some ⟨gc, oc, none⟩) nc cc) ∧ w'.cell? ⟨m, 2, none⟩ = some (.slice (some ⟨k1, q1, none⟩) nc d1) ∧ w'.cell? ⟨k1, q1 + i * 9 + 2, none⟩ = some (.slice af nf cf)) 13 (by kernel_rfl) trivial (keepF _ J0) (fun hsh hS => ?_)
        generalize wr.drew = w0 at *
        refine anyL_take1 20 (i := 0) (v := ?_) rfl (by kernel_rfl) (by kernel_rfl) (by kernel_rfl) (by decide) (by kernel_rfl) hsh (fun _ _ _ h => h) (Or.inl ⟨by rfl, ?_⟩) hS ?_
        rotate_left 1
        · (intro wS hSw; (try dsimp only at hSw); first | (go_simp; done) | (go_simp; with_reducible rfl))
        intro hsh1 hS1; clear hsh hS; have hsh := hsh1; have hS := hS1; clear hsh1 hS1
        simp only [Act.put, List.setIfInBounds_toArray, List.set_cons_zero, List.set_cons_succ]
        refine anyL_take1 20 (i := 1) (v := ?_) rfl (by kernel_rfl) (by kernel_rfl) (by kernel_rfl) (by decide) (by kernel_rfl) hsh (fun _ _ _ h => h) (Or.inl ⟨by rfl, ?_⟩) hS ?_
        rotate_left 1
        · (intro wS hSw; (try dsimp only at hSw); first | (go_simp; done) | (go_simp; with_reducible rfl))
        intro hsh1 hS1; clear hsh hS; have hsh := hsh1; have hS := hS1; clear hsh1 hS1
        simp only [Act.put, List.setIfInBounds_toArray, List.set_cons_zero, List.set_cons_succ]
        refine anyL_take1 20 (i := 2) (v := ?_) rfl (by kernel_rfl) (by kernel_rfl) (by kernel_rfl) (by decide) (by kernel_rfl) hsh (fun _ _ _ h => h) (Or.inl ⟨by rfl, ?_⟩) hS ?_
        rotate_left 1
        · (intro wS hSw; (try dsimp only at hSw); first | (go_simp; done) | (go_simp; with_reducible rfl))
        intro hsh1 hS1; clear hsh hS; have hsh := hsh1; have hS := hS1; clear hsh1 hS1
        simp only [Act.put, List.setIfInBounds_toArray, List.set_cons_zero, List.set_cons_succ]
        refine anyL_take1 20 (i := 4) (v := ?_) rfl (by kernel_rfl) (by kernel_rfl) (by kernel_rfl) (by decide) (by kernel_rfl) hsh (fun _ _ _ h => h) (Or.inl ⟨by rfl, ?_⟩) hS ?_
        rotate_left 1
        · (intro wS hSw; (try dsimp only at hSw); first | (go_simp; done) | (go_simp; with_reducible rfl))
        intro hsh1 hS1; clear hsh hS; have hsh := hsh1; have hS := hS1; clear hsh1 hS1
        simp only [Act.put, List.setIfInBounds_toArray, List.set_cons_zero, List.set_cons_succ]
        refine anyL_take1 20 (i := 5) (v := ?_) rfl (by kernel_rfl) (by kernel_rfl) (by kernel_rfl) (by decide) (by kernel_rfl) hsh (fun _ _ _ h => h) (Or.inl ⟨by rfl, ?_⟩) hS ?_
        rotate_left 1
        · (intro wS hSw; (try dsimp only at hSw); first | (go_simp; done) | (go_simp; with_reducible rfl))
        intro hsh1 hS1; clear hsh hS; have hsh := hsh1; have hS := hS1; clear hsh1 hS1
        simp only [Act.put, List.setIfInBounds_toArray, List.set_cons_zero, List.set_cons_succ]
        refine anyL_take1 20 (i := 6) (v := ?_) rfl (by kernel_rfl) (by kernel_rfl) (by kernel_rfl) (by decide) (by kernel_rfl) hsh (fun _ _ _ h => h) (Or.inl ⟨by rfl, ?_⟩) hS ?_
        rotate_left 1
        · (intro wS hSw; (try dsimp only at hSw); first | (go_simp; done) | (go_simp; with_reducible rfl))
        intro hsh1 hS1; clear hsh hS; have hsh := hsh1; have hS := hS1; clear hsh1 hS1
        simp only [Act.put, List.setIfInBounds_toArray, List.set_cons_zero, List.set_cons_succ]
        refine anyL_take1 20 (i := 7) (v := ?_) rfl (by kernel_rfl) (by kernel_rfl) (by kernel_rfl) (by decide) (by kernel_rfl) hsh (fun _ _ _ h => h) (Or.inl ⟨by rfl, ?_⟩) hS ?_
        rotate_left 1
        · (intro wS hSw; (try dsimp only at hSw); first | (go_simp; done) | (go_simp; with_reducible rfl))
        intro hsh1 hS1; clear hsh hS; have hsh := hsh1; have hS := hS1; clear hsh1 hS1
        simp only [Act.put, List.setIfInBounds_toArray, List.set_cons_zero, List.set_cons_succ]
        refine anyL_take1 20 (i := 8) (v := ?_) rfl (by kernel_rfl) (by kernel_rfl) (by kernel_rfl) (by decide) (by kernel_rfl) hsh (fun _ _ _ h => h) (Or.inl ⟨by rfl, ?_⟩) hS ?_
        rotate_left 1
        · (intro wS hSw; (try dsimp only at hSw); first | (go_simp; done) | (go_simp; with_reducible rfl))
        intro hsh1 hS1; clear hsh hS; have hsh := hsh1; have hS := hS1; clear hsh1 hS1
        simp only [Act.put, List.setIfInBounds_toArray, List.set_cons_zero, List.set_cons_succ]
        refine anyL_take1 20 (i := 9) (v := ?_) rfl (by kernel_rfl) (by kernel_rfl) (by kernel_rfl) (by decide) (by kernel_rfl) hsh (fun _ _ _ h => h) (Or.inl ⟨by rfl, ?_⟩) hS ?_
        rotate_left 1
        · (intro wS hSw; (try dsimp only at hSw); first | (go_simp; done) | (go_simp; with_reducible rfl))
        intro hsh1 hS1; clear hsh hS; have hsh := hsh1; have hS := hS1; clear hsh1 hS1
        simp only [Act.put, List.setIfInBounds_toArray, List.set_cons_zero, List.set_cons_succ]
        refine anyL_one (i := 3) (by kernel_rfl) rfl hsh (fun K hK => ?_)
        have hst := round_new2 (.cells #[] 3) (Below.refl w0.heap.size w0) (Nat.le_refl _) rfl
        go_simp
        generalize w0.alloc (.cells #[] 3) = w1 at hst ⊢
        obtain ⟨-, -, hbel, -⟩ := hst w1 rfl
        clear hst
        have J1 := J0.next hbel
        clear hbel J0
        refine hK.out _ _ ⟨trivial, fun _ => keepF _ J1⟩ (fun hsh1 hS1 => ?_)
        clear hsh hS hK K; have hsh := hsh1; have hS := hS1; clear hsh1 hS1
        refine anyL_one (i := 10) (by kernel_rfl) rfl hsh (fun K hK => ?_)
        refine step_append_sv (w := w1) (by rfl) (.tmp 25) (.tmp 31) (by rfl) Tryd.underlying35 info3 rfl (by decide) (m + 2) 0 _ [] (by rfl) (OwnA.bare _ _ _ _ _) _ nf (iv x.fields) (by rfl) (HSF _ J1.bz) (iv_one _) (by unfold maxLen; omega) (by omega) J1.bz.2 ?_
        intro v5 w2 own gr att
        rw [rowOf_zero] at gr att
        obtain ⟨a5, c5, rfl⟩ := own.slice
        have hbel := grown_none_below gr
        simp only [Nat.zero_add, List.nil_append] at own att ⊢
        have JP := J1.put false HR.out.2 hi HLF.out.1 hbel (by rw [HNF.out.1]; exact own) att
        simp only [if_true, Bool.false_eq_true, if_false, Nat.add_zero] at JP
        have J2 := J1.next hbel
        clear J1 own gr att hbel
        obtain ⟨u0, hu0, hf0⟩ := J2.cell HR.out.2 hi (show 2 < 9 by omega)
        refine hK.out _ _ ⟨trivial, fun _ => keepF _ J2⟩ (fun hsh1 hS1 => ?_)
        clear hsh hS hK K J2; have hsh := hsh1; have hS := hS1; clear hsh1 hS1
        refine anyL_take1 20 (i := 11) (v := ?_) rfl (by kernel_rfl) (by kernel_rfl) (by kernel_rfl) (by decide) (by kernel_rfl) hsh (fun _ _ _ h => h) (Or.inl ⟨by rfl, ?_⟩) hS ?_
        rotate_left 1
        · (intro wS hSw; (try dsimp only at hSw); first | (go_simp; done) | (go_simp; with_reducible rfl))
        intro hsh1 hS1; clear hsh hS; have hsh := hsh1; have hS := hS1; clear hsh1 hS1
        simp only [Act.put, List.setIfInBounds_toArray, List.set_cons_zero, List.set_cons_succ]
        refine anyL_take1 20 (i := 12) (v := ?_) rfl (by kernel_rfl) (by kernel_rfl) (by kernel_rfl) (by decide) (by kernel_rfl) hsh (fun _ _ _ h => h) (Or.inl ⟨by rfl, ?_⟩) hS ?_
        rotate_left 1
        · (intro wS hSw; (try dsimp only at hSw); first | (go_simp; done) | (go_simp; with_reducible rfl))
        intro hsh1 hS1; clear hsh hS; have hsh := hsh1; have hS := hS1; clear hsh1 hS1
        simp only [Act.put, List.setIfInBounds_toArray, List.set_cons_zero, List.set_cons_succ]
        refine anyL_one (i := 13) (by kernel_rfl) rfl hsh (fun K hK => ?_)
        go_simp
        refine hK.out _ _ ⟨trivial, fun h => absurd h (by decide)⟩ (fun hsh1 hS1 => ?_)
        clear hsh hS hK K; have hsh := hsh1; have hS := hS1; clear hsh1 hS1
        refine anyL_done (by kernel_rfl) ?_ _
        have JF := JP
        clear JP hu0 hf0 hsh hS
        go_upto_region 6 with fail
        have J0 := JF.next (Below.refl _ _).drew
        clear JF
        refine wp_region_L (fun _ => True) (fun w' => w'.cell? ⟨p, 2, none⟩ = some (.slice (some ⟨gc, oc, none⟩) nc cc) ∧ w'.cell? ⟨m, 2, none⟩ = some (.slice (some ⟨k1, q1, none⟩) nc d1) ∧ w'.cell? ⟨k1, q1 + i * 9 + 3, none⟩ = some (.slice ah nh ch)) 13 (by kernel_rfl) trivial (keepH _ J0) (fun hsh hS => ?_)
        generalize (w2.setCell ⟨gc, oc + i * 9 + 2, none⟩ (.slice a5 nf c5)).drew = w0 at *
        refine anyL_take1 20 (i := 0) (v := ?_) rfl (by kernel_rfl) (by kernel_rfl) (by kernel_rfl) (by decide) (by kernel_rfl) hsh (fun _ _ _ h => h) (Or.inl ⟨by rfl, ?_⟩) hS ?_
        rotate_left 1
        · (intro wS hSw; (try dsimp only at hSw); first | (go_simp; done) | (go_simp; with_reducible rfl))
        intro hsh1 hS1; clear hsh hS; have hsh := hsh1; have hS := hS1; clear hsh1 hS1
        simp only [Act.put, List.setIfInBounds_toArray, List.set_cons_zero, List.set_cons_succ]
        refine anyL_take1 20 (i := 1) (v := ?_) rfl (by kernel_rfl) (by kernel_rfl) (by kernel_rfl) (by decide) (by kernel_rfl) hsh (fun _ _ _ h => h) (Or.inl ⟨by rfl, ?_⟩) hS ?_
        rotate_left 1
        · (intro wS hSw; (try dsimp only at hSw); first | (go_simp; done) | (go_simp; with_reducible rfl))
        intro hsh1 hS1; clear hsh hS; have hsh := hsh1; have hS := hS1; clear hsh1 hS1
        simp only [Act.put, List.setIfInBounds_toArray, List.set_cons_zero, List.set_cons_succ]
        refine anyL_take1 20 (i := 2) (v := ?_) rfl (by kernel_rfl) (by kernel_rfl) (by kernel_rfl) (by decide) (by kernel_rfl) hsh (fun _ _ _ h => h) (Or.inl ⟨by rfl, ?_⟩) hS ?_
        rotate_left 1
        · (intro wS hSw; (try dsimp only at hSw); first | (go_simp; done) | (go_simp; with_reducible rfl))
        intro hsh1 hS1; clear hsh hS; have hsh := hsh1; have hS := hS1; clear hsh1 hS1
        simp only [Act.put, List.setIfInBounds_toArray, List.set_cons_zero, List.set_cons_succ]
        refine anyL_take1 20 (i := 4) (v := ?_) rfl (by kernel_rfl) (by kernel_rfl) (by kernel_rfl) (by decide) (by kernel_rfl) hsh (fun _ _ _ h => h) (Or.inl ⟨by rfl, ?_⟩) hS ?_
        rotate_left 1
        · (intro wS hSw; (try dsimp only at hSw); first | (go_simp; done) | (go_simp; with_reducible rfl))
        intro hsh1 hS1; clear hsh hS; have hsh := hsh1; have hS := hS1; clear hsh1 hS1
        simp only [Act.put, List.setIfInBounds_toArray, List.set_cons_zero, List.set_cons_succ]
        refine anyL_take1 20 (i := 5) (v := ?_) rfl (by kernel_rfl) (by kernel_rfl) (by kernel_rfl) (by decide) (by kernel_rfl) hsh (fun _ _ _ h => h) (Or.inl ⟨by rfl, ?_⟩) hS ?_
        rotate_left 1
        · (intro wS hSw; (try dsimp only at hSw); first | (go_simp; done) | (go_simp; with_reducible rfl))
        intro hsh1 hS1; clear hsh hS; have hsh := hsh1; have hS := hS1; clear hsh1 hS1
        simp only [Act.put, List.setIfInBounds_toArray, List.set_cons_zero, List.set_cons_succ]
        refine anyL_take1 20 (i := 6) (v := ?_) rfl (by kernel_rfl) (by kernel_rfl) (by kernel_rfl) (by decide) (by kernel_rfl) hsh (fun _ _ _ h => h) (Or.inl ⟨by rfl, ?_⟩) hS ?_
        rotate_left 1
        · (intro wS hSw; (try dsimp only at hSw); first | (go_simp; done) | (go_simp; with_reducible rfl))
        intro hsh1 hS1; clear hsh hS; have hsh := hsh1; have hS := hS1; clear hsh1 hS1
        simp only [Act.put, List.setIfInBounds_toArray, List.set_cons_zero, List.set_cons_succ]
        refine anyL_take1 20 (i := 7) (v := ?_) rfl (by kernel_rfl) (by kernel_rfl) (by kernel_rfl) (by decide) (by kernel_rfl) hsh (fun _ _ _ h => h) (Or.inl ⟨by rfl, ?_⟩) hS ?_
        rotate_left 1
        · (intro wS hSw; (try dsimp only at hSw); first | (go_simp; done) | (go_simp; with_reducible rfl))
        intro hsh1 hS1; clear hsh hS; have hsh := hsh1; have hS := hS1; clear hsh1 hS1
        simp only [Act.put, List.setIfInBounds_toArray, List.set_cons_zero, List.set_cons_succ]
        refine anyL_take1 20 (i := 8) (v := ?_) rfl (by kernel_rfl) (by kernel_rfl) (by kernel_rfl) (by decide) (by kernel_rfl) hsh (fun _ _ _ h => h) (Or.inl ⟨by rfl, ?_⟩) hS ?_
        rotate_left 1
        · (intro wS hSw; (try dsimp only at hSw); first | (go_simp; done) | (go_simp; with_reducible rfl))
        intro hsh1 hS1; clear hsh hS; have hsh := hsh1; have hS := hS1; clear hsh1 hS1
        simp only [Act.put, List.setIfInBounds_toArray, List.set_cons_zero, List.set_cons_succ]
        refine anyL_take1 20 (i := 9) (v := ?_) rfl (by kernel_rfl) (by kernel_rfl) (by kernel_rfl) (by decide) (by kernel_rfl) hsh (fun _ _ _ h => h) (Or.inl ⟨by rfl, ?_⟩) hS ?_
        rotate_left 1
        · (intro wS hSw; (try dsimp only at hSw); first | (go_simp; done) | (go_simp; with_reducible rfl))
        intro hsh1 hS1; clear hsh hS; have hsh := hsh1; have hS := hS1; clear hsh1 hS1
        simp only [Act.put, List.setIfInBounds_toArray, List.set_cons_zero, List.set_cons_succ]
        refine anyL_one (i := 3) (by kernel_rfl) rfl hsh (fun K hK => ?_)
        have hst := round_new2 (.cells #[] 3) (Below.refl w0.heap.size w0) (Nat.le_refl _) rfl
        go_simp
        generalize w0.alloc (.cells #[] 3) = w1 at hst ⊢
        obtain ⟨-, -, hbel, -⟩ := hst w1 rfl
        clear hst
        have J1 := J0.next hbel
        clear hbel J0
        refine hK.out _ _ ⟨trivial, fun _ => keepH _ J1⟩ (fun hsh1 hS1 => ?_)
        clear hsh hS hK K; have hsh := hsh1; have hS := hS1; clear hsh1 hS1
        refine anyL_one (i := 10) (by kernel_rfl) rfl hsh (fun K hK => ?_)
        refine step_append_sv (w := w1) (by rfl) (.tmp 38) (.tmp 44) (by rfl) Tryd.underlying35 info3 rfl (by decide) (m + 2) 0 _ [] (by rfl) (OwnA.bare _ _ _ _ _) _ nh (iv x.hs) (by rfl) (HSH _ J1.bz) (iv_one _) (by unfold maxLen; omega) (by omega) J1.bz.2 ?_
        intro v6 w2' own gr att
        rw [rowOf_zero] at gr att
        obtain ⟨a6, c6, rfl⟩ := own.slice
        have hbel := grown_none_below gr
        simp only [Nat.zero_add, List.nil_append] at own att ⊢
        have JP := J1.put true HR.out.2 hi HLF.out.2 hbel (by rw [HNF.out.2]; exact own) att
        simp only [if_true, Bool.false_eq_true, if_false, Nat.add_zero] at JP
        have J2 := J1.next hbel
        clear J1 own gr att hbel
        obtain ⟨u0, hu0, hf0⟩ := J2.cell HR.out.2 hi (show 3 < 9 by omega)
        refine hK.out _ _ ⟨trivial, fun _ => keepH _ J2⟩ (fun hsh1 hS1 => ?_)
        clear hsh hS hK K J2; have hsh := hsh1; have hS := hS1; clear hsh1 hS1
        refine anyL_take1 20 (i := 11) (v := ?_) rfl (by kernel_rfl) (by kernel_rfl) (by kernel_rfl) (by decide) (by kernel_rfl) hsh (fun _ _ _ h => h) (Or.inl ⟨by rfl, ?_⟩) hS ?_
        rotate_left 1
        · (intro wS hSw; (try dsimp only at hSw); first | (go_simp; done) | (go_simp; with_reducible rfl))
        intro hsh1 hS1; clear hsh hS; have hsh := hsh1; have hS := hS1; clear hsh1 hS1
        simp only [Act.put, List.setIfInBounds_toArray, List.set_cons_zero, List.set_cons_succ]
        refine anyL_take1 20 (i := 12) (v := ?_) rfl (by kernel_rfl) (by kernel_rfl) (by kernel_rfl) (by decide) (by kernel_rfl) hsh (fun _ _ _ h => h) (Or.inl ⟨by rfl, ?_⟩) hS ?_
        rotate_left 1
        · (intro wS hSw; (try dsimp only at hSw); first | (go_simp; done) | (go_simp; with_reducible rfl))
        intro hsh1 hS1; clear hsh hS; have hsh := hsh1; have hS := hS1; clear hsh1 hS1
        simp only [Act.put, List.setIfInBounds_toArray, List.set_cons_zero, List.set_cons_succ]
        refine anyL_one (i := 13) (by kernel_rfl) rfl hsh (fun K hK => ?_)
        go_simp
        refine hK.out _ _ ⟨trivial, fun h => absurd h (by decide)⟩ (fun hsh1 hS1 => ?_)
        clear hsh hS hK K; have hsh := hsh1; have hS := hS1; clear hsh1 hS1
        refine anyL_done (by kernel_rfl) ?_ _
        have JH := JP
        clear JP hu0 hf0 hsh hS
        go_wp2
        go_roundg q
        case measure => omega
        case rel => exact ⟨i + 1, by go_num, by omega, JH⟩
      · obtain rfl : i = nc := by omega
        have hil : ¬ (i : Int) < (i : Int) := by omega
        obtain ⟨cs', V', h1, h2, h3, h4, h5, h6⟩ := hJ
        have hres : wr.heap[m + 1]? = some (.cells #[.int .i64 0, .slice none 0 0, .slice none 0 0] 30 (0, 0)) := (h6.1.block (m + 1) (by omega)).trans HB2.out
        have hfin : Aside0 (ScS (wr.setRow (m + 1) #[.int .i64 lim, .slice ao no co, .slice ac i cc]) m (.slice ao no co) (.slice ac i cc) s) := ⟨by
          refine ⟨cs', V', ?_, ?_, h4, ?_⟩
          · rw [HR.out.1]
            exact (h2.keep (fun g hg => setRow_other wr (m + 1) g _ (by have := (h2.lt g hg).1; omega))).mono (by omega)
          · rw [HR.out.2]
            exact (h3.keep (fun g hg => setRow_other wr (m + 1) g _ (by have := (h3.lt g hg).1; omega))).mono (by omega)
          · rw [HR.out.2]
            exact (h5.keep (fun k g hk hg => setRow_other wr (m + 1) g _ (by have := ((h5.own k hk).lt g hg).1; omega))).mono (by omega)⟩
        have hbl : Below m w (wr.setRow (m + 1) #[.int .i64 lim, .slice ao no co, .slice ac i cc]) := by
          have e := HBW.out wr h6
          rw [HM.out] at e
          exact e.trans ⟨rfl, rfl, rfl, by simp, fun z hz => setRow_other wr (m + 1) z _ (by omega)⟩
        go_wp2_with (first
          | (refine wpList_load_row rfl _ _ rfl p rfl 30 _ _ _ h1 Tryd.underlying30 rfl size30 ?_)
          | (refine wpList_store_row rfl _ _ _ rfl (m + 1) _ rfl rfl 30 _ hres size30 rfl (all_30 _ ao ac _ _ co cc) ?_))
        refine bodyPost_ret ?_ rfl (HQ.out _ _ _ hfin.out hbl)
        exact results_cell_row rfl _ _ (m + 1) 30 #[.int .i64 lim, .slice ao no co, .slice ac i cc] (0, 0) _ rfl (setRow_heap _ _ _ _ _ _ hres) Tryd.underlying30 rfl size30
end Go.Proofs.YtigaacbaaopfmaaDoor.sh
