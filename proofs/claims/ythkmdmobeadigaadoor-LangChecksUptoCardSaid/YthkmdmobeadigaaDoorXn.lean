/- LangChecks, walked. -/
import Derived.Test.YthkmdmobeadigaaDoorXm
import Derived.Test.YthkmdmobeadigaaDoorWj
namespace Go.Proofs.YthkmdmobeadigaaDoor.lg
open Go.RowKit
set_option linter.unusedVariables false
set_option linter.unusedSimpArgs false
/-- A copy's lists of marks, all empty. -/
theorem KO.new (G : Nat → Prop) {w : World} {base p : Nat} (h : w.heap[p]? = some (.cells #[.slice none 0 0, .slice none 0 0, .slice none 0 0] 31 (0, 0))) (hb : base ≤ p) : KO G w base p 0 := by
  have c : ∀ i, i < 3 → w.cell? ⟨p, i, none⟩ = some (.slice none 0 0) := fun i hi => by
    unfold World.cell?; rw [h]
    match i, hi with
    | 0, _ => rfl
    | 1, _ => rfl
    | 2, _ => rfl
    | n + 3, hi => omega
  exact ⟨hb, ⟨_, h, rfl⟩, ⟨_, 0, [], c 0 (by decide), OwnA.bare _ _ _ _ _, fun u hu => by (cases hu), Nat.le_refl _⟩, ⟨_, 0, [], c 1 (by decide), OwnA.bare _ _ _ _ _, fun u hu => by (cases hu), Nat.le_refl _⟩, ⟨_, 0, [], c 2 (by decide), OwnA.bare _ _ _ _ _, fun u hu => by (cases hu), Nat.le_refl _⟩⟩
theorem copy_stored {w2 : World} {a b z0 z1 : Value} {p : Nat} (hp : w2.heap.size = p) : ∀ W, ((w2.alloc (.cells #[z0, z1] 25)).setCell ⟨p, 0, none⟩ a).setCell ⟨p, 1, none⟩ b = W → Below w2.heap.size w2 W ∧ W.cell? ⟨p, 0, none⟩ = some a ∧ W.cell? ⟨p, 1, none⟩ = some b := by
  rintro W rfl
  subst hp
  have e0 := heap_setCell_same (w2.alloc (.cells #[z0, z1] 25)) w2.heap.size 0 #[z0, z1] 25 a (heap_alloc_new w2 _)
  have e1 := heap_setCell_same _ w2.heap.size 1 _ 25 b e0
  refine ⟨below_set (below_set ((Below.refl _ _).alloc (Nat.le_refl _) _) (Nat.le_refl _) _) (Nat.le_refl _) _, ?_, ?_⟩
  · unfold World.cell?; rw [e1]; rfl
  · unfold World.cell?; rw [e1]; rfl
set_option maxHeartbeats 8000000 in
set_option maxRecDepth 100000 in
theorem checks_walk (ms : List ByteArray) (s : Sts) (vm vs : Value) (P : Nat → Prop) (w : World) (hms : ∀ x ∈ ms, x.size ≤ 3000000) (hml : ms.length ≤ 3000000) (hm : s.wt ≤ 3000000) (hV : SV w 1 vm ms.length (nsC ms)) (h : HS P w vs s) (hT : Tabs w) :
    Calls Tryd.prog 3 #[.agg #[vm, vs]] w (IsY true w) := by
  obtain ⟨W0, hW0⟩ : ∃ W, w.alloc (.cells #[vm, vs] 25) = W := ⟨_, rfl⟩
  have hB0 : Below w.heap.size w W0 := by rw [← hW0]; exact (Below.refl _ _).alloc (Nat.le_refl _) _
  have hs0 : W0.heap.size = w.heap.size + 1 := by rw [← hW0]; simp
  obtain ⟨W1, hW1⟩ : ∃ W, W0.alloc (.cells #[.slice none 0 0, .slice none 0 0, .slice none 0 0] 31) = W := ⟨_, rfl⟩
  have hB1 : Below W0.heap.size W0 W1 := by rw [← hW1]; exact (Below.refl _ _).alloc (Nat.le_refl _) _
  have hs1 : W1.heap.size = W0.heap.size + 1 := by rw [← hW1]; simp
  have hk1 : W1.heap[W0.heap.size]? = some (.cells #[.slice none 0 0, .slice none 0 0, .slice none 0 0] 31 (0, 0)) := by rw [← hW1]; exact heap_alloc_new _ _
  have kk0 : W1.cell? ⟨w.heap.size, 0, none⟩ = some vm := by rw [← hW1, ← hW0]; simp
  have kk1 : W1.cell? ⟨w.heap.size, 1, none⟩ = some vs := by rw [← hW1, ← hW0]; simp
  have hV0 := hV.below hB0 (Nat.le_refl _)
  have h0 := h.below hB0 (Nat.le_refl _)
  have hK := KO.new (fun b => W1.heap.size ≤ b) hk1 (Nat.le_refl W0.heap.size)
  have c8 := twP_walk ms s vm vs P W0 W1 (fun b => W1.heap.size ≤ b) W0.heap.size W0.heap.size 0 hml hm hV0 h0 hB1 (Nat.le_refl _) (by omega) hK (by omega) (fun b hb => hb)
  have hvm : ∃ a n c, vm = .slice a n c := by obtain ⟨am, cm, gm, om, e, _⟩ := hV; exact ⟨_, _, _, e⟩
  have hvs : ∃ a n c, vs = .slice a n c := by obtain ⟨am, cm, gm, om, e, _⟩ := h; exact ⟨_, _, _, e⟩
  have HI : Aside0 ((∀ x ∈ ms, x.size ≤ 3000000) ∧ ms.length ≤ 3000000 ∧ s.wt ≤ 3000000 ∧ SV W0 1 vm ms.length (nsC ms) ∧ HS P W0 vs s ∧ Tabs w ∧ Below w.heap.size w W0 ∧ Below W0.heap.size W0 W1 ∧ W0.heap.size = w.heap.size + 1 ∧ W1.heap.size = W0.heap.size + 1 ∧ W1.cell? ⟨w.heap.size, 0, none⟩ = some vm ∧ W1.cell? ⟨w.heap.size, 1, none⟩ = some vs) := ⟨hms, hml, hm, hV0, h0, hT, hB0, hB1, hs0, hs1, kk0, kk1⟩
  obtain ⟨am, nm, cm, rfl⟩ := hvm
  obtain ⟨as1, ns, cs, rfl⟩ := hvs
  have hp1 : W0.heap.size = w.heap.size + 1 := hs0
  rw [hp1] at c8
  clear hB0 hs0 hB1 hs1 hk1 hV0 h0 hK hV h hT hms hml hm
  go_enter Tryd.func3, Tryd.ntmps3
  go_wp2_with (go_at_call 8; (with_reducible refine c8.mono ?_); rintro e w2 ⟨um, us, rfl, ⟨am2, cm2, gm2, om2, rfl, hVm⟩, ⟨as2, cs2, bs2, os2, rfl, hd2, hL2⟩, hK2, hC2, hB2⟩; (try clear hC2))
  obtain ⟨W3, hW3⟩ : ∃ W, w2.alloc (.cells #[.slice am2 ms.length cm2, .slice as2 s.len cs2] 25) = W := ⟨_, rfl⟩
  have hB3 : Below w2.heap.size w2 W3 := by rw [← hW3]; exact (Below.refl _ _).alloc (Nat.le_refl _) _
  have q0 : W3.cell? ⟨w2.heap.size, 0, none⟩ = some (.slice am2 ms.length cm2) := by rw [← hW3]; simp
  have q1 : W3.cell? ⟨w2.heap.size, 1, none⟩ = some (.slice as2 s.len cs2) := by rw [← hW3]; simp
  obtain ⟨hms, hml, hm, hV0, h0, hT, hB0, hB1, hs0, hs1, kk0, kk1⟩ := HI.out
  have hws : W1.heap.size ≤ w2.heap.size := hB2.size
  have k0 : W3.cell? ⟨w.heap.size, 0, none⟩ = some (.slice am nm cm) := cell_below ((hB2.cell (p := ⟨w.heap.size, 0, none⟩) (by show w.heap.size < _; omega)).trans kk0) hB3 (Nat.le_refl _)
  have k1 : W3.cell? ⟨w.heap.size, 1, none⟩ = some (.slice as1 ns cs) := cell_below ((hB2.cell (p := ⟨w.heap.size, 1, none⟩) (by show w.heap.size < _; omega)).trans kk1) hB3 (Nat.le_refl _)
  have hB02 : Below W0.heap.size W0 w2 := hB1.trans (by rw [hs0]; exact hB2)
  have hB03 : Below W0.heap.size W0 W3 := below_two hB02 hB3
  have HB3 : Aside0 (Below w.heap.size w W3) := ⟨below_two hB0 hB03⟩
  have hV3 := hV0.below hB03 (Nat.le_refl _)
  have h3 := h0.below hB03 (Nat.le_refl _)
  have hM2 : SV W3 1 (.slice am2 ms.length cm2) ms.length (nsC ms) := (show SV w2 1 _ _ _ from ⟨am2, cm2, gm2, om2, rfl, hVm⟩).below hB3 (Nat.le_refl _)
  have hS2 : HS (fun b => W1.heap.size ≤ b ∧ Dt w2 b) W3 (.slice as2 s.len cs2) s := (show HS _ w2 _ _ from ⟨as2, cs2, bs2, os2, rfl, hd2, hL2⟩).below hB3 (Nat.le_refl _)
  have hK3 := hK2.below hB3
  have hT3 : Tabs W3 := hT.below (HB3.out)
  have c9 : ∀ W, Below W3.heap.size W3 W → Calls Tryd.prog 9 #[.agg #[.slice am2 ms.length cm2, .slice as2 s.len cs2]] W (IsM (checkP (nsL ms) s) W) := fun W hW => check_walk ms s _ _ _ W hms hml hm (hM2.below hW (Nat.le_refl _)) (hS2.below hW (Nat.le_refl _)) (hT3.below hW)
  have c10 : ∀ W, Below W3.heap.size W3 W → Calls Tryd.prog 10 #[.agg #[.slice am nm cm, .slice as1 ns cs]] W (IsM (checkP (nsL ms) s) W) := fun W hW => rcheck_walk ms s _ _ _ W hms hml hm (hV3.below hW (Nat.le_refl _)) (h3.below hW (Nat.le_refl _))
  have c11 : ∀ W, Below W3.heap.size W3 W → Calls Tryd.prog 11 #[.agg #[.slice am nm cm, .slice as1 ns cs], .agg #[.slice am2 ms.length cm2, .slice as2 s.len cs2]] W (IsY true W) := fun W hW => same_walk ms s _ _ _ _ _ _ W hml hm (hV3.below hW (Nat.le_refl _)) (hM2.below hW (Nat.le_refl _)) (h3.below hW (Nat.le_refl _)) (hS2.below hW (Nat.le_refl _))
  have c12 : ∀ W, Below W3.heap.size W3 W → Calls Tryd.prog 12 #[.pointer (some ⟨w.heap.size + 1, 0, none⟩)] W (IsB true W) := fun W hW => kept_walk W _ _ _ _ (hK3.below hW) (by omega)
  obtain ⟨R, hR⟩ : ∃ R, checkP (nsL ms) s = R := ⟨_, rfl⟩
  rw [hR] at c9 c10
  rw [hW3]
  clear hR hW3 hB3 hms hml hm hV0 h0 hT hB0 hB1 hs0 hs1 kk0 kk1 hws hB02 hB03 hV3 h3 hM2 hS2 hK3 hT3 hVm hd2 hL2 hK2 hB2 HI hp1 c8 hW1 hW0
  refine wp_region_L (fun w' => Below W3.heap.size W3 w') (fun _ => True) 40 (by kernel_rfl) ((Below.refl _ _).drew) trivial (fun hsh hS => ?_)
  generalize W3.drew = w0 at *
  refine anyL_take (i := 0) (v := ?_) rfl (by kernel_rfl) (by kernel_rfl) (by kernel_rfl) (by decide) hsh (fun _ _ _ h => h) (Or.inl ⟨by kernel_rfl, ?_⟩) hS ?_
  rotate_left 1
  · (intro wS hSw; (try dsimp only at hSw); first | (have p0 := cell_below k0 hSw (Nat.le_refl _); have p1 := cell_below k1 hSw (Nat.le_refl _); have p2 := cell_below q0 hSw (Nat.le_refl _); have p3 := cell_below q1 hSw (Nat.le_refl _); go_simp; done) | (have p0 := cell_below k0 hSw (Nat.le_refl _); have p1 := cell_below k1 hSw (Nat.le_refl _); have p2 := cell_below q0 hSw (Nat.le_refl _); have p3 := cell_below q1 hSw (Nat.le_refl _); go_simp; with_reducible rfl))
  intro hsh1 hS1; clear hsh hS; have hsh := hsh1; have hS := hS1; clear hsh1 hS1
  simp only [Act.put, List.setIfInBounds_toArray, List.set_cons_zero, List.set_cons_succ]
  refine anyL_take (i := 2) (v := ?_) rfl (by kernel_rfl) (by kernel_rfl) (by kernel_rfl) (by decide) hsh (fun _ _ _ h => h) (Or.inl ⟨by kernel_rfl, ?_⟩) hS ?_
  rotate_left 1
  · (intro wS hSw; (try dsimp only at hSw); first | (have p0 := cell_below k0 hSw (Nat.le_refl _); have p1 := cell_below k1 hSw (Nat.le_refl _); have p2 := cell_below q0 hSw (Nat.le_refl _); have p3 := cell_below q1 hSw (Nat.le_refl _); go_simp; done) | (have p0 := cell_below k0 hSw (Nat.le_refl _); have p1 := cell_below k1 hSw (Nat.le_refl _); have p2 := cell_below q0 hSw (Nat.le_refl _); have p3 := cell_below q1 hSw (Nat.le_refl _); go_simp; with_reducible rfl))
  intro hsh1 hS1; clear hsh hS; have hsh := hsh1; have hS := hS1; clear hsh1 hS1
  simp only [Act.put, List.setIfInBounds_toArray, List.set_cons_zero, List.set_cons_succ]
  refine anyL_one (i := 1) (by kernel_rfl) rfl hsh (fun K hK => ?_)
  have hb1 := hS.1
  go_simp
  go_at_call 9
  with_reducible refine (c9 _ hb1).mono ?_
  rintro e w1 ⟨rfl, hc1⟩
  have hd1 := below_two hb1 hc1
  try go_simp
  refine hK.out _ _ ⟨hd1, fun _ => trivial⟩ (fun hsh1 hS1 => ?_)
  clear hsh hS hK K; have hsh := hsh1; have hS := hS1; clear hsh1 hS1
  refine anyL_one (i := 3) (by kernel_rfl) rfl hsh (fun K hK => ?_)
  have hb3 := hS.1
  go_simp
  go_at_call 10
  with_reducible refine (c10 _ hb3).mono ?_
  rintro e w3 ⟨rfl, hc3⟩
  have hd3 := below_two hb3 hc3
  try go_simp
  refine hK.out _ _ ⟨hd3, fun _ => trivial⟩ (fun hsh1 hS1 => ?_)
  clear hsh hS hK K; have hsh := hsh1; have hS := hS1; clear hsh1 hS1
  refine anyL_take (i := 4) (v := ?_) rfl (by kernel_rfl) (by kernel_rfl) (by kernel_rfl) (by decide) hsh (fun _ _ _ h => h) (Or.inl ⟨by kernel_rfl, ?_⟩) hS ?_
  rotate_left 1
  · (intro wS hSw; (try dsimp only at hSw); first | (have p0 := cell_below k0 hSw (Nat.le_refl _); have p1 := cell_below k1 hSw (Nat.le_refl _); have p2 := cell_below q0 hSw (Nat.le_refl _); have p3 := cell_below q1 hSw (Nat.le_refl _); go_simp; done) | (have p0 := cell_below k0 hSw (Nat.le_refl _); have p1 := cell_below k1 hSw (Nat.le_refl _); have p2 := cell_below q0 hSw (Nat.le_refl _); have p3 := cell_below q1 hSw (Nat.le_refl _); go_simp; with_reducible rfl))
  intro hsh1 hS1; clear hsh hS; have hsh := hsh1; have hS := hS1; clear hsh1 hS1
  simp only [Act.put, List.setIfInBounds_toArray, List.set_cons_zero, List.set_cons_succ]
  refine anyL_take (i := 5) (v := ?_) rfl (by kernel_rfl) (by kernel_rfl) (by kernel_rfl) (by decide) hsh (fun _ _ _ h => h) (Or.inl ⟨by kernel_rfl, ?_⟩) hS ?_
  rotate_left 1
  · (intro wS hSw; (try dsimp only at hSw); first | (have p0 := cell_below k0 hSw (Nat.le_refl _); have p1 := cell_below k1 hSw (Nat.le_refl _); have p2 := cell_below q0 hSw (Nat.le_refl _); have p3 := cell_below q1 hSw (Nat.le_refl _); go_simp; done) | (have p0 := cell_below k0 hSw (Nat.le_refl _); have p1 := cell_below k1 hSw (Nat.le_refl _); have p2 := cell_below q0 hSw (Nat.le_refl _); have p3 := cell_below q1 hSw (Nat.le_refl _); go_simp; with_reducible rfl))
  intro hsh1 hS1; clear hsh hS; have hsh := hsh1; have hS := hS1; clear hsh1 hS1
  simp only [Act.put, List.setIfInBounds_toArray, List.set_cons_zero, List.set_cons_succ]
  refine anyL_take (i := 6) (v := ?_) rfl (by kernel_rfl) (by kernel_rfl) (by kernel_rfl) (by decide) hsh (fun _ _ _ h => h) (Or.inl ⟨by kernel_rfl, ?_⟩) hS ?_
  rotate_left 1
  · (intro wS hSw; (try dsimp only at hSw); first | (have p0 := cell_below k0 hSw (Nat.le_refl _); have p1 := cell_below k1 hSw (Nat.le_refl _); have p2 := cell_below q0 hSw (Nat.le_refl _); have p3 := cell_below q1 hSw (Nat.le_refl _); go_simp; done) | (have p0 := cell_below k0 hSw (Nat.le_refl _); have p1 := cell_below k1 hSw (Nat.le_refl _); have p2 := cell_below q0 hSw (Nat.le_refl _); have p3 := cell_below q1 hSw (Nat.le_refl _); go_simp; with_reducible rfl))
  intro hsh1 hS1; clear hsh hS; have hsh := hsh1; have hS := hS1; clear hsh1 hS1
  simp only [Act.put, List.setIfInBounds_toArray, List.set_cons_zero, List.set_cons_succ]
  refine anyL_take (i := 7) (v := ?_) rfl (by kernel_rfl) (by kernel_rfl) (by kernel_rfl) (by decide) hsh (fun _ _ _ h => h) (Or.inl ⟨by kernel_rfl, ?_⟩) hS ?_
  rotate_left 1
  · (intro wS hSw; (try dsimp only at hSw); first | (have p0 := cell_below k0 hSw (Nat.le_refl _); have p1 := cell_below k1 hSw (Nat.le_refl _); have p2 := cell_below q0 hSw (Nat.le_refl _); have p3 := cell_below q1 hSw (Nat.le_refl _); go_simp; done) | (have p0 := cell_below k0 hSw (Nat.le_refl _); have p1 := cell_below k1 hSw (Nat.le_refl _); have p2 := cell_below q0 hSw (Nat.le_refl _); have p3 := cell_below q1 hSw (Nat.le_refl _); go_simp; with_reducible rfl))
  intro hsh1 hS1; clear hsh hS; have hsh := hsh1; have hS := hS1; clear hsh1 hS1
  simp only [Act.put, List.setIfInBounds_toArray, List.set_cons_zero, List.set_cons_succ]
  refine anyL_one (i := 8) (by kernel_rfl) rfl hsh (fun K hK => ?_)
  have hb8 := hS.1
  go_simp
  go_at_call 11
  with_reducible refine (c11 _ hb8).mono ?_
  rintro e w8 ⟨rfl, hc8⟩
  have hd8 := below_two hb8 hc8
  try go_simp
  refine hK.out _ _ ⟨hd8, fun _ => trivial⟩ (fun hsh1 hS1 => ?_)
  clear hsh hS hK K; have hsh := hsh1; have hS := hS1; clear hsh1 hS1
  refine anyL_take (i := 9) (v := ?_) rfl (by kernel_rfl) (by kernel_rfl) (by kernel_rfl) (by decide) hsh (fun _ _ _ h => h) (Or.inl ⟨by kernel_rfl, ?_⟩) hS ?_
  rotate_left 1
  · (intro wS hSw; (try dsimp only at hSw); first | (have p0 := cell_below k0 hSw (Nat.le_refl _); have p1 := cell_below k1 hSw (Nat.le_refl _); have p2 := cell_below q0 hSw (Nat.le_refl _); have p3 := cell_below q1 hSw (Nat.le_refl _); go_simp; done) | (have p0 := cell_below k0 hSw (Nat.le_refl _); have p1 := cell_below k1 hSw (Nat.le_refl _); have p2 := cell_below q0 hSw (Nat.le_refl _); have p3 := cell_below q1 hSw (Nat.le_refl _); go_simp; with_reducible rfl))
  intro hsh1 hS1; clear hsh hS; have hsh := hsh1; have hS := hS1; clear hsh1 hS1
  simp only [Act.put, List.setIfInBounds_toArray, List.set_cons_zero, List.set_cons_succ]
  refine anyL_take (i := 10) (v := ?_) rfl (by kernel_rfl) (by kernel_rfl) (by kernel_rfl) (by decide) hsh (fun _ _ _ h => h) (Or.inl ⟨by kernel_rfl, ?_⟩) hS ?_
  rotate_left 1
  · (intro wS hSw; (try dsimp only at hSw); first | (have p0 := cell_below k0 hSw (Nat.le_refl _); have p1 := cell_below k1 hSw (Nat.le_refl _); have p2 := cell_below q0 hSw (Nat.le_refl _); have p3 := cell_below q1 hSw (Nat.le_refl _); go_simp; done) | (have p0 := cell_below k0 hSw (Nat.le_refl _); have p1 := cell_below k1 hSw (Nat.le_refl _); have p2 := cell_below q0 hSw (Nat.le_refl _); have p3 := cell_below q1 hSw (Nat.le_refl _); go_simp; with_reducible rfl))
  intro hsh1 hS1; clear hsh hS; have hsh := hsh1; have hS := hS1; clear hsh1 hS1
  simp only [Act.put, List.setIfInBounds_toArray, List.set_cons_zero, List.set_cons_succ]
  refine anyL_take (i := 11) (v := ?_) rfl (by kernel_rfl) (by kernel_rfl) (by kernel_rfl) (by decide) hsh (fun _ _ _ h => h) (Or.inl ⟨by kernel_rfl, ?_⟩) hS ?_
  rotate_left 1
  · (intro wS hSw; (try dsimp only at hSw); first | (have p0 := cell_below k0 hSw (Nat.le_refl _); have p1 := cell_below k1 hSw (Nat.le_refl _); have p2 := cell_below q0 hSw (Nat.le_refl _); have p3 := cell_below q1 hSw (Nat.le_refl _); go_simp; done) | (have p0 := cell_below k0 hSw (Nat.le_refl _); have p1 := cell_below k1 hSw (Nat.le_refl _); have p2 := cell_below q0 hSw (Nat.le_refl _); have p3 := cell_below q1 hSw (Nat.le_refl _); go_simp; with_reducible rfl))
  intro hsh1 hS1; clear hsh hS; have hsh := hsh1; have hS := hS1; clear hsh1 hS1
  simp only [Act.put, List.setIfInBounds_toArray, List.set_cons_zero, List.set_cons_succ]
  refine anyL_one (i := 12) (by kernel_rfl) rfl hsh (fun K hK => ?_)
  have hb12 := hS.1
  go_simp
  go_at_call 12
  with_reducible refine (c12 _ hb12).mono ?_
  rintro e w12 ⟨rfl, rfl⟩
  try go_simp
  refine hK.out _ _ ⟨hb12, fun _ => trivial⟩ (fun hsh1 hS1 => ?_)
  clear hsh hS hK K; have hsh := hsh1; have hS := hS1; clear hsh1 hS1
  refine anyL_take (i := 13) (v := ?_) rfl (by kernel_rfl) (by kernel_rfl) (by kernel_rfl) (by decide) hsh (fun _ _ _ h => h) (Or.inl ⟨by kernel_rfl, ?_⟩) hS ?_
  rotate_left 1
  · (intro wS hSw; (try dsimp only at hSw); first | (have p0 := cell_below k0 hSw (Nat.le_refl _); have p1 := cell_below k1 hSw (Nat.le_refl _); have p2 := cell_below q0 hSw (Nat.le_refl _); have p3 := cell_below q1 hSw (Nat.le_refl _); go_simp; done) | (have p0 := cell_below k0 hSw (Nat.le_refl _); have p1 := cell_below k1 hSw (Nat.le_refl _); have p2 := cell_below q0 hSw (Nat.le_refl _); have p3 := cell_below q1 hSw (Nat.le_refl _); go_simp; with_reducible rfl))
  intro hsh1 hS1; clear hsh hS; have hsh := hsh1; have hS := hS1; clear hsh1 hS1
  simp only [Act.put, List.setIfInBounds_toArray, List.set_cons_zero, List.set_cons_succ]
  refine anyL_take (i := 14) (v := ?_) rfl (by kernel_rfl) (by kernel_rfl) (by kernel_rfl) (by decide) hsh (fun _ _ _ h => h) (Or.inl ⟨by kernel_rfl, ?_⟩) hS ?_
  rotate_left 1
  · (intro wS hSw; (try dsimp only at hSw); first | (have p0 := cell_below k0 hSw (Nat.le_refl _); have p1 := cell_below k1 hSw (Nat.le_refl _); have p2 := cell_below q0 hSw (Nat.le_refl _); have p3 := cell_below q1 hSw (Nat.le_refl _); go_simp; done) | (have p0 := cell_below k0 hSw (Nat.le_refl _); have p1 := cell_below k1 hSw (Nat.le_refl _); have p2 := cell_below q0 hSw (Nat.le_refl _); have p3 := cell_below q1 hSw (Nat.le_refl _); go_simp; with_reducible rfl))
  intro hsh1 hS1; clear hsh hS; have hsh := hsh1; have hS := hS1; clear hsh1 hS1
  simp only [Act.put, List.setIfInBounds_toArray, List.set_cons_zero, List.set_cons_succ]
  refine anyL_done (by kernel_rfl) ?_ _
  go_wp2
  go_ret
  exact ⟨rfl, HB3.out.trans (hS.1.mono (by have := HB3.out.size; omega))⟩
end Go.Proofs.YthkmdmobeadigaaDoor.lg
