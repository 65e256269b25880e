/- Copies that share no list: of programs, walked. -/
import Derived.Test.YthkmdmobeadigaaDoorXb
import Derived.Test.YthkmdmobeadigaaDoorWi
namespace Go.Proofs.YthkmdmobeadigaaDoor.lg
open Go.RowKit
set_option linter.unusedVariables false
set_option linter.unusedSimpArgs false
theorem info9 : (Tryd.prog.info? 9).map (fun i => (i.zero, i.size, i.bytes)) = some (some (.string ⟨#[]⟩), 1, 16) := by kernel_rfl
theorem info58 : (Tryd.prog.info? 58).map (fun i => (i.zero, i.size, i.bytes)) = some (some (.pointer none), 1, 8) := by kernel_rfl
theorem size25 : (Tryd.prog.info? 25).map (·.size) = some 2 := by kernel_rfl
theorem nsC_len (l : List ByteArray) : (nsC l).length = l.length := by simp [nsC]
theorem nsC_one (l : List ByteArray) : ∀ u ∈ nsC l, u.oneCell' = true := by
  intro u hu
  obtain ⟨x, _, rfl⟩ := List.mem_map.1 hu
  rfl
/-- What a program's copy leaves. -/
def TwP (w : World) (base kb N : Nat) (G : Nat → Prop) (ms : List ByteArray) (s : Sts) (e : Ending) (w' : World) : Prop :=
  ∃ vm vs, e = .returned (.agg #[vm, vs]) ∧ SV w' 1 vm ms.length (nsC ms) ∧ HS (fun b => w.heap.size ≤ b ∧ Dt w' b) w' vs s ∧ KO G w' base kb (N + 3 * s.wt + 2) ∧ Chg w w' ∧ Below base w w'
set_option maxHeartbeats 8000000 in
set_option maxRecDepth 100000 in
theorem twP_walk (ms : List ByteArray) (s : Sts) (vm vs : Value) (P : Nat → Prop) (W0 w : World) (G : Nat → Prop) (base kb N : Nat) (hml : ms.length ≤ 3000000) (hm : s.wt ≤ 3000000) (hV : SV W0 1 vm ms.length (nsC ms)) (hS : HS P W0 vs s) (hB0 : Below W0.heap.size W0 w) (hb0 : W0.heap.size ≤ base) (hbw : base ≤ w.heap.size) (hK : KO G w base kb N) (hN : N + 3 * s.wt + 2 ≤ 20000000) (hG : ∀ b, w.heap.size ≤ b → G b) :
    Calls Tryd.prog 8 #[.pointer (some ⟨kb, 0, none⟩), .agg #[vm, vs]] w (TwP w base kb N G ms s) := by
  obtain ⟨am, cm, gm, om, rfl, hW⟩ := hV
  obtain ⟨as1, cs, bs, os, rfl, _⟩ := id hS
  obtain ⟨n, hn⟩ : ∃ n, ms.length = n := ⟨_, rfl⟩
  obtain ⟨ns, hns⟩ : ∃ n, s.len = n := ⟨_, rfl⟩
  obtain ⟨m, hmm⟩ : ∃ m, w.heap.size = m := ⟨_, rfl⟩
  have HIN : Aside0 (SW W0 1 am n cm gm om (nsC ms) ∧ HS P W0 (.slice as1 ns cs) s ∧ ms.length = n ∧ (nsC ms).length = n ∧ s.wt ≤ 3000000 ∧ N + 3 * s.wt + 2 ≤ 20000000) := ⟨hn ▸ hW, hns ▸ hS, hn, by rw [nsC_len, hn], hm, hN⟩
  have HB0 : Aside0 (Below W0.heap.size W0 w ∧ W0.heap.size ≤ base ∧ base ≤ w.heap.size ∧ w.heap.size = m) := ⟨hB0, hb0, hbw, hmm⟩
  have HG : Aside0 (∀ b, w.heap.size ≤ b → G b) := ⟨hG⟩
  have HK : Aside0 (KO G w base kb N) := ⟨hK⟩
  have hbm : base ≤ m := by omega
  have hn3 : n ≤ 3000000 := by omega
  obtain ⟨Q, hQ⟩ : ∃ Q, TwP w base kb N G ms s = Q := ⟨_, rfl⟩
  have HQ : Aside0 (∀ vm vs w', SV w' 1 vm ms.length (nsC ms) → HS (fun b => w.heap.size ≤ b ∧ Dt w' b) w' vs s → KO G w' base kb (N + 3 * s.wt + 2) → Chg w w' → Below base w w' → Q (.returned (.agg #[vm, vs])) w') := ⟨fun vm vs w' h1 h2 h3 h4 h5 => by rw [← hQ]; exact ⟨vm, vs, rfl, h1, h2, h3, h4, h5⟩⟩
  rw [hQ, hn, hns]
  obtain ⟨W1, hW1⟩ : ∃ W, w.alloc (.cells #[.slice am n cm, .slice as1 ns cs] 25) = W := ⟨_, rfl⟩
  have hs1 : W1.heap.size = m + 1 := by rw [← hW1, ← hmm]; simp
  have hB1 : Below m w W1 := by rw [← hW1, ← hmm]; exact (Below.refl _ _).alloc (Nat.le_refl _) _
  have g1 : W1.heap[m]? = some (.cells #[.slice am n cm, .slice as1 ns cs] 25 (0, 0)) := by rw [← hW1, ← hmm]; exact heap_alloc_new w _
  obtain ⟨W2, hW2⟩ : ∃ W, W1.alloc (.cells #[.slice none 0 0, .slice none 0 0] 25) = W := ⟨_, rfl⟩
  have hs2 : W2.heap.size = m + 2 := by rw [← hW2]; simp; omega
  have hB12 : Below W1.heap.size W1 W2 := by rw [← hW2]; exact (Below.refl _ _).alloc (Nat.le_refl _) _
  have r2 : W2.heap[m + 1]? = some (.cells #[.slice none 0 0, .slice none 0 0] 25 (0, 0)) := by rw [← hW2, ← hs1]; exact heap_alloc_new W1 _
  have g2 := (hB12.block m (by omega)).trans g1
  obtain ⟨W3, hW3⟩ : ∃ W, W2.alloc (.cells #[] 9) = W := ⟨_, rfl⟩
  have hB23 : Below W2.heap.size W2 W3 := by rw [← hW3]; exact (Below.refl _ _).alloc (Nat.le_refl _) _
  have hs3 : W3.heap.size = m + 3 := by rw [← hW3]; simp; omega
  have r3 := (hB23.block (m + 1) (by omega)).trans r2
  have g3 := (hB23.block m (by omega)).trans g2
  have hB3 : Below m w W3 := (hB1.trans (hB12.mono (by omega))).trans (hB23.mono (by omega))
  have x0 : W2.cell? ⟨m, 0, none⟩ = some (.slice am n cm) := by unfold World.cell?; rw [g2]; rfl
  have x3 : W3.cell? ⟨m, 0, none⟩ = some (.slice am n cm) := by unfold World.cell?; rw [g3]; rfl
  have HR3 : Aside0 (W3.heap[m + 1]? = some (.cells #[.slice none 0 0, .slice none 0 0] 25 (0, 0)) ∧ W3.heap[m]? = some (.cells #[.slice am n cm, .slice as1 ns cs] 25 (0, 0)) ∧ Below m w W3 ∧ W3.heap.size = m + 3) := ⟨r3, g3, hB3, hs3⟩
  have hsv : SV W3 1 (.slice am n cm) n (nsC ms) := ⟨_, _, _, _, rfl, HIN.out.1.below (HB0.out.1.trans (hB3.mono (by omega))) (Nat.le_refl _)⟩
  have hone := nsC_one ms
  clear hQ hW hS hn hns hm hN hB0 hb0 hbw hK hG hB1 g1 hB12 r2 g2 hB23 r3 g3 hB3
  go_enter Tryd.func8, Tryd.ntmps8
  go_upto_region 3 with (first
    | (at_builtin; refine wpList_append_sv rfl (.tmp 6) (.tmp 8) rfl Tryd.underlying22 info9 rfl (by decide) m 0 (Value.slice (some ⟨m + 2, 0, none⟩) 0 0) [] rfl (OwnA.bare W3 m 9 1 _) (Value.slice am n cm) n (nsC ms) rfl hsv hone (by unfold maxLen; omega) (by omega) (by omega) ?_; intro v4 w4 own4 gr4 att4; rw [rowOf_zero] at gr4; have hb34 := grown_none_below gr4; rw [Nat.zero_add, List.nil_append] at own4; obtain ⟨a4, c4, rfl⟩ := own4.slice; have hs4 : m + 3 ≤ w4.heap.size := (by have := hb34.size; omega); have hm4 : m ≤ w4.heap.size := (by omega))
    | (at_builtin; refine wpList_newA (w := w4) rfl (.tmp 10) (.tmp 11) rfl Tryd.underlying22 info9 rfl (by decide) m n _ (nsC ms) 1 1 [.string ⟨#[98, 101, 104, 105, 110, 100]⟩] rfl (Nat.le_refl _) own4 rfl rfl (fun u hu => by rw [List.mem_singleton.1 hu]; rfl) (by unfold maxLen; omega) (by omega) hm4 rfl ?_; intro v5 w5 own5 gr5 att5; obtain ⟨a5, c5, rfl⟩ := own5.slice))
  clear hsv hone x0 x3 hW1 hW2 hW3 hs1 hs2 hs3 hmm
  have hlt4 := own4.lt
  have hbw5 : Below m w w5 := Below.grown ((HR3.out.2.2.1.trans (hb34.mono (by have := HR3.out.2.2.2; omega))).alloc (by omega) _) gr5 (by simp; omega) (fun k hk => (hlt4 k hk).1)
  have hm := HB0.out.2.2.2
  have hK5 : KO G w5 base kb N := HK.out.below (by rw [hm]; exact hbw5)
  have hC5 : Chg w w5 := (Chg.refl w).below (by rw [hm]; exact hbw5)
  have e4 : ∀ (b : Nat) (x y : Value), W3.heap[b]? = some (.cells #[x, y] 25 (0, 0)) → w5.heap[b]? = some (.cells #[x, y] 25 (0, 0)) := fun b x y h => by
    have h4 := (hb34.block b (Array.getElem?_eq_some_iff.1 h).1).trans h
    have h4' := (Below.heap_alloc (o := .cells #[.string ⟨#[98, 101, 104, 105, 110, 100]⟩] 9) w4 b (Array.getElem?_eq_some_iff.1 h4).1).trans h4
    refine (gr5.block b (by have := (Array.getElem?_eq_some_iff.1 h4).1; simp; omega) (fun e => ?_)).trans h4'
    obtain ⟨c1, f1, q1⟩ := own4.type b e.symm
    rw [h4] at q1
    simp only [Option.some.injEq, Obj.cells.injEq] at q1
    exact absurd q1.2.1 (by decide)
  have r5 := e4 _ _ _ HR3.out.1
  have g5 := e4 _ _ _ HR3.out.2.1
  have hlx : (nsC ms).length = n := HIN.out.2.2.2.1
  have HO5 : Aside0 (OwnA w5 m 9 1 (.slice a5 (n + 1) c5) (n + 1) (nsC ms ++ [.string ⟨#[98, 101, 104, 105, 110, 100]⟩])) := ⟨own5⟩
  clear e4 hlt4 own4 gr4 att4 hb34 gr5 att5 own5 hs4 hm4
  obtain ⟨g, o5, hae, hgm, hgc, hcap, hcells, hgt⟩ : ∃ g o5, a5 = some ⟨g, o5, none⟩ ∧ m ≤ g ∧ g < w5.heap.size ∧ n + 1 ≤ c5 ∧ (∀ (j : Nat) (u : Value), (nsC ms ++ [.string ⟨#[98, 101, 104, 105, 110, 100]⟩])[j]? = some u → w5.cell? ⟨g, o5 + j, none⟩ = some u) ∧ Typ w5 g 9 := by
    rcases HO5.out.2 with ⟨_, e, e2⟩ | ⟨g, o, cap, cur, fz, e, hcp, hb⟩
    · omega
    · simp only [Value.slice.injEq, true_and] at e
      obtain ⟨rfl, rfl⟩ := e
      exact ⟨g, o, rfl, hb.bs, (Array.getElem?_eq_some_iff.1 hb.blk).1, hb.hn, fun j u hu => by unfold World.cell?; rw [hb.blk]; exact hb.cells j u hu, ⟨_, _, hb.blk⟩⟩
  subst hae
  obtain ⟨vx, nx, px, k0, kown, kmark, kn⟩ := hK5.m
  obtain ⟨ax, cx, rfl⟩ := kown.slice
  have hmk : w5.cell? ⟨g, o5 + n, none⟩ = some (.string ⟨#[98, 101, 104, 105, 110, 100]⟩) := hcells n _ (by rw [List.getElem?_append_right (by omega), hlx, Nat.sub_self]; rfl)
  have hNi : N ≤ 20000000 := by have := HIN.out.2.2.2.2.2; omega
  have HC5 : Aside0 (∀ (j : Nat) (u : Value), (nsC ms ++ [.string ⟨#[98, 101, 104, 105, 110, 100]⟩])[j]? = some u → w5.cell? ⟨g, o5 + j, none⟩ = some u) := ⟨hcells⟩
  have hbd : Below w5.heap.size w5 w5.drew := (Below.refl _ _).drew
  have hw5s : m ≤ w5.heap.size := by omega
  have hbw5' : base ≤ w5.heap.size := by omega
  have hlt1 : (n : Int) < (n : Int) + 1 := by omega
  have hc0 : w5.cell? ⟨m, 0, none⟩ = some (.slice am n cm) := by unfold World.cell?; rw [g5]; rfl
  have hGg : G g := HG.out g (by omega)
  clear hcells
  refine wp_region_L (fun _ => True) (fun w' => w'.cell? ⟨kb, 2, none⟩ = some (.slice ax nx cx) ∧ w'.cell? ⟨m, 0, none⟩ = some (.slice am n cm)) 14 (by kernel_rfl) trivial ⟨k0, hc0⟩ (fun hsh hS => ?_)
  generalize w5.drew = w0 at *
  refine anyL_take1 20 (i := 0) (v := ?_) rfl (by kernel_rfl) (by kernel_rfl) (by kernel_rfl) (by decide) (by kernel_rfl) hsh (fun _ _ _ h => h) (Or.inl ⟨by rfl, ?_⟩) hS ?_
  rotate_left 1
  · (intro wS hSw; (try dsimp only at hSw); first | (go_simp; done) | (go_simp; with_reducible rfl))
  intro hsh1 hS1; clear hsh hS; have hsh := hsh1; have hS := hS1; clear hsh1 hS1
  simp only [Act.put, List.setIfInBounds_toArray, List.set_cons_zero, List.set_cons_succ]
  refine anyL_take1 20 (i := 1) (v := ?_) rfl (by kernel_rfl) (by kernel_rfl) (by kernel_rfl) (by decide) (by kernel_rfl) hsh (fun _ _ _ h => h) (Or.inl ⟨by rfl, ?_⟩) hS ?_
  rotate_left 1
  · (intro wS hSw; (try dsimp only at hSw); first | (go_simp; done) | (go_simp; with_reducible rfl))
  intro hsh1 hS1; clear hsh hS; have hsh := hsh1; have hS := hS1; clear hsh1 hS1
  simp only [Act.put, List.setIfInBounds_toArray, List.set_cons_zero, List.set_cons_succ]
  refine anyL_take1 20 (i := 2) (v := ?_) rfl (by kernel_rfl) (by kernel_rfl) (by kernel_rfl) (by decide) (by kernel_rfl) hsh (fun _ _ _ h => h) (Or.inl ⟨by rfl, ?_⟩) hS ?_
  rotate_left 1
  · (intro wS hSw; (try dsimp only at hSw); first | (go_simp; done) | (go_simp; with_reducible rfl))
  intro hsh1 hS1; clear hsh hS; have hsh := hsh1; have hS := hS1; clear hsh1 hS1
  simp only [Act.put, List.setIfInBounds_toArray, List.set_cons_zero, List.set_cons_succ]
  refine anyL_take1 20 (i := 3) (v := ?_) rfl (by kernel_rfl) (by kernel_rfl) (by kernel_rfl) (by decide) (by kernel_rfl) hsh (fun _ _ _ h => h) (Or.inl ⟨by rfl, ?_⟩) hS ?_
  rotate_left 1
  · (intro wS hSw; (try dsimp only at hSw); first | (go_simp; done) | (go_simp; with_reducible rfl))
  intro hsh1 hS1; clear hsh hS; have hsh := hsh1; have hS := hS1; clear hsh1 hS1
  simp only [Act.put, List.setIfInBounds_toArray, List.set_cons_zero, List.set_cons_succ]
  refine anyL_take1 20 (i := 4) (v := ?_) rfl (by kernel_rfl) (by kernel_rfl) (by kernel_rfl) (by decide) (by kernel_rfl) hsh (fun _ _ _ h => h) (Or.inl ⟨by rfl, ?_⟩) hS ?_
  rotate_left 1
  · (intro wS hSw; (try dsimp only at hSw); first | (go_simp; done) | (go_simp; with_reducible rfl))
  intro hsh1 hS1; clear hsh hS; have hsh := hsh1; have hS := hS1; clear hsh1 hS1
  simp only [Act.put, List.setIfInBounds_toArray, List.set_cons_zero, List.set_cons_succ]
  refine anyL_take1 20 (i := 5) (v := ?_) rfl (by kernel_rfl) (by kernel_rfl) (by kernel_rfl) (by decide) (by kernel_rfl) hsh (fun _ _ _ h => h) (Or.inl ⟨by rfl, ?_⟩) hS ?_
  rotate_left 1
  · (intro wS hSw; (try dsimp only at hSw); first | (go_simp; done) | (go_simp; with_reducible rfl))
  intro hsh1 hS1; clear hsh hS; have hsh := hsh1; have hS := hS1; clear hsh1 hS1
  simp only [Act.put, List.setIfInBounds_toArray, List.set_cons_zero, List.set_cons_succ]
  refine anyL_take1 20 (i := 6) (v := ?_) rfl (by kernel_rfl) (by kernel_rfl) (by kernel_rfl) (by decide) (by kernel_rfl) hsh (fun _ _ _ h => h) (Or.inl ⟨by rfl, ?_⟩) hS ?_
  rotate_left 1
  · (intro wS hSw; (try dsimp only at hSw); first | (go_simp; done) | (go_simp; with_reducible rfl))
  intro hsh1 hS1; clear hsh hS; have hsh := hsh1; have hS := hS1; clear hsh1 hS1
  simp only [Act.put, List.setIfInBounds_toArray, List.set_cons_zero, List.set_cons_succ]
  refine anyL_take1 20 (i := 7) (v := ?_) rfl (by kernel_rfl) (by kernel_rfl) (by kernel_rfl) (by decide) (by kernel_rfl) hsh (fun _ _ _ h => h) (Or.inl ⟨by rfl, ?_⟩) hS ?_
  rotate_left 1
  · (intro wS hSw; (try dsimp only at hSw); first | (go_simp; done) | (go_simp; with_reducible rfl))
  intro hsh1 hS1; clear hsh hS; have hsh := hsh1; have hS := hS1; clear hsh1 hS1
  simp only [Act.put, List.setIfInBounds_toArray, List.set_cons_zero, List.set_cons_succ]
  refine anyL_take1 20 (i := 8) (v := ?_) rfl (by kernel_rfl) (by kernel_rfl) (by kernel_rfl) (by decide) (by kernel_rfl) hsh (fun _ _ _ h => h) (Or.inl ⟨by rfl, ?_⟩) hS ?_
  rotate_left 1
  · (intro wS hSw; (try dsimp only at hSw); first | (go_simp; done) | (go_simp; with_reducible rfl))
  intro hsh1 hS1; clear hsh hS; have hsh := hsh1; have hS := hS1; clear hsh1 hS1
  simp only [Act.put, List.setIfInBounds_toArray, List.set_cons_zero, List.set_cons_succ]
  refine anyL_take1 20 (i := 9) (v := ?_) rfl (by kernel_rfl) (by kernel_rfl) (by kernel_rfl) (by decide) (by kernel_rfl) hsh (fun _ _ _ h => h) (Or.inl ⟨by rfl, ?_⟩) hS ?_
  rotate_left 1
  · (intro wS hSw; (try dsimp only at hSw); first | (go_simp; done) | (go_simp; with_reducible rfl))
  intro hsh1 hS1; clear hsh hS; have hsh := hsh1; have hS := hS1; clear hsh1 hS1
  simp only [Act.put, List.setIfInBounds_toArray, List.set_cons_zero, List.set_cons_succ]
  refine anyL_one (i := 10) (by kernel_rfl) rfl hsh (fun K hK => ?_)
  go_simp
  have hB6 : Below w5.heap.size w5 (w0.alloc (.cells #[.pointer (some ⟨g, o5 + n, none⟩)] 58)) := hbd.alloc (by have := hbd.size; omega) _
  have hsv : SV (w0.alloc (.cells #[.pointer (some ⟨g, o5 + n, none⟩)] 58)) 1 (.slice (some ⟨w0.heap.size, 0, none⟩) 1 1) 1 [.pointer (some ⟨g, o5 + n, none⟩)] := ⟨_, _, w0.heap.size, 0, rfl, rfl, .inr rfl, (fun e => by cases e), Nat.le_refl _, fun j u hj => by rw [Nat.zero_add, cell_new]; simpa using hj⟩
  generalize w0.alloc (.cells #[.pointer (some ⟨g, o5 + n, none⟩)] 58) = w6 at hB6 hsv ⊢
  have k6 : w6.cell? ⟨kb, 2, none⟩ = some (.slice ax nx cx) := cell_below k0 hB6 (Nat.le_refl _)
  have k6m : w6.cell? ⟨m, 0, none⟩ = some (.slice am n cm) := cell_below hc0 hB6 (Nat.le_refl _)
  refine hK.out _ _ ⟨trivial, fun _ => ⟨k6, k6m⟩⟩ (fun hsh1 hS1 => ?_)
  clear hsh hS hK K; have hsh := hsh1; have hS := hS1; clear hsh1 hS1
  refine anyL_one (i := 11) (by kernel_rfl) rfl hsh (fun K hK => ?_)
  refine step_append_sv (w := w6) (by rfl) (.tmp 17) (.tmp 23) (by rfl) Tryd.underlying29 info58 rfl (by decide) base nx _ px (by rfl) (kown.below hB6 (Nat.le_refl _)) _ 1 [.pointer (some ⟨g, o5 + n, none⟩)] (by rfl) hsv (fun u hu => by rw [List.mem_singleton.1 hu]; rfl) (by unfold maxLen; omega) (by omega) (by have := hB6.size; omega) ?_
  intro v6 w7 own7 gr7 att7
  obtain ⟨a7, c7, rfl⟩ := own7.slice
  have hpx := (hK5.below hB6).pushM k6 (kown.below hB6 (Nat.le_refl _)) (fun u hu => (kmark u hu).keep (fun b _ hb => hB6.block b hb.lt) (fun b h _ => h)) kn ⟨g, o5 + n, rfl, hGg, hgt.keep (hB6.block g hgc), cell_below hmk hB6 (Nat.le_refl _)⟩ own7 gr7
  have hkt : Typ w6 kb 31 := (hK5.below hB6).blk.typ
  have hnr : some kb ≠ rowOf (.slice ax nx cx) := fun e => (Typ.ne ((kown.below hB6 (Nat.le_refl _)).type kb e.symm) hkt (by decide)) rfl
  have hgm6 : Typ w6 m 25 := Typ.keep ⟨_, _, g5⟩ (hB6.block m (Array.getElem?_eq_some_iff.1 g5).1)
  have hnm : some m ≠ rowOf (.slice ax nx cx) := fun e => (Typ.ne ((kown.below hB6 (Nat.le_refl _)).type m e.symm) hgm6 (by decide)) rfl
  have k7 := gr7.cell k6 hnr
  have k7m := gr7.cell k6m hnm
  have hb7 : w7.heap[kb]? = w6.heap[kb]? := gr7.block kb hkt.lt hnr
  have f7 : w7.frozen? ⟨kb, 2, none⟩ = false := by obtain ⟨cs, e1, e2⟩ := (hK5.below hB6).blk; unfold World.frozen?; rw [hb7, e1]; simp
  refine hK.out _ _ ⟨trivial, fun _ => ⟨k7, k7m⟩⟩ (fun hsh1 hS1 => ?_)
  clear hsh hS hK K; have hsh := hsh1; have hS := hS1; clear hsh1 hS1
  refine anyL_take1 20 (i := 12) (v := ?_) rfl (by kernel_rfl) (by kernel_rfl) (by kernel_rfl) (by decide) (by kernel_rfl) hsh (fun _ _ _ h => h) (Or.inl ⟨by rfl, ?_⟩) hS ?_
  rotate_left 1
  · (intro wS hSw; (try dsimp only at hSw); first | (go_simp; done) | (go_simp; with_reducible rfl))
  intro hsh1 hS1; clear hsh hS; have hsh := hsh1; have hS := hS1; clear hsh1 hS1
  simp only [Act.put, List.setIfInBounds_toArray, List.set_cons_zero, List.set_cons_succ]
  refine anyL_take1 20 (i := 13) (v := ?_) rfl (by kernel_rfl) (by kernel_rfl) (by kernel_rfl) (by decide) (by kernel_rfl) hsh (fun _ _ _ h => h) (Or.inl ⟨by rfl, ?_⟩) hS ?_
  rotate_left 1
  · (intro wS hSw; (try dsimp only at hSw); first | (go_simp; done) | (go_simp; with_reducible rfl))
  intro hsh1 hS1; clear hsh hS; have hsh := hsh1; have hS := hS1; clear hsh1 hS1
  simp only [Act.put, List.setIfInBounds_toArray, List.set_cons_zero, List.set_cons_succ]
  refine anyL_one (i := 14) (by kernel_rfl) rfl hsh (fun K hK => ?_)
  go_simp
  refine hK.out _ _ ⟨trivial, fun h => absurd h (by decide)⟩ (fun hsh1 hS1 => ?_)
  clear hsh hS hK K; have hsh := hsh1; have hS := hS1; clear hsh1 hS1
  refine anyL_done (by kernel_rfl) ?_ _
  obtain ⟨hKf, hCf, hBf⟩ := hpx
  have hBf2 := hBf (by have := hB6.size; omega)
  have c59 : Chg w5 (w7.setCell ⟨kb, 2, none⟩ (.slice a7 (nx + 1) c7)) := ((Chg.refl w5).below hB6).trans hCf
  have hBB : Below base w (w7.setCell ⟨kb, 2, none⟩ (.slice a7 (nx + 1) c7)) := ((hbw5.mono (by omega)).trans (hB6.mono (by omega))).trans hBf2
  have dm : Dt w5 m := .inr (.inr (.inr ⟨_, _, g5⟩))
  have dr : Dt w5 (m + 1) := .inr (.inr (.inr ⟨_, _, r5⟩))
  have dg : Dt w5 g := .inr (.inr (.inl hgt))
  have HA : Aside0 (KO G (w7.setCell ⟨kb, 2, none⟩ (.slice a7 (nx + 1) c7)) base kb (N + 1) ∧ Chg w (w7.setCell ⟨kb, 2, none⟩ (.slice a7 (nx + 1) c7)) ∧ Below base w (w7.setCell ⟨kb, 2, none⟩ (.slice a7 (nx + 1) c7)) ∧ w5.heap.size ≤ (w7.setCell ⟨kb, 2, none⟩ (.slice a7 (nx + 1) c7)).heap.size) := ⟨hKf, hC5.trans c59, hBB, by have := hB6.size; have := hBf2.size; omega⟩
  have gA := (c59 m dm).trans g5
  have rA := (c59 (m + 1) dr).trans r5
  have HSA : Aside0 (∀ (j : Nat) (u : Value), (nsC ms)[j]? = some u → (w7.setCell ⟨kb, 2, none⟩ (.slice a7 (nx + 1) c7)).cell? ⟨g, o5 + j, none⟩ = some u) := ⟨fun j u hu => cell_kept (c59 g dg) (HC5.out j u (by rw [List.getElem?_append_left (List.getElem?_eq_some_iff.1 hu).1]; exact hu))⟩
  have hgA : Typ (w7.setCell ⟨kb, 2, none⟩ (.slice a7 (nx + 1) c7)) g 9 := hgt.keep (c59 g dg)
  clear hKf hCf hBf hBf2 own7 gr7 att7 hsv hS hsh c59 hBB dm dr dg k7 k7m hb7 f7 hkt hnr hnm hgm6 k6 k6m hB6 hK5 kown kmark kn k0 hmk hc0 hbd hC5 hbw5 g5 r5 HO5 HC5
  generalize w7.setCell ⟨kb, 2, none⟩ (.slice a7 (nx + 1) c7) = wA at *
  go_upto_region 4 with fail
  have hKd : KO G wA.drew base kb (N + 1) := HA.out.1.below (Below.refl _ _).drew
  have hCd : Chg w wA.drew := HA.out.2.1.below (Below.refl _ _).drew
  have hBd : Below base w wA.drew := HA.out.2.2.1.drew
  have gd : wA.drew.heap[m]? = some (.cells #[.slice am n cm, .slice as1 ns cs] 25 (0, 0)) := gA
  have rd : wA.drew.heap[m + 1]? = some (.cells #[.slice none 0 0, .slice none 0 0] 25 (0, 0)) := rA
  have sd : ∀ (j : Nat) (u : Value), (nsC ms)[j]? = some u → wA.drew.cell? ⟨g, o5 + j, none⟩ = some u := HSA.out
  have td : Typ wA.drew g 9 := hgA
  have zd0 : wA.drew.cell? ⟨m, 0, none⟩ = some (.slice am n cm) := by unfold World.cell?; rw [gd]; rfl
  have zd1 : wA.drew.cell? ⟨m, 1, none⟩ = some (.slice as1 ns cs) := by unfold World.cell?; rw [gd]; rfl
  have hn5 : (n : Int) ≤ (c5 : Int) := by omega
  have hmd : m + 1 < wA.drew.heap.size := (Array.getElem?_eq_some_iff.1 rd).1
  have cS := twS (s.wt + 1) s (.slice as1 ns cs) P W0 wA.drew G base kb (N + 1) (Nat.lt_succ_self _) HIN.out.2.2.2.2.1 HIN.out.2.1 (HB0.out.1.trans (hBd.mono HB0.out.2.1)) HB0.out.2.1 (by omega) hKd (by have := HIN.out.2.2.2.2.2; omega) (fun b hb => HG.out b (by omega))
  have SD : Aside0 (∀ (j : Nat) (u : Value), (nsC ms)[j]? = some u → wA.drew.cell? ⟨g, o5 + j, none⟩ = some u) := ⟨sd⟩
  clear sd HSA
  refine wp_region_L (fun w' => w'.cell? ⟨m, 0, none⟩ = some (.slice am n cm) ∧ w'.cell? ⟨m, 1, none⟩ = some (.slice as1 ns cs)) (fun _ => True) 10 (by kernel_rfl) ⟨zd0, zd1⟩ trivial (fun hsh hS => ?_)
  generalize wA.drew = w0 at *
  refine anyL_take (i := 0) (v := ?_) rfl (by kernel_rfl) (by kernel_rfl) (by kernel_rfl) (by decide) hsh (fun _ _ _ h => h) (Or.inl ⟨by rfl, ?_⟩) hS ?_
  rotate_left 1
  · (intro wS hSw; (try dsimp only at hSw); first | (go_simp; done) | (go_simp; with_reducible rfl))
  intro hsh1 hS1; clear hsh hS; have hsh := hsh1; have hS := hS1; clear hsh1 hS1
  simp only [Act.put, List.setIfInBounds_toArray, List.set_cons_zero, List.set_cons_succ]
  refine anyL_take (i := 1) (v := ?_) rfl (by kernel_rfl) (by kernel_rfl) (by kernel_rfl) (by decide) hsh (fun _ _ _ h => h) (Or.inl ⟨by rfl, ?_⟩) hS ?_
  rotate_left 1
  · (intro wS hSw; (try dsimp only at hSw); first | (go_simp; done) | (go_simp; with_reducible rfl))
  intro hsh1 hS1; clear hsh hS; have hsh := hsh1; have hS := hS1; clear hsh1 hS1
  simp only [Act.put, List.setIfInBounds_toArray, List.set_cons_zero, List.set_cons_succ]
  refine anyL_take (i := 2) (v := ?_) rfl (by kernel_rfl) (by kernel_rfl) (by kernel_rfl) (by decide) hsh (fun _ _ _ h => h) (Or.inl ⟨by rfl, ?_⟩) hS ?_
  rotate_left 1
  · (intro wS hSw; (try dsimp only at hSw); first | (go_simp; done) | (go_simp; with_reducible rfl))
  intro hsh1 hS1; clear hsh hS; have hsh := hsh1; have hS := hS1; clear hsh1 hS1
  simp only [Act.put, List.setIfInBounds_toArray, List.set_cons_zero, List.set_cons_succ]
  refine anyL_take (i := 3) (v := ?_) rfl (by kernel_rfl) (by kernel_rfl) (by kernel_rfl) (by decide) hsh (fun _ _ _ h => h) (Or.inl ⟨by rfl, ?_⟩) hS ?_
  rotate_left 1
  · (intro wS hSw; (try dsimp only at hSw); first | (go_simp; done) | (go_simp; with_reducible rfl))
  intro hsh1 hS1; clear hsh hS; have hsh := hsh1; have hS := hS1; clear hsh1 hS1
  simp only [Act.put, List.setIfInBounds_toArray, List.set_cons_zero, List.set_cons_succ]
  refine anyL_take (i := 4) (v := ?_) rfl (by kernel_rfl) (by kernel_rfl) (by kernel_rfl) (by decide) hsh (fun _ _ _ h => h) (Or.inl ⟨by rfl, ?_⟩) hS ?_
  rotate_left 1
  · (intro wS hSw; (try dsimp only at hSw); first | (go_simp; done) | (go_simp; with_reducible rfl))
  intro hsh1 hS1; clear hsh hS; have hsh := hsh1; have hS := hS1; clear hsh1 hS1
  simp only [Act.put, List.setIfInBounds_toArray, List.set_cons_zero, List.set_cons_succ]
  refine anyL_take (i := 5) (v := ?_) rfl (by kernel_rfl) (by kernel_rfl) (by kernel_rfl) (by decide) hsh (fun _ _ _ h => h) (Or.inl ⟨by rfl, ?_⟩) hS ?_
  rotate_left 1
  · (intro wS hSw; (try dsimp only at hSw); first | (go_simp; done) | (go_simp; with_reducible rfl))
  intro hsh1 hS1; clear hsh hS; have hsh := hsh1; have hS := hS1; clear hsh1 hS1
  simp only [Act.put, List.setIfInBounds_toArray, List.set_cons_zero, List.set_cons_succ]
  refine anyL_take (i := 6) (v := ?_) rfl (by kernel_rfl) (by kernel_rfl) (by kernel_rfl) (by decide) hsh (fun _ _ _ h => h) (Or.inl ⟨by rfl, ?_⟩) hS ?_
  rotate_left 1
  · (intro wS hSw; (try dsimp only at hSw); first | (go_simp; done) | (go_simp; with_reducible rfl))
  intro hsh1 hS1; clear hsh hS; have hsh := hsh1; have hS := hS1; clear hsh1 hS1
  simp only [Act.put, List.setIfInBounds_toArray, List.set_cons_zero, List.set_cons_succ]
  refine anyL_take (i := 7) (v := ?_) rfl (by kernel_rfl) (by kernel_rfl) (by kernel_rfl) (by decide) hsh (fun _ _ _ h => h) (Or.inl ⟨by rfl, ?_⟩) hS ?_
  rotate_left 1
  · (intro wS hSw; (try dsimp only at hSw); first | (go_simp; done) | (go_simp; with_reducible rfl))
  intro hsh1 hS1; clear hsh hS; have hsh := hsh1; have hS := hS1; clear hsh1 hS1
  simp only [Act.put, List.setIfInBounds_toArray, List.set_cons_zero, List.set_cons_succ]
  refine anyL_one (i := 8) (by kernel_rfl) rfl hsh (fun K hK => ?_)
  go_simp
  go_at_call 23
  (with_reducible refine cS.mono ?_)
  rintro e w8 ⟨v8, rfl, hH8, hK8, hC8, hB8⟩
  have hv8 : ∃ ao c, v8 = .slice ao s.len c := by obtain ⟨ao, c, _, _, e, _⟩ := hH8; exact ⟨ao, c, e⟩
  obtain ⟨a8, c8, rfl⟩ := hv8
  have dm : Dt w0 m := .inr (.inr (.inr ⟨_, _, gd⟩))
  have dr : Dt w0 (m + 1) := .inr (.inr (.inr ⟨_, _, rd⟩))
  have dg : Dt w0 g := .inr (.inr (.inl td))
  have g8 := (hC8 m dm).trans gd
  have r8 := (hC8 (m + 1) dr).trans rd
  have ze0 : w8.cell? ⟨m, 0, none⟩ = some (.slice am n cm) := by unfold World.cell?; rw [g8]; rfl
  have ze1 : w8.cell? ⟨m, 1, none⟩ = some (.slice as1 ns cs) := by unfold World.cell?; rw [g8]; rfl
  have y0 : w8.cell? ⟨m + 1, 0, none⟩ = some (.slice none 0 0) := by unfold World.cell?; rw [r8]; rfl
  have y1 : w8.cell? ⟨m + 1, 1, none⟩ = some (.slice none 0 0) := by unfold World.cell?; rw [r8]; rfl
  have y2 : w8.frozen? ⟨m + 1, 0, none⟩ = false := by unfold World.frozen?; rw [r8]; rfl
  have y3 : w8.frozen? ⟨m + 1, 1, none⟩ = false := by unfold World.frozen?; rw [r8]; rfl
  refine hK.out _ _ ⟨⟨ze0, ze1⟩, fun _ => trivial⟩ (fun hsh1 hS1 => ?_)
  clear hsh hS hK K; have hsh := hsh1; have hS := hS1; clear hsh1 hS1
  refine anyL_one (i := 9) (by kernel_rfl) rfl hsh (fun K hK => ?_)
  go_simp
  refine hK.out _ _ ⟨⟨ze0, ze1⟩, fun _ => trivial⟩ (fun hsh1 hS1 => ?_)
  clear hsh hS hK K; have hsh := hsh1; have hS := hS1; clear hsh1 hS1
  refine anyL_one (i := 10) (by kernel_rfl) rfl hsh (fun K hK => ?_)
  go_simp
  refine hK.out _ _ ⟨⟨set_far (set_far ze0 (by omega)) (by omega), set_far (set_far ze1 (by omega)) (by omega)⟩, fun _ => trivial⟩ (fun hsh1 hS1 => ?_)
  clear hsh hS hK K; have hsh := hsh1; have hS := hS1; clear hsh1 hS1
  refine anyL_done (by kernel_rfl) ?_ _
  have hr8 : Typ w8 (m + 1) 25 := ⟨_, _, r8⟩
  have q1 := heap_setCell_same w8 (m + 1) 0 _ _ (.slice (some ⟨g, o5, none⟩) n c5) r8
  have q2 := heap_setCell_same _ (m + 1) 1 _ _ (.slice a8 s.len c8) q1
  have ho := fun b (hne : b ≠ m + 1) => (heap_setCell_other (w8.setCell ⟨m + 1, 0, none⟩ (.slice (some ⟨g, o5, none⟩) n c5)) ⟨m + 1, 1, none⟩ b (.slice a8 s.len c8) hne).trans (heap_setCell_other w8 ⟨m + 1, 0, none⟩ b (.slice (some ⟨g, o5, none⟩) n c5) hne)
  have hgr : g ≠ m + 1 := fun e => (Typ.ne (td.keep (hC8 g dg)) hr8 (by decide)) e
  have hw := HB0.out.2.2.2
  have F1 : SV ((w8.setCell ⟨m + 1, 0, none⟩ (.slice (some ⟨g, o5, none⟩) n c5)).setCell ⟨m + 1, 1, none⟩ (.slice a8 s.len c8)) 1 (.slice (some ⟨g, o5, none⟩) n c5) ms.length (nsC ms) := ⟨_, _, g, o5, by rw [HIN.out.2.2.1], by rw [nsC_len, Nat.mul_one], .inr rfl, (fun e => by cases e), by rw [HIN.out.2.2.1]; omega, fun j u hu => cell_kept ((ho g hgr).trans (hC8 g dg)) (SD.out j u hu)⟩
  have F2 : HS (fun b => w.heap.size ≤ b ∧ Dt ((w8.setCell ⟨m + 1, 0, none⟩ (.slice (some ⟨g, o5, none⟩) n c5)).setCell ⟨m + 1, 1, none⟩ (.slice a8 s.len c8)) b) ((w8.setCell ⟨m + 1, 0, none⟩ (.slice (some ⟨g, o5, none⟩) n c5)).setCell ⟨m + 1, 1, none⟩ (.slice a8 s.len c8)) (.slice a8 s.len c8) s := hH8.to (fun b hb => ho b (by omega)) (fun b hb => ⟨by omega, hb.2.keep (ho b (by omega))⟩)
  have F3 : KO G ((w8.setCell ⟨m + 1, 0, none⟩ (.slice (some ⟨g, o5, none⟩) n c5)).setCell ⟨m + 1, 1, none⟩ (.slice a8 s.len c8)) base kb (N + 3 * s.wt + 2) := ((hK8.set25 hr8).set25 ⟨_, _, q1⟩).more (by omega)
  have F4 : Chg w ((w8.setCell ⟨m + 1, 0, none⟩ (.slice (some ⟨g, o5, none⟩) n c5)).setCell ⟨m + 1, 1, none⟩ (.slice a8 s.len c8)) := fun b hb => (ho b (by have := hb.lt; omega)).trans ((hCd.trans hC8) b hb)
  have F5 : Below base w ((w8.setCell ⟨m + 1, 0, none⟩ (.slice (some ⟨g, o5, none⟩) n c5)).setCell ⟨m + 1, 1, none⟩ (.slice a8 s.len c8)) := below_set (below_set (hBd.trans hB8) (by omega) _) (by omega) _
  have HFF := HQ.out _ _ _ F1 F2 F3 F4 F5
  clear F1 F2 F3 F4 F5 hS hsh
  go_wp2
  refine bodyPost_ret ?_ rfl HFF
  exact results_cell_row rfl _ _ (m + 1) 25 #[.slice (some ⟨g, o5, none⟩) n c5, .slice a8 s.len c8] (0, 0) _ rfl q2 Tryd.underlying25 rfl size25
end Go.Proofs.YthkmdmobeadigaaDoor.lg
