/- Copies that share no list: of expressions, walked. -/
import Derived.Test.YthkmdmobeadigaaDoorLd
import Derived.Test.YthkmdmobeadigaaDoorWd
namespace Go.Proofs.YthkmdmobeadigaaDoor.lg
open Go.RowKit
set_option linter.unusedVariables false
set_option linter.unusedSimpArgs false
theorem info45 : (Tryd.prog.info? 45).map (fun i => (i.zero, i.size, i.bytes)) = some (some (.agg #[.int .i64 0, .int .i64 0, .string ⟨#[]⟩, .string ⟨#[]⟩, .slice none 0 0]), 5, 72) := by kernel_rfl
theorem info74 : (Tryd.prog.info? 74).map (fun i => (i.zero, i.size, i.bytes)) = some (some (.pointer none), 1, 8) := by kernel_rfl
theorem size45 : (Tryd.prog.info? 45).map (·.size) = some 5 := by kernel_rfl
/-- What a copy of expressions leaves. -/
def TwE (w : World) (base kb N : Nat) (G : Nat → Prop) (l : Exs) (e : Ending) (w' : World) : Prop :=
  ∃ v, e = .returned v ∧ HE (fun b => w.heap.size ≤ b ∧ Dt w' b) w' v l ∧ KO G w' base kb (N + 3 * l.wt + 1) ∧ Chg w w' ∧ Below base w w'
def TwEs (n : Nat) : Prop := ∀ (l : Exs) (v : Value) (P : Nat → Prop) (W0 w : World) (G : Nat → Prop) (base kb N : Nat), l.wt < n → l.wt ≤ 3000000 → HE P W0 v l → Below W0.heap.size W0 w → W0.heap.size ≤ base → base ≤ w.heap.size → KO G w base kb N → N + 3 * l.wt + 1 ≤ 20000000 → (∀ b, w.heap.size ≤ b → G b) →
  Calls Tryd.prog 47 #[.pointer (some ⟨kb, 0, none⟩), v] w (TwE w base kb N G l)
/-- Behind some rounds. -/
def TwR (w : World) (base kb N : Nat) (G : Nat → Prop) (l : Exs) (i : Nat) (vo : Value) (wr : World) : Prop :=
  ∃ xs Ni, TJ (fun P w => EC P w xs (l.take i)) 45 5 base kb Ni G vo i xs w wr ∧ Ni + 3 * (l.drop i).wt ≤ N + 3 * l.wt
theorem cells5 {w : World} {p : Nat} {a b c d e : Value} {t : TypeId} (h : w.heap[p]? = some (.cells #[a, b, c, d, e] t (0, 0))) : w.cell? ⟨p, 0, none⟩ = some a ∧ w.cell? ⟨p, 1, none⟩ = some b ∧ w.cell? ⟨p, 2, none⟩ = some c ∧ w.cell? ⟨p, 3, none⟩ = some d ∧ w.cell? ⟨p, 4, none⟩ = some e ∧ w.frozen? ⟨p, 4, none⟩ = false := by
  refine ⟨?_, ?_, ?_, ?_, ?_, ?_⟩
  all_goals first
    | (unfold World.cell?; rw [h]; rfl)
    | (unfold World.frozen?; rw [h]; rfl)
set_option maxHeartbeats 4000000 in
set_option maxRecDepth 100000 in
theorem twE_of (n : Nat) (ih : TwEs n) : TwEs (n + 1) := by
  intro l v P W0 w G base kb N hn hm hA hB0 hb0 hbw hK hN hG
  obtain ⟨ao, c, b, o, rfl, hd, hL⟩ := hA
  have hlen := l.len_wt
  obtain ⟨na, hna⟩ : ∃ p, l.len = p := ⟨_, rfl⟩
  have hna3 : na ≤ 3000000 := by omega
  have HLE : Aside0 (LEs P W0 b o l ∧ Hd ao l.len c b o ∧ l.len = na) := ⟨hL, hd, hna⟩
  have HSZ : Aside0 (l.wt < n + 1 ∧ l.wt ≤ 3000000 ∧ N + 3 * l.wt + 1 ≤ 20000000) := ⟨hn, hm, hN⟩
  have HIH : Aside0 (TwEs n) := ⟨ih⟩
  have HG : Aside0 (∀ b, w.heap.size ≤ b → G b) := ⟨hG⟩
  have HB0 : Aside0 (Below W0.heap.size W0 w ∧ W0.heap.size ≤ base ∧ base ≤ w.heap.size) := ⟨hB0, hb0, hbw⟩
  obtain ⟨W1, hW1⟩ : ∃ W, w.alloc (.cells #[] 45) = W := ⟨_, rfl⟩
  have hBw1 : Below w.heap.size w W1 := by rw [← hW1]; exact (Below.refl _ _).alloc (Nat.le_refl _) _
  have HJ0 : Aside0 (TwR w base kb N G l 0 (.slice (some ⟨w.heap.size, 0, none⟩) 0 0) W1) := ⟨⟨[], N, ⟨OwnA.bare _ _ _ _ _, (by cases l <;> rfl), (hK.to (fun b hb _ => ⟨hb, by simp [rowOf]⟩)).below hBw1, (Chg.refl w).below hBw1, hBw1.mono hbw, hbw⟩, by cases l <;> exact Nat.le_refl _⟩⟩
  rw [hna]
  obtain ⟨Q, hQ⟩ : ∃ Q, TwE w base kb N G l = Q := ⟨_, rfl⟩
  have HQ : Aside0 (∀ v' w', HE (fun b => w.heap.size ≤ b ∧ Dt w' b) w' v' l → KO G w' base kb (N + 3 * l.wt + 1) → Chg w w' → Below base w w' → Q (.returned v') w') := ⟨fun v' w' h1 h2 h3 h4 => by rw [← hQ]; exact ⟨v', rfl, h1, h2, h3, h4⟩⟩
  rw [hQ]
  clear hQ hL hd hna hlen hn hm hN ih hG hB0 hb0 hbw hK hBw1
  go_enter Tryd.func47, Tryd.ntmps47
  go_wp2
  clear hW1
  go_loopg [5, 11] na (fun g vo vi wr => ∃ i ao' c', vi = .int .i64 ((i : Nat) : Int) ∧ vo = .slice ao' i c' ∧ i + g = na ∧ Aside0 (TwR w base kb N G l i (.slice ao' i c') wr))
  case atStart => exact ⟨0, _, _, rfl, rfl, by omega, HJ0⟩
  case round =>
    obtain ⟨i, ao', c', rfl, rfl, hig, hR⟩ := hrel
    clear HJ0
    by_cases hi : i < na
    · have hlt : (i : Int) < (na : Int) := by omega
      obtain ⟨q, rfl⟩ : ∃ q, gk = q + 1 := ⟨gk - 1, by omega⟩
      obtain ⟨y, hy⟩ := Exs.get_lt (l := l) (j := i) (by rw [HLE.out.2.2]; exact hi)
      have HY : Aside0 (l.get i = some y) := ⟨hy⟩
      obtain ⟨xs, Ni, hT, hNi⟩ := hR.out
      have hbel : Below W0.heap.size W0 wr := HB0.out.1.trans (hT.bel.mono HB0.out.2.1)
      obtain ⟨-, y1, y2, y3, y4, y5⟩ := (HLE.out.1.below hbel (Nat.le_refl _)).at hy
      obtain ⟨vy, y5, hvy⟩ := y5
      have hvy0 : HE P W0 vy y.args := by
        obtain ⟨-, z1, z2, z3, z4, vz, z5, hvz⟩ := HLE.out.1.at hy
        have := cell_below z5 hbel (Nat.le_refl _)
        rw [y5] at this
        cases this
        exact hvz
      have hvs : ∃ ao c, vy = .slice ao y.args.len c := by obtain ⟨ao, c, _, _, e, _⟩ := hvy; exact ⟨ao, c, e⟩
      obtain ⟨aoy, cap, rfl⟩ := hvs
      have hao : ao = some ⟨b, o, none⟩ := by rcases HLE.out.2.1.lead with e | e; (have := HLE.out.2.2; omega); exact e
      have hdw : (l.drop i).wt = y.wt + (l.drop (i + 1)).wt := by rw [Exs.drop_get hy, Ex.on_wt]
      have hyw : y.wt ≤ l.wt := Exs.get_wt hy
      have hJ1 := hT.box (stays_EC xs (l.take i)) #[.int .i64 y.kind, .int .i64 y.num, .string y.name, .string y.op, .slice aoy y.args.len cap]
      obtain ⟨p, hp⟩ : ∃ p, wr.heap.size = p := ⟨_, rfl⟩
      have hsz := hT.bel.size
      have hNs : Ni + 3 * y.args.wt + 1 ≤ 20000000 ∧ Ni + 3 * y.args.wt + 1 + 3 * (l.drop (i + 1)).wt ≤ N + 3 * l.wt := by
        have := HSZ.out.2.2
        unfold Ex.wt at hdw
        omega
      have hyn : y.args.wt < n ∧ y.args.wt ≤ 3000000 := by
        have := HSZ.out.1
        have := HSZ.out.2.1
        unfold Ex.wt at hyw
        omega
      obtain ⟨W1, hW1⟩ : ∃ W, wr.alloc (.cells #[.int .i64 y.kind, .int .i64 y.num, .string y.name, .string y.op, .slice aoy y.args.len cap] 45) = W := ⟨_, rfl⟩
      rw [hW1, hp] at hJ1
      have hBW1 : Below p wr W1 := by rw [← hW1, ← hp]; exact (Below.refl _ _).alloc (Nat.le_refl _) _
      have hW1s : W1.heap.size = p + 1 := by rw [← hW1, ← hp]; simp
      have cy := HIH.out y.args (.slice aoy y.args.len cap) P W0 W1 (fun b => G b ∧ rowOf (.slice ao' i c') ≠ some b ∧ b ≠ p) base kb Ni hyn.1 hyn.2 hvy0 (hbel.trans (hBW1.mono (by have := hbel.size; omega))) HB0.out.2.1 (by have := HB0.out.2.2; omega) hJ1.ko hNs.1 (fun b hb => ⟨HG.out b (by omega), fun e => by have := (hT.own.lt b e).2; omega, by omega⟩)
      have HJ1 : Aside0 (BJ (fun P w => EC P w xs (l.take i)) 45 5 p base kb Ni G (.slice ao' i c') i xs w W1 #[.int .i64 y.kind, .int .i64 y.num, .string y.name, .string y.op, .slice aoy y.args.len cap]) := ⟨hJ1⟩
      obtain ⟨x0, x1, x2, x3, x4, x5⟩ := cells5 hJ1.box
      have HNS : Aside0 (Ni + 3 * y.args.wt + 1 + 3 * (l.drop (i + 1)).wt ≤ N + 3 * l.wt) := ⟨hNs.2⟩
      have HBP : Aside0 (base ≤ p) := ⟨by have := HB0.out.2.2; omega⟩
      have hps : p < W1.heap.size := by omega
      obtain ⟨yk, yn, ym, yp, ya⟩ := y
      simp only at cy y1 y2 y3 y4 y5 x0 x1 x2 x3 x4 HJ1 HNS hW1
      subst hao
      clear hy hvy hvy0 hdw hyw hJ1 hNs hyn hBW1 hW1s hsz hbel hT hNi hR
      go_upto_region 6 with (go_at_call 47; (with_reducible refine cy.mono ?_); rintro e w2 ⟨v2, rfl, hH2, hK2, hC2, hB2⟩; have hx2 := (HJ1.out.call (stays_EC xs (l.take i)) (.inl rfl) hC2 hB2 hK2); have hv2 : ∃ ao c, v2 = .slice ao ya.len c := (by obtain ⟨ao, c, _, _, e, _⟩ := hH2; exact ⟨ao, c, e⟩); obtain ⟨a2, k2, rfl⟩ := hv2; obtain ⟨z0, z1, z2, z3, z4, z5⟩ := cells5 hx2.box)
      have hx3 := (hx2.and (K' := fun P w => HE P w (.slice a2 ya.len k2) ya) (hH2.to (fun _ _ => rfl) (fun b hb => HJ1.out.fresh hb.1 hb.2))).set ((stays_EC xs (l.take i)).and (stays_HE (.slice a2 ya.len k2) ya)) (.inl rfl) 4 (.slice a2 ya.len k2)
      generalize w2.setCell ⟨p, 4, none⟩ (.slice a2 ya.len k2) = W3 at hx3 ⊢
      have HJ3 : Aside0 (BJ (fun P w => EC P w xs (l.take i) ∧ HE P w (.slice a2 ya.len k2) ya) 45 5 p base kb (Ni + 3 * ya.wt + 1) G (.slice ao' i c') i xs w W3 #[.int .i64 yk, .int .i64 yn, .string ym, .string yp, .slice a2 ya.len k2]) := ⟨hx3⟩
      clear hx2 hx3 hH2 hK2 hC2 hB2 z0 z1 z2 z3 z4 z5 x0 x1 x2 x3 x4 x5 y1 y2 y3 y4 y5 cy hps
      obtain ⟨z0, z1, z2, z3, z4, z5⟩ := cells5 HJ3.out.box
      have hown := HJ3.out.own
      have hsW : w.heap.size ≤ W3.heap.size := HJ3.out.bel.size
      have hone : ∀ u ∈ [Value.int .i64 yk, .int .i64 yn, .string ym, .string yp, .slice a2 ya.len k2], u.oneCell' = true := by
        intro u hu
        simp only [List.mem_cons, List.not_mem_nil, or_false] at hu
        rcases hu with rfl | rfl | rfl | rfl | rfl <;> rfl
      have HSN : Aside0 (∀ v5 w5, TJ (fun P w => EC P w xs (l.take i) ∧ HE P w (.slice a2 ya.len k2) ya) 45 5 base kb (Ni + 3 * ya.wt + 1) G v5 (i + 1) (xs ++ [Value.int .i64 yk, .int .i64 yn, .string ym, .string yp, .slice a2 ya.len k2]) w w5 → TwR w base kb N G l (i + 1) v5 w5) := ⟨fun v5 w5 h => ⟨_, _, h.imp (fun P w hk => EC.snoc (x := ⟨yk, yn, ym, yp, ya⟩) hk.1 HY.out hk.2), HNS.out⟩⟩
      go_wp2_with (at_builtin; refine wpList_newA (w := W3) rfl (.tmp 20) (.tmp 22) rfl Tryd.underlying43 info45 rfl (by decide) w.heap.size i _ xs 1 1 [Value.int .i64 yk, .int .i64 yn, .string ym, .string yp, .slice a2 ya.len k2] rfl (Nat.le_refl _) hown rfl rfl hone (by unfold maxLen; omega) (by omega) hsW rfl ?_; intro v5 w5 ho5 hg5 hr5; obtain ⟨a5, c5, rfl⟩ := ho5.slice)
      have HF : Aside0 (TwR w base kb N G l (i + 1) (.slice a5 (i + 1) c5) w5) := ⟨HSN.out _ _ (HJ3.out.app ((stays_EC xs (l.take i)).and (stays_HE (.slice a2 ya.len k2) ya)) (.inl rfl) ho5 hg5 hr5)⟩
      clear ho5 hg5 hr5 hown
      go_roundg q
      case measure => omega
      case rel => exact ⟨i + 1, a5, c5, by go_num, rfl, by omega, HF⟩
    · obtain rfl : i = na := by omega
      have hlt : ¬ (i : Int) < (i : Int) := by omega
      obtain ⟨xs, Ni, hT, hNi⟩ := hR.out
      have hti : l.take i = l := by rw [← HLE.out.2.2, Exs.take_len]
      have hdi : l.drop i = .nil := by rw [← HLE.out.2.2, Exs.drop_len]
      rw [hti] at hT
      rw [hdi] at hNi
      have HT : Aside0 (TJ (fun P w => EC P w xs l) 45 5 base kb Ni G (.slice ao' i c') i xs w wr ∧ Ni ≤ N + 3 * l.wt) := ⟨hT, by simpa [Exs.wt] using hNi⟩
      have hown := hT.own
      have hsW : w.heap.size ≤ wr.heap.size := hT.bel.size
      have hone : ∀ u ∈ [Value.int .i64 (-99), .int .i64 0, .string ⟨#[]⟩, .string ⟨#[]⟩, .slice none 0 0], u.oneCell' = true := by
        intro u hu
        simp only [List.mem_cons, List.not_mem_nil, or_false] at hu
        rcases hu with rfl | rfl | rfl | rfl | rfl <;> rfl
      clear hR hT hNi hti hdi
      go_upto_region 9 with (at_builtin; refine wpList_newA (w := wr) rfl (.tmp 25) (.tmp 27) rfl Tryd.underlying43 info45 rfl (by decide) w.heap.size i _ xs 1 1 [Value.int .i64 (-99), .int .i64 0, .string ⟨#[]⟩, .string ⟨#[]⟩, .slice none 0 0] rfl (Nat.le_refl _) hown rfl rfl hone (by unfold maxLen; omega) (by omega) hsW rfl ?_; intro v5 w5 ho5 hg5 hr5; obtain ⟨a5, c5, rfl⟩ := ho5.slice)
      have hT5 := HT.out.1.app (stays_EC xs l) (.inl rfl) ho5 hg5 hr5
      have HT5 : Aside0 (TJ (fun P w => EC P w xs l) 45 5 base kb Ni G (.slice a5 (i + 1) c5) (i + 1) (xs ++ [Value.int .i64 (-99), .int .i64 0, .string ⟨#[]⟩, .string ⟨#[]⟩, .slice none 0 0]) w w5) := ⟨hT5⟩
      have hlx : xs.length = i * 5 := HT.out.1.own.1
      clear hT5 ho5 hg5 hr5 hown HIH
      obtain ⟨g, o5, hae, hg5, hgc, hcap, hcells, hgt⟩ : ∃ g o5, a5 = some ⟨g, o5, none⟩ ∧ w.heap.size ≤ g ∧ g < w5.heap.size ∧ i + 1 ≤ c5 ∧ (∀ (j : Nat) (u : Value), (xs ++ [Value.int .i64 (-99), .int .i64 0, .string ⟨#[]⟩, .string ⟨#[]⟩, .slice none 0 0])[j]? = some u → w5.cell? ⟨g, o5 + j, none⟩ = some u) ∧ Typ w5 g 45 := by
        rcases HT5.out.own.2 with ⟨_, e, e2⟩ | ⟨g, o, cap, cur, fz, e, hcp, hb⟩
        · omega
        · simp only [Value.slice.injEq, true_and] at e
          obtain ⟨rfl, rfl⟩ := e
          exact ⟨g, o, rfl, hb.bs, (Array.getElem?_eq_some_iff.1 hb.blk).1, hb.hn, fun j u hu => by unfold World.cell?; rw [hb.blk]; exact hb.cells j u hu, ⟨_, _, hb.blk⟩⟩
      subst hae
      have hK5 : KO G w5 base kb Ni := HT5.out.ko.to (fun b hb _ => hb.1)
      obtain ⟨vx, nx, px, k0, kown, kmark, kn⟩ := hK5.x
      obtain ⟨ax, cx, rfl⟩ := kown.slice
      have hmk : w5.cell? ⟨g, o5 + i * 5, none⟩ = some (.int .i64 (-99)) := hcells (i * 5) _ (by rw [List.getElem?_append_right (by omega), hlx, Nat.sub_self]; rfl)
      have hNi : Ni ≤ 20000000 := by have := HT.out.2; have := HSZ.out.2.2; omega
      have HC5 : Aside0 (∀ (j : Nat) (u : Value), (xs ++ [Value.int .i64 (-99), .int .i64 0, .string ⟨#[]⟩, .string ⟨#[]⟩, .slice none 0 0])[j]? = some u → w5.cell? ⟨g, o5 + j, none⟩ = some u) := ⟨hcells⟩
      have hbd : Below w5.heap.size w5 w5.drew := (Below.refl _ _).drew
      have hbw5 : base ≤ w5.heap.size := by have := HT5.out.bel.size; have := HB0.out.2.2; omega
      clear hcells hlt hi
      have hlt1 : (i : Int) < (i : Int) + 1 := by omega
      refine wp_region_L (fun _ => True) (fun w' => w'.cell? ⟨kb, 0, none⟩ = some (.slice ax nx cx)) 13 (by kernel_rfl) trivial k0 (fun hsh hS => ?_)
      generalize w5.drew = w0 at *
      refine anyL_take1 20 (i := 0) (v := ?_) rfl (by kernel_rfl) (by kernel_rfl) (by kernel_rfl) (by decide) (by kernel_rfl) hsh (fun _ _ _ h => h) (Or.inl ⟨by rfl, ?_⟩) hS ?_
      rotate_left 1
      · (intro wS hSw; (try dsimp only at hSw); first | (go_simp; done) | (go_simp; with_reducible rfl))
      intro hsh1 hS1; clear hsh hS; have hsh := hsh1; have hS := hS1; clear hsh1 hS1
      simp only [Act.put, List.setIfInBounds_toArray, List.set_cons_zero, List.set_cons_succ]
      refine anyL_take1 20 (i := 1) (v := ?_) rfl (by kernel_rfl) (by kernel_rfl) (by kernel_rfl) (by decide) (by kernel_rfl) hsh (fun _ _ _ h => h) (Or.inl ⟨by rfl, ?_⟩) hS ?_
      rotate_left 1
      · (intro wS hSw; (try dsimp only at hSw); first | (go_simp; done) | (go_simp; with_reducible rfl))
      intro hsh1 hS1; clear hsh hS; have hsh := hsh1; have hS := hS1; clear hsh1 hS1
      simp only [Act.put, List.setIfInBounds_toArray, List.set_cons_zero, List.set_cons_succ]
      refine anyL_take1 20 (i := 2) (v := ?_) rfl (by kernel_rfl) (by kernel_rfl) (by kernel_rfl) (by decide) (by kernel_rfl) hsh (fun _ _ _ h => h) (Or.inl ⟨by rfl, ?_⟩) hS ?_
      rotate_left 1
      · (intro wS hSw; (try dsimp only at hSw); first | (go_simp; done) | (go_simp; with_reducible rfl))
      intro hsh1 hS1; clear hsh hS; have hsh := hsh1; have hS := hS1; clear hsh1 hS1
      simp only [Act.put, List.setIfInBounds_toArray, List.set_cons_zero, List.set_cons_succ]
      refine anyL_take1 20 (i := 3) (v := ?_) rfl (by kernel_rfl) (by kernel_rfl) (by kernel_rfl) (by decide) (by kernel_rfl) hsh (fun _ _ _ h => h) (Or.inl ⟨by rfl, ?_⟩) hS ?_
      rotate_left 1
      · (intro wS hSw; (try dsimp only at hSw); first | (go_simp; done) | (go_simp; with_reducible rfl))
      intro hsh1 hS1; clear hsh hS; have hsh := hsh1; have hS := hS1; clear hsh1 hS1
      simp only [Act.put, List.setIfInBounds_toArray, List.set_cons_zero, List.set_cons_succ]
      refine anyL_take1 20 (i := 4) (v := ?_) rfl (by kernel_rfl) (by kernel_rfl) (by kernel_rfl) (by decide) (by kernel_rfl) hsh (fun _ _ _ h => h) (Or.inl ⟨by rfl, ?_⟩) hS ?_
      rotate_left 1
      · (intro wS hSw; (try dsimp only at hSw); first | (go_simp; done) | (go_simp; with_reducible rfl))
      intro hsh1 hS1; clear hsh hS; have hsh := hsh1; have hS := hS1; clear hsh1 hS1
      simp only [Act.put, List.setIfInBounds_toArray, List.set_cons_zero, List.set_cons_succ]
      refine anyL_take1 20 (i := 5) (v := ?_) rfl (by kernel_rfl) (by kernel_rfl) (by kernel_rfl) (by decide) (by kernel_rfl) hsh (fun _ _ _ h => h) (Or.inl ⟨by rfl, ?_⟩) hS ?_
      rotate_left 1
      · (intro wS hSw; (try dsimp only at hSw); first | (go_simp; done) | (go_simp; with_reducible rfl))
      intro hsh1 hS1; clear hsh hS; have hsh := hsh1; have hS := hS1; clear hsh1 hS1
      simp only [Act.put, List.setIfInBounds_toArray, List.set_cons_zero, List.set_cons_succ]
      refine anyL_take1 20 (i := 6) (v := ?_) rfl (by kernel_rfl) (by kernel_rfl) (by kernel_rfl) (by decide) (by kernel_rfl) hsh (fun _ _ _ h => h) (Or.inl ⟨by rfl, ?_⟩) hS ?_
      rotate_left 1
      · (intro wS hSw; (try dsimp only at hSw); first | (go_simp; done) | (go_simp; with_reducible rfl))
      intro hsh1 hS1; clear hsh hS; have hsh := hsh1; have hS := hS1; clear hsh1 hS1
      simp only [Act.put, List.setIfInBounds_toArray, List.set_cons_zero, List.set_cons_succ]
      refine anyL_take1 20 (i := 7) (v := ?_) rfl (by kernel_rfl) (by kernel_rfl) (by kernel_rfl) (by decide) (by kernel_rfl) hsh (fun _ _ _ h => h) (Or.inl ⟨by rfl, ?_⟩) hS ?_
      rotate_left 1
      · (intro wS hSw; (try dsimp only at hSw); first | (go_simp; done) | (go_simp; with_reducible rfl))
      intro hsh1 hS1; clear hsh hS; have hsh := hsh1; have hS := hS1; clear hsh1 hS1
      simp only [Act.put, List.setIfInBounds_toArray, List.set_cons_zero, List.set_cons_succ]
      refine anyL_take1 20 (i := 8) (v := ?_) rfl (by kernel_rfl) (by kernel_rfl) (by kernel_rfl) (by decide) (by kernel_rfl) hsh (fun _ _ _ h => h) (Or.inl ⟨by rfl, ?_⟩) hS ?_
      rotate_left 1
      · (intro wS hSw; (try dsimp only at hSw); first | (go_simp; done) | (go_simp; with_reducible rfl))
      intro hsh1 hS1; clear hsh hS; have hsh := hsh1; have hS := hS1; clear hsh1 hS1
      simp only [Act.put, List.setIfInBounds_toArray, List.set_cons_zero, List.set_cons_succ]
      refine anyL_one (i := 9) (by kernel_rfl) rfl hsh (fun K hK => ?_)
      go_simp
      have hB6 : Below w5.heap.size w5 (w0.alloc (.cells #[.pointer (some ⟨g, o5 + i * 5, none⟩)] 74)) := hbd.alloc (by have := hbd.size; omega) _
      have hsv : SV (w0.alloc (.cells #[.pointer (some ⟨g, o5 + i * 5, none⟩)] 74)) 1 (.slice (some ⟨w0.heap.size, 0, none⟩) 1 1) 1 [.pointer (some ⟨g, o5 + i * 5, none⟩)] := ⟨_, _, w0.heap.size, 0, rfl, rfl, .inr rfl, (fun e => by cases e), Nat.le_refl _, fun j u hj => by rw [Nat.zero_add, cell_new]; simpa using hj⟩
      generalize w0.alloc (.cells #[.pointer (some ⟨g, o5 + i * 5, none⟩)] 74) = w6 at hB6 hsv ⊢
      have k6 : w6.cell? ⟨kb, 0, none⟩ = some (.slice ax nx cx) := cell_below k0 hB6 (Nat.le_refl _)
      refine hK.out _ _ ⟨trivial, fun _ => k6⟩ (fun hsh1 hS1 => ?_)
      clear hsh hS hK K; have hsh := hsh1; have hS := hS1; clear hsh1 hS1
      refine anyL_one (i := 10) (by kernel_rfl) rfl hsh (fun K hK => ?_)
      refine step_append_sv (w := w6) (by rfl) (.tmp 33) (.tmp 38) (by rfl) Tryd.underlying27 info74 rfl (by decide) base nx _ px (by rfl) (kown.below hB6 (Nat.le_refl _)) _ 1 [.pointer (some ⟨g, o5 + i * 5, none⟩)] (by rfl) hsv (fun u hu => by rw [List.mem_singleton.1 hu]; rfl) (by unfold maxLen; omega) (by omega) (by have := hB6.size; omega) ?_
      intro v6 w7 own7 gr7 att7
      obtain ⟨a7, c7, rfl⟩ := own7.slice
      have hpx := (hK5.below hB6).pushX k6 (kown.below hB6 (Nat.le_refl _)) (fun u hu => (kmark u hu).keep (fun b _ hb => hB6.block b hb.lt) (fun b h _ => h)) kn ⟨g, o5 + i * 5, rfl, HG.out g hg5, hgt.keep (hB6.block g hgc), cell_below hmk hB6 (Nat.le_refl _)⟩ own7 gr7
      have hkt : Typ w6 kb 31 := (hK5.below hB6).blk.typ
      have hnr : some kb ≠ rowOf (.slice ax nx cx) := fun e => (Typ.ne ((kown.below hB6 (Nat.le_refl _)).type kb e.symm) hkt (by decide)) rfl
      have k7 := gr7.cell k6 hnr
      have hb7 : w7.heap[kb]? = w6.heap[kb]? := gr7.block kb hkt.lt hnr
      have f7 : w7.frozen? ⟨kb, 0, none⟩ = false := by obtain ⟨cs, e1, e2⟩ := (hK5.below hB6).blk; unfold World.frozen?; rw [hb7, e1]; simp
      refine hK.out _ _ ⟨trivial, fun _ => k7⟩ (fun hsh1 hS1 => ?_)
      clear hsh hS hK K; have hsh := hsh1; have hS := hS1; clear hsh1 hS1
      refine anyL_take1 20 (i := 11) (v := ?_) rfl (by kernel_rfl) (by kernel_rfl) (by kernel_rfl) (by decide) (by kernel_rfl) hsh (fun _ _ _ h => h) (Or.inl ⟨by rfl, ?_⟩) hS ?_
      rotate_left 1
      · (intro wS hSw; (try dsimp only at hSw); first | (go_simp; done) | (go_simp; with_reducible rfl))
      intro hsh1 hS1; clear hsh hS; have hsh := hsh1; have hS := hS1; clear hsh1 hS1
      simp only [Act.put, List.setIfInBounds_toArray, List.set_cons_zero, List.set_cons_succ]
      refine anyL_take1 20 (i := 12) (v := ?_) rfl (by kernel_rfl) (by kernel_rfl) (by kernel_rfl) (by decide) (by kernel_rfl) hsh (fun _ _ _ h => h) (Or.inl ⟨by rfl, ?_⟩) hS ?_
      rotate_left 1
      · (intro wS hSw; (try dsimp only at hSw); first | (go_simp; done) | (go_simp; with_reducible rfl))
      intro hsh1 hS1; clear hsh hS; have hsh := hsh1; have hS := hS1; clear hsh1 hS1
      simp only [Act.put, List.setIfInBounds_toArray, List.set_cons_zero, List.set_cons_succ]
      refine anyL_one (i := 13) (by kernel_rfl) rfl hsh (fun K hK => ?_)
      go_simp
      refine hK.out _ _ ⟨trivial, fun h => absurd h (by decide)⟩ (fun hsh1 hS1 => ?_)
      clear hsh hS hK K; have hsh := hsh1; have hS := hS1; clear hsh1 hS1
      refine anyL_done (by kernel_rfl) ?_ _
      obtain ⟨hKf, hCf, hBf⟩ := hpx
      have hBf2 := hBf (by have := hB6.size; omega)
      have HFI : Aside0 (HE (fun b => w.heap.size ≤ b ∧ Dt (w7.setCell ⟨kb, 0, none⟩ (.slice a7 (nx + 1) c7)) b) (w7.setCell ⟨kb, 0, none⟩ (.slice a7 (nx + 1) c7)) (.slice (some ⟨g, o5, none⟩) i c5) l ∧ KO G (w7.setCell ⟨kb, 0, none⟩ (.slice a7 (nx + 1) c7)) base kb (Ni + 1) ∧ Chg w (w7.setCell ⟨kb, 0, none⟩ (.slice a7 (nx + 1) c7)) ∧ Below base w (w7.setCell ⟨kb, 0, none⟩ (.slice a7 (nx + 1) c7))) := ⟨by
        have c56 : Chg w5 w6 := (Chg.refl w5).below hB6
        have c59 := c56.trans hCf
        have hd5 : Dt w5 g := Dt.of hgt (by exact .inl rfl)
        refine ⟨⟨some ⟨g, o5, none⟩, c5, g, o5, by rw [HLE.out.2.2], ⟨.inr rfl, (fun e => by cases e), by rw [HLE.out.2.2]; omega⟩, ?_⟩, hKf, HT5.out.chg.trans c59, (HT5.out.bel.trans (hB6.mono (by omega))).trans hBf2⟩
        refine (HT5.out.kept.to (fun b hb => c59 b hb.2.1) (fun b hb => ⟨hb.1, hb.2.1.keep (c59 b hb.2.1)⟩)).lies ⟨hg5, hd5.keep (c59 g hd5)⟩ (fun j u hu => ?_)
        exact cell_kept (c59 g hd5) (HC5.out j u (by rw [List.getElem?_append_left (List.getElem?_eq_some_iff.1 hu).1]; exact hu))⟩
      clear hKf hCf hBf hBf2 own7 gr7 att7 hsv hS hsh
      go_wp2
      exact HQ.out _ _ HFI.out.1 (HFI.out.2.1.more (by have := HT.out.2; omega)) HFI.out.2.2.1 HFI.out.2.2.2
theorem twE : ∀ n, TwEs n
  | 0 => fun l v P W0 w G base kb N h => by omega
  | n + 1 => twE_of n (twE n)
end Go.Proofs.YthkmdmobeadigaaDoor.lg
