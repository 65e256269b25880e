/- Copies that share no list: of statements, walked. -/
import Derived.Test.YthkmdmobeadigaaDoorXa
namespace Go.Proofs.YthkmdmobeadigaaDoor.lg
open Go.RowKit
set_option linter.unusedVariables false
set_option linter.unusedSimpArgs false
theorem info52 : (Tryd.prog.info? 52).map (fun i => (i.zero, i.size, i.bytes)) = some (some (.agg #[.int .i64 0, .string ⟨#[]⟩, .string ⟨#[]⟩, .string ⟨#[]⟩, .slice none 0 0, .slice none 0 0, .slice none 0 0]), 7, 128) := by kernel_rfl
theorem info75 : (Tryd.prog.info? 75).map (fun i => (i.zero, i.size, i.bytes)) = some (some (.pointer none), 1, 8) := by kernel_rfl
def TwS (w : World) (base kb N : Nat) (G : Nat → Prop) (l : Sts) (e : Ending) (w' : World) : Prop :=
  ∃ v, e = .returned v ∧ HS (fun b => w.heap.size ≤ b ∧ Dt w' b) w' v l ∧ KO G w' base kb (N + 3 * l.wt + 1) ∧ Chg w w' ∧ Below base w w'
def TwSs (n : Nat) : Prop := ∀ (l : Sts) (v : Value) (P : Nat → Prop) (W0 w : World) (G : Nat → Prop) (base kb N : Nat), l.wt < n → l.wt ≤ 3000000 → HS P W0 v l → Below W0.heap.size W0 w → W0.heap.size ≤ base → base ≤ w.heap.size → KO G w base kb N → N + 3 * l.wt + 1 ≤ 20000000 → (∀ b, w.heap.size ≤ b → G b) →
  Calls Tryd.prog 23 #[.pointer (some ⟨kb, 0, none⟩), v] w (TwS w base kb N G l)
def TwQ (w : World) (base kb N : Nat) (G : Nat → Prop) (l : Sts) (i : Nat) (vo : Value) (wr : World) : Prop :=
  ∃ xs Ni, TJ (fun P w => SC P w xs (l.take i)) 52 7 base kb Ni G vo i xs w wr ∧ Ni + 3 * (l.drop i).wt ≤ N + 3 * l.wt
theorem cells7 {w : World} {p : Nat} {a b c d e f g : Value} {t : TypeId} (h : w.heap[p]? = some (.cells #[a, b, c, d, e, f, g] t (0, 0))) : w.cell? ⟨p, 0, none⟩ = some a ∧ w.cell? ⟨p, 1, none⟩ = some b ∧ w.cell? ⟨p, 2, none⟩ = some c ∧ w.cell? ⟨p, 3, none⟩ = some d ∧ w.cell? ⟨p, 4, none⟩ = some e ∧ w.cell? ⟨p, 5, none⟩ = some f ∧ w.cell? ⟨p, 6, none⟩ = some g ∧ w.frozen? ⟨p, 4, none⟩ = false ∧ w.frozen? ⟨p, 5, none⟩ = false ∧ w.frozen? ⟨p, 6, none⟩ = false := by
  refine ⟨?_, ?_, ?_, ?_, ?_, ?_, ?_, ?_, ?_, ?_⟩
  all_goals first
    | (unfold World.cell?; rw [h]; rfl)
    | (unfold World.frozen?; rw [h]; rfl)
set_option maxHeartbeats 8000000 in
set_option maxRecDepth 100000 in
theorem twS_of (n : Nat) (ih : TwSs n) : TwSs (n + 1) := by
  intro l v P W0 w G base kb N hn hm hA hB0 hb0 hbw hK hN hG
  obtain ⟨ao, c, b, o, rfl, hd, hL⟩ := hA
  have hlen := l.len_wt
  obtain ⟨na, hna⟩ : ∃ p, l.len = p := ⟨_, rfl⟩
  have hna3 : na ≤ 3000000 := by omega
  have HLE : Aside0 (LSs P W0 b o l ∧ Hd ao l.len c b o ∧ l.len = na) := ⟨hL, hd, hna⟩
  have HSZ : Aside0 (l.wt < n + 1 ∧ l.wt ≤ 3000000 ∧ N + 3 * l.wt + 1 ≤ 20000000) := ⟨hn, hm, hN⟩
  have HIH : Aside0 (TwSs n) := ⟨ih⟩
  have HG : Aside0 (∀ b, w.heap.size ≤ b → G b) := ⟨hG⟩
  have HB0 : Aside0 (Below W0.heap.size W0 w ∧ W0.heap.size ≤ base ∧ base ≤ w.heap.size) := ⟨hB0, hb0, hbw⟩
  obtain ⟨W1, hW1⟩ : ∃ W, w.alloc (.cells #[] 52) = W := ⟨_, rfl⟩
  have hBw1 : Below w.heap.size w W1 := by rw [← hW1]; exact (Below.refl _ _).alloc (Nat.le_refl _) _
  have HJ0 : Aside0 (TwQ w base kb N G l 0 (.slice (some ⟨w.heap.size, 0, none⟩) 0 0) W1) := ⟨⟨[], N, ⟨OwnA.bare _ _ _ _ _, (by cases l <;> rfl), (hK.to (fun b hb _ => ⟨hb, by simp [rowOf]⟩)).below hBw1, (Chg.refl w).below hBw1, hBw1.mono hbw, hbw⟩, by cases l <;> exact Nat.le_refl _⟩⟩
  rw [hna]
  obtain ⟨Q, hQ⟩ : ∃ Q, TwS w base kb N G l = Q := ⟨_, rfl⟩
  have HQ : Aside0 (∀ v' w', HS (fun b => w.heap.size ≤ b ∧ Dt w' b) w' v' l → KO G w' base kb (N + 3 * l.wt + 1) → Chg w w' → Below base w w' → Q (.returned v') w') := ⟨fun v' w' h1 h2 h3 h4 => by rw [← hQ]; exact ⟨v', rfl, h1, h2, h3, h4⟩⟩
  rw [hQ]
  clear hQ hL hd hna hlen hn hm hN ih hG hB0 hb0 hbw hK hBw1
  go_enter Tryd.func23, Tryd.ntmps23
  go_wp2
  clear hW1
  go_loopg [5, 11] na (fun g vo vi wr => ∃ i ao' c', vi = .int .i64 ((i : Nat) : Int) ∧ vo = .slice ao' i c' ∧ i + g = na ∧ Aside0 (TwQ w base kb N G l i (.slice ao' i c') wr))
  case atStart => exact ⟨0, _, _, rfl, rfl, by omega, HJ0⟩
  case round =>
    obtain ⟨i, ao', c', rfl, rfl, hig, hR⟩ := hrel
    clear HJ0
    by_cases hi : i < na
    · have hlt : (i : Int) < (na : Int) := by omega
      obtain ⟨q, rfl⟩ : ∃ q, gk = q + 1 := ⟨gk - 1, by omega⟩
      obtain ⟨y, hy⟩ := Sts.get_lt (l := l) (j := i) (by rw [HLE.out.2.2]; exact hi)
      have HY : Aside0 (l.get i = some y) := ⟨hy⟩
      obtain ⟨xs, Ni, hT, hNi⟩ := hR.out
      have hbel : Below W0.heap.size W0 wr := HB0.out.1.trans (hT.bel.mono HB0.out.2.1)
      obtain ⟨-, y1, y2, y3, y4, ⟨ve, y5, hve⟩, ⟨vb, y6, hvb⟩, ⟨vf, y7, hvf⟩⟩ := HLE.out.1.at hy
      replace y1 := cell_below y1 hbel (Nat.le_refl _)
      replace y2 := cell_below y2 hbel (Nat.le_refl _)
      replace y3 := cell_below y3 hbel (Nat.le_refl _)
      replace y4 := cell_below y4 hbel (Nat.le_refl _)
      replace y5 := cell_below y5 hbel (Nat.le_refl _)
      replace y6 := cell_below y6 hbel (Nat.le_refl _)
      replace y7 := cell_below y7 hbel (Nat.le_refl _)
      have e1 : ∃ ao c, ve = .slice ao y.exprs.len c := by obtain ⟨ao, c, _, _, e, _⟩ := hve; exact ⟨ao, c, e⟩
      have e2 : ∃ ao c, vb = .slice ao y.body.len c := by obtain ⟨ao, c, _, _, e, _⟩ := hvb; exact ⟨ao, c, e⟩
      have e3 : ∃ ao c, vf = .slice ao y.els.len c := by obtain ⟨ao, c, _, _, e, _⟩ := hvf; exact ⟨ao, c, e⟩
      obtain ⟨s1, r1, rfl⟩ := e1
      obtain ⟨s2, r2, rfl⟩ := e2
      obtain ⟨s3, r3, rfl⟩ := e3
      have hao : ao = some ⟨b, o, none⟩ := by rcases HLE.out.2.1.lead with e | e; (have := HLE.out.2.2; omega); exact e
      have hdw : (l.drop i).wt = y.wt + (l.drop (i + 1)).wt := by rw [Sts.drop_get hy, St.on_wt]
      have hyw : y.wt ≤ l.wt := Sts.get_wt hy
      have hJ1 := hT.box (stays_SC xs (l.take i)) #[.int .i64 y.kind, .string y.name, .string y.key, .string y.val, .slice s1 y.exprs.len r1, .slice s2 y.body.len r2, .slice s3 y.els.len r3]
      obtain ⟨p, hp⟩ : ∃ p, wr.heap.size = p := ⟨_, rfl⟩
      have hsz := hT.bel.size
      have hNs : Ni + 3 * y.exprs.wt + 1 + 3 * y.body.wt + 1 + 3 * y.els.wt + 1 ≤ 20000000 ∧ Ni + 3 * y.exprs.wt + 1 + 3 * y.body.wt + 1 + 3 * y.els.wt + 1 + 3 * (l.drop (i + 1)).wt ≤ N + 3 * l.wt := by
        have := HSZ.out.2.2
        unfold St.wt at hdw
        omega
      have hyn : y.exprs.wt ≤ 3000000 ∧ y.body.wt < n ∧ y.body.wt ≤ 3000000 ∧ y.els.wt < n ∧ y.els.wt ≤ 3000000 := by
        have := HSZ.out.1
        have := HSZ.out.2.1
        unfold St.wt at hyw
        omega
      obtain ⟨W1, hW1⟩ : ∃ W, wr.alloc (.cells #[.int .i64 y.kind, .string y.name, .string y.key, .string y.val, .slice s1 y.exprs.len r1, .slice s2 y.body.len r2, .slice s3 y.els.len r3] 52) = W := ⟨_, rfl⟩
      rw [hW1, hp] at hJ1
      have hpW : w.heap.size ≤ p := by omega
      have hBP : base ≤ p := by have := HB0.out.2.2; omega
      have HBP : Aside0 (base ≤ p ∧ W0.heap.size ≤ base) := ⟨hBP, HB0.out.2.1⟩
      have HNS : Aside0 (Ni + 3 * y.exprs.wt + 1 + 3 * y.body.wt + 1 + 3 * y.els.wt + 1 ≤ 20000000 ∧ Ni + 3 * y.exprs.wt + 1 + 3 * y.body.wt + 1 + 3 * y.els.wt + 1 + 3 * (l.drop (i + 1)).wt ≤ N + 3 * l.wt ∧ y.exprs.wt ≤ 3000000 ∧ y.body.wt < n ∧ y.body.wt ≤ 3000000 ∧ y.els.wt < n ∧ y.els.wt ≤ 3000000) := ⟨hNs.1, hNs.2, hyn⟩
      obtain ⟨yk, yn, ykey, yval, ye, yb, yf⟩ := y
      simp only at hve hvb hvf y1 y2 y3 y4 y5 y6 y7 hJ1 HNS hW1
      have HH : Aside0 (HE P W0 (.slice s1 ye.len r1) ye ∧ HS P W0 (.slice s2 yb.len r2) yb ∧ HS P W0 (.slice s3 yf.len r3) yf) := ⟨hve, hvb, hvf⟩
      have HJ1 : Aside0 (BJ (fun P w => SC P w xs (l.take i)) 52 7 p base kb Ni G (.slice ao' i c') i xs w W1 #[.int .i64 yk, .string yn, .string ykey, .string yval, .slice s1 ye.len r1, .slice s2 yb.len r2, .slice s3 yf.len r3]) := ⟨hJ1⟩
      obtain ⟨z0, z1, z2, z3, z4, z5, z6, f4, f5, f6⟩ := cells7 hJ1.box
      have hps : p < W1.heap.size := hJ1.lt
      have fresh : ∀ (K : (Nat → Prop) → World → Prop) (Nc : Nat) (Wc : World) (bx : Array Value), BJ K 52 7 p base kb Nc G (.slice ao' i c') i xs w Wc bx → (Below W0.heap.size W0 Wc ∧ base ≤ Wc.heap.size ∧ ∀ b, Wc.heap.size ≤ b → G b ∧ rowOf (.slice ao' i c') ≠ some b ∧ b ≠ p) := fun K Nc Wc bx h => ⟨HB0.out.1.trans (h.bel.mono HB0.out.2.1), by have := h.lt; omega, fun b hb => ⟨HG.out b (by have := h.bel.size; omega), fun e => by have := (h.own.lt b e).2; omega, by have := h.lt; omega⟩⟩
      have FR : Aside0 (∀ (K : (Nat → Prop) → World → Prop) (Nc : Nat) (Wc : World) (bx : Array Value), BJ K 52 7 p base kb Nc G (.slice ao' i c') i xs w Wc bx → (Below W0.heap.size W0 Wc ∧ base ≤ Wc.heap.size ∧ ∀ b, Wc.heap.size ≤ b → G b ∧ rowOf (.slice ao' i c') ≠ some b ∧ b ≠ p)) := ⟨fresh⟩
      subst hao
      clear hy hdw hyw hJ1 hNs hyn hsz hbel hT hNi hR fresh hve hvb hvf
      have fr := FR.out _ _ _ _ HJ1.out
      have cy := twE (ye.wt + 1) ye (.slice s1 ye.len r1) P W0 W1 _ base kb (Ni) (Nat.lt_succ_self _) HNS.out.2.2.1 HH.out.1 fr.1 HBP.out.2 fr.2.1 HJ1.out.ko (by have := HNS.out.1; omega) fr.2.2
      clear fr
      go_upto_region 6 with (go_at_call 47; (with_reducible refine cy.mono ?_); rintro e w2 ⟨v2, rfl, hH2, hK2, hC2, hB2⟩; have hx2 := (HJ1.out.call (stays_SC xs (l.take i)) (.inr rfl) hC2 hB2 hK2); have hv2 : ∃ ao c, v2 = .slice ao ye.len c := (by obtain ⟨ao, c, _, _, e, _⟩ := hH2; exact ⟨ao, c, e⟩); obtain ⟨t1, k1, rfl⟩ := hv2; obtain ⟨zz0, zz1, zz2, zz3, zz4, zz5, zz6, ff4, ff5, ff6⟩ := cells7 hx2.box)
      have hx3 := (hx2.and (K' := fun P w => HE P w (.slice t1 ye.len k1) ye) (hH2.to (fun _ _ => rfl) (fun b hb => HJ1.out.fresh hb.1 hb.2))).set (Stays.and (stays_SC xs (l.take i)) (stays_HE (.slice t1 ye.len k1) ye)) (.inr rfl) 4 (.slice t1 ye.len k1)
      generalize w2.setCell ⟨p, 4, none⟩ (.slice t1 ye.len k1) = W3 at hx3 ⊢
      have HJ2 : Aside0 (BJ (fun P w => SC P w xs (l.take i) ∧ HE P w (.slice t1 ye.len k1) ye) 52 7 p base kb (Ni + 3 * ye.wt + 1) G (.slice ao' i c') i xs w W3 #[.int .i64 yk, .string yn, .string ykey, .string yval, .slice t1 ye.len k1, .slice s2 yb.len r2, .slice s3 yf.len r3]) := ⟨hx3⟩
      clear hx2 hx3 hH2 hK2 hC2 hB2 zz0 zz1 zz2 zz3 zz4 zz5 zz6 ff4 ff5 ff6 z0 z1 z2 z3 z4 z5 z6 f4 f5 f6 cy hps HJ1 y1 y2 y3 y4 y5 y6 y7
      obtain ⟨z0, z1, z2, z3, z4, z5, z6, f4, f5, f6⟩ := cells7 HJ2.out.box
      have hps : p < W3.heap.size := HJ2.out.lt
      have fr := FR.out _ _ _ _ HJ2.out
      have cy := HIH.out yb (.slice s2 yb.len r2) P W0 W3 _ base kb (Ni + 3 * ye.wt + 1) HNS.out.2.2.2.1 HNS.out.2.2.2.2.1 HH.out.2.1 fr.1 HBP.out.2 fr.2.1 HJ2.out.ko (by have := HNS.out.1; omega) fr.2.2
      clear fr
      go_upto_region 7 with (go_at_call 23; (with_reducible refine cy.mono ?_); rintro e w2 ⟨v2, rfl, hH2, hK2, hC2, hB2⟩; have hx2 := (HJ2.out.call (Stays.and (stays_SC xs (l.take i)) (stays_HE (.slice t1 ye.len k1) ye)) (.inr rfl) hC2 hB2 hK2); have hv2 : ∃ ao c, v2 = .slice ao yb.len c := (by obtain ⟨ao, c, _, _, e, _⟩ := hH2; exact ⟨ao, c, e⟩); obtain ⟨t2, k2, rfl⟩ := hv2; obtain ⟨zz0, zz1, zz2, zz3, zz4, zz5, zz6, ff4, ff5, ff6⟩ := cells7 hx2.box)
      have hx3 := (hx2.and (K' := fun P w => HS P w (.slice t2 yb.len k2) yb) (hH2.to (fun _ _ => rfl) (fun b hb => HJ2.out.fresh hb.1 hb.2))).set (Stays.and (Stays.and (stays_SC xs (l.take i)) (stays_HE (.slice t1 ye.len k1) ye)) (stays_HS (.slice t2 yb.len k2) yb)) (.inr rfl) 5 (.slice t2 yb.len k2)
      generalize w2.setCell ⟨p, 5, none⟩ (.slice t2 yb.len k2) = W5 at hx3 ⊢
      have HJ3 : Aside0 (BJ (fun P w => (SC P w xs (l.take i) ∧ HE P w (.slice t1 ye.len k1) ye) ∧ HS P w (.slice t2 yb.len k2) yb) 52 7 p base kb (Ni + 3 * ye.wt + 1 + 3 * yb.wt + 1) G (.slice ao' i c') i xs w W5 #[.int .i64 yk, .string yn, .string ykey, .string yval, .slice t1 ye.len k1, .slice t2 yb.len k2, .slice s3 yf.len r3]) := ⟨hx3⟩
      clear hx2 hx3 hH2 hK2 hC2 hB2 zz0 zz1 zz2 zz3 zz4 zz5 zz6 ff4 ff5 ff6 z0 z1 z2 z3 z4 z5 z6 f4 f5 f6 cy hps HJ2
      obtain ⟨z0, z1, z2, z3, z4, z5, z6, f4, f5, f6⟩ := cells7 HJ3.out.box
      have hps : p < W5.heap.size := HJ3.out.lt
      have fr := FR.out _ _ _ _ HJ3.out
      have cy := HIH.out yf (.slice s3 yf.len r3) P W0 W5 _ base kb (Ni + 3 * ye.wt + 1 + 3 * yb.wt + 1) HNS.out.2.2.2.2.2.1 HNS.out.2.2.2.2.2.2 HH.out.2.2 fr.1 HBP.out.2 fr.2.1 HJ3.out.ko (by have := HNS.out.1; omega) fr.2.2
      clear fr
      go_upto_region 8 with (go_at_call 23; (with_reducible refine cy.mono ?_); rintro e w2 ⟨v2, rfl, hH2, hK2, hC2, hB2⟩; have hx2 := (HJ3.out.call (Stays.and (Stays.and (stays_SC xs (l.take i)) (stays_HE (.slice t1 ye.len k1) ye)) (stays_HS (.slice t2 yb.len k2) yb)) (.inr rfl) hC2 hB2 hK2); have hv2 : ∃ ao c, v2 = .slice ao yf.len c := (by obtain ⟨ao, c, _, _, e, _⟩ := hH2; exact ⟨ao, c, e⟩); obtain ⟨t3, k3, rfl⟩ := hv2; obtain ⟨zz0, zz1, zz2, zz3, zz4, zz5, zz6, ff4, ff5, ff6⟩ := cells7 hx2.box)
      have hx3 := (hx2.and (K' := fun P w => HS P w (.slice t3 yf.len k3) yf) (hH2.to (fun _ _ => rfl) (fun b hb => HJ3.out.fresh hb.1 hb.2))).set (Stays.and (Stays.and (Stays.and (stays_SC xs (l.take i)) (stays_HE (.slice t1 ye.len k1) ye)) (stays_HS (.slice t2 yb.len k2) yb)) (stays_HS (.slice t3 yf.len k3) yf)) (.inr rfl) 6 (.slice t3 yf.len k3)
      generalize w2.setCell ⟨p, 6, none⟩ (.slice t3 yf.len k3) = W7 at hx3 ⊢
      have HJ4 : Aside0 (BJ (fun P w => ((SC P w xs (l.take i) ∧ HE P w (.slice t1 ye.len k1) ye) ∧ HS P w (.slice t2 yb.len k2) yb) ∧ HS P w (.slice t3 yf.len k3) yf) 52 7 p base kb (Ni + 3 * ye.wt + 1 + 3 * yb.wt + 1 + 3 * yf.wt + 1) G (.slice ao' i c') i xs w W7 #[.int .i64 yk, .string yn, .string ykey, .string yval, .slice t1 ye.len k1, .slice t2 yb.len k2, .slice t3 yf.len k3]) := ⟨hx3⟩
      clear hx2 hx3 hH2 hK2 hC2 hB2 zz0 zz1 zz2 zz3 zz4 zz5 zz6 ff4 ff5 ff6 z0 z1 z2 z3 z4 z5 z6 f4 f5 f6 cy hps HJ3
      obtain ⟨z0, z1, z2, z3, z4, z5, z6, f4, f5, f6⟩ := cells7 HJ4.out.box
      have hps : p < W7.heap.size := HJ4.out.lt
      have hown := HJ4.out.own
      have hsW : w.heap.size ≤ W7.heap.size := HJ4.out.bel.size
      have hone : ∀ u ∈ [Value.int .i64 yk, .string yn, .string ykey, .string yval, .slice t1 ye.len k1, .slice t2 yb.len k2, .slice t3 yf.len k3], u.oneCell' = true := by
        intro u hu
        simp only [List.mem_cons, List.not_mem_nil, or_false] at hu
        rcases hu with rfl | rfl | rfl | rfl | rfl | rfl | rfl <;> rfl
      have HSN : Aside0 (∀ v5 w5, TJ (fun P w => ((SC P w xs (l.take i) ∧ HE P w (.slice t1 ye.len k1) ye) ∧ HS P w (.slice t2 yb.len k2) yb) ∧ HS P w (.slice t3 yf.len k3) yf) 52 7 base kb (Ni + 3 * ye.wt + 1 + 3 * yb.wt + 1 + 3 * yf.wt + 1) G v5 (i + 1) (xs ++ [Value.int .i64 yk, .string yn, .string ykey, .string yval, .slice t1 ye.len k1, .slice t2 yb.len k2, .slice t3 yf.len k3]) w w5 → TwQ w base kb N G l (i + 1) v5 w5) := ⟨fun v5 w5 h => ⟨_, _, h.imp (fun P w hk => SC.snoc (x := ⟨yk, yn, ykey, yval, ye, yb, yf⟩) hk.1.1.1 HY.out hk.1.1.2 hk.1.2 hk.2), HNS.out.2.1⟩⟩
      go_wp2_with (at_builtin; refine wpList_newA (w := W7) rfl (.tmp 30) (.tmp 32) rfl Tryd.underlying23 info52 rfl (by decide) w.heap.size i _ xs 1 1 [Value.int .i64 yk, .string yn, .string ykey, .string yval, .slice t1 ye.len k1, .slice t2 yb.len k2, .slice t3 yf.len k3] rfl (Nat.le_refl _) hown rfl rfl hone (by unfold maxLen; omega) (by omega) hsW rfl ?_; intro v5 w5 ho5 hg5 hr5; obtain ⟨a5, c5, rfl⟩ := ho5.slice)
      have HF : Aside0 (TwQ w base kb N G l (i + 1) (.slice a5 (i + 1) c5) w5) := ⟨HSN.out _ _ (HJ4.out.app (Stays.and (Stays.and (Stays.and (stays_SC xs (l.take i)) (stays_HE (.slice t1 ye.len k1) ye)) (stays_HS (.slice t2 yb.len k2) yb)) (stays_HS (.slice t3 yf.len k3) yf)) (.inr rfl) ho5 hg5 hr5)⟩
      clear ho5 hg5 hr5 hown
      go_roundg q
      case measure => omega
      case rel => exact ⟨i + 1, a5, c5, by go_num, rfl, by omega, HF⟩
    · obtain rfl : i = na := by omega
      have hlt : ¬ (i : Int) < (i : Int) := by omega
      obtain ⟨xs, Ni, hT, hNi⟩ := hR.out
      have hti : l.take i = l := by rw [← HLE.out.2.2, Sts.take_len]
      have hdi : l.drop i = .nil := by rw [← HLE.out.2.2, Sts.drop_len]
      rw [hti] at hT
      rw [hdi] at hNi
      have HT : Aside0 (TJ (fun P w => SC P w xs l) 52 7 base kb Ni G (.slice ao' i c') i xs w wr ∧ Ni ≤ N + 3 * l.wt) := ⟨hT, by simpa [Sts.wt] using hNi⟩
      have hown := hT.own
      have hsW : w.heap.size ≤ wr.heap.size := hT.bel.size
      have hone : ∀ u ∈ [Value.int .i64 (-99), .string ⟨#[]⟩, .string ⟨#[]⟩, .string ⟨#[]⟩, .slice none 0 0, .slice none 0 0, .slice none 0 0], u.oneCell' = true := by
        intro u hu
        simp only [List.mem_cons, List.not_mem_nil, or_false] at hu
        rcases hu with rfl | rfl | rfl | rfl | rfl | rfl | rfl <;> rfl
      clear hR hT hNi hti hdi
      go_upto_region 11 with (at_builtin; refine wpList_newA (w := wr) rfl (.tmp 35) (.tmp 37) rfl Tryd.underlying23 info52 rfl (by decide) w.heap.size i _ xs 1 1 [Value.int .i64 (-99), .string ⟨#[]⟩, .string ⟨#[]⟩, .string ⟨#[]⟩, .slice none 0 0, .slice none 0 0, .slice none 0 0] rfl (Nat.le_refl _) hown rfl rfl hone (by unfold maxLen; omega) (by omega) hsW rfl ?_; intro v5 w5 ho5 hg5 hr5; obtain ⟨a5, c5, rfl⟩ := ho5.slice)
      have hT5 := HT.out.1.app (stays_SC xs l) (.inr rfl) ho5 hg5 hr5
      have HT5 : Aside0 (TJ (fun P w => SC P w xs l) 52 7 base kb Ni G (.slice a5 (i + 1) c5) (i + 1) (xs ++ [Value.int .i64 (-99), .string ⟨#[]⟩, .string ⟨#[]⟩, .string ⟨#[]⟩, .slice none 0 0, .slice none 0 0, .slice none 0 0]) w w5) := ⟨hT5⟩
      have hlx : xs.length = i * 7 := HT.out.1.own.1
      clear hT5 ho5 hg5 hr5 hown HIH
      obtain ⟨g, o5, hae, hg5, hgc, hcap, hcells, hgt⟩ : ∃ g o5, a5 = some ⟨g, o5, none⟩ ∧ w.heap.size ≤ g ∧ g < w5.heap.size ∧ i + 1 ≤ c5 ∧ (∀ (j : Nat) (u : Value), (xs ++ [Value.int .i64 (-99), .string ⟨#[]⟩, .string ⟨#[]⟩, .string ⟨#[]⟩, .slice none 0 0, .slice none 0 0, .slice none 0 0])[j]? = some u → w5.cell? ⟨g, o5 + j, none⟩ = some u) ∧ Typ w5 g 52 := by
        rcases HT5.out.own.2 with ⟨_, e, e2⟩ | ⟨g, o, cap, cur, fz, e, hcp, hb⟩
        · omega
        · simp only [Value.slice.injEq, true_and] at e
          obtain ⟨rfl, rfl⟩ := e
          exact ⟨g, o, rfl, hb.bs, (Array.getElem?_eq_some_iff.1 hb.blk).1, hb.hn, fun j u hu => by unfold World.cell?; rw [hb.blk]; exact hb.cells j u hu, ⟨_, _, hb.blk⟩⟩
      subst hae
      have hK5 : KO G w5 base kb Ni := HT5.out.ko.to (fun b hb _ => hb.1)
      obtain ⟨vx, nx, px, k0, kown, kmark, kn⟩ := hK5.s
      obtain ⟨ax, cx, rfl⟩ := kown.slice
      have hmk : w5.cell? ⟨g, o5 + i * 7, none⟩ = some (.int .i64 (-99)) := hcells (i * 7) _ (by rw [List.getElem?_append_right (by omega), hlx, Nat.sub_self]; rfl)
      have hNi : Ni ≤ 20000000 := by have := HT.out.2; have := HSZ.out.2.2; omega
      have HC5 : Aside0 (∀ (j : Nat) (u : Value), (xs ++ [Value.int .i64 (-99), .string ⟨#[]⟩, .string ⟨#[]⟩, .string ⟨#[]⟩, .slice none 0 0, .slice none 0 0, .slice none 0 0])[j]? = some u → w5.cell? ⟨g, o5 + j, none⟩ = some u) := ⟨hcells⟩
      have hbd : Below w5.heap.size w5 w5.drew := (Below.refl _ _).drew
      have hbw5 : base ≤ w5.heap.size := by have := HT5.out.bel.size; have := HB0.out.2.2; omega
      clear hcells hlt hi
      have hlt1 : (i : Int) < (i : Int) + 1 := by omega
      refine wp_region_L (fun _ => True) (fun w' => w'.cell? ⟨kb, 1, none⟩ = some (.slice ax nx cx)) 13 (by kernel_rfl) trivial k0 (fun hsh hS => ?_)
      generalize w5.drew = w0 at *
      refine anyL_take1 20 (i := 0) (v := ?_) rfl (by kernel_rfl) (by kernel_rfl) (by kernel_rfl) (by decide) (by kernel_rfl) hsh (fun _ _ _ h => h) (Or.inl ⟨by rfl, ?_⟩) hS ?_
      rotate_left 1
      · (intro wS hSw; (try dsimp only at hSw); first | (go_simp; done) | (go_simp; with_reducible rfl))
      intro hsh1 hS1; clear hsh hS; have hsh := hsh1; have hS := hS1; clear hsh1 hS1
      simp only [Act.put, List.setIfInBounds_toArray, List.set_cons_zero, List.set_cons_succ]
      refine anyL_take1 20 (i := 1) (v := ?_) rfl (by kernel_rfl) (by kernel_rfl) (by kernel_rfl) (by decide) (by kernel_rfl) hsh (fun _ _ _ h => h) (Or.inl ⟨by rfl, ?_⟩) hS ?_
      rotate_left 1
      · (intro wS hSw; (try dsimp only at hSw); first | (go_simp; done) | (go_simp; with_reducible rfl))
      intro hsh1 hS1; clear hsh hS; have hsh := hsh1; have hS := hS1; clear hsh1 hS1
      simp only [Act.put, List.setIfInBounds_toArray, List.set_cons_zero, List.set_cons_succ]
      refine anyL_take1 20 (i := 2) (v := ?_) rfl (by kernel_rfl) (by kernel_rfl) (by kernel_rfl) (by decide) (by kernel_rfl) hsh (fun _ _ _ h => h) (Or.inl ⟨by rfl, ?_⟩) hS ?_
      rotate_left 1
      · (intro wS hSw; (try dsimp only at hSw); first | (go_simp; done) | (go_simp; with_reducible rfl))
      intro hsh1 hS1; clear hsh hS; have hsh := hsh1; have hS := hS1; clear hsh1 hS1
      simp only [Act.put, List.setIfInBounds_toArray, List.set_cons_zero, List.set_cons_succ]
      refine anyL_take1 20 (i := 3) (v := ?_) rfl (by kernel_rfl) (by kernel_rfl) (by kernel_rfl) (by decide) (by kernel_rfl) hsh (fun _ _ _ h => h) (Or.inl ⟨by rfl, ?_⟩) hS ?_
      rotate_left 1
      · (intro wS hSw; (try dsimp only at hSw); first | (go_simp; done) | (go_simp; with_reducible rfl))
      intro hsh1 hS1; clear hsh hS; have hsh := hsh1; have hS := hS1; clear hsh1 hS1
      simp only [Act.put, List.setIfInBounds_toArray, List.set_cons_zero, List.set_cons_succ]
      refine anyL_take1 20 (i := 4) (v := ?_) rfl (by kernel_rfl) (by kernel_rfl) (by kernel_rfl) (by decide) (by kernel_rfl) hsh (fun _ _ _ h => h) (Or.inl ⟨by rfl, ?_⟩) hS ?_
      rotate_left 1
      · (intro wS hSw; (try dsimp only at hSw); first | (go_simp; done) | (go_simp; with_reducible rfl))
      intro hsh1 hS1; clear hsh hS; have hsh := hsh1; have hS := hS1; clear hsh1 hS1
      simp only [Act.put, List.setIfInBounds_toArray, List.set_cons_zero, List.set_cons_succ]
      refine anyL_take1 20 (i := 5) (v := ?_) rfl (by kernel_rfl) (by kernel_rfl) (by kernel_rfl) (by decide) (by kernel_rfl) hsh (fun _ _ _ h => h) (Or.inl ⟨by rfl, ?_⟩) hS ?_
      rotate_left 1
      · (intro wS hSw; (try dsimp only at hSw); first | (go_simp; done) | (go_simp; with_reducible rfl))
      intro hsh1 hS1; clear hsh hS; have hsh := hsh1; have hS := hS1; clear hsh1 hS1
      simp only [Act.put, List.setIfInBounds_toArray, List.set_cons_zero, List.set_cons_succ]
      refine anyL_take1 20 (i := 6) (v := ?_) rfl (by kernel_rfl) (by kernel_rfl) (by kernel_rfl) (by decide) (by kernel_rfl) hsh (fun _ _ _ h => h) (Or.inl ⟨by rfl, ?_⟩) hS ?_
      rotate_left 1
      · (intro wS hSw; (try dsimp only at hSw); first | (go_simp; done) | (go_simp; with_reducible rfl))
      intro hsh1 hS1; clear hsh hS; have hsh := hsh1; have hS := hS1; clear hsh1 hS1
      simp only [Act.put, List.setIfInBounds_toArray, List.set_cons_zero, List.set_cons_succ]
      refine anyL_take1 20 (i := 7) (v := ?_) rfl (by kernel_rfl) (by kernel_rfl) (by kernel_rfl) (by decide) (by kernel_rfl) hsh (fun _ _ _ h => h) (Or.inl ⟨by rfl, ?_⟩) hS ?_
      rotate_left 1
      · (intro wS hSw; (try dsimp only at hSw); first | (go_simp; done) | (go_simp; with_reducible rfl))
      intro hsh1 hS1; clear hsh hS; have hsh := hsh1; have hS := hS1; clear hsh1 hS1
      simp only [Act.put, List.setIfInBounds_toArray, List.set_cons_zero, List.set_cons_succ]
      refine anyL_take1 20 (i := 8) (v := ?_) rfl (by kernel_rfl) (by kernel_rfl) (by kernel_rfl) (by decide) (by kernel_rfl) hsh (fun _ _ _ h => h) (Or.inl ⟨by rfl, ?_⟩) hS ?_
      rotate_left 1
      · (intro wS hSw; (try dsimp only at hSw); first | (go_simp; done) | (go_simp; with_reducible rfl))
      intro hsh1 hS1; clear hsh hS; have hsh := hsh1; have hS := hS1; clear hsh1 hS1
      simp only [Act.put, List.setIfInBounds_toArray, List.set_cons_zero, List.set_cons_succ]
      refine anyL_one (i := 9) (by kernel_rfl) rfl hsh (fun K hK => ?_)
      go_simp
      have hB6 : Below w5.heap.size w5 (w0.alloc (.cells #[.pointer (some ⟨g, o5 + i * 7, none⟩)] 75)) := hbd.alloc (by have := hbd.size; omega) _
      have hsv : SV (w0.alloc (.cells #[.pointer (some ⟨g, o5 + i * 7, none⟩)] 75)) 1 (.slice (some ⟨w0.heap.size, 0, none⟩) 1 1) 1 [.pointer (some ⟨g, o5 + i * 7, none⟩)] := ⟨_, _, w0.heap.size, 0, rfl, rfl, .inr rfl, (fun e => by cases e), Nat.le_refl _, fun j u hj => by rw [Nat.zero_add, cell_new]; simpa using hj⟩
      generalize w0.alloc (.cells #[.pointer (some ⟨g, o5 + i * 7, none⟩)] 75) = w6 at hB6 hsv ⊢
      have k6 : w6.cell? ⟨kb, 1, none⟩ = some (.slice ax nx cx) := cell_below k0 hB6 (Nat.le_refl _)
      refine hK.out _ _ ⟨trivial, fun _ => k6⟩ (fun hsh1 hS1 => ?_)
      clear hsh hS hK K; have hsh := hsh1; have hS := hS1; clear hsh1 hS1
      refine anyL_one (i := 10) (by kernel_rfl) rfl hsh (fun K hK => ?_)
      refine step_append_sv (w := w6) (by rfl) (.tmp 43) (.tmp 48) (by rfl) Tryd.underlying28 info75 rfl (by decide) base nx _ px (by rfl) (kown.below hB6 (Nat.le_refl _)) _ 1 [.pointer (some ⟨g, o5 + i * 7, none⟩)] (by rfl) hsv (fun u hu => by rw [List.mem_singleton.1 hu]; rfl) (by unfold maxLen; omega) (by omega) (by have := hB6.size; omega) ?_
      intro v6 w7 own7 gr7 att7
      obtain ⟨a7, c7, rfl⟩ := own7.slice
      have hpx := (hK5.below hB6).pushS k6 (kown.below hB6 (Nat.le_refl _)) (fun u hu => (kmark u hu).keep (fun b _ hb => hB6.block b hb.lt) (fun b h _ => h)) kn ⟨g, o5 + i * 7, rfl, HG.out g hg5, hgt.keep (hB6.block g hgc), cell_below hmk hB6 (Nat.le_refl _)⟩ own7 gr7
      have hkt : Typ w6 kb 31 := (hK5.below hB6).blk.typ
      have hnr : some kb ≠ rowOf (.slice ax nx cx) := fun e => (Typ.ne ((kown.below hB6 (Nat.le_refl _)).type kb e.symm) hkt (by decide)) rfl
      have k7 := gr7.cell k6 hnr
      have hb7 : w7.heap[kb]? = w6.heap[kb]? := gr7.block kb hkt.lt hnr
      have f7 : w7.frozen? ⟨kb, 1, none⟩ = false := by obtain ⟨cs, e1, e2⟩ := (hK5.below hB6).blk; unfold World.frozen?; rw [hb7, e1]; simp
      refine hK.out _ _ ⟨trivial, fun _ => k7⟩ (fun hsh1 hS1 => ?_)
      clear hsh hS hK K; have hsh := hsh1; have hS := hS1; clear hsh1 hS1
      refine anyL_take1 20 (i := 11) (v := ?_) rfl (by kernel_rfl) (by kernel_rfl) (by kernel_rfl) (by decide) (by kernel_rfl) hsh (fun _ _ _ h => h) (Or.inl ⟨by rfl, ?_⟩) hS ?_
      rotate_left 1
      · (intro wS hSw; (try dsimp only at hSw); first | (go_simp; done) | (go_simp; with_reducible rfl))
      intro hsh1 hS1; clear hsh hS; have hsh := hsh1; have hS := hS1; clear hsh1 hS1
      simp only [Act.put, List.setIfInBounds_toArray, List.set_cons_zero, List.set_cons_succ]
      refine anyL_take1 20 (i := 12) (v := ?_) rfl (by kernel_rfl) (by kernel_rfl) (by kernel_rfl) (by decide) (by kernel_rfl) hsh (fun _ _ _ h => h) (Or.inl ⟨by rfl, ?_⟩) hS ?_
      rotate_left 1
      · (intro wS hSw; (try dsimp only at hSw); first | (go_simp; done) | (go_simp; with_reducible rfl))
      intro hsh1 hS1; clear hsh hS; have hsh := hsh1; have hS := hS1; clear hsh1 hS1
      simp only [Act.put, List.setIfInBounds_toArray, List.set_cons_zero, List.set_cons_succ]
      refine anyL_one (i := 13) (by kernel_rfl) rfl hsh (fun K hK => ?_)
      go_simp
      refine hK.out _ _ ⟨trivial, fun h => absurd h (by decide)⟩ (fun hsh1 hS1 => ?_)
      clear hsh hS hK K; have hsh := hsh1; have hS := hS1; clear hsh1 hS1
      refine anyL_done (by kernel_rfl) ?_ _
      obtain ⟨hKf, hCf, hBf⟩ := hpx
      have hBf2 := hBf (by have := hB6.size; omega)
      have HFI : Aside0 (HS (fun b => w.heap.size ≤ b ∧ Dt (w7.setCell ⟨kb, 1, none⟩ (.slice a7 (nx + 1) c7)) b) (w7.setCell ⟨kb, 1, none⟩ (.slice a7 (nx + 1) c7)) (.slice (some ⟨g, o5, none⟩) i c5) l ∧ KO G (w7.setCell ⟨kb, 1, none⟩ (.slice a7 (nx + 1) c7)) base kb (Ni + 1) ∧ Chg w (w7.setCell ⟨kb, 1, none⟩ (.slice a7 (nx + 1) c7)) ∧ Below base w (w7.setCell ⟨kb, 1, none⟩ (.slice a7 (nx + 1) c7))) := ⟨by
        have c56 : Chg w5 w6 := (Chg.refl w5).below hB6
        have c59 := c56.trans hCf
        have hd5 : Dt w5 g := Dt.of hgt (by exact .inr rfl)
        refine ⟨⟨some ⟨g, o5, none⟩, c5, g, o5, by rw [HLE.out.2.2], ⟨.inr rfl, (fun e => by cases e), by rw [HLE.out.2.2]; omega⟩, ?_⟩, hKf, HT5.out.chg.trans c59, (HT5.out.bel.trans (hB6.mono (by omega))).trans hBf2⟩
        refine (HT5.out.kept.to (fun b hb => c59 b hb.2.1) (fun b hb => ⟨hb.1, hb.2.1.keep (c59 b hb.2.1)⟩)).lies ⟨hg5, hd5.keep (c59 g hd5)⟩ (fun j u hu => ?_)
        exact cell_kept (c59 g hd5) (HC5.out j u (by rw [List.getElem?_append_left (List.getElem?_eq_some_iff.1 hu).1]; exact hu))⟩
      clear hKf hCf hBf hBf2 own7 gr7 att7 hsv hS hsh
      go_wp2
      exact HQ.out _ _ HFI.out.1 (HFI.out.2.1.more (by have := HT.out.2; omega)) HFI.out.2.2.1 HFI.out.2.2.2
theorem twS : ∀ n, TwSs n
  | 0 => fun l v P W0 w G base kb N h => by omega
  | n + 1 => twS_of n (twS n)
end Go.Proofs.YthkmdmobeadigaaDoor.lg
