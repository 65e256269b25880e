/- ScriptRound's own function, walked. -/
import Derived.Test.YtigaacbaaopfmaaDoorCl
import Derived.Test.YtigaacbaaopfmaaDoorPp
import Derived.Test.YtigaacbaaopfmaaDoorRk
set_option linter.unusedSimpArgs false
namespace Go.Proofs.YtigaacbaaopfmaaDoor.sh
open Go.RowKit
set_option linter.unusedVariables false
set_option maxHeartbeats 8000000 in
set_option maxRecDepth 100000 in
theorem round7 (w : World) (hb : Bs w) (hr : Rowz w) (s : Sc) (ok : s.Ok) (v : Value) (h : ScV w v s) : Calls Tryd.prog 7 #[v] w (YesP w) := by
  have HV := h
  obtain ⟨_, _, cs, rfl, ⟨a1, c1, g1, o1, rfl, p1⟩, ⟨b1, d1, k1, q1, rfl, r1⟩, m1⟩ := h
  clear p1 r1 m1
  have hk := cleanS_ok ok
  have hfin := ok_fin hk
  have ccp := fun wq (q : Below w.heap.size w wq) => copied_walk wq s ok _ (HV.below q (Nat.le_refl _))
  have ccl := fun wq (q : Below w.heap.size w wq) => cleaned_walk wq s ok _ (HV.below q (Nat.le_refl _))
  have cpr := fun wq (q : Below w.heap.size w wq) u hu => print_walk wq (hb.b3.below q) s ok u hu
  have cps := fun wq (q : Below w.heap.size w wq) => parse_walk wq (hb.below q) (hr.below q) (B (printL s))
  have hdata : (B (printL s)).data.toList = printL s := rfl
  rw [hdata] at cps
  have hlen : (B (printL s)).size = (printL s).length := B_size _
  obtain ⟨st, hst⟩ : ∃ st, B (printL s) = st := ⟨_, rfl⟩
  rw [hst] at cps cpr hlen
  obtain ⟨m, hm⟩ : ∃ m, w.heap.size = m := ⟨_, rfl⟩
  rw [hm] at ccp ccl cpr cps
  have HQ : Aside0 (∀ w', Below m w w' → YesP w (.returned (.bool true)) w') := ⟨fun w' h => ⟨rfl, by rw [hm]; exact h⟩⟩
  obtain ⟨Q, hQ⟩ : ∃ Q, YesP w = Q := ⟨_, rfl⟩
  rw [hQ] at HQ ⊢
  have HL : Aside0 (st.size = (printL s).length ∧ s.Ok) := ⟨hlen, ok⟩
  obtain ⟨lim, hlim⟩ : ∃ x, s.limit = x := ⟨_, rfl⟩
  obtain ⟨no, hno⟩ : ∃ x, s.over.length = x := ⟨_, rfl⟩
  obtain ⟨nc, hnc⟩ : ∃ x, s.cmds.length = x := ⟨_, rfl⟩
  rw [hlim, hno, hnc] at ccl ccp ⊢
  have HLM : Aside0 (s.limit = lim) := ⟨hlim⟩
  have hssz : st.size ≤ 400000000 := by rw [hlen]; exact printL_len ok
  clear hQ hlen hdata hst hlim hno hnc HV hb hr ok
  have HX := round_new2 (.cells #[.int .i64 lim, .slice a1 no c1, .slice b1 nc d1] 30) (Below.refl w.heap.size w) (Nat.le_refl _) hm
  rw [hm] at HX
  go_enter Tryd.func7, Tryd.ntmps7
  go_upto_region 1 with fail
  generalize w.alloc (.cells #[.int .i64 lim, .slice a1 no c1, .slice b1 nc d1] 30) = W at HX ⊢
  obtain ⟨hz, hbk, hBW, -⟩ := HX W rfl
  clear HX
  have k0 : W.cell? ⟨m, 0, none⟩ = some (.int .i64 lim) := by unfold World.cell?; rw [hbk]; rfl
  have k1' : W.cell? ⟨m, 1, none⟩ = some (.slice a1 no c1) := by unfold World.cell?; rw [hbk]; rfl
  have k2 : W.cell? ⟨m, 2, none⟩ = some (.slice b1 nc d1) := by unfold World.cell?; rw [hbk]; rfl
  have HBK : Aside0 (W.heap[m]? = some (.cells #[.int .i64 lim, .slice a1 no c1, .slice b1 nc d1] 30 (0, 0)) ∧ Below m w W ∧ W.heap.size = m + 1 ∧ w.heap.size = m) := ⟨hbk, hBW, hz, hm⟩
  clear hbk hm
  go_wp2_with fail
  refine (ccp _ hBW).mono ?_
  rintro e w1 ⟨vo, vc, rfl, hsc, hb1⟩
  have hv1 := hsc.scv
  rw [HLM.out] at hv1
  obtain ⟨cs1, V1, ho1, hc1, -⟩ := hsc
  obtain ⟨ao1, co1, rfl⟩ := ho1.slice
  obtain ⟨ac1, cc1, rfl⟩ := hc1.slice
  have hB1 := below_next' hBW (by omega) hb1
  have hz1 := hb1.size
  clear ho1 hc1 ccp
  go_wp2_with fail
  refine (cpr _ hB1 _ hv1).mono ?_
  rintro e w2 ⟨rfl, hb2⟩
  have hB2 := below_next' hB1 (by omega) hb2
  have hz2 := hb2.size
  clear hv1 cpr
  go_upto_region 2 with fail
  unfold ParseP at cps
  go_wp2_with fail
  refine (cps _ hB2).mono ?_
  rintro e w3 ⟨v3, rfl, hs3, hb3⟩
  have hB3 := below_next' hB2 (by omega) hb3
  have hz3 := hb3.size
  have hW3 : Below (m + 1) W w3 := (hb1.mono (by omega)).trans ((hb2.mono (by omega)).trans (hb3.mono (by omega)))
  clear cps k0 k1' k2 hb1 hb2 hb3 hB1 hB2
  obtain ⟨vo3, vc3, cs3, rfl, ho3, hc3, hm3⟩ := hs3
  obtain ⟨ao3, co3, rfl⟩ := own_slice ho3
  obtain ⟨ac3, cc3, rfl⟩ := own_slice hc3
  have hs3 : ScV w3 (.agg #[.int .i64 (parseP (printL s)).1.limit, .slice ao3 (parseP (printL s)).1.over.length co3, .slice ac3 (parseP (printL s)).1.cmds.length cc3]) (parseP (printL s)).1 := ⟨_, _, cs3, rfl, own_sv ho3, own_sv hc3, hm3.cmv⟩
  clear ho3 hc3 hm3
  by_cases hbig : 1048576 < st.size
  · have hP : parseP (printL s) = (S0, 0, 160) := by unfold parseP; rw [if_pos (by rw [← HL.out.1]; exact hbig)]
    have hlt : (st.size : Int) > 1048576 := by omega
    rw [hP]
    clear hs3 ccl hP
    dsimp only
    have hBa : ∀ o, Below m w (w3.alloc o) := fun o => hB3.alloc (by omega) o
    go_wp2
    exact HQ.out _ (hBa _)
  · have hP : parseP (printL s) = (cleanS s, 0, 0) := parse_print HL.out.2 (by rw [← HL.out.1]; omega)
    have hlt : ¬ (st.size : Int) > 1048576 := by omega
    rw [hP] at hs3 ⊢
    clear hP
    dsimp only at hs3 ⊢
    obtain ⟨l3, hl3⟩ : ∃ x, (cleanS s).limit = x := ⟨_, rfl⟩
    obtain ⟨n3, hn3⟩ : ∃ x, (cleanS s).over.length = x := ⟨_, rfl⟩
    obtain ⟨m3, hm3⟩ : ∃ x, (cleanS s).cmds.length = x := ⟨_, rfl⟩
    rw [hl3, hn3, hm3] at hs3 ⊢
    obtain ⟨sc, hsc⟩ : ∃ x, cleanS s = x := ⟨_, rfl⟩
    rw [hsc] at hs3 hfin ccl
    clear hl3 hn3 hm3 hsc hk
    have csm := fun wq v1 v2 => same_walk wq v1 v2 sc hfin
    obtain ⟨p, hp⟩ : ∃ p, w3.heap.size = p := ⟨_, rfl⟩
    have HX := round_new2 (.cells #[.int .i64 l3, .slice ao3 n3 co3, .slice ac3 m3 cc3] 30) (Below.refl w3.heap.size w3) (Nat.le_refl _) hp
    go_upto_region 3 with fail
    generalize w3.alloc (.cells #[.int .i64 l3, .slice ao3 n3 co3, .slice ac3 m3 cc3] 30) = W4 at HX ⊢
    obtain ⟨hz4, hbk4, hb4, -⟩ := HX W4 rfl
    have hB4 := below_next' hB3 (by omega) hb4
    have hs4 := hs3.below hb4 (Nat.le_refl _)
    have hW4 : Below (m + 1) W W4 := hW3.trans (hb4.mono (by omega))
    have hbm : W4.heap[m]? = some (.cells #[.int .i64 lim, .slice a1 no c1, .slice b1 nc d1] 30 (0, 0)) := (hW4.block m (by omega)).trans HBK.out.1
    clear HX hb4 hs3 hW3 hB3
    have k0 : W4.cell? ⟨m, 0, none⟩ = some (.int .i64 lim) := by unfold World.cell?; rw [hbm]; rfl
    have k1' : W4.cell? ⟨m, 1, none⟩ = some (.slice a1 no c1) := by unfold World.cell?; rw [hbm]; rfl
    have k2 : W4.cell? ⟨m, 2, none⟩ = some (.slice b1 nc d1) := by unfold World.cell?; rw [hbm]; rfl
    have j0 : W4.cell? ⟨p, 0, none⟩ = some (.int .i64 l3) := by unfold World.cell?; rw [hbk4]; rfl
    have j1 : W4.cell? ⟨p, 1, none⟩ = some (.slice ao3 n3 co3) := by unfold World.cell?; rw [hbk4]; rfl
    have j2 : W4.cell? ⟨p, 2, none⟩ = some (.slice ac3 m3 cc3) := by unfold World.cell?; rw [hbk4]; rfl
    clear hbm hbk4
    have hd0 : Below W4.heap.size W4 W4 := Below.refl _ _
    have hd1 : Below W4.heap.size W4 W4.drew := (Below.refl _ _).drew
    have keepS : ∀ {w'}, Below W4.heap.size W4 w' → Below W4.heap.size W4 w' ∧ w'.cell? ⟨m, 0, none⟩ = some (.int .i64 lim) ∧ w'.cell? ⟨m, 1, none⟩ = some (.slice a1 no c1) ∧ w'.cell? ⟨m, 2, none⟩ = some (.slice b1 nc d1) ∧ w'.cell? ⟨p, 0, none⟩ = some (.int .i64 l3) ∧ w'.cell? ⟨p, 1, none⟩ = some (.slice ao3 n3 co3) ∧ w'.cell? ⟨p, 2, none⟩ = some (.slice ac3 m3 cc3) := fun h => ⟨h, cell_below k0 h (Nat.le_refl _), cell_below k1' h (Nat.le_refl _), cell_below k2 h (Nat.le_refl _), cell_below j0 h (Nat.le_refl _), cell_below j1 h (Nat.le_refl _), cell_below j2 h (Nat.le_refl _)⟩
    have qa := fun wq (h : Below W4.heap.size W4 wq) => ccl wq (below_next' hB4 (by omega) h)
    have hs4' := fun wq (h : Below W4.heap.size W4 wq) => hs4.below h (Nat.le_refl _)
    have hBf := fun wq (h : Below W4.heap.size W4 wq) => HQ.out wq (below_next' hB4 (by omega) h)
    clear ccl hs4 hW4 hB4
    go_upto_region 5 with fail
    go_region_held_law (fun w' => Below W4.heap.size W4 w' ∧ w'.cell? ⟨m, 0, none⟩ = some (.int .i64 lim) ∧ w'.cell? ⟨m, 1, none⟩ = some (.slice a1 no c1) ∧ w'.cell? ⟨m, 2, none⟩ = some (.slice b1 nc d1) ∧ w'.cell? ⟨p, 0, none⟩ = some (.int .i64 l3) ∧ w'.cell? ⟨p, 1, none⟩ = some (.slice ao3 n3 co3) ∧ w'.cell? ⟨p, 2, none⟩ = some (.slice ac3 m3 cc3))
      (first | with_reducible exact keepS (by with_reducible assumption))
      (first
      | (go_at_call 23; (with_reducible refine (qa _ (by with_reducible assumption)).mono ?_); rintro e wa ⟨va, rfl, hsa, ba⟩; obtain ⟨voa, vca, csa, rfl, hoa, hca, hma⟩ := hsa; have hsa : ScV wa _ sc := ⟨voa, vca, csa, rfl, hoa, hca, hma⟩; have ha := below_next hd1 ba; have hsb := hs4' wa ha)
      | (go_at_call 19; (with_reducible refine (csm _ _ _ hsb hsa).mono ?_); rintro e wb ⟨rfl, bb⟩; have hbb := below_next ha bb))
    all_goals
      go_wp2
      exact hbb
end Go.Proofs.YtigaacbaaopfmaaDoor.sh
