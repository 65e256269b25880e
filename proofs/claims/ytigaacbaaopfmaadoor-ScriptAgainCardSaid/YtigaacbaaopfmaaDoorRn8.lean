/- ScriptAgain's own function, walked. -/
import Derived.Test.YtigaacbaaopfmaaDoorCl
import Derived.Test.YtigaacbaaopfmaaDoorPp
import Derived.Test.YtigaacbaaopfmaaDoorLu
namespace Go.Proofs.YtigaacbaaopfmaaDoor.sh
open Go.RowKit
set_option linter.unusedVariables false
set_option linter.unusedSimpArgs false
set_option maxHeartbeats 4000000 in
set_option maxRecDepth 100000 in
theorem again8 (w : World) (hb : Bs w) (hr : Rowz w) (text : ByteArray) : Calls Tryd.prog 8 #[.string text] w (YesP w) := by
  have cp1 := fun wq (q : Below w.heap.size w wq) => parse_is wq (hb.below q) (hr.below q) ⟨#[108, 105, 109, 105, 116, 32, 57, 10, 9, 104, 97, 115, 104, 32, 39, 98, 32, 48, 88, 70, 10, 108, 101, 110, 32, 51]⟩ S0 2 160 parse_c1
  have cp2 := fun wq (q : Below w.heap.size w wq) => parse_is wq (hb.below q) (hr.below q) ⟨#[32, 108, 105, 109, 105, 116, 32, 48, 48, 57, 32, 35, 32, 115, 111, 10, 9, 104, 97, 115, 104, 32, 39, 98, 32, 48, 120, 70, 10, 10, 108, 101, 110, 32, 45, 51]⟩ S2 0 0 parse_c2
  have cpr2 := fun wq (q : Below w.heap.size w wq) => print_walk wq (hb.b3.below q) S2 S2_ok
  have hpr : B (printL S2) = ⟨#[108, 105, 109, 105, 116, 32, 57, 10, 104, 97, 115, 104, 32, 54, 50, 32, 48, 120, 102, 10, 108, 101, 110, 32, 45, 51, 10]⟩ := by rw [print_c2]; rfl
  rw [hpr] at cpr2
  have HR : Aside0 (∀ wq, Below w.heap.size w wq → Bs wq ∧ Rowz wq) := ⟨fun wq q => ⟨hb.below q, hr.below q⟩⟩
  obtain ⟨m, hm⟩ : ∃ m, w.heap.size = m := ⟨_, rfl⟩
  rw [hm] at cp1 cp2 cpr2 HR
  have HQ : Aside0 (∀ w', Below m w w' → YesP w (.returned (.bool true)) w') := ⟨fun w' h => ⟨rfl, by rw [hm]; exact h⟩⟩
  obtain ⟨Q, hQ⟩ : ∃ Q, YesP w = Q := ⟨_, rfl⟩
  rw [hQ] at HQ ⊢
  have hB0 : Below m w w := hm ▸ Below.refl _ w
  have hm' : m ≤ w.heap.size := Nat.le_of_eq hm.symm
  clear hQ hb hr hpr hm
  go_enter Tryd.func8, Tryd.ntmps8
  go_upto_region 1 with fail
  go_wp2_with fail
  refine (cp1 _ hB0).mono ?_
  rintro e w1 ⟨ao1, co1, ac1, cc1, rfl, hs1, hb1⟩
  have hB1 := below_next' hB0 hm' hb1
  have hz1 := hb1.size
  have e1 : S0.limit = 0 := rfl
  have e2 : S0.over.length = 0 := rfl
  have e3 : S0.cmds.length = 0 := rfl
  rw [e1, e2, e3] at hs1 ⊢
  clear cp1 hb1
  obtain ⟨p, hp⟩ : ∃ p, w1.heap.size = p := ⟨_, rfl⟩
  have HX := round_new2 (.cells #[.int .i64 0, .slice ao1 0 co1, .slice ac1 0 cc1] 30) (Below.refl w1.heap.size w1) (Nat.le_refl _) hp
  rw [hp] at HX
  go_upto_region 2 with fail
  generalize w1.alloc (.cells #[.int .i64 0, .slice ao1 0 co1, .slice ac1 0 cc1] 30) = W2 at HX ⊢
  obtain ⟨hz2, hbk2, hb2, -⟩ := HX W2 rfl
  have hB2 := below_next' hB1 (by omega) (hp ▸ hb2)
  have hs2 := hs1.scv.below hb2 (Nat.le_of_eq hp)
  have j0 : W2.cell? ⟨p, 0, none⟩ = some (.int .i64 0) := by unfold World.cell?; rw [hbk2]; rfl
  have j1 : W2.cell? ⟨p, 1, none⟩ = some (.slice ao1 0 co1) := by unfold World.cell?; rw [hbk2]; rfl
  have j2 : W2.cell? ⟨p, 2, none⟩ = some (.slice ac1 0 cc1) := by unfold World.cell?; rw [hbk2]; rfl
  clear HX hb2 hs1
  go_wp2_with fail
  refine (same_walk _ _ _ S0 S0_fin hs2 (zero_scv _)).mono ?_
  rintro e w3 ⟨rfl, hb3⟩
  have hB3 := below_next' hB2 (by omega) hb3
  have hz3 := hb3.size
  have hbk3 := (hb3.block p (by omega)).trans hbk2
  clear hs2 j0 j1 j2 hb3 hbk2
  go_upto_region 4 with fail
  go_wp2_with fail
  refine (cp2 _ hB3).mono ?_
  rintro e w4 ⟨ao4, co4, ac4, cc4, rfl, hs4, hb4⟩
  have hB4 := below_next' hB3 (by omega) hb4
  have hz4 := hb4.size
  have hbk4 := (hb4.block p (by omega)).trans hbk3
  have f1 : S2.limit = 9 := rfl
  have f2 : S2.over.length = 1 := rfl
  have f3 : S2.cmds.length = 1 := rfl
  rw [f1, f2, f3] at hs4 ⊢
  clear cp2 hb4 hbk3
  have q0 : w4.frozen? ⟨p, 0, none⟩ = false := by unfold World.frozen?; rw [hbk4]; rfl
  have q1 : w4.frozen? ⟨p, 1, none⟩ = false := by unfold World.frozen?; rw [hbk4]; rfl
  have q2 : w4.frozen? ⟨p, 2, none⟩ = false := by unfold World.frozen?; rw [hbk4]; rfl
  have j0 : w4.cell? ⟨p, 0, none⟩ = some (.int .i64 0) := by unfold World.cell?; rw [hbk4]; rfl
  have j1 : w4.cell? ⟨p, 1, none⟩ = some (.slice ao1 0 co1) := by unfold World.cell?; rw [hbk4]; rfl
  have j2 : w4.cell? ⟨p, 2, none⟩ = some (.slice ac1 0 cc1) := by unfold World.cell?; rw [hbk4]; rfl
  go_upto_region 5 with fail
  have hbk5 := full3' hbk4 (.int .i64 9) (.slice ao4 1 co4) (.slice ac4 1 cc4)
  have hpp : p < w3.heap.size := by omega
  have hs5 := (((hs4.set (i := 0) (u := .int .i64 9) hpp).set (i := 1) (u := .slice ao4 1 co4) hpp).set (i := 2) (u := .slice ac4 1 cc4) hpp).scv
  have hB5 : Below m w (((w4.setCell ⟨p, 0, none⟩ (.int .i64 9)).setCell ⟨p, 1, none⟩ (.slice ao4 1 co4)).setCell ⟨p, 2, none⟩ (.slice ac4 1 cc4)) := ((hB4.setCell (by show m ≤ p; omega) _).setCell (by show m ≤ p; omega) _).setCell (by show m ≤ p; omega) _
  have hz5 : (((w4.setCell ⟨p, 0, none⟩ (.int .i64 9)).setCell ⟨p, 1, none⟩ (.slice ao4 1 co4)).setCell ⟨p, 2, none⟩ (.slice ac4 1 cc4)).heap.size = w4.heap.size := by simp
  generalize ((w4.setCell ⟨p, 0, none⟩ (.int .i64 9)).setCell ⟨p, 1, none⟩ (.slice ao4 1 co4)).setCell ⟨p, 2, none⟩ (.slice ac4 1 cc4) = W5 at hbk5 hs5 hB5 hz5 ⊢
  clear q0 q1 q2 j0 j1 j2 hs4 hB4 hbk4 e1 e2 e3 f1 f2 f3
  have j0 : W5.cell? ⟨p, 0, none⟩ = some (.int .i64 9) := by unfold World.cell?; rw [hbk5]; rfl
  have j1 : W5.cell? ⟨p, 1, none⟩ = some (.slice ao4 1 co4) := by unfold World.cell?; rw [hbk5]; rfl
  have j2 : W5.cell? ⟨p, 2, none⟩ = some (.slice ac4 1 cc4) := by unfold World.cell?; rw [hbk5]; rfl
  clear hbk5
  go_wp2_with fail
  refine (cpr2 _ hB5 _ hs5).mono ?_
  rintro e w6 ⟨rfl, hb6⟩
  have hB6 := below_next' hB5 (by omega) hb6
  have hz6 := hb6.size
  clear cpr2 hs5 j0 j1 j2 hb6
  go_upto_region 7 with fail
  obtain ⟨hb6, hr6⟩ := HR.out _ hB6
  obtain ⟨sc, ln, er, hsp⟩ : ∃ sc ln er, parseP text.data.toList = (sc, ln, er) := ⟨_, _, _, rfl⟩
  have hinv := parseP_inv text.data.toList
  have hlt : text.data.toList.length = text.size := by rw [Array.length_toList]; rfl
  rw [hsp, hlt] at hinv
  dsimp only at hinv
  have cp := parse_is w6 hb6 hr6 text sc ln er hsp
  clear hsp hlt hb6 hr6
  rcases hinv with ⟨rfl, rfl, hok, hcl, hsz⟩ | ⟨rfl, hln, her⟩
  · have hfin := ok_fin hok
    have hpl := printL_len hok
    have hpp2 := parse_print hok
    rw [hcl] at hpp2
    obtain ⟨form, hform⟩ : ∃ st, B (printL sc) = st := ⟨_, rfl⟩
    have hfs : form.size = (printL sc).length := by rw [← hform, B_size]
    have hfd : form.data.toList = printL sc := by rw [← hform]; rfl
    rw [← hfs, ← hfd] at hpp2
    rw [← hfs] at hpl
    have cpr := fun wq (q : Below m w wq) => print_walk wq (HR.out wq q).1.b3 sc hok
    rw [hform] at cpr
    have ccp := fun wq => copied_walk wq sc hok
    have HP : Aside0 (form.size ≤ 1048576 → ∀ wq, Below m w wq → _) := ⟨fun h wq q => parse_is wq (HR.out wq q).1 (HR.out wq q).2 form sc 0 0 (hpp2 h)⟩
    clear hform hfs hfd hpp2 hcl hok
    obtain ⟨li, hli⟩ : ∃ x, sc.limit = x := ⟨_, rfl⟩
    obtain ⟨no, hno⟩ : ∃ x, sc.over.length = x := ⟨_, rfl⟩
    obtain ⟨nc, hnc⟩ : ∃ x, sc.cmds.length = x := ⟨_, rfl⟩
    rw [hli, hno, hnc] at cp HP
    rw [hli] at ccp
    have HLI : Aside0 (sc.limit = li) := ⟨hli⟩
    clear hli hno hnc
    go_wp2_with fail
    refine cp.mono ?_
    rintro e w7 ⟨ao7, co7, ac7, cc7, rfl, hs7, hb7⟩
    have hB7 := below_next' hB6 (by omega) hb7
    have hz7 := hb7.size
    clear cp hb7
    obtain ⟨q, hq⟩ : ∃ q, w7.heap.size = q := ⟨_, rfl⟩
    have HX := round_new2 (.cells #[.int .i64 li, .slice ao7 no co7, .slice ac7 nc cc7] 30) (Below.refl w7.heap.size w7) (Nat.le_refl _) hq
    rw [hq] at HX
    go_upto_region 8 with fail
    generalize w7.alloc (.cells #[.int .i64 li, .slice ao7 no co7, .slice ac7 nc cc7] 30) = W8 at HX ⊢
    obtain ⟨hz8, hbk8, hb8, -⟩ := HX W8 rfl
    have hB8 := below_next' hB7 (by omega) (hq ▸ hb8)
    have hs8 := hs7.scv.below hb8 (Nat.le_of_eq hq)
    have j0 : W8.cell? ⟨q, 0, none⟩ = some (.int .i64 li) := by unfold World.cell?; rw [hbk8]; rfl
    have j1 : W8.cell? ⟨q, 1, none⟩ = some (.slice ao7 no co7) := by unfold World.cell?; rw [hbk8]; rfl
    have j2 : W8.cell? ⟨q, 2, none⟩ = some (.slice ac7 nc cc7) := by unfold World.cell?; rw [hbk8]; rfl
    clear HX hb8 hs7 hbk8
    go_upto_region 10 with fail
    go_wp2_with fail
    refine (ccp _ _ hs8).mono ?_
    rintro e w9 ⟨vo9, vc9, rfl, hsc, hb9⟩
    have hv9 := hsc.scv
    rw [HLI.out] at hv9
    obtain ⟨cs9, V9, ho9, hc9, -⟩ := hsc
    obtain ⟨ao9, co9, rfl⟩ := ho9.slice
    obtain ⟨ac9, cc9, rfl⟩ := hc9.slice
    have hB9 := below_next' hB8 (by omega) hb9
    have hz9 := hb9.size
    have hs9 := hs8.below hb9 (Nat.le_refl _)
    have j0 := cell_below j0 hb9 (Nat.le_refl _)
    have j1 := cell_below j1 hb9 (Nat.le_refl _)
    have j2 := cell_below j2 hb9 (Nat.le_refl _)
    clear ho9 hc9 ccp hs8 hb9
    go_wp2_with fail
    refine (cpr _ hB9 _ hv9).mono ?_
    rintro e wa ⟨rfl, hba⟩
    have hBa := below_next' hB9 (by omega) hba
    have hza := hba.size
    have hsa := hs9.below hba (Nat.le_refl _)
    have j0 := cell_below j0 hba (Nat.le_refl _)
    have j1 := cell_below j1 hba (Nat.le_refl _)
    have j2 := cell_below j2 hba (Nat.le_refl _)
    clear hv9 hs9 hba
    have hlt : ¬ (text.size : Int) > 1048576 := by omega
    have hle : (text.size : Int) ≤ 1048576 := by omega
    by_cases hbig : 1048576 < form.size
    · have hfl : (form.size : Int) > 1048576 := by omega
      go_wp2
      exact HQ.out _ hBa
    · have hfl : ¬ (form.size : Int) > 1048576 := by omega
      have cp3 := HP.out (by omega)
      go_upto_region 13 with fail
      go_wp2_with fail
      refine (cp3 _ hBa).mono ?_
      rintro e wb ⟨aob, cob, acb, ccb, rfl, hsb, hbb⟩
      have hBb := below_next' hBa (by omega) hbb
      have hzb := hbb.size
      have hsa := hsa.below hbb (Nat.le_refl _)
      have j0 := cell_below j0 hbb (Nat.le_refl _)
      have j1 := cell_below j1 hbb (Nat.le_refl _)
      have j2 := cell_below j2 hbb (Nat.le_refl _)
      clear cp3 hbb
      obtain ⟨r, hrr⟩ : ∃ r, wb.heap.size = r := ⟨_, rfl⟩
      have HX := round_new2 (.cells #[.int .i64 li, .slice aob no cob, .slice acb nc ccb] 30) (Below.refl wb.heap.size wb) (Nat.le_refl _) hrr
      rw [hrr] at HX
      go_upto_region 14 with fail
      generalize wb.alloc (.cells #[.int .i64 li, .slice aob no cob, .slice acb nc ccb] 30) = Wc at HX ⊢
      obtain ⟨hzc, hbkc, hbc, -⟩ := HX Wc rfl
      have hBc := below_next' hBb (by omega) (hrr ▸ hbc)
      have hsc := hsb.scv.below hbc (Nat.le_of_eq hrr)
      have hsa := hsa.below hbc (Nat.le_of_eq hrr)
      have j0 := cell_below j0 hbc (Nat.le_of_eq hrr)
      have j1 := cell_below j1 hbc (Nat.le_of_eq hrr)
      have j2 := cell_below j2 hbc (Nat.le_of_eq hrr)
      have i0 : Wc.cell? ⟨r, 0, none⟩ = some (.int .i64 li) := by unfold World.cell?; rw [hbkc]; rfl
      have i1 : Wc.cell? ⟨r, 1, none⟩ = some (.slice aob no cob) := by unfold World.cell?; rw [hbkc]; rfl
      have i2 : Wc.cell? ⟨r, 2, none⟩ = some (.slice acb nc ccb) := by unfold World.cell?; rw [hbkc]; rfl
      clear HX hbc hsb hbkc
      go_wp2_with fail
      refine (same_walk _ _ _ sc hfin hsa hsc).mono ?_
      rintro e wd ⟨rfl, hbd⟩
      have hBd := below_next' hBc (by omega) hbd
      have hzd := hbd.size
      have hsd := hsc.below hbd (Nat.le_refl _)
      have i0 := cell_below i0 hbd (Nat.le_refl _)
      have i1 := cell_below i1 hbd (Nat.le_refl _)
      have i2 := cell_below i2 hbd (Nat.le_refl _)
      clear hsa hsc j0 j1 j2 hbd
      go_wp2_with fail
      refine (cpr _ hBd _ hsd).mono ?_
      rintro e we ⟨rfl, hbe⟩
      have hBe := below_next' hBd (by omega) hbe
      clear hsd cpr hbe
      go_wp2
      exact HQ.out _ hBe
  · have e1 : S0.limit = 0 := rfl
    have e2 : S0.over.length = 0 := rfl
    have e3 : S0.cmds.length = 0 := rfl
    rw [e1, e2, e3] at cp
    clear e1 e2 e3 HR
    go_wp2_with fail
    refine cp.mono ?_
    rintro e w7 ⟨ao7, co7, ac7, cc7, rfl, hs7, hb7⟩
    have hB7 := below_next' hB6 (by omega) hb7
    have hz7 := hb7.size
    clear cp hb7
    obtain ⟨q, hq⟩ : ∃ q, w7.heap.size = q := ⟨_, rfl⟩
    have HX := round_new2 (.cells #[.int .i64 0, .slice ao7 0 co7, .slice ac7 0 cc7] 30) (Below.refl w7.heap.size w7) (Nat.le_refl _) hq
    rw [hq] at HX
    go_upto_region 8 with fail
    generalize w7.alloc (.cells #[.int .i64 0, .slice ao7 0 co7, .slice ac7 0 cc7] 30) = W8 at HX ⊢
    obtain ⟨hz8, hbk8, hb8, -⟩ := HX W8 rfl
    have hB8 := below_next' hB7 (by omega) (hq ▸ hb8)
    have hs8 := hs7.scv.below hb8 (Nat.le_of_eq hq)
    have j0 : W8.cell? ⟨q, 0, none⟩ = some (.int .i64 0) := by unfold World.cell?; rw [hbk8]; rfl
    have j1 : W8.cell? ⟨q, 1, none⟩ = some (.slice ao7 0 co7) := by unfold World.cell?; rw [hbk8]; rfl
    have j2 : W8.cell? ⟨q, 2, none⟩ = some (.slice ac7 0 cc7) := by unfold World.cell?; rw [hbk8]; rfl
    clear HX hb8 hs7 hbk8
    by_cases hln0 : 0 < ln
    · have hl0 : (ln : Int) > 0 := by omega
      rcases her with rfl | rfl
      · go_upto_region 9 with fail
        go_wp2_with fail
        refine (same_walk _ _ _ S0 S0_fin hs8 (zero_scv _)).mono ?_
        rintro e w9 ⟨rfl, hb9⟩
        have hB9 := below_next' hB8 (by omega) hb9
        go_wp2
        exact HQ.out _ hB9
      · go_upto_region 9 with fail
        go_wp2_with fail
        refine (same_walk _ _ _ S0 S0_fin hs8 (zero_scv _)).mono ?_
        rintro e w9 ⟨rfl, hb9⟩
        have hB9 := below_next' hB8 (by omega) hb9
        go_wp2
        exact HQ.out _ hB9
    · have hl0 : ¬ (ln : Int) > 0 := by omega
      have hbig : (text.size : Int) > 1048576 := by omega
      rcases her with rfl | rfl
      · go_upto_region 9 with fail
        go_wp2_with fail
        refine (same_walk _ _ _ S0 S0_fin hs8 (zero_scv _)).mono ?_
        rintro e w9 ⟨rfl, hb9⟩
        have hB9 := below_next' hB8 (by omega) hb9
        go_wp2
        exact HQ.out _ hB9
      · go_upto_region 9 with fail
        go_wp2_with fail
        refine (same_walk _ _ _ S0 S0_fin hs8 (zero_scv _)).mono ?_
        rintro e w9 ⟨rfl, hb9⟩
        have hB9 := below_next' hB8 (by omega) hb9
        go_wp2
        exact HQ.out _ hB9
end Go.Proofs.YtigaacbaaopfmaaDoor.sh
