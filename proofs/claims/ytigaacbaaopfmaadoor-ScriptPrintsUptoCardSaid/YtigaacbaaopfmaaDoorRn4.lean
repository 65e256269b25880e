/- ScriptPrints' own function, walked. -/
import Derived.Test.YtigaacbaaopfmaaDoorTl
import Derived.Test.YtigaacbaaopfmaaDoorPt
import Derived.Test.YtigaacbaaopfmaaDoorRk
import Derived.Test.YtigaacbaaopfmaaDoorCl
namespace Go.Proofs.YtigaacbaaopfmaaDoor.sh
open Go.RowKit
set_option linter.unusedVariables false
set_option linter.unusedSimpArgs false
def PrI (m : Nat) (W : World) (lim : Int) (over : List (List UInt8 × Nat)) (no nc : Nat) (cmds : List Cm) (p : Nat) (vo vc : Value) (i : Nat) (v6 : Value) (wr : World) : Prop :=
  ∃ cs U V X ps, ps.length = 2 * i ∧ TJ m W lim over no nc cmds p vo vc v6 (2 * i) (2 * i) cs U V X ps wr
theorem info39 : (Tryd.prog.info? 39).map (fun i => (i.zero, i.size, i.bytes)) = some (some (.pointer none), 1, 8) := by kernel_rfl
theorem new_sv2 (w : World) (a b : Value) (T : Nat) : SV (w.alloc (.cells #[a, b] T)) 1 (.slice (some ⟨w.heap.size, 0, none⟩) 2 2) 2 [a, b] :=
  ⟨_, _, w.heap.size, 0, rfl, rfl, .inr rfl, (fun e => by cases e), Nat.le_refl _, fun j u hu => by
    have hj := (List.getElem?_eq_some_iff.1 hu).1
    unfold World.cell?
    rw [heap_alloc_new]
    show (#[a, b] : Array Value)[0 + j]? = some u
    rw [Nat.zero_add]
    simpa using hu⟩
theorem own_some {w : World} {base E size n : Nat} {ao : Option Addr} {c : Nat} {xs : List Value} (h : OwnA w base E size (.slice ao (n + 1) c) (n + 1) xs) : ∃ g o, ao = some ⟨g, o, none⟩ ∧ g < w.heap.size := by
  rcases h.2 with ⟨_, e, e2⟩ | ⟨g', o', cap', cur, fz, e, hc, hb⟩
  · omega
  · simp only [Value.slice.injEq] at e
    exact ⟨g', o', e.1, (Array.getElem?_eq_some_iff.1 hb.blk).1⟩
theorem own_at1 {w : World} {base E size n : Nat} {ao : Option Addr} {c : Nat} {xs : List Value} (h : OwnA w base E size (.slice ao n c) n xs) (hn : 0 < n) : ∃ g o, ao = some ⟨g, o, none⟩ := by
  rcases h.2 with ⟨_, e, e2⟩ | ⟨g', o', cap', cur, fz, e, hc, hb⟩
  · omega
  · simp only [Value.slice.injEq] at e
    exact ⟨g', o', e.1⟩
theorem far_type {w w' : World} {base E size n E' : Nat} {v : Value} {xs : List Value} {row : Option Nat} (h : OwnA w base E size v n xs) (hg : w.grownBy w' row) (hr : ∀ g, row = some g → ∃ cur fr, w.heap[g]? = some (.cells cur E' fr)) (hE : E ≠ E') : OwnA w' base E size v n xs :=
  h.kept hg (by
    cases hv : rowOf v with
    | none => exact .inl rfl
    | some g =>
      right
      intro e
      obtain ⟨c1, f1, h1⟩ := h.type g hv
      obtain ⟨c2, f2, h2⟩ := hr g e.symm
      rw [h1] at h2
      simp only [Option.some.injEq, Obj.cells.injEq] at h2
      exact hE h2.2.1)
theorem Rws.far {w w' : World} {base N b E size n : Nat} {V : Nat → Value} {X : Nat → List Int} {v : Value} {xs : List Value} (h : Rws w base N V X) (ho : OwnA w b E size v n xs) (hE : 3 ≠ E) (hg : w.grownBy w' (rowOf v)) : Rws w' base N V X :=
  h.keep fun k g hk hv => hg.block g ((h.own k hk).lt g hv).2 (fun e => by
    rcases (h.own k hk).other ho hE with h1 | h1
    · rw [h1] at hv; cases hv
    · exact h1 (hv.trans e))
theorem Rws.alloc {w : World} {base N : Nat} {V : Nat → Value} {X : Nat → List Int} (h : Rws w base N V X) (o : Obj) : Rws (w.alloc o) base N V X := h.below ((Below.refl _ w).alloc (Nat.le_refl _) o) (Nat.le_refl _)
theorem OwnA.cap {w : World} {base E size n : Nat} {ao : Option Addr} {c : Nat} {xs : List Value} (h : OwnA w base E size (.slice ao n c) n xs) : n ≤ c := by
  rcases h.2 with ⟨_, e, e2⟩ | ⟨g', o', cap', cur, fz, e, hc, hb⟩
  · omega
  · simp only [Value.slice.injEq] at e
    obtain ⟨-, -, rfl⟩ := e
    exact hb.hn
set_option maxHeartbeats 8000000 in
set_option maxRecDepth 100000 in
theorem prints4 (w : World) (hb : Base3 w) (s : Sc) (ok : s.Ok) (v : Value) (h : ScV w v s) : Calls Tryd.prog 4 #[v] w (YesP w) := by
  have HV := h
  obtain ⟨_, _, cs0, rfl, ⟨a1, c1, g1, o1, rfl, p1⟩, ⟨b1, d1, k1, q1, rfl, r1⟩, m1⟩ := h
  have hfin := ok_fin ok
  have HM : Aside0 (SW w 9 b1 s.cmds.length d1 k1 q1 cs0 ∧ CmV w cs0 s.cmds ∧ s.Ok) := ⟨r1, m1, ok⟩
  clear p1 r1 m1
  have ccp := fun wq (q : Below w.heap.size w wq) => copied_walk wq s ok _ (HV.below q (Nat.le_refl _))
  have cpr := fun wq (q : Below w.heap.size w wq) => print_walk wq (hb.below q) s ok
  have crp := fun wq (q : Below w.heap.size w wq) => rprint_walk wq (hb.below q) s ok _ (HV.below q (Nat.le_refl _))
  have csm := fun wq (q : Below w.heap.size w wq) v2 => same_walk wq _ v2 s hfin (HV.below q (Nat.le_refl _))
  obtain ⟨st, hst⟩ : ∃ st, B (printL s) = st := ⟨_, rfl⟩
  rw [hst] at cpr crp
  obtain ⟨m, hm⟩ : ∃ m, w.heap.size = m := ⟨_, rfl⟩
  rw [hm] at ccp cpr crp csm
  have HQ : Aside0 (∀ w', Below m w w' → YesP w (.returned (.bool true)) w') := ⟨fun w' h => ⟨rfl, by rw [hm]; exact h⟩⟩
  obtain ⟨Q, hQ⟩ : ∃ Q, YesP w = Q := ⟨_, rfl⟩
  rw [hQ] at HQ ⊢
  obtain ⟨lim, hlim⟩ : ∃ x, s.limit = x := ⟨_, rfl⟩
  obtain ⟨no, hno⟩ : ∃ x, s.over.length = x := ⟨_, rfl⟩
  obtain ⟨nc, hnc⟩ : ∃ x, s.cmds.length = x := ⟨_, rfl⟩
  have hno2 : no ≤ 1000000 := by have := ovsW_len s.over; have := ok.wt; omega
  have hnc2 : nc ≤ 300000 := by have := cmsW_len s.cmds; have := ok.wt; omega
  rw [hno, hnc, hlim] at ccp crp csm
  rw [hno, hnc, hlim]
  rw [hnc] at HM
  have HW0 : Aside0 (w.heap.size ≤ m) := ⟨Nat.le_of_eq hm⟩
  have HL : Aside0 (s.limit = lim ∧ s.over.length = no ∧ s.cmds.length = nc) := ⟨hlim, hno, hnc⟩
  have HX := round_new2 (.cells #[.int .i64 lim, .slice a1 no c1, .slice b1 nc d1] 30) (Below.refl w.heap.size w) (Nat.le_refl _) hm
  rw [hm] at HX
  clear hQ hst hlim hno hnc HV hb ok hfin
  go_enter Tryd.func4, Tryd.ntmps4
  go_upto_region 1 with fail
  generalize w.alloc (.cells #[.int .i64 lim, .slice a1 no c1, .slice b1 nc d1] 30) = W at HX ⊢
  obtain ⟨hz, hbk, hBW, -⟩ := HX W rfl
  clear HX
  have k0 : W.cell? ⟨m, 0, none⟩ = some (.int .i64 lim) := by unfold World.cell?; rw [hbk]; rfl
  have k1' : W.cell? ⟨m, 1, none⟩ = some (.slice a1 no c1) := by unfold World.cell?; rw [hbk]; rfl
  have k2 : W.cell? ⟨m, 2, none⟩ = some (.slice b1 nc d1) := by unfold World.cell?; rw [hbk]; rfl
  have HBW : Aside0 (∀ w', BZ m W w' → Below m w w') := ⟨fun w' h => hBW.trans (h.1.mono (by omega))⟩
  have keepS : ∀ w', BZ m W w' → w'.cell? ⟨m, 0, none⟩ = some (.int .i64 lim) ∧ w'.cell? ⟨m, 1, none⟩ = some (.slice a1 no c1) ∧ w'.cell? ⟨m, 2, none⟩ = some (.slice b1 nc d1) := fun w' h => ⟨h.cell k0 (Nat.le_refl _), h.cell k1' (Nat.le_refl _), h.cell k2 (Nat.le_refl _)⟩
  have KS : Aside0 (∀ w', BZ m W w' → w'.cell? ⟨m, 0, none⟩ = some (.int .i64 lim) ∧ w'.cell? ⟨m, 1, none⟩ = some (.slice a1 no c1) ∧ w'.cell? ⟨m, 2, none⟩ = some (.slice b1 nc d1)) := ⟨keepS⟩
  clear hbk keepS hm
  go_wp2_with fail
  refine (ccp _ hBW).mono ?_
  rintro e w1 ⟨vo, vc, rfl, hsc, hb1⟩
  have hz1 := hb1.size
  rw [hz] at hsc hb1 hz1
  have B1 : BZ m W w1 := ⟨hb1, hz1⟩
  obtain ⟨cs, V, ho, hc, hcx, hrs⟩ := hsc
  obtain ⟨h1a, h1b, h1c⟩ := HL.out
  rw [h1b] at ho
  rw [h1c] at hc hrs
  obtain ⟨ao, co, rfl⟩ := ho.slice
  obtain ⟨ac, cc, rfl⟩ := hc.slice
  have HCX : Aside0 (CmX cs s.cmds V) := ⟨hcx⟩
  have HCN : Aside0 (cs.length = nc * 9) := ⟨by rw [hcx.1, h1c]⟩
  clear ccp hcx k0 k1' k2 hb1 h1a h1b h1c hBW
  obtain ⟨p, hp⟩ : ∃ p, w1.heap.size = p := ⟨_, rfl⟩
  have HX := round_new2 (.cells #[.int .i64 lim, .slice ao no co, .slice ac nc cc] 30) (Below.refl w1.heap.size w1) (Nat.le_refl _) hp
  rw [hp] at HX
  go_upto_region 2 with fail
  generalize w1.alloc (.cells #[.int .i64 lim, .slice ao no co, .slice ac nc cc] 30) = W2 at HX ⊢
  obtain ⟨hz2, hbk2, hb2, -⟩ := HX W2 rfl
  have B2 := B1.next (hp ▸ hb2)
  have ho2 := ho.below hb2 (Nat.le_of_eq hp)
  have hc2 := hc.below hb2 (Nat.le_of_eq hp)
  have hrs2 := hrs.below hb2 (Nat.le_of_eq hp)
  have hmp : m + 1 ≤ p := by have := B1.2; omega
  clear HX ho hc hrs B1 hb2 hp
  -- Over
  have hhd : ∀ wz : World, wz.heap[p]? = some (.cells #[.int .i64 lim, .slice ao no co, .slice ac nc cc] 30 (0, 0)) → wz.cell? ⟨p, 0, none⟩ = some (.int .i64 lim) ∧ wz.cell? ⟨p, 1, none⟩ = some (.slice ao no co) ∧ wz.cell? ⟨p, 2, none⟩ = some (.slice ac nc cc) := fun wz h => by
    refine ⟨?_, ?_, ?_⟩ <;> (unfold World.cell?; rw [h]; rfl)
  have hsv := new_sv W2 [.string ⟨#[]⟩, .int .u64 79] 34 2 rfl
  have HA := round_new2 (.cells #[.string ⟨#[]⟩, .int .u64 79] 34) (Below.refl W2.heap.size W2) (Nat.le_refl _) hz2
  obtain ⟨j0, j1, j2⟩ := hhd W2 hbk2
  rw [hz2] at hsv HA
  have ho3 := ho2.alloc (.cells #[.string ⟨#[]⟩, .int .u64 79] 34)
  have hba : m + 1 ≤ (W2.alloc (.cells #[.string ⟨#[]⟩, .int .u64 79] 34)).heap.size := by rw [alsize]; omega
  have hone : ∀ u ∈ ([.string ⟨#[]⟩, .int .u64 79] : List Value), u.oneCell' = true := by intro u hu; simp at hu; rcases hu with rfl | rfl <;> rfl
  go_upto_region 3 with (at_builtin; refine wpList_append_sv rfl (.tmp 16) (.tmp 18) rfl Tryd.underlying27 info34 rfl (by decide) (m + 1) no (.slice ao no co) (ovC s.over) rfl ho3 _ 1 [.string ⟨#[]⟩, .int .u64 79] rfl hsv hone (by unfold maxLen; omega) (by omega) hba ?_; intro v5 w5 own5 gr5 at5; obtain ⟨a5, c5, rfl⟩ := own5.slice)
  have lt2 := (Array.getElem?_eq_some_iff.1 hbk2).1
  have bk3 : (W2.alloc (.cells #[.string ⟨#[]⟩, .int .u64 79] 34)).heap[p]? = some (.cells #[.int .i64 lim, .slice ao no co, .slice ac nc cc] 30 (0, 0)) := (heap_alloc_old W2 _ lt2).trans hbk2
  have bk5 := (gr5.block p (Array.getElem?_eq_some_iff.1 bk3).1 (Ne.symm (row_ne ho3 bk3 (by decide)))).trans bk3
  have hc5 := far_type (hc2.alloc (.cells #[.string ⟨#[]⟩, .int .u64 79] 34)) gr5 (fun g hg => ho3.type g hg) (by decide)
  have hrs5 := (hrs2.alloc (.cells #[.string ⟨#[]⟩, .int .u64 79] 34)).far ho3 (by decide) gr5
  have B5 : BZ m W w5 := (B2.next ((Below.refl _ W2).alloc (Nat.le_refl _) (.cells #[.string ⟨#[]⟩, .int .u64 79] 34))).grown gr5 fun k hk => (ho3.lt k hk).1
  clear gr5 at5 ho3 hsv HA hba hone j0 j1 j2 B2 ho2 hc2 hrs2 hbk2 bk3 lt2 hz2
  -- Cmds
  obtain ⟨z5, hz5⟩ : ∃ z, w5.heap.size = z := ⟨_, rfl⟩
  have hsv := new_sv w5 endC 37 9 rfl
  obtain ⟨j0, j1, j2⟩ := hhd w5 bk5
  rw [hz5] at hsv
  have hc6 := hc5.alloc (.cells endC.toArray 37)
  have hba : m + 1 ≤ (w5.alloc (.cells endC.toArray 37)).heap.size := by rw [alsize]; have := B5.2; omega
  have hone : ∀ u ∈ endC, u.oneCell' = true := by intro u hu; simp [endC] at hu; rcases hu with rfl | rfl | rfl | rfl | rfl | rfl | rfl | rfl | rfl <;> rfl
  go_upto_region 4 with (at_builtin; refine wpList_append_sv rfl (.tmp 21) (.tmp 23) rfl Tryd.underlying28 info37 rfl (by decide) (m + 1) nc (.slice ac nc cc) cs rfl hc6 _ 1 endC rfl hsv hone (by unfold maxLen; omega) (by omega) hba ?_; intro v7 w7 own7 gr7 at7; obtain ⟨a7, c7, rfl⟩ := own7.slice)
  have lt5 := (Array.getElem?_eq_some_iff.1 bk5).1
  have bk6 : (w5.alloc (.cells endC.toArray 37)).heap[p]? = some (.cells #[.int .i64 lim, .slice ao no co, .slice ac nc cc] 30 (0, 0)) := (heap_alloc_old w5 _ lt5).trans bk5
  have bk7 := (gr7.block p (Array.getElem?_eq_some_iff.1 bk6).1 (Ne.symm (row_ne hc6 bk6 (by decide)))).trans bk6
  have ho7 := far_type (own5.alloc (.cells endC.toArray 37)) gr7 (fun g hg => hc6.type g hg) (by decide)
  have hrs7 := (hrs5.alloc (.cells endC.toArray 37)).far hc6 (by decide) gr7
  have B7 : BZ m W w7 := (B5.next ((Below.refl _ w5).alloc (Nat.le_refl _) (.cells endC.toArray 37))).grown gr7 fun k hk => (hc6.lt k hk).1
  have ca5 := own5.cap
  have ca7 := own7.cap
  clear gr7 at7 hc6 hsv hba hone j0 j1 j2 B5 hc5 hrs5 bk5 bk6 lt5 hz5 own5
  obtain ⟨k0, k1', k2⟩ := KS.out w7 B7
  obtain ⟨j0, j1, j2⟩ := hhd w7 bk7
  have jf1 : w7.frozen? ⟨p, 1, none⟩ = false := by unfold World.frozen?; rw [bk7]; rfl
  have hn1 : no ≤ c5 := by omega
  have hn2 : nc ≤ c7 := by omega
  go_upto_region 5 with fail
  have bk8 : (w7.setCell ⟨p, 1, none⟩ (.slice a5 no c5)).heap[p]? = some (.cells #[.int .i64 lim, .slice a5 no c5, .slice ac nc cc] 30 (0, 0)) := heap_setCell_same w7 p 1 _ 30 _ bk7
  have ho8 := ho7.set (i := 1) (u := .slice a5 no c5) (row_ne ho7 bk7 (by decide))
  have hc8 := own7.set (i := 1) (u := .slice a5 no c5) (row_ne own7 bk7 (by decide))
  have hrs8 := hrs7.set (i := 1) (u := .slice a5 no c5) ⟨_, _, bk7⟩ (by decide)
  have B8 : BZ m W (w7.setCell ⟨p, 1, none⟩ (.slice a5 no c5)) := ⟨below_set B7.1 hmp _, by have := B7.2; simpa using this⟩
  generalize w7.setCell ⟨p, 1, none⟩ (.slice a5 no c5) = w8 at bk8 ho8 hc8 hrs8 B8 ⊢
  clear bk7 ho7 own7 hrs7 B7 k0 k1' k2 j0 j1 j2 jf1 hhd
  obtain ⟨k0, k1', k2⟩ := KS.out w8 B8
  have j2 : w8.cell? ⟨p, 2, none⟩ = some (.slice ac nc cc) := by unfold World.cell?; rw [bk8]; rfl
  have jf2 : w8.frozen? ⟨p, 2, none⟩ = false := by unfold World.frozen?; rw [bk8]; rfl
  go_upto_region 6 with fail
  have J0 : TJ m W lim s.over no nc s.cmds p (.slice a5 (no + 1) c5) (.slice a7 (nc + 1) c7) (.slice none 0 0) 0 0 cs V V (lstX s.cmds) [] (w8.setCell ⟨p, 2, none⟩ (.slice a7 nc c7)) :=
    { head := heap_setCell_same w8 p 2 _ 30 _ bk8
      hp := hmp
      ho := ho8.set (row_ne ho8 bk8 (by decide))
      hc := hc8.set (row_ne hc8 bk8 (by decide))
      cx := HCX.out
      rs := hrs8.set ⟨_, _, bk8⟩ (by decide)
      ux := fun k hk => ⟨fun h => by omega, fun _ => rfl⟩
      xx := fun k hk => by rw [if_neg (by omega)]
      ht := OwnA.bare _ _ _ _ _
      px := ⟨by simp, fun k hk => by simp at hk⟩
      bz := ⟨below_set B8.1 hmp _, by have := B8.2; simpa using this⟩ }
  generalize w8.setCell ⟨p, 2, none⟩ (.slice a7 nc c7) = w9 at J0 ⊢
  clear bk8 ho8 hc8 hrs8 B8 k0 k1' k2 j2 jf2
  obtain ⟨k0, k1', k2⟩ := KS.out w9 J0.bz
  have hP0 : PrI m W lim s.over no nc s.cmds p (.slice a5 (no + 1) c5) (.slice a7 (nc + 1) c7) 0 (.slice none 0 0) w9 := ⟨_, _, _, _, _, rfl, J0⟩
  clear J0
  go_wp2
  go_loopg [6, 40] nc (fun q v6 v40 wr => ∃ (i : Nat) (v : Value), v40 = .int .i64 i ∧ i + q = nc ∧ v = v6 ∧ PrI m W lim s.over no nc s.cmds p (.slice a5 (no + 1) c5) (.slice a7 (nc + 1) c7) i v wr)
  case atStart => exact ⟨0, _, rfl, by omega, rfl, hP0⟩
  case round =>
    clear hP0 k0 k1' k2
    obtain ⟨i, v6, rfl, hiq, rfl, cs1, U, V1, X, ps, hps, J⟩ := hrel
    by_cases hi : i < nc
    · obtain ⟨q, rfl⟩ : ∃ q, gk = q + 1 := ⟨gk - 1, by omega⟩
      have hil : (i : Int) < (nc : Int) := by omega
      obtain ⟨hsw, hcm, okk⟩ := HM.out
      have hBw := HBW.out _ J.bz
      obtain ⟨x, hx⟩ : ∃ x, s.cmds[i]? = some x := ⟨_, List.getElem?_eq_getElem (by rw [HL.out.2.2]; exact hi)⟩
      obtain ⟨vf, vh, u1, u2, e1⟩ := hcm i x hx
      have hcs := (hsw.below hBw HW0.out).cells
      obtain rfl : b1 = some ⟨k1, q1, none⟩ := by rcases hsw.lead with h | h; omega; exact h
      obtain ⟨af, cf, gf, of', rfl, -⟩ := u1
      obtain ⟨ah, ch, gh, oh, rfl, -⟩ := u2
      have fit := okk.cm x (List.mem_of_getElem? hx)
      have hfl := fit.fl
      have hhl := fit.hl
      have HXX : Aside0 (s.cmds[i]? = some x ∧ lstX s.cmds (2 * i) = x.fields ∧ lstX s.cmds (2 * i + 1) = x.hs) := ⟨hx, lstX_f hx, lstX_h hx⟩
      clear hx hsw hcm okk fit hBw
      have z0 := hcs _ _ ((e1 0 (by omega)).trans rfl)
      have z1 := hcs _ _ ((e1 1 (by omega)).trans rfl)
      have z2 := hcs _ _ ((e1 2 (by omega)).trans rfl)
      have z3 := hcs _ _ ((e1 3 (by omega)).trans rfl)
      have z4 := hcs _ _ ((e1 4 (by omega)).trans rfl)
      have z5 := hcs _ _ ((e1 5 (by omega)).trans rfl)
      have z6 := hcs _ _ ((e1 6 (by omega)).trans rfl)
      have z7 := hcs _ _ ((e1 7 (by omega)).trans rfl)
      have z8 := hcs _ _ ((e1 8 (by omega)).trans rfl)
      simp only [← Nat.add_assoc, Nat.add_zero] at z0 z1 z2 z3 z4 z5 z6 z7 z8
      clear hcs e1
      obtain ⟨gc, oc, cap, e, hcap⟩ := J.vcf
      simp only [Value.slice.injEq, true_and] at e
      obtain ⟨rfl, rfl⟩ := e
      obtain ⟨k0, k1', k2⟩ := KS.out wr J.bz
      obtain ⟨nf, hnf⟩ : ∃ y, x.fields.length = y := ⟨_, rfl⟩
      obtain ⟨nh, hnh⟩ : ∃ y, x.hs.length = y := ⟨_, rfl⟩
      obtain ⟨lf, hlf⟩ : ∃ y, x.fields = y := ⟨_, rfl⟩
      obtain ⟨lh, hlh⟩ : ∃ y, x.hs = y := ⟨_, rfl⟩
      have HXY : Aside0 (s.cmds[i]? = some x ∧ lstX s.cmds (2 * i) = lf ∧ lstX s.cmds (2 * i + 1) = lh ∧ lf.length = nf ∧ lh.length = nh) := ⟨HXX.out.1, HXX.out.2.1.trans hlf, HXX.out.2.2.trans hlh, by rw [← hlf]; exact hnf, by rw [← hlh]; exact hnh⟩
      rw [hnf] at z2 hfl
      rw [hnh] at z3 hhl
      clear HXX hlf hlh hnf hnh
      obtain ⟨op, h, fields, hs, u, v, n, key, elem⟩ := x
      dsimp only at z0 z1 z2 z3 z4 z5 z6 z7 z8
      obtain ⟨kb, hkb⟩ : ∃ y, B key = y := ⟨_, rfl⟩
      obtain ⟨eb, heb⟩ : ∃ y, B elem = y := ⟨_, rfl⟩
      rw [hkb] at z7
      rw [heb] at z8
      clear hkb heb
      obtain ⟨g8, hg8⟩ : ∃ p, wr.heap.size = p := ⟨_, rfl⟩
      have HX := round_new2 (.cells #[.int .i64 op, .int .i64 h, .slice af nf cf, .slice ah nh ch, .int .u64 (u : Int), .int .u64 (v : Int), .int .i64 n, .string kb, .string eb] 37) (Below.refl wr.heap.size wr) (Nat.le_refl _) hg8
      rw [hg8] at HX
      go_upto_region 10 with fail
      generalize wr.alloc (.cells #[.int .i64 op, .int .i64 h, .slice af nf cf, .slice ah nh ch, .int .u64 (u : Int), .int .u64 (v : Int), .int .i64 n, .string kb, .string eb] 37) = wa at HX ⊢
      obtain ⟨hza, hbk, hBr, -⟩ := HX wa rfl
      have Ja := J.next (hg8 ▸ hBr)
      have hgc : gc < g8 := by have := (J.hc.lt gc (rowOf_pos _ _ _ (by omega))).2; omega
      clear HX hBr J z0 z1 z2 z3 z4 z5 z6 z7 z8
      have j2 : wa.cell? ⟨p, 2, none⟩ = some (.slice (some ⟨gc, oc, none⟩) nc c7) := by unfold World.cell?; rw [Ja.head]; rfl
      have hXk : X (2 * i) = lf := by rw [Ja.xx _ (by omega), if_neg (by omega)]; exact HXY.out.2.1
      have own := Ja.rs.own (2 * i) (by omega)
      rw [hXk, HXY.out.2.2.2.1] at own
      obtain ⟨aV, cV, hV⟩ := own.slice
      obtain ⟨zc, -⟩ := Ja.cell HL.out.2.2 HXY.out.1 (d := 2) (u := U (2 * i)) (by omega) rfl
      rw [(Ja.ux (2 * i) (by omega)).2 (Nat.le_refl _), hV] at zc
      rw [hV] at own
      have ownA := own.alloc (.cells #[.int .i64 77] 3)
      have hsv := new_sv wa [.int .i64 77] 3 1 rfl
      rw [hza] at hsv
      have hba : m + 1 ≤ (wa.alloc (.cells #[.int .i64 77] 3)).heap.size := by rw [alsize]; have := Ja.bz.2; omega
      have hone : ∀ y ∈ ([.int .i64 77] : List Value), y.oneCell' = true := by intro y hy; simp at hy; subst hy; rfl
      go_upto_region 11 with (at_builtin; refine wpList_append_sv rfl (.tmp 50) (.tmp 51) rfl Tryd.underlying35 info3 rfl (by decide) (m + 1) nf (.slice aV nf cV) (iv lf) rfl ownA _ 1 [.int .i64 77] rfl hsv hone (by unfold maxLen; omega) (by omega) hba ?_; intro v9 wb own9 gr9 at9; obtain ⟨ab, cb, rfl⟩ := own9.slice)
      have Jb := (Ja.next ((Below.refl _ wa).alloc (Nat.le_refl _) (.cells #[.int .i64 77] 3))).list (k := 2 * i) (v := .slice ab (nf + 1) cb) (by omega) (by omega) (by rw [hV]; exact gr9) (by rw [HXY.out.2.1, HXY.out.2.2.2.1]; exact own9) (by rw [hV]; exact at9)
      have bkN : (wa.alloc (.cells #[.int .i64 77] 3)).heap[g8]? = some (.cells #[.int .i64 op, .int .i64 h, .slice af nf cf, .slice ah nh ch, .int .u64 (u : Int), .int .u64 (v : Int), .int .i64 n, .string kb, .string eb] 37 (0, 0)) := (heap_alloc_old wa _ (Array.getElem?_eq_some_iff.1 hbk).1).trans hbk
      have hbk := (gr9.block g8 (Array.getElem?_eq_some_iff.1 bkN).1 (Ne.symm (row_ne ownA bkN (by decide)))).trans bkN
      have ca9ab := own9.cap
      clear gr9 at9 own ownA hsv hba hone zc j2 bkN Ja hXk hV own9 hza
      have hVb : upd V1 (2 * i) (.slice ab (nf + 1) cb) (2 * i) = .slice ab (nf + 1) cb := upd_same _ _ _
      generalize upd V1 (2 * i) (.slice ab (nf + 1) cb) = V2 at Jb hVb
      generalize upd X (2 * i) (lstX s.cmds (2 * i) ++ [77]) = X2 at Jb
      have j2 : wb.cell? ⟨p, 2, none⟩ = some (.slice (some ⟨gc, oc, none⟩) nc c7) := by unfold World.cell?; rw [Jb.head]; rfl
      have hXk : X2 (2 * i + 1) = lh := by rw [Jb.xx _ (by omega), if_neg (by omega)]; exact HXY.out.2.2.1
      have own := Jb.rs.own (2 * i + 1) (by omega)
      rw [hXk, HXY.out.2.2.2.2] at own
      obtain ⟨aV, cV, hV⟩ := own.slice
      obtain ⟨zc, -⟩ := Jb.cell HL.out.2.2 HXY.out.1 (d := 3) (u := U (2 * i + 1)) (by omega) rfl
      rw [(Jb.ux (2 * i + 1) (by omega)).2 (Nat.le_refl _), hV] at zc
      rw [hV] at own
      have ownA := own.alloc (.cells #[.int .i64 77] 3)
      have hsv := new_sv wb [.int .i64 77] 3 1 rfl
      obtain ⟨zn, hzn⟩ : ∃ z, wb.heap.size = z := ⟨_, rfl⟩
      rw [hzn] at hsv
      have hba : m + 1 ≤ (wb.alloc (.cells #[.int .i64 77] 3)).heap.size := by rw [alsize]; have := Jb.bz.2; omega
      have hone : ∀ y ∈ ([.int .i64 77] : List Value), y.oneCell' = true := by intro y hy; simp at hy; subst hy; rfl
      go_upto_region 12 with (at_builtin; refine wpList_append_sv rfl (.tmp 58) (.tmp 59) rfl Tryd.underlying35 info3 rfl (by decide) (m + 1) nh (.slice aV nh cV) (iv lh) rfl ownA _ 1 [.int .i64 77] rfl hsv hone (by unfold maxLen; omega) (by omega) hba ?_; intro v9 wc own9 gr9 at9; obtain ⟨ae, ce, rfl⟩ := own9.slice)
      have Jc := (Jb.next ((Below.refl _ wb).alloc (Nat.le_refl _) (.cells #[.int .i64 77] 3))).list (k := 2 * i + 1) (v := .slice ae (nh + 1) ce) (by omega) (by omega) (by rw [hV]; exact gr9) (by rw [HXY.out.2.2.1, HXY.out.2.2.2.2]; exact own9) (by rw [hV]; exact at9)
      have bkN : (wb.alloc (.cells #[.int .i64 77] 3)).heap[g8]? = some (.cells #[.int .i64 op, .int .i64 h, .slice af nf cf, .slice ah nh ch, .int .u64 (u : Int), .int .u64 (v : Int), .int .i64 n, .string kb, .string eb] 37 (0, 0)) := (heap_alloc_old wb _ (Array.getElem?_eq_some_iff.1 hbk).1).trans hbk
      have hbk := (gr9.block g8 (Array.getElem?_eq_some_iff.1 bkN).1 (Ne.symm (row_ne ownA bkN (by decide)))).trans bkN
      have ca9ae := own9.cap
      clear gr9 at9 own ownA hsv hba hone zc j2 bkN Jb hXk hV hzn own9
      have hVc : upd V2 (2 * i + 1) (.slice ae (nh + 1) ce) (2 * i) = .slice ab (nf + 1) cb := by rw [upd_other _ _ (by omega)]; exact hVb
      have hVd : upd V2 (2 * i + 1) (.slice ae (nh + 1) ce) (2 * i + 1) = .slice ae (nh + 1) ce := upd_same _ _ _
      generalize upd V2 (2 * i + 1) (.slice ae (nh + 1) ce) = V3 at Jc hVc hVd
      generalize upd X2 (2 * i + 1) (lstX s.cmds (2 * i + 1) ++ [77]) = X3 at Jc
      clear hVb
      have ow1 := Jc.rs.own (2 * i) (by omega)
      have ow2 := Jc.rs.own (2 * i + 1) (by omega)
      have hx1 : X3 (2 * i) = lf ++ [77] := by rw [Jc.xx _ (by omega), if_pos (by omega), HXY.out.2.1]
      have hx2 : X3 (2 * i + 1) = lh ++ [77] := by rw [Jc.xx _ (by omega), if_pos (by omega), HXY.out.2.2.1]
      rw [hVc, hx1, List.length_append, HXY.out.2.2.2.1] at ow1
      rw [hVd, hx2, List.length_append, HXY.out.2.2.2.2] at ow2
      obtain ⟨g5, o5, rfl, -⟩ := own_some (n := nf) ow1
      obtain ⟨g6, o6, rfl, -⟩ := own_some (n := nh) ow2
      clear ow1 ow2 hx1 hx2
      have HV3 : Aside0 (V3 (2 * i) = .slice (some ⟨g5, o5, none⟩) (nf + 1) cb ∧ V3 (2 * i + 1) = .slice (some ⟨g6, o6, none⟩) (nh + 1) ce) := ⟨hVc, hVd⟩
      clear hVc hVd
      have keep8 : ∀ w' : World, w'.heap[g8]? = some (.cells #[.int .i64 op, .int .i64 h, .slice af nf cf, .slice ah nh ch, .int .u64 (u : Int), .int .u64 (v : Int), .int .i64 n, .string kb, .string eb] 37 (0, 0)) → w'.cell? ⟨g8, 2, none⟩ = some (.slice af nf cf) ∧ w'.cell? ⟨g8, 3, none⟩ = some (.slice ah nh ch) := fun w' h => by
        refine ⟨?_, ?_⟩ <;> (unfold World.cell?; rw [h]; rfl)
      have J0 := Jc.next (Below.refl _ wc).drew
      have hbk0 : wc.drew.heap[g8]? = some (.cells #[.int .i64 op, .int .i64 h, .slice af nf cf, .slice ah nh ch, .int .u64 (u : Int), .int .u64 (v : Int), .int .i64 n, .string kb, .string eb] 37 (0, 0)) := hbk
      have hn5 : (nf : Int) < (nf : Int) + 1 := by omega
      have hn6 : (nh : Int) < (nh : Int) + 1 := by omega
      clear Jc hbk
      refine wp_region_L (fun _ => True) (fun w' => w'.cell? ⟨g8, 2, none⟩ = some (.slice af nf cf) ∧ w'.cell? ⟨g8, 3, none⟩ = some (.slice ah nh ch)) 13 (by kernel_rfl) trivial (keep8 _ hbk0) (fun hsh hS => ?_)
      generalize wc.drew = w0 at *
      refine anyL_take1 20 (i := 0) (v := ?_) rfl (by kernel_rfl) (by kernel_rfl) (by kernel_rfl) (by decide) (by kernel_rfl) hsh (fun _ _ _ h => h) (Or.inl ⟨by rfl, ?_⟩) hS ?_
      rotate_left 1
      · (intro wS hSw; (try dsimp only at hSw); first | (go_simp; done) | (go_simp; with_reducible rfl))
      intro hsh1 hS1; clear hsh hS; have hsh := hsh1; have hS := hS1; clear hsh1 hS1
      simp only [Act.put, List.setIfInBounds_toArray, List.set_cons_zero, List.set_cons_succ]
      refine anyL_take1 20 (i := 1) (v := ?_) rfl (by kernel_rfl) (by kernel_rfl) (by kernel_rfl) (by decide) (by kernel_rfl) hsh (fun _ _ _ h => h) (Or.inl ⟨by rfl, ?_⟩) hS ?_
      rotate_left 1
      · (intro wS hSw; (try dsimp only at hSw); first | (go_simp; done) | (go_simp; with_reducible rfl))
      intro hsh1 hS1; clear hsh hS; have hsh := hsh1; have hS := hS1; clear hsh1 hS1
      simp only [Act.put, List.setIfInBounds_toArray, List.set_cons_zero, List.set_cons_succ]
      refine anyL_take1 20 (i := 2) (v := ?_) rfl (by kernel_rfl) (by kernel_rfl) (by kernel_rfl) (by decide) (by kernel_rfl) hsh (fun _ _ _ h => h) (Or.inl ⟨by rfl, ?_⟩) hS ?_
      rotate_left 1
      · (intro wS hSw; (try dsimp only at hSw); first | (go_simp; done) | (go_simp; with_reducible rfl))
      intro hsh1 hS1; clear hsh hS; have hsh := hsh1; have hS := hS1; clear hsh1 hS1
      simp only [Act.put, List.setIfInBounds_toArray, List.set_cons_zero, List.set_cons_succ]
      refine anyL_take1 20 (i := 3) (v := ?_) rfl (by kernel_rfl) (by kernel_rfl) (by kernel_rfl) (by decide) (by kernel_rfl) hsh (fun _ _ _ h => h) (Or.inl ⟨by rfl, ?_⟩) hS ?_
      rotate_left 1
      · (intro wS hSw; (try dsimp only at hSw); first | (go_simp; done) | (go_simp; with_reducible rfl))
      intro hsh1 hS1; clear hsh hS; have hsh := hsh1; have hS := hS1; clear hsh1 hS1
      simp only [Act.put, List.setIfInBounds_toArray, List.set_cons_zero, List.set_cons_succ]
      refine anyL_take1 20 (i := 4) (v := ?_) rfl (by kernel_rfl) (by kernel_rfl) (by kernel_rfl) (by decide) (by kernel_rfl) hsh (fun _ _ _ h => h) (Or.inl ⟨by rfl, ?_⟩) hS ?_
      rotate_left 1
      · (intro wS hSw; (try dsimp only at hSw); first | (go_simp; done) | (go_simp; with_reducible rfl))
      intro hsh1 hS1; clear hsh hS; have hsh := hsh1; have hS := hS1; clear hsh1 hS1
      simp only [Act.put, List.setIfInBounds_toArray, List.set_cons_zero, List.set_cons_succ]
      refine anyL_take1 20 (i := 5) (v := ?_) rfl (by kernel_rfl) (by kernel_rfl) (by kernel_rfl) (by decide) (by kernel_rfl) hsh (fun _ _ _ h => h) (Or.inl ⟨by rfl, ?_⟩) hS ?_
      rotate_left 1
      · (intro wS hSw; (try dsimp only at hSw); first | (go_simp; done) | (go_simp; with_reducible rfl))
      intro hsh1 hS1; clear hsh hS; have hsh := hsh1; have hS := hS1; clear hsh1 hS1
      simp only [Act.put, List.setIfInBounds_toArray, List.set_cons_zero, List.set_cons_succ]
      refine anyL_take1 20 (i := 6) (v := ?_) rfl (by kernel_rfl) (by kernel_rfl) (by kernel_rfl) (by decide) (by kernel_rfl) hsh (fun _ _ _ h => h) (Or.inl ⟨by rfl, ?_⟩) hS ?_
      rotate_left 1
      · (intro wS hSw; (try dsimp only at hSw); first | (go_simp; done) | (go_simp; with_reducible rfl))
      intro hsh1 hS1; clear hsh hS; have hsh := hsh1; have hS := hS1; clear hsh1 hS1
      simp only [Act.put, List.setIfInBounds_toArray, List.set_cons_zero, List.set_cons_succ]
      refine anyL_take1 20 (i := 7) (v := ?_) rfl (by kernel_rfl) (by kernel_rfl) (by kernel_rfl) (by decide) (by kernel_rfl) hsh (fun _ _ _ h => h) (Or.inl ⟨by rfl, ?_⟩) hS ?_
      rotate_left 1
      · (intro wS hSw; (try dsimp only at hSw); first | (go_simp; done) | (go_simp; with_reducible rfl))
      intro hsh1 hS1; clear hsh hS; have hsh := hsh1; have hS := hS1; clear hsh1 hS1
      simp only [Act.put, List.setIfInBounds_toArray, List.set_cons_zero, List.set_cons_succ]
      refine anyL_take1 20 (i := 8) (v := ?_) rfl (by kernel_rfl) (by kernel_rfl) (by kernel_rfl) (by decide) (by kernel_rfl) hsh (fun _ _ _ h => h) (Or.inl ⟨by rfl, ?_⟩) hS ?_
      rotate_left 1
      · (intro wS hSw; (try dsimp only at hSw); first | (go_simp; done) | (go_simp; with_reducible rfl))
      intro hsh1 hS1; clear hsh hS; have hsh := hsh1; have hS := hS1; clear hsh1 hS1
      simp only [Act.put, List.setIfInBounds_toArray, List.set_cons_zero, List.set_cons_succ]
      refine anyL_take1 20 (i := 9) (v := ?_) rfl (by kernel_rfl) (by kernel_rfl) (by kernel_rfl) (by decide) (by kernel_rfl) hsh (fun _ _ _ h => h) (Or.inl ⟨by rfl, ?_⟩) hS ?_
      rotate_left 1
      · (intro wS hSw; (try dsimp only at hSw); first | (go_simp; done) | (go_simp; with_reducible rfl))
      intro hsh1 hS1; clear hsh hS; have hsh := hsh1; have hS := hS1; clear hsh1 hS1
      simp only [Act.put, List.setIfInBounds_toArray, List.set_cons_zero, List.set_cons_succ]
      refine anyL_take1 20 (i := 10) (v := ?_) rfl (by kernel_rfl) (by kernel_rfl) (by kernel_rfl) (by decide) (by kernel_rfl) hsh (fun _ _ _ h => h) (Or.inl ⟨by rfl, ?_⟩) hS ?_
      rotate_left 1
      · (intro wS hSw; (try dsimp only at hSw); first | (go_simp; done) | (go_simp; with_reducible rfl))
      intro hsh1 hS1; clear hsh hS; have hsh := hsh1; have hS := hS1; clear hsh1 hS1
      simp only [Act.put, List.setIfInBounds_toArray, List.set_cons_zero, List.set_cons_succ]
      refine anyL_one (i := 11) (by kernel_rfl) rfl hsh (fun K hK => ?_)
      have hst := round_new2 (.cells #[.pointer (some ⟨g5, o5 + nf, none⟩), .pointer (some ⟨g6, o6 + nh, none⟩)] 39) (Below.refl w0.heap.size w0) (Nat.le_refl _) rfl
      have hsv := new_sv2 w0 (.pointer (some ⟨g5, o5 + nf, none⟩)) (.pointer (some ⟨g6, o6 + nh, none⟩)) 39
      go_simp
      generalize w0.alloc (.cells #[.pointer (some ⟨g5, o5 + nf, none⟩), .pointer (some ⟨g6, o6 + nh, none⟩)] 39) = w1 at hst hsv ⊢
      obtain ⟨hz1, -, hbel, -⟩ := hst w1 rfl
      clear hst
      have J1 := J0.next hbel
      have hbk1 := (hbel.block g8 (Array.getElem?_eq_some_iff.1 hbk0).1).trans hbk0
      clear hbel J0 hbk0
      refine hK.out _ _ ⟨trivial, fun _ => keep8 _ hbk1⟩ (fun hsh1 hS1 => ?_)
      clear hsh hS hK K; have hsh := hsh1; have hS := hS1; clear hsh1 hS1
      have hone : ∀ y ∈ ([.pointer (some ⟨g5, o5 + nf, none⟩), .pointer (some ⟨g6, o6 + nh, none⟩)] : List Value), y.oneCell' = true := by intro y hy; simp at hy; rcases hy with rfl | rfl <;> rfl
      have ownT := J1.ht
      refine anyL_one (i := 12) (by kernel_rfl) rfl hsh (fun K hK => ?_)
      refine step_append_sv (w := w1) (by rfl) (.tmp 61) (.tmp 72) (by rfl) Tryd.underlying38 info39 rfl (by decide) (m + 1) ps.length _ ps (by rfl) ownT _ 2 [.pointer (some ⟨g5, o5 + nf, none⟩), .pointer (some ⟨g6, o6 + nh, none⟩)] (by rfl) hsv hone (by unfold maxLen; omega) (by omega) J1.bz.2 ?_
      intro v12 w2 own12 gr12 at12
      obtain ⟨a12, c12, rfl⟩ := own12.slice
      have J2 := J1.tail gr12 (qs := [.pointer (some ⟨g5, o5 + nf, none⟩), .pointer (some ⟨g6, o6 + nh, none⟩)]) (by rw [List.length_append]; exact own12) (by rw [hps]; simp) (fun j hj => by
        rw [hps]
        match j, hj with
        | 0, _ => rw [Nat.add_zero, HV3.out.1, HXY.out.2.1, HXY.out.2.2.2.1]; rfl
        | 1, _ => rw [HV3.out.2, HXY.out.2.2.1, HXY.out.2.2.2.2]; rfl)
      have hbk2 := (gr12.block g8 (Array.getElem?_eq_some_iff.1 hbk1).1 (Ne.symm (row_ne ownT hbk1 (by decide)))).trans hbk1
      clear gr12 at12 own12 ownT hsv hone J1 hbk1
      refine hK.out _ _ ⟨trivial, fun _ => keep8 _ hbk2⟩ (fun hsh1 hS1 => ?_)
      clear hsh hS hK K; have hsh := hsh1; have hS := hS1; clear hsh1 hS1
      refine anyL_one (i := 13) (by kernel_rfl) rfl hsh (fun K hK => ?_)
      go_simp
      refine hK.out _ _ ⟨trivial, fun h => absurd h (by decide)⟩ (fun hsh1 hS1 => ?_)
      clear hsh hS hK K; have hsh := hsh1; have hS := hS1; clear hsh1 hS1
      refine anyL_done (by kernel_rfl) ?_ _
      clear hsh hS
      go_upto_region 13 with fail
      have J0 := J2.next (Below.refl _ _).drew
      have hbk0 : (World.drew w2).heap[g8]? = some (.cells #[.int .i64 op, .int .i64 h, .slice af nf cf, .slice ah nh ch, .int .u64 (u : Int), .int .u64 (v : Int), .int .i64 n, .string kb, .string eb] 37 (0, 0)) := hbk2
      clear J2 hbk2
      have hkc : nf ≤ cb := by omega
      have hjp : (World.drew w2).cell? ⟨p, 2, none⟩ = some (.slice (some ⟨gc, oc, none⟩) nc c7) := by unfold World.cell?; rw [J0.head]; rfl
      refine wp_region_L (fun _ => True) (fun w' => w'.cell? ⟨p, 2, none⟩ = some (.slice (some ⟨gc, oc, none⟩) nc c7) ∧ w'.cell? ⟨g8, 2, none⟩ = some (.slice af nf cf)) 10 (by kernel_rfl) trivial ⟨hjp, (keep8 _ hbk0).1⟩ (fun hsh hS => ?_)
      generalize World.drew w2 = w0 at *
      refine anyL_take1 20 (i := 0) (v := ?_) rfl (by kernel_rfl) (by kernel_rfl) (by kernel_rfl) (by decide) (by kernel_rfl) hsh (fun _ _ _ h => h) (Or.inl ⟨by rfl, ?_⟩) hS ?_
      rotate_left 1
      · (intro wS hSw; (try dsimp only at hSw); first | (go_simp; done) | (go_simp; with_reducible rfl))
      intro hsh1 hS1; clear hsh hS; have hsh := hsh1; have hS := hS1; clear hsh1 hS1
      simp only [Act.put, List.setIfInBounds_toArray, List.set_cons_zero, List.set_cons_succ]
      refine anyL_take1 20 (i := 1) (v := ?_) rfl (by kernel_rfl) (by kernel_rfl) (by kernel_rfl) (by decide) (by kernel_rfl) hsh (fun _ _ _ h => h) (Or.inl ⟨by rfl, ?_⟩) hS ?_
      rotate_left 1
      · (intro wS hSw; (try dsimp only at hSw); first | (go_simp; done) | (go_simp; with_reducible rfl))
      intro hsh1 hS1; clear hsh hS; have hsh := hsh1; have hS := hS1; clear hsh1 hS1
      simp only [Act.put, List.setIfInBounds_toArray, List.set_cons_zero, List.set_cons_succ]
      refine anyL_take1 20 (i := 2) (v := ?_) rfl (by kernel_rfl) (by kernel_rfl) (by kernel_rfl) (by decide) (by kernel_rfl) hsh (fun _ _ _ h => h) (Or.inl ⟨by rfl, ?_⟩) hS ?_
      rotate_left 1
      · (intro wS hSw; (try dsimp only at hSw); first | (go_simp; done) | (go_simp; with_reducible rfl))
      intro hsh1 hS1; clear hsh hS; have hsh := hsh1; have hS := hS1; clear hsh1 hS1
      simp only [Act.put, List.setIfInBounds_toArray, List.set_cons_zero, List.set_cons_succ]
      refine anyL_take1 20 (i := 3) (v := ?_) rfl (by kernel_rfl) (by kernel_rfl) (by kernel_rfl) (by decide) (by kernel_rfl) hsh (fun _ _ _ h => h) (Or.inl ⟨by rfl, ?_⟩) hS ?_
      rotate_left 1
      · (intro wS hSw; (try dsimp only at hSw); first | (go_simp; done) | (go_simp; with_reducible rfl))
      intro hsh1 hS1; clear hsh hS; have hsh := hsh1; have hS := hS1; clear hsh1 hS1
      simp only [Act.put, List.setIfInBounds_toArray, List.set_cons_zero, List.set_cons_succ]
      refine anyL_take1 20 (i := 4) (v := ?_) rfl (by kernel_rfl) (by kernel_rfl) (by kernel_rfl) (by decide) (by kernel_rfl) hsh (fun _ _ _ h => h) (Or.inl ⟨by rfl, ?_⟩) hS ?_
      rotate_left 1
      · (intro wS hSw; (try dsimp only at hSw); first | (go_simp; done) | (go_simp; with_reducible rfl))
      intro hsh1 hS1; clear hsh hS; have hsh := hsh1; have hS := hS1; clear hsh1 hS1
      simp only [Act.put, List.setIfInBounds_toArray, List.set_cons_zero, List.set_cons_succ]
      refine anyL_take1 20 (i := 5) (v := ?_) rfl (by kernel_rfl) (by kernel_rfl) (by kernel_rfl) (by decide) (by kernel_rfl) hsh (fun _ _ _ h => h) (Or.inl ⟨by rfl, ?_⟩) hS ?_
      rotate_left 1
      · (intro wS hSw; (try dsimp only at hSw); first | (go_simp; done) | (go_simp; with_reducible rfl))
      intro hsh1 hS1; clear hsh hS; have hsh := hsh1; have hS := hS1; clear hsh1 hS1
      simp only [Act.put, List.setIfInBounds_toArray, List.set_cons_zero, List.set_cons_succ]
      refine anyL_take1 20 (i := 6) (v := ?_) rfl (by kernel_rfl) (by kernel_rfl) (by kernel_rfl) (by decide) (by kernel_rfl) hsh (fun _ _ _ h => h) (Or.inl ⟨by rfl, ?_⟩) hS ?_
      rotate_left 1
      · (intro wS hSw; (try dsimp only at hSw); first | (go_simp; done) | (go_simp; with_reducible rfl))
      intro hsh1 hS1; clear hsh hS; have hsh := hsh1; have hS := hS1; clear hsh1 hS1
      simp only [Act.put, List.setIfInBounds_toArray, List.set_cons_zero, List.set_cons_succ]
      refine anyL_take1 20 (i := 7) (v := ?_) rfl (by kernel_rfl) (by kernel_rfl) (by kernel_rfl) (by decide) (by kernel_rfl) hsh (fun _ _ _ h => h) (Or.inl ⟨by rfl, ?_⟩) hS ?_
      rotate_left 1
      · (intro wS hSw; (try dsimp only at hSw); first | (go_simp; done) | (go_simp; with_reducible rfl))
      intro hsh1 hS1; clear hsh hS; have hsh := hsh1; have hS := hS1; clear hsh1 hS1
      simp only [Act.put, List.setIfInBounds_toArray, List.set_cons_zero, List.set_cons_succ]
      refine anyL_take1 20 (i := 8) (v := ?_) rfl (by kernel_rfl) (by kernel_rfl) (by kernel_rfl) (by decide) (by kernel_rfl) hsh (fun _ _ _ h => h) (Or.inl ⟨by rfl, ?_⟩) hS ?_
      rotate_left 1
      · (intro wS hSw; (try dsimp only at hSw); first | (go_simp; done) | (go_simp; with_reducible rfl))
      intro hsh1 hS1; clear hsh hS; have hsh := hsh1; have hS := hS1; clear hsh1 hS1
      simp only [Act.put, List.setIfInBounds_toArray, List.set_cons_zero, List.set_cons_succ]
      refine anyL_take1 20 (i := 9) (v := ?_) rfl (by kernel_rfl) (by kernel_rfl) (by kernel_rfl) (by decide) (by kernel_rfl) hsh (fun _ _ _ h => h) (Or.inl ⟨by rfl, ?_⟩) hS ?_
      rotate_left 1
      · (intro wS hSw; (try dsimp only at hSw); first | (go_simp; done) | (go_simp; with_reducible rfl))
      intro hsh1 hS1; clear hsh hS; have hsh := hsh1; have hS := hS1; clear hsh1 hS1
      simp only [Act.put, List.setIfInBounds_toArray, List.set_cons_zero, List.set_cons_succ]
      obtain ⟨hu0, hf0⟩ := J0.cell HL.out.2.2 HXY.out.1 (d := 2) (by omega) rfl
      have JP := TJ.cut (i := i) false (by rw [if_neg (by decide), Nat.add_zero]; exact J0) HL.out.2.2 hi (by simp <;> omega)
      simp only [if_true, Bool.false_eq_true, if_false, Nat.add_zero] at JP
      rw [HV3.out.1] at JP
      simp only [cutV, Nat.add_sub_cancel] at JP
      have hbk3 := (heap_setCell_other w0 ⟨gc, oc + i * 9 + 2, none⟩ g8 (.slice (some ⟨g5, o5, none⟩) nf cb) (by show g8 ≠ gc; omega)).trans hbk0
      refine anyL_one (i := 10) (by kernel_rfl) rfl hsh (fun K hK => ?_)
      go_simp
      refine hK.out _ _ ⟨trivial, fun h => absurd h (by decide)⟩ (fun hsh1 hS1 => ?_)
      clear hsh hS hK K; have hsh := hsh1; have hS := hS1; clear hsh1 hS1
      refine anyL_done (by kernel_rfl) ?_ _
      have JF := JP
      clear JP J0 hbk0 hu0 hf0 hsh hS hjp hkc
      go_upto_region 14 with fail
      have J0 := JF.next (Below.refl _ _).drew
      have hbk0 : (World.drew (w0.setCell ⟨gc, oc + i * 9 + 2, none⟩ (.slice (some ⟨g5, o5, none⟩) nf cb))).heap[g8]? = some (.cells #[.int .i64 op, .int .i64 h, .slice af nf cf, .slice ah nh ch, .int .u64 (u : Int), .int .u64 (v : Int), .int .i64 n, .string kb, .string eb] 37 (0, 0)) := hbk3
      clear JF hbk3
      have hkc : nh ≤ ce := by omega
      have hjp : (World.drew (w0.setCell ⟨gc, oc + i * 9 + 2, none⟩ (.slice (some ⟨g5, o5, none⟩) nf cb))).cell? ⟨p, 2, none⟩ = some (.slice (some ⟨gc, oc, none⟩) nc c7) := by unfold World.cell?; rw [J0.head]; rfl
      refine wp_region_L (fun _ => True) (fun w' => w'.cell? ⟨p, 2, none⟩ = some (.slice (some ⟨gc, oc, none⟩) nc c7) ∧ w'.cell? ⟨g8, 3, none⟩ = some (.slice ah nh ch)) 10 (by kernel_rfl) trivial ⟨hjp, (keep8 _ hbk0).2⟩ (fun hsh hS => ?_)
      generalize World.drew (w0.setCell ⟨gc, oc + i * 9 + 2, none⟩ (.slice (some ⟨g5, o5, none⟩) nf cb)) = w3 at *
      refine anyL_take1 20 (i := 0) (v := ?_) rfl (by kernel_rfl) (by kernel_rfl) (by kernel_rfl) (by decide) (by kernel_rfl) hsh (fun _ _ _ h => h) (Or.inl ⟨by rfl, ?_⟩) hS ?_
      rotate_left 1
      · (intro wS hSw; (try dsimp only at hSw); first | (go_simp; done) | (go_simp; with_reducible rfl))
      intro hsh1 hS1; clear hsh hS; have hsh := hsh1; have hS := hS1; clear hsh1 hS1
      simp only [Act.put, List.setIfInBounds_toArray, List.set_cons_zero, List.set_cons_succ]
      refine anyL_take1 20 (i := 1) (v := ?_) rfl (by kernel_rfl) (by kernel_rfl) (by kernel_rfl) (by decide) (by kernel_rfl) hsh (fun _ _ _ h => h) (Or.inl ⟨by rfl, ?_⟩) hS ?_
      rotate_left 1
      · (intro wS hSw; (try dsimp only at hSw); first | (go_simp; done) | (go_simp; with_reducible rfl))
      intro hsh1 hS1; clear hsh hS; have hsh := hsh1; have hS := hS1; clear hsh1 hS1
      simp only [Act.put, List.setIfInBounds_toArray, List.set_cons_zero, List.set_cons_succ]
      refine anyL_take1 20 (i := 2) (v := ?_) rfl (by kernel_rfl) (by kernel_rfl) (by kernel_rfl) (by decide) (by kernel_rfl) hsh (fun _ _ _ h => h) (Or.inl ⟨by rfl, ?_⟩) hS ?_
      rotate_left 1
      · (intro wS hSw; (try dsimp only at hSw); first | (go_simp; done) | (go_simp; with_reducible rfl))
      intro hsh1 hS1; clear hsh hS; have hsh := hsh1; have hS := hS1; clear hsh1 hS1
      simp only [Act.put, List.setIfInBounds_toArray, List.set_cons_zero, List.set_cons_succ]
      refine anyL_take1 20 (i := 3) (v := ?_) rfl (by kernel_rfl) (by kernel_rfl) (by kernel_rfl) (by decide) (by kernel_rfl) hsh (fun _ _ _ h => h) (Or.inl ⟨by rfl, ?_⟩) hS ?_
      rotate_left 1
      · (intro wS hSw; (try dsimp only at hSw); first | (go_simp; done) | (go_simp; with_reducible rfl))
      intro hsh1 hS1; clear hsh hS; have hsh := hsh1; have hS := hS1; clear hsh1 hS1
      simp only [Act.put, List.setIfInBounds_toArray, List.set_cons_zero, List.set_cons_succ]
      refine anyL_take1 20 (i := 4) (v := ?_) rfl (by kernel_rfl) (by kernel_rfl) (by kernel_rfl) (by decide) (by kernel_rfl) hsh (fun _ _ _ h => h) (Or.inl ⟨by rfl, ?_⟩) hS ?_
      rotate_left 1
      · (intro wS hSw; (try dsimp only at hSw); first | (go_simp; done) | (go_simp; with_reducible rfl))
      intro hsh1 hS1; clear hsh hS; have hsh := hsh1; have hS := hS1; clear hsh1 hS1
      simp only [Act.put, List.setIfInBounds_toArray, List.set_cons_zero, List.set_cons_succ]
      refine anyL_take1 20 (i := 5) (v := ?_) rfl (by kernel_rfl) (by kernel_rfl) (by kernel_rfl) (by decide) (by kernel_rfl) hsh (fun _ _ _ h => h) (Or.inl ⟨by rfl, ?_⟩) hS ?_
      rotate_left 1
      · (intro wS hSw; (try dsimp only at hSw); first | (go_simp; done) | (go_simp; with_reducible rfl))
      intro hsh1 hS1; clear hsh hS; have hsh := hsh1; have hS := hS1; clear hsh1 hS1
      simp only [Act.put, List.setIfInBounds_toArray, List.set_cons_zero, List.set_cons_succ]
      refine anyL_take1 20 (i := 6) (v := ?_) rfl (by kernel_rfl) (by kernel_rfl) (by kernel_rfl) (by decide) (by kernel_rfl) hsh (fun _ _ _ h => h) (Or.inl ⟨by rfl, ?_⟩) hS ?_
      rotate_left 1
      · (intro wS hSw; (try dsimp only at hSw); first | (go_simp; done) | (go_simp; with_reducible rfl))
      intro hsh1 hS1; clear hsh hS; have hsh := hsh1; have hS := hS1; clear hsh1 hS1
      simp only [Act.put, List.setIfInBounds_toArray, List.set_cons_zero, List.set_cons_succ]
      refine anyL_take1 20 (i := 7) (v := ?_) rfl (by kernel_rfl) (by kernel_rfl) (by kernel_rfl) (by decide) (by kernel_rfl) hsh (fun _ _ _ h => h) (Or.inl ⟨by rfl, ?_⟩) hS ?_
      rotate_left 1
      · (intro wS hSw; (try dsimp only at hSw); first | (go_simp; done) | (go_simp; with_reducible rfl))
      intro hsh1 hS1; clear hsh hS; have hsh := hsh1; have hS := hS1; clear hsh1 hS1
      simp only [Act.put, List.setIfInBounds_toArray, List.set_cons_zero, List.set_cons_succ]
      refine anyL_take1 20 (i := 8) (v := ?_) rfl (by kernel_rfl) (by kernel_rfl) (by kernel_rfl) (by decide) (by kernel_rfl) hsh (fun _ _ _ h => h) (Or.inl ⟨by rfl, ?_⟩) hS ?_
      rotate_left 1
      · (intro wS hSw; (try dsimp only at hSw); first | (go_simp; done) | (go_simp; with_reducible rfl))
      intro hsh1 hS1; clear hsh hS; have hsh := hsh1; have hS := hS1; clear hsh1 hS1
      simp only [Act.put, List.setIfInBounds_toArray, List.set_cons_zero, List.set_cons_succ]
      refine anyL_take1 20 (i := 9) (v := ?_) rfl (by kernel_rfl) (by kernel_rfl) (by kernel_rfl) (by decide) (by kernel_rfl) hsh (fun _ _ _ h => h) (Or.inl ⟨by rfl, ?_⟩) hS ?_
      rotate_left 1
      · (intro wS hSw; (try dsimp only at hSw); first | (go_simp; done) | (go_simp; with_reducible rfl))
      intro hsh1 hS1; clear hsh hS; have hsh := hsh1; have hS := hS1; clear hsh1 hS1
      simp only [Act.put, List.setIfInBounds_toArray, List.set_cons_zero, List.set_cons_succ]
      obtain ⟨hu0, hf0⟩ := J0.cell HL.out.2.2 HXY.out.1 (d := 3) (by omega) rfl
      have JP := TJ.cut (i := i) true (by rw [if_pos rfl]; exact J0) HL.out.2.2 hi (by simp <;> omega)
      simp only [if_true, Bool.false_eq_true, if_false, Nat.add_zero] at JP
      rw [HV3.out.2] at JP
      simp only [cutV, Nat.add_sub_cancel] at JP
      have hbk4 := (heap_setCell_other w3 ⟨gc, oc + i * 9 + 3, none⟩ g8 (.slice (some ⟨g6, o6, none⟩) nh ce) (by show g8 ≠ gc; omega)).trans hbk0
      refine anyL_one (i := 10) (by kernel_rfl) rfl hsh (fun K hK => ?_)
      go_simp
      refine hK.out _ _ ⟨trivial, fun h => absurd h (by decide)⟩ (fun hsh1 hS1 => ?_)
      clear hsh hS hK K; have hsh := hsh1; have hS := hS1; clear hsh1 hS1
      refine anyL_done (by kernel_rfl) ?_ _
      have JH := JP
      clear JP J0 hbk0 hu0 hf0 hsh hS hjp hkc
      go_wp2
      go_roundg q
      case measure => omega
      case rel =>
        have e2 : 2 * i + 1 + 1 = 2 * (i + 1) := by omega
        rw [e2, hps] at JH
        exact ⟨i + 1, _, by go_num, by omega, rfl, _, _, _, _, ps ++ [.pointer (some ⟨g5, o5 + nf, none⟩), .pointer (some ⟨g6, o6 + nh, none⟩)], (by rw [List.length_append, hps]; show 2 * i + 2 = 2 * (i + 1); omega), JH⟩
    · obtain rfl : i = nc := by omega
      have hil : ¬ (i : Int) < (i : Int) := by omega
      obtain ⟨k0, k1', k2⟩ := KS.out wr J.bz
      have j0 : wr.cell? ⟨p, 0, none⟩ = some (.int .i64 lim) := by unfold World.cell?; rw [J.head]; rfl
      have j1 : wr.cell? ⟨p, 1, none⟩ = some (.slice a5 no c5) := by unfold World.cell?; rw [J.head]; rfl
      have j2 : wr.cell? ⟨p, 2, none⟩ = some (.slice a7 i c7) := by unfold World.cell?; rw [J.head]; rfl
      have hfin : ScV wr (.agg #[.int .i64 lim, .slice a5 no c5, .slice a7 i c7]) s := by
        obtain ⟨x1, x2, x3⟩ := HL.out
        subst x1 x2 x3
        exact J.fin
      have hBw := HBW.out wr J.bz
      have hmw : m ≤ wr.heap.size := by have := J.bz.2; omega
      have qa := fun wq (h : Below wr.heap.size wr wq) => cpr wq (below_next' hBw hmw h) _ (hfin.below h (Nat.le_refl _))
      have qb := fun wq (h : Below wr.heap.size wr wq) => crp wq (below_next' hBw hmw h)
      have qc := fun wq (h : Below wr.heap.size wr wq) => csm wq (below_next' hBw hmw h) _ (hfin.below h (Nat.le_refl _))
      have qe := fun wq (h : Below wr.heap.size wr wq) => HQ.out wq (below_next' hBw hmw h)
      have keepS : ∀ {w'}, Below wr.heap.size wr w' → Below wr.heap.size wr w' ∧ w'.cell? ⟨m, 0, none⟩ = some (.int .i64 lim) ∧ w'.cell? ⟨m, 1, none⟩ = some (.slice a1 no c1) ∧ w'.cell? ⟨m, 2, none⟩ = some (.slice b1 i d1) ∧ w'.cell? ⟨p, 0, none⟩ = some (.int .i64 lim) ∧ w'.cell? ⟨p, 1, none⟩ = some (.slice a5 no c5) ∧ w'.cell? ⟨p, 2, none⟩ = some (.slice a7 i c7) := fun h => ⟨h, cell_below k0 h (Nat.le_refl _), cell_below k1' h (Nat.le_refl _), cell_below k2 h (Nat.le_refl _), cell_below j0 h (Nat.le_refl _), cell_below j1 h (Nat.le_refl _), cell_below j2 h (Nat.le_refl _)⟩
      have hd0 : Below wr.heap.size wr wr := Below.refl _ _
      have hd1 : Below wr.heap.size wr wr.drew := (Below.refl _ _).drew
      have HJ : Aside0 (∀ wq, Below wr.heap.size wr wq → TJ m W lim s.over no i s.cmds p (.slice a5 (no + 1) c5) (.slice a7 (i + 1) c7) v6 (2 * i) (2 * i) cs1 U V1 X ps wq) := ⟨fun wq h => J.next h⟩
      obtain ⟨at6, ct6, rfl⟩ := J.ht.slice
      rw [hps]
      clear J hBw hfin cpr crp csm
      go_upto_region 16 with fail
      go_region_held_law (fun w' => Below wr.heap.size wr w' ∧ w'.cell? ⟨m, 0, none⟩ = some (.int .i64 lim) ∧ w'.cell? ⟨m, 1, none⟩ = some (.slice a1 no c1) ∧ w'.cell? ⟨m, 2, none⟩ = some (.slice b1 i d1) ∧ w'.cell? ⟨p, 0, none⟩ = some (.int .i64 lim) ∧ w'.cell? ⟨p, 1, none⟩ = some (.slice a5 no c5) ∧ w'.cell? ⟨p, 2, none⟩ = some (.slice a7 i c7))
        (first | with_reducible exact keepS (by with_reducible assumption))
        (first
        | (go_at_call 17; (with_reducible refine (qa _ (by with_reducible assumption)).mono ?_); rintro e wa ⟨rfl, ba⟩; have ha := below_next hd1 ba)
        | (go_at_call 18; (with_reducible refine (qb _ (by with_reducible assumption)).mono ?_); rintro e wb ⟨rfl, bb⟩; have hb := below_next ha bb)
        | (go_at_call 19; (with_reducible refine (qc _ (by with_reducible assumption)).mono ?_); rintro e wc ⟨rfl, bc⟩; have hc := below_next hb bc))
      all_goals
        clear qa qb qc hd0 hd1 ha hb k0 k1' k2 j0 j1 j2
        have Jd := HJ.out _ hc
        have hQ := qe _ hc
        clear qe
        have hdz := hc
        go_wp2
        go_loopg [108] (2 * i) (fun q v108 wr2 => ∃ j : Nat, v108 = .int .i64 j ∧ j + q = 2 * i ∧ wc = wr2)
        case atStart => exact ⟨0, rfl, by omega, rfl⟩
        case round =>
          obtain ⟨j, rfl, hjq, rfl⟩ := hrel
          by_cases hj : j < 2 * i
          · obtain ⟨q, rfl⟩ : ∃ q, gk = q + 1 := ⟨gk - 1, by omega⟩
            have hjl : (j : Int) < 2 * (i : Int) := by omega
            have hjl2 : (j : Int) < ((2 * i : Nat) : Int) := by omega
            obtain ⟨g, o, hp1, hp2⟩ := Jd.point (k := j) (by omega) (by omega)
            have ht := Jd.ht
            rw [hps] at ht
            obtain ⟨gt, ot, rfl⟩ := own_at1 ht (by omega)
            obtain ⟨hp3, -⟩ := own_cell ht hp1
            clear ht hp1
            go_wp2
            go_roundg q
            case measure => omega
            case rel => exact ⟨j + 1, by go_num, by omega, rfl⟩
          · obtain rfl : j = 2 * i := by omega
            have hjl : ¬ (2 * (i : Int)) < 2 * (i : Int) := by omega
            have hjl2 : ¬ (((2 * i : Nat) : Int) < ((2 * i : Nat) : Int)) := by omega
            obtain ⟨k0, k1', k2⟩ := KS.out _ Jd.bz
            obtain ⟨go', oo, rfl⟩ := own_at1 Jd.ho (by omega)
            obtain ⟨gc', oc', rfl⟩ := own_at1 Jd.hc (by omega)
            have hlo : (ovC s.over).length = no * 2 := by have := Jd.ho.1; rw [List.length_append] at this; simp at this; omega
            have hlc : cs1.length = i * 9 := by rw [Jd.cx.1, HL.out.2.2]
            obtain ⟨y1, -⟩ := own_cell Jd.ho (j := no * 2 + 1) (u := .int .u64 79) (by rw [List.getElem?_append_right (by omega), hlo, Nat.add_sub_cancel_left]; rfl)
            obtain ⟨y2, -⟩ := own_cell Jd.hc (j := i * 9) (u := .int .i64 (-80)) (by rw [List.getElem?_append_right (by omega), hlc, Nat.sub_self]; rfl)
            rw [← Nat.add_assoc] at y1
            have hn1 : (no : Int) < (no : Int) + 1 := by omega
            have hn2 : (i : Int) < (i : Int) + 1 := by omega
            clear hlo hlc Jd HJ
            go_wp2
            exact hQ
end Go.Proofs.YtigaacbaaopfmaaDoor.sh
