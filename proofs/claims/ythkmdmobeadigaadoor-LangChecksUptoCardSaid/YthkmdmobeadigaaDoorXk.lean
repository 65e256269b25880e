/- Formed: the document's, walked. -/
import Derived.Test.YthkmdmobeadigaaDoorXe
import Derived.Test.YthkmdmobeadigaaDoorXh
import Derived.Test.YthkmdmobeadigaaDoorLr
namespace Go.Proofs.YthkmdmobeadigaaDoor.lg
open Go.RowKit
set_option linter.unusedVariables false
set_option linter.unusedSimpArgs false
/-- What Parts answers, as it is read. -/
theorem PartsP.read {w w' : World} {s : Sts} {e : Ending} (h : PartsP w s e w') : ∃ v L, e = .returned v ∧ PL w' v L ∧ Below w.heap.size w w' ∧ L.length ≤ s.cnt ∧ (∀ (j : Nat) (f : Fp), L[j]? = some f → f.d ≤ j + 1) ∧ ∀ Q : Part → Prop, (∀ p ∈ L.map Fp.part, Q p) ↔ allS Q s 1 false := by
  obtain ⟨v, L, xs, h1, h2, h3, h4, h5⟩ := h
  exact ⟨v, L, h1, ⟨xs, h2.sv, h3⟩, h4, h5⟩
theorem parts_loc {s : Sts} {L : List Fp} (h : ∀ Q : Part → Prop, (∀ p ∈ L.map Fp.part, Q p) ↔ allS Q s 1 false) : fSs s = (L.map Fp.part).all Part.loc := by
  rw [Bool.eq_iff_iff, List.all_eq_true, ← allS_loc s 1 false]
  exact (h _).symm
theorem parts_wt {s : Sts} {L : List Fp} (h : ∀ Q : Part → Prop, (∀ p ∈ L.map Fp.part, Q p) ↔ allS Q s 1 false) {i : Nat} {f : Fp} (hf : L[i]? = some f) : f.part.wt ≤ s.wt :=
  (h _).2 (allS_wt s.wt s 1 false (Nat.le_refl _)) _ (List.mem_map.2 ⟨f, List.mem_of_getElem? hf, rfl⟩)
theorem FAt.below {w w' : World} {g o k : Nat} {f : Fp} (h : FAt w g o f) (hb : Below k w w') (hk : w.heap.size ≤ k) : FAt w' g o f := by
  obtain ⟨a1, c1, a2, c2, a3, c3, a4, c4, ⟨x0, x1, x2, x3, x4, x5, x6⟩, ⟨x7, x8, x9, x10, x11⟩, x12, x13, x14⟩ := h
  have t : ∀ {a : Addr} {v : Value}, w.cell? a = some v → w'.cell? a = some v := fun h => cell_below h hb hk
  exact ⟨a1, c1, a2, c2, a3, c3, a4, c4, ⟨t x0, t x1, t x2, t x3, t x4, t x5, t x6⟩, ⟨t x7, t x8, t x9, t x10, t x11⟩, t x12, t x13, t x14⟩
set_option maxHeartbeats 8000000 in
set_option maxRecDepth 100000 in
theorem rformed_walk (ms : List ByteArray) (s : Sts) (vm vs : Value) (P : Nat → Prop) (w : World) (hms : ∀ x ∈ ms, x.size ≤ 3000000) (hml : ms.length ≤ 3000000) (hm : s.wt ≤ 3000000) (hV : SV w 1 vm ms.length (nsC ms)) (h : HS P w vs s) :
    Calls Tryd.prog 29 #[.agg #[vm, vs]] w (IsY ((nsL ms).all nameB && fSs s) w) := by
  obtain ⟨R, hR⟩ : ∃ R, ((nsL ms).all nameB && fSs s) = R := ⟨_, rfl⟩
  rw [hR]
  have HR : Aside0 (R = ((nsL ms).all nameB && fSs s)) := ⟨hR.symm⟩
  have hvm : ∃ a n c, vm = .slice a n c := by obtain ⟨am, cm, gm, om, e, _⟩ := hV; exact ⟨_, _, _, e⟩
  have cP : ∀ W, Below w.heap.size w W → Calls Tryd.prog 30 #[.agg #[vm, vs]] W (PartsP W s) := fun W hW => parts_walk vm vs s P W hm hvm (h.below hW (Nat.le_refl _))
  obtain ⟨am, cm, gm, om, rfl, hW⟩ := hV
  obtain ⟨as1, cs, bs, os, rfl, _⟩ := h
  obtain ⟨n, hn⟩ : ∃ n, ms.length = n := ⟨_, rfl⟩
  obtain ⟨ns, hns⟩ : ∃ n, s.len = n := ⟨_, rfl⟩
  have hcw := s.cnt_wt
  rw [hn] at hW hml cP ⊢
  rw [hns] at cP ⊢
  have HW : Aside0 (SW w 1 am n cm gm om (nsC ms) ∧ ms.length = n ∧ (∀ x ∈ ms, x.size ≤ 3000000) ∧ s.wt ≤ 3000000 ∧ s.cnt ≤ s.wt) := ⟨hW, hn, hms, hm, hcw⟩
  have HP : Aside0 (∀ W, Below w.heap.size w W → Calls Tryd.prog 30 #[.agg #[.slice am n cm, .slice as1 ns cs]] W (PartsP W s)) := ⟨cP⟩
  obtain ⟨W1, hW1⟩ : ∃ W, w.alloc (.cells #[.slice am n cm, .slice as1 ns cs] 25) = W := ⟨_, rfl⟩
  have hB1 : Below w.heap.size w W1 := by rw [← hW1]; exact (Below.refl _ _).alloc (Nat.le_refl _) _
  have hs1 : W1.heap.size = w.heap.size + 1 := by rw [← hW1]; simp
  have k0 : W1.cell? ⟨w.heap.size, 0, none⟩ = some (.slice am n cm) := by rw [← hW1]; simp
  have k1 : W1.cell? ⟨w.heap.size, 1, none⟩ = some (.slice as1 ns cs) := by rw [← hW1]; simp
  have HK : Aside0 (Below w.heap.size w W1 ∧ W1.cell? ⟨w.heap.size, 0, none⟩ = some (.slice am n cm) ∧ W1.cell? ⟨w.heap.size, 1, none⟩ = some (.slice as1 ns cs) ∧ W1.heap.size = w.heap.size + 1) := ⟨hB1, k0, k1, hs1⟩
  clear hR hW hn hns cP hms hm hcw hvm
  go_enter Tryd.func29, Tryd.ntmps29
  go_wp2
  clear hW1 k0 k1 hs1 hB1
  go_loopg [3] n (fun g v wr => ∃ i : Nat, v = .int .i64 i ∧ i + g = n ∧ Aside0 (Below W1.heap.size W1 wr) ∧ Aside0 (∀ j x, j < i → ms[j]? = some x → nameB x.data.toList = true))
  case atStart => exact ⟨0, rfl, by omega, ⟨Below.refl _ _⟩, ⟨fun j x hj => by omega⟩⟩
  case round =>
    obtain ⟨i, rfl, hig, hB, hF⟩ := hrel
    have k0 := cell_below HK.out.2.1 hB.out (Nat.le_refl _)
    have hws : w.heap.size < wr.heap.size := by have := hB.out.size; have := HK.out.2.2.2; omega
    have hBw : Below w.heap.size w wr := HK.out.1.trans (hB.out.mono (by have := HK.out.2.2.2; omega))
    by_cases hi : i < n
    · have hlt : (i : Int) < (n : Int) := by omega
      obtain ⟨q, rfl⟩ : ∃ q, gk = q + 1 := ⟨gk - 1, by omega⟩
      obtain ⟨x, hx⟩ : ∃ x, ms[i]? = some x := ⟨_, List.getElem?_eq_getElem (by rw [HW.out.2.1]; exact hi)⟩
      have hcx := (HW.out.1.below hBw (Nat.le_refl _)).cells i _ (nsC_at hx)
      have hao : am = some ⟨gm, om, none⟩ := by rcases HW.out.1.lead with e | e; (omega); exact e
      have cn := name_walk wr x (by have := HW.out.2.2.1 x (List.mem_of_getElem? hx); omega)
      have HX : Aside0 (ms[i]? = some x) := ⟨hx⟩
      have HBw : Aside0 (Below w.heap.size w wr) := ⟨hBw⟩
      obtain ⟨bx, hbx⟩ : ∃ b, nameB x.data.toList = b := ⟨_, rfl⟩
      have HB : Aside0 (nameB x.data.toList = bx) := ⟨hbx⟩
      rw [hbx] at cn
      subst hao
      clear hbx hx hBw
      cases bx with
      | false =>
        have A : Aside0 (R = false) := ⟨by
          rw [HR.out]
          have : (nsL ms).all nameB = false := by
            rw [List.all_eq_false]
            exact ⟨_, List.mem_of_getElem? (nsL_at HX.out), by rw [HB.out]; decide⟩
          rw [this]; rfl⟩
        go_wp2_with (go_at_call 27; (with_reducible refine cn.mono ?_); rintro e w' ⟨rfl, hB2⟩)
        go_ret
        exact ⟨ret_bool A.out.symm, below_two HBw.out hB2⟩
      | true =>
        go_wp2_with (go_at_call 27; (with_reducible refine cn.mono ?_); rintro e w' ⟨rfl, hB2⟩)
        go_roundg q
        case measure => omega
        case rel => exact ⟨i + 1, by go_num, by omega, ⟨below_two hB.out hB2⟩, ⟨fun j y hj hy => by
          by_cases e : j = i
          · subst e; obtain rfl := Option.some.inj (hy.symm.trans HX.out); exact HB.out
          · exact hF.out j y (by omega) hy⟩⟩
    · obtain rfl : i = n := by omega
      have hlt : ¬ (i : Int) < (i : Int) := by omega
      have k1 := cell_below HK.out.2.2.1 hB.out (Nat.le_refl _)
      have A : Aside0 (R = fSs s) := ⟨by
        rw [HR.out]
        have : (nsL ms).all nameB = true := by
          rw [List.all_eq_true]
          intro y hy
          obtain ⟨x, hx, rfl⟩ := List.mem_map.1 hy
          obtain ⟨j, hj⟩ := List.mem_iff_getElem?.1 hx
          exact hF.out j x (by have := (List.getElem?_eq_some_iff.1 hj).1; rw [HW.out.2.1] at this; exact this) hj
        rw [this]; rfl⟩
      have cp := HP.out wr hBw
      have HBw : Aside0 (Below w.heap.size w wr) := ⟨hBw⟩
      clear hBw hF hB
      go_wp2_with (go_at_call 30; (with_reducible refine cp.mono ?_); intro e W2 hp; obtain ⟨v, L, rfl, hpl, hB2, hlc, -, hall⟩ := hp.read; obtain ⟨ao, c, g, o, rfl, hcap, hlead, hat⟩ := hpl.at)
      have hwL : ∀ (j : Nat) (f : Fp), L[j]? = some f → f.part.wt ≤ 3000000 := fun j f hf => Nat.le_trans (parts_wt hall hf) HW.out.2.2.2.1
      have A2 : Aside0 (R = (L.map Fp.part).all Part.loc) := ⟨by rw [A.out]; exact parts_loc hall⟩
      have hlc3 : L.length ≤ 3000000 := by have := HW.out.2.2.2; omega
      obtain ⟨nl, hnl⟩ : ∃ m, L.length = m := ⟨_, rfl⟩
      rw [hnl] at hlead hcap hlc3 ⊢
      have HL : Aside0 (L.length = nl ∧ (nl = 0 ∨ ao = some ⟨g, o, none⟩) ∧ (∀ (j : Nat) (f : Fp), L[j]? = some f → FAt W2 g (o + j * 15) f) ∧ (∀ (j : Nat) (f : Fp), L[j]? = some f → f.part.wt ≤ 3000000)) := ⟨hnl, hlead, hat, hwL⟩
      have HB2 : Aside0 (Below w.heap.size w W2) := ⟨below_two HBw.out hB2⟩
      clear hnl hlead hat hwL hall hlc hpl hp cp hB2 A HBw HP HK HW HR k0 k1 hws hlt hig
      go_loopg [5] nl (fun g1 v5 wz => ∃ i : Nat, v5 = .int .i64 i ∧ i + g1 = nl ∧ Below W2.heap.size W2 wz ∧ Aside0 (∀ j f, j < i → L[j]? = some f → f.part.loc = true))
      case atStart => exact ⟨0, rfl, by omega, Below.refl _ _, ⟨fun j x hj => by omega⟩⟩
      case round =>
        obtain ⟨i, rfl, hig, hB, hF⟩ := hrel
        have hBw : Below w.heap.size w wr := below_two HB2.out hB
        by_cases hi : i < nl
        · have hlt : (i : Int) < (nl : Int) := by omega
          obtain ⟨q, rfl⟩ : ∃ q, gk = q + 1 := ⟨gk - 1, by omega⟩
          obtain ⟨f, hf⟩ : ∃ f, L[i]? = some f := ⟨_, List.getElem?_eq_getElem (by rw [HL.out.1]; exact hi)⟩
          have hw := HL.out.2.2.2 i f hf
          obtain ⟨a1, p1, a2, p2, a3, p3, a4, p4, ⟨x0, x1, x2, x3, x4, x5, x6⟩, ⟨x7, x8, x9, x10, x11⟩, x12, x13, x14⟩ := (HL.out.2.2.1 i f hf).below hB (Nat.le_refl _)
          have hao : ao = some ⟨g, o, none⟩ := by rcases HL.out.2.1 with e | e; (omega); exact e
          have HX : Aside0 (L[i]? = some f) := ⟨hf⟩
          have cs : f.is = true → Calls Tryd.prog 56 #[f.s.v (.slice a1 f.s.exprs.len p1) (.slice a2 f.s.body.len p2) (.slice a3 f.s.els.len p3)] wr (IsY f.part.loc wr) := fun e => by
            have h2 : f.part = .ps f.s f.d f.b := by unfold Fp.part; rw [if_pos e]
            rw [h2] at hw ⊢
            exact stmtFormed_walk f.s _ _ _ wr hw ⟨_, _, rfl⟩ ⟨_, _, rfl⟩ ⟨_, _, rfl⟩
          have ce : f.is = false → Calls Tryd.prog 57 #[f.x.v (.slice a4 f.x.args.len p4)] wr (IsY f.part.loc wr) := fun e => by
            have h2 : f.part = .pe f.x f.d f.b := by unfold Fp.part; rw [if_neg (by rw [e]; decide)]
            rw [h2] at hw ⊢
            exact exprFormed_walk f.x _ wr hw ⟨_, _, rfl⟩
          obtain ⟨bp, hbp⟩ : ∃ b, f.part.loc = b := ⟨_, rfl⟩
          have HB : Aside0 (f.part.loc = bp) := ⟨hbp⟩
          rw [hbp] at cs ce
          have A3 : Aside0 (bp = false → R = false) := ⟨fun e => by
            rw [A2.out, List.all_eq_false]
            exact ⟨f.part, List.mem_map.2 ⟨f, List.mem_of_getElem? HX.out, rfl⟩, by rw [HB.out, e]; decide⟩⟩
          have HBw : Aside0 (Below w.heap.size w wr) := ⟨hBw⟩
          have HBr : Aside0 (Below W2.heap.size W2 wr) := ⟨hB⟩
          obtain ⟨is, his⟩ : ∃ b, f.is = b := ⟨_, rfl⟩
          rw [his] at cs ce x12
          simp only [St.v] at cs
          simp only [Ex.v] at ce
          subst hao
          clear hbp hf hw hBw hB his
          have step : Aside0 (bp = true → ∀ j y, j < i + 1 → L[j]? = some y → y.part.loc = true) := ⟨fun e j y hj hy => by
            by_cases e2 : j = i
            · subst e2; obtain rfl := Option.some.inj (hy.symm.trans HX.out); rw [HB.out, e]
            · exact hF.out j y (by omega) hy⟩
          cases is with
          | true =>
            have c1 := cs rfl
            clear cs ce
            cases bp with
            | false =>
              go_wp2_with (go_at_call 56; (with_reducible refine c1.mono ?_); rintro e w' ⟨rfl, hB3⟩)
              go_ret
              exact ⟨ret_bool (A3.out (by simp)).symm, below_two HBw.out hB3⟩
            | true =>
              go_wp2_with (go_at_call 56; (with_reducible refine c1.mono ?_); rintro e w' ⟨rfl, hB3⟩; (have y12 := cell_below x12 hB3 (Nat.le_refl _)))
              go_roundg q
              case measure => omega
              case rel => exact ⟨i + 1, by go_num, by omega, below_two HBr.out hB3, ⟨step.out (by simp)⟩⟩
          | false =>
            have c1 := ce rfl
            clear cs ce
            cases bp with
            | false =>
              go_wp2_with (go_at_call 57; (with_reducible refine c1.mono ?_); rintro e w' ⟨rfl, hB3⟩)
              go_ret
              exact ⟨ret_bool (A3.out (by simp)).symm, below_two HBw.out hB3⟩
            | true =>
              go_wp2_with (go_at_call 57; (with_reducible refine c1.mono ?_); rintro e w' ⟨rfl, hB3⟩)
              go_roundg q
              case measure => omega
              case rel => exact ⟨i + 1, by go_num, by omega, below_two HBr.out hB3, ⟨step.out (by simp)⟩⟩
        · obtain rfl : i = nl := by omega
          have hlt : ¬ (i : Int) < (i : Int) := by omega
          have A3 : Aside0 (R = true) := ⟨by
            rw [A2.out, List.all_eq_true]
            intro y hy
            obtain ⟨x, hx, rfl⟩ := List.mem_map.1 hy
            obtain ⟨j, hj⟩ := List.mem_iff_getElem?.1 hx
            exact hF.out j x (by have := (List.getElem?_eq_some_iff.1 hj).1; rw [HL.out.1] at this; exact this) hj⟩
          go_wp2
          go_ret
          exact ⟨ret_bool A3.out.symm, hBw⟩
end Go.Proofs.YthkmdmobeadigaaDoor.lg
