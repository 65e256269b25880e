/- Check: the document's, walked. -/
import Derived.Test.YthkmdmobeadigaaDoorXi
import Derived.Test.YthkmdmobeadigaaDoorXk
import Derived.Deep.RegionHeld3
namespace Go.Proofs.YthkmdmobeadigaaDoor.lg
open Go.RowKit
set_option linter.unusedVariables false
set_option linter.unusedSimpArgs false
theorem nsC_take {ms : List ByteArray} {i : Nat} (hi : i ≤ ms.length) : nsC (ms.take i) = (nsC ms).take i := by
  unfold nsC; rw [List.map_take]
theorem SW.take {w : World} {n c g o i : Nat} {ao : Option Addr} {ms : List ByteArray} (h : SW w 1 ao n c g o (nsC ms)) (hn : ms.length = n) (hi : i ≤ n) : SV w 1 (.slice ao i c) (ms.take i).length (nsC (ms.take i)) := by
  have hl : (ms.take i).length = i := by rw [List.length_take]; omega
  rw [hl]
  refine ⟨ao, c, g, o, rfl, ?_, ?_, h.bare, by have := h.cap; omega, fun j u hu => ?_⟩
  · unfold nsC; rw [List.length_map, hl]; omega
  · rcases h.lead with e | e
    · exact .inl (by omega)
    · exact .inr e
  · rw [nsC_take (by omega)] at hu
    refine h.cells j u ?_
    rw [List.getElem?_take] at hu
    split at hu
    · exact hu
    · cases hu
theorem namesR_step {ms : List ByteArray} {i : Nat} {x : ByteArray} (hx : ms[i]? = some x) (h : namesR [] (nsL ms) = namesR (nsL (ms.take i)) ((nsL ms).drop i)) :
    namesR [] (nsL ms) = (nameB x.data.toList && !(nsL (ms.take i)).contains x.data.toList && namesR (nsL (ms.take (i + 1))) ((nsL ms).drop (i + 1))) := by
  have hlt := (List.getElem?_eq_some_iff.1 hx).1
  have hd : (nsL ms).drop i = x.data.toList :: (nsL ms).drop (i + 1) := by
    have hl2 : i < (nsL ms).length := by rw [nsL, List.length_map]; exact hlt
    rw [List.drop_eq_getElem_cons hl2]
    congr 1
    have := nsL_at hx
    rw [List.getElem?_eq_getElem hl2] at this
    exact Option.some.inj this
  have ht : nsL (ms.take (i + 1)) = nsL (ms.take i) ++ [x.data.toList] := by
    rw [List.take_succ_eq_append_getElem hlt, (List.getElem?_eq_some_iff.1 hx).2]
    simp [nsL]
  rw [h, hd, namesR, ht]
theorem namesR_all : ∀ (l seen : List (List UInt8)), namesR seen l = true → l.all nameB = true
  | [], _, _ => rfl
  | m :: r, seen, h => by
    simp only [namesR, Bool.and_eq_true] at h
    rw [List.all_cons, h.1.1, namesR_all r _ h.2]; rfl
set_option maxHeartbeats 8000000 in
set_option maxRecDepth 100000 in
theorem rcheck_walk (ms : List ByteArray) (s : Sts) (vm vs : Value) (P : Nat → Prop) (w : World) (hms : ∀ x ∈ ms, x.size ≤ 3000000) (hml : ms.length ≤ 3000000) (hm : s.wt ≤ 3000000) (hV : SV w 1 vm ms.length (nsC ms)) (h : HS P w vs s) :
    Calls Tryd.prog 10 #[.agg #[vm, vs]] w (IsM (checkP (nsL ms) s) w) := by
  obtain ⟨R, hR⟩ : ∃ R, checkP (nsL ms) s = R := ⟨_, rfl⟩
  rw [hR]
  have HR : Aside0 (∀ L : List Fp, (∀ Q : Part → Prop, (∀ p ∈ L.map Fp.part, Q p) ↔ allS Q s 1 false) → R = checkR (nsL ms) (L.map Fp.part)) := ⟨fun L hL => by rw [check_same _ _ _ hL, hR]⟩
  have HRP : Aside0 (R = checkP (nsL ms) s) := ⟨hR.symm⟩
  have hvm : ∃ a n c, vm = .slice a n c := by obtain ⟨am, cm, gm, om, e, _⟩ := hV; exact ⟨_, _, _, e⟩
  have hvs : ∃ a n c, vs = .slice a n c := by obtain ⟨am, cm, gm, om, e, _⟩ := h; exact ⟨_, _, _, e⟩
  have cP : ∀ W, Below w.heap.size w W → Calls Tryd.prog 30 #[.agg #[vm, vs]] W (PartsP W s) := fun W hW => parts_walk vm vs s P W hm hvm (h.below hW (Nat.le_refl _))
  have cF : ∀ W, Below w.heap.size w W → Calls Tryd.prog 29 #[.agg #[vm, vs]] W (IsY ((nsL ms).all nameB && fSs s) W) := fun W hW => rformed_walk ms s vm vs P W hms hml hm (hV.below hW (Nat.le_refl _)) (h.below hW (Nat.le_refl _))
  have cU : ∀ W, Below w.heap.size w W → SV W 1 vm ms.length (nsC ms) := fun W hW => hV.below hW (Nat.le_refl _)
  obtain ⟨am, cm, gm, om, rfl, hW⟩ := hV
  obtain ⟨as1, cs, bs, os, rfl, _⟩ := h
  obtain ⟨n, hn⟩ : ∃ n, ms.length = n := ⟨_, rfl⟩
  obtain ⟨ns, hns⟩ : ∃ n, s.len = n := ⟨_, rfl⟩
  have hcw := s.cnt_wt
  rw [hn] at hW hml cP cF cU ⊢
  rw [hns] at cP cF ⊢
  have HW : Aside0 (SW w 1 am n cm gm om (nsC ms) ∧ ms.length = n ∧ (∀ x ∈ ms, x.size ≤ 3000000) ∧ s.wt ≤ 3000000 ∧ s.cnt ≤ s.wt) := ⟨hW, hn, hms, hm, hcw⟩
  have HP : Aside0 ((∀ W, Below w.heap.size w W → Calls Tryd.prog 30 #[.agg #[.slice am n cm, .slice as1 ns cs]] W (PartsP W s)) ∧ (∀ W, Below w.heap.size w W → Calls Tryd.prog 29 #[.agg #[.slice am n cm, .slice as1 ns cs]] W (IsY ((nsL ms).all nameB && fSs s) W)) ∧ (∀ W, Below w.heap.size w W → SV W 1 (.slice am n cm) n (nsC ms))) := ⟨cP, cF, cU⟩
  obtain ⟨W1, hW1⟩ : ∃ W, w.alloc (.cells #[.slice am n cm, .slice as1 ns cs] 25) = W := ⟨_, rfl⟩
  have hB1 : Below w.heap.size w W1 := by rw [← hW1]; exact (Below.refl _ _).alloc (Nat.le_refl _) _
  have hs1 : W1.heap.size = w.heap.size + 1 := by rw [← hW1]; simp
  have k0 : W1.cell? ⟨w.heap.size, 0, none⟩ = some (.slice am n cm) := by rw [← hW1]; simp
  have k1 : W1.cell? ⟨w.heap.size, 1, none⟩ = some (.slice as1 ns cs) := by rw [← hW1]; simp
  have HK : Aside0 (Below w.heap.size w W1 ∧ W1.cell? ⟨w.heap.size, 0, none⟩ = some (.slice am n cm) ∧ W1.cell? ⟨w.heap.size, 1, none⟩ = some (.slice as1 ns cs) ∧ W1.heap.size = w.heap.size + 1) := ⟨hB1, k0, k1, hs1⟩
  clear hR hW hn hns cP cF cU hms hm hcw hvm hvs
  by_cases h16 : 16 < n
  · have h16' : (16 : Int) < (n : Int) := by omega
    have A : Aside0 (R = 234) := ⟨by rw [HRP.out, checkP, if_pos]; rw [namesG_eq _ _ (by simp)]; simp [nsL, HW.out.2.1]; omega⟩
    go_enter Tryd.func10, Tryd.ntmps10
    go_wp2
    go_ret
    exact ⟨by rw [A.out]; rfl, hB1⟩
  have h16' : ¬ (16 : Int) < (n : Int) := by omega
  go_enter Tryd.func10, Tryd.ntmps10
  go_wp2
  clear hW1 k0 k1 hs1 hB1
  go_loopg [3] n (fun g v wr => ∃ i : Nat, v = .int .i64 i ∧ i + g = n ∧ Aside0 (Below W1.heap.size W1 wr) ∧ Aside0 (namesR [] (nsL ms) = namesR (nsL (ms.take i)) ((nsL ms).drop i)))
  case atStart => exact ⟨0, rfl, by omega, ⟨Below.refl _ _⟩, ⟨rfl⟩⟩
  case round =>
    obtain ⟨i, rfl, hig, hB, hF⟩ := hrel
    have hws : w.heap.size < wr.heap.size := by have := hB.out.size; have := HK.out.2.2.2; omega
    have hBw : Below w.heap.size w wr := HK.out.1.trans (hB.out.mono (by have := HK.out.2.2.2; omega))
    have k0 := cell_below HK.out.2.1 hB.out (Nat.le_refl _)
    by_cases hi : i < n
    · have hlt : (i : Int) < (n : Int) := by omega
      obtain ⟨q, rfl⟩ : ∃ q, gk = q + 1 := ⟨gk - 1, by omega⟩
      obtain ⟨x, hx⟩ : ∃ x, ms[i]? = some x := ⟨_, List.getElem?_eq_getElem (by rw [HW.out.2.1]; exact hi)⟩
      have hcx := (HW.out.1.below hBw (Nat.le_refl _)).cells i _ (nsC_at hx)
      have hao : am = some ⟨gm, om, none⟩ := by rcases HW.out.1.lead with e | e; (omega); exact e
      have hxs := HW.out.2.2.1 x (List.mem_of_getElem? hx)
      have hcap := HW.out.1.cap
      have hicm : i ≤ cm := by omega
      have cn : ∀ W, Calls Tryd.prog 27 #[.string x] W (IsY (nameB x.data.toList) W) := fun W => name_walk W x (by omega)
      have hsv := (HW.out.1.below hBw (Nat.le_refl _)).take HW.out.2.1 (Nat.le_of_lt hi)
      have htl : (ms.take i).length = i := by rw [List.length_take, HW.out.2.1]; omega
      have ca : ∀ W, Below wr.heap.size wr W → Calls Tryd.prog 28 #[.agg #[.slice am i cm, .slice none 0 0], .string x] W (IsY ((nsL (ms.take i)).contains x.data.toList) W) := fun W hW => by
        refine among_walk (ms.take i) _ _ x W (by omega) (hsv.below hW (Nat.le_refl _)) ⟨_, _, _, rfl⟩
      have HX : Aside0 (ms[i]? = some x) := ⟨hx⟩
      have HBw : Aside0 (Below w.heap.size w wr) := ⟨hBw⟩
      have hst : namesR [] (nsL ms) = (nameB x.data.toList && !(nsL (ms.take i)).contains x.data.toList && namesR (nsL (ms.take (i + 1))) ((nsL ms).drop (i + 1))) := namesR_step hx hF.out
      obtain ⟨bn, hbn⟩ : ∃ b, nameB x.data.toList = b := ⟨_, rfl⟩
      obtain ⟨bt, hbt⟩ : ∃ b, (nsL (ms.take i)).contains x.data.toList = b := ⟨_, rfl⟩
      rw [hbn] at cn
      rw [hbt] at ca
      rw [hbn, hbt] at hst
      have HST : Aside0 (namesR [] (nsL ms) = (bn && !bt && namesR (nsL (ms.take (i + 1))) ((nsL ms).drop (i + 1)))) := ⟨hst⟩
      have bad : Aside0 (namesR [] (nsL ms) = false → R = 234) := ⟨fun e => by rw [HRP.out, checkP, if_pos]; rw [namesG_eq _ _ (by simp), e]; simp⟩
      subst hao
      clear hbn hbt hst hx hBw hsv htl
      cases bn with
      | false =>
        have A : Aside0 (R = 234) := ⟨bad.out (by rw [HST.out]; rfl)⟩
        clear bad
        go_upto_region 6 with fail
        refine wp_region_L (fun w' => Below wr.heap.size wr w') (fun _ => True) 40 (by kernel_rfl) ((Below.refl _ _).drew) trivial (fun hsh hS => ?_)
        generalize wr.drew = w0 at *
        refine anyL_take (i := 0) (v := ?_) rfl (by kernel_rfl) (by kernel_rfl) (by kernel_rfl) (by decide) hsh (fun _ _ _ h => h) (Or.inl ⟨by kernel_rfl, ?_⟩) hS ?_
        rotate_left 1
        · (intro wS hSw; (try dsimp only at hSw); first | (have q0 := cell_below k0 hSw (Nat.le_refl _); have qx := cell_below hcx hSw (Nat.le_refl _); go_simp; done) | (have q0 := cell_below k0 hSw (Nat.le_refl _); have qx := cell_below hcx hSw (Nat.le_refl _); go_simp; with_reducible rfl))
        intro hsh1 hS1; clear hsh hS; have hsh := hsh1; have hS := hS1; clear hsh1 hS1
        simp only [Act.put, List.setIfInBounds_toArray, List.set_cons_zero, List.set_cons_succ]
        refine anyL_take (i := 1) (v := ?_) rfl (by kernel_rfl) (by kernel_rfl) (by kernel_rfl) (by decide) hsh (fun _ _ _ h => h) (Or.inl ⟨by kernel_rfl, ?_⟩) hS ?_
        rotate_left 1
        · (intro wS hSw; (try dsimp only at hSw); first | (have q0 := cell_below k0 hSw (Nat.le_refl _); have qx := cell_below hcx hSw (Nat.le_refl _); go_simp; done) | (have q0 := cell_below k0 hSw (Nat.le_refl _); have qx := cell_below hcx hSw (Nat.le_refl _); go_simp; with_reducible rfl))
        intro hsh1 hS1; clear hsh hS; have hsh := hsh1; have hS := hS1; clear hsh1 hS1
        simp only [Act.put, List.setIfInBounds_toArray, List.set_cons_zero, List.set_cons_succ]
        refine anyL_take (i := 2) (v := ?_) rfl (by kernel_rfl) (by kernel_rfl) (by kernel_rfl) (by decide) hsh (fun _ _ _ h => h) (Or.inl ⟨by kernel_rfl, ?_⟩) hS ?_
        rotate_left 1
        · (intro wS hSw; (try dsimp only at hSw); first | (have q0 := cell_below k0 hSw (Nat.le_refl _); have qx := cell_below hcx hSw (Nat.le_refl _); go_simp; done) | (have q0 := cell_below k0 hSw (Nat.le_refl _); have qx := cell_below hcx hSw (Nat.le_refl _); go_simp; with_reducible rfl))
        intro hsh1 hS1; clear hsh hS; have hsh := hsh1; have hS := hS1; clear hsh1 hS1
        simp only [Act.put, List.setIfInBounds_toArray, List.set_cons_zero, List.set_cons_succ]
        refine anyL_take (i := 3) (v := ?_) rfl (by kernel_rfl) (by kernel_rfl) (by kernel_rfl) (by decide) hsh (fun _ _ _ h => h) (Or.inl ⟨by kernel_rfl, ?_⟩) hS ?_
        rotate_left 1
        · (intro wS hSw; (try dsimp only at hSw); first | (have q0 := cell_below k0 hSw (Nat.le_refl _); have qx := cell_below hcx hSw (Nat.le_refl _); go_simp; done) | (have q0 := cell_below k0 hSw (Nat.le_refl _); have qx := cell_below hcx hSw (Nat.le_refl _); go_simp; with_reducible rfl))
        intro hsh1 hS1; clear hsh hS; have hsh := hsh1; have hS := hS1; clear hsh1 hS1
        simp only [Act.put, List.setIfInBounds_toArray, List.set_cons_zero, List.set_cons_succ]
        refine anyL_take (i := 4) (v := ?_) rfl (by kernel_rfl) (by kernel_rfl) (by kernel_rfl) (by decide) hsh (fun _ _ _ h => h) (Or.inl ⟨by kernel_rfl, ?_⟩) hS ?_
        rotate_left 1
        · (intro wS hSw; (try dsimp only at hSw); first | (have q0 := cell_below k0 hSw (Nat.le_refl _); have qx := cell_below hcx hSw (Nat.le_refl _); go_simp; done) | (have q0 := cell_below k0 hSw (Nat.le_refl _); have qx := cell_below hcx hSw (Nat.le_refl _); go_simp; with_reducible rfl))
        intro hsh1 hS1; clear hsh hS; have hsh := hsh1; have hS := hS1; clear hsh1 hS1
        simp only [Act.put, List.setIfInBounds_toArray, List.set_cons_zero, List.set_cons_succ]
        refine anyL_one (i := 5) (by kernel_rfl) rfl hsh (fun K hK => ?_)
        have hb5 := hS.1
        go_simp
        go_at_call 27
        with_reducible refine (cn _).mono ?_
        rintro e w1 ⟨rfl, hc5⟩
        have hd5 := below_two hb5 hc5
        try go_simp
        refine hK.out _ _ ⟨hd5, fun _ => trivial⟩ (fun hsh1 hS1 => ?_)
        clear hsh hS hK K; have hsh := hsh1; have hS := hS1; clear hsh1 hS1
        refine anyL_take (i := 6) (v := ?_) rfl (by kernel_rfl) (by kernel_rfl) (by kernel_rfl) (by decide) hsh (fun _ _ _ h => h) (Or.inl ⟨by kernel_rfl, ?_⟩) hS ?_
        rotate_left 1
        · (intro wS hSw; (try dsimp only at hSw); first | (have q0 := cell_below k0 hSw (Nat.le_refl _); have qx := cell_below hcx hSw (Nat.le_refl _); go_simp; done) | (have q0 := cell_below k0 hSw (Nat.le_refl _); have qx := cell_below hcx hSw (Nat.le_refl _); go_simp; with_reducible rfl))
        intro hsh1 hS1; clear hsh hS; have hsh := hsh1; have hS := hS1; clear hsh1 hS1
        simp only [Act.put, List.setIfInBounds_toArray, List.set_cons_zero, List.set_cons_succ]
        refine anyL_take (i := 7) (v := ?_) rfl (by kernel_rfl) (by kernel_rfl) (by kernel_rfl) (by decide) hsh (fun _ _ _ h => h) (Or.inl ⟨by kernel_rfl, ?_⟩) hS ?_
        rotate_left 1
        · (intro wS hSw; (try dsimp only at hSw); first | (have q0 := cell_below k0 hSw (Nat.le_refl _); have qx := cell_below hcx hSw (Nat.le_refl _); go_simp; done) | (have q0 := cell_below k0 hSw (Nat.le_refl _); have qx := cell_below hcx hSw (Nat.le_refl _); go_simp; with_reducible rfl))
        intro hsh1 hS1; clear hsh hS; have hsh := hsh1; have hS := hS1; clear hsh1 hS1
        simp only [Act.put, List.setIfInBounds_toArray, List.set_cons_zero, List.set_cons_succ]
        refine anyL_take (i := 8) (v := undef) rfl (by kernel_rfl) (by kernel_rfl) (by kernel_rfl) (by decide) hsh (fun _ _ _ h => h) (Or.inr ⟨by kernel_rfl, rfl⟩) hS ?_
        intro hsh1 hS1; clear hsh hS; have hsh := hsh1; have hS := hS1; clear hsh1 hS1
        simp only [Act.put, List.getElem_toArray, List.getElem_cons_zero, List.getElem_cons_succ, List.setIfInBounds_toArray, List.set_cons_zero, List.set_cons_succ]
        refine anyL_take (i := 9) (v := undef) rfl (by kernel_rfl) (by kernel_rfl) (by kernel_rfl) (by decide) hsh (fun _ _ _ h => h) (Or.inr ⟨by kernel_rfl, rfl⟩) hS ?_
        intro hsh1 hS1; clear hsh hS; have hsh := hsh1; have hS := hS1; clear hsh1 hS1
        simp only [Act.put, List.getElem_toArray, List.getElem_cons_zero, List.getElem_cons_succ, List.setIfInBounds_toArray, List.set_cons_zero, List.set_cons_succ]
        refine anyL_take (i := 10) (v := undef) rfl (by kernel_rfl) (by kernel_rfl) (by kernel_rfl) (by decide) hsh (fun _ _ _ h => h) (Or.inr ⟨by kernel_rfl, rfl⟩) hS ?_
        intro hsh1 hS1; clear hsh hS; have hsh := hsh1; have hS := hS1; clear hsh1 hS1
        simp only [Act.put, List.getElem_toArray, List.getElem_cons_zero, List.getElem_cons_succ, List.setIfInBounds_toArray, List.set_cons_zero, List.set_cons_succ]
        refine anyL_take (i := 11) (v := undef) rfl (by kernel_rfl) (by kernel_rfl) (by kernel_rfl) (by decide) hsh (fun _ _ _ h => h) (Or.inr ⟨by kernel_rfl, rfl⟩) hS ?_
        intro hsh1 hS1; clear hsh hS; have hsh := hsh1; have hS := hS1; clear hsh1 hS1
        simp only [Act.put, List.getElem_toArray, List.getElem_cons_zero, List.getElem_cons_succ, List.setIfInBounds_toArray, List.set_cons_zero, List.set_cons_succ]
        refine anyL_take (i := 12) (v := undef) rfl (by kernel_rfl) (by kernel_rfl) (by kernel_rfl) (by decide) hsh (fun _ _ _ h => h) (Or.inr ⟨by kernel_rfl, rfl⟩) hS ?_
        intro hsh1 hS1; clear hsh hS; have hsh := hsh1; have hS := hS1; clear hsh1 hS1
        simp only [Act.put, List.getElem_toArray, List.getElem_cons_zero, List.getElem_cons_succ, List.setIfInBounds_toArray, List.set_cons_zero, List.set_cons_succ]
        refine anyL_take (i := 13) (v := undef) rfl (by kernel_rfl) (by kernel_rfl) (by kernel_rfl) (by decide) hsh (fun _ _ _ h => h) (Or.inr ⟨by kernel_rfl, rfl⟩) hS ?_
        intro hsh1 hS1; clear hsh hS; have hsh := hsh1; have hS := hS1; clear hsh1 hS1
        simp only [Act.put, List.getElem_toArray, List.getElem_cons_zero, List.getElem_cons_succ, List.setIfInBounds_toArray, List.set_cons_zero, List.set_cons_succ]
        refine anyL_take (i := 14) (v := undef) rfl (by kernel_rfl) (by kernel_rfl) (by kernel_rfl) (by decide) hsh (fun _ _ _ h => h) (Or.inr ⟨by kernel_rfl, rfl⟩) hS ?_
        intro hsh1 hS1; clear hsh hS; have hsh := hsh1; have hS := hS1; clear hsh1 hS1
        simp only [Act.put, List.getElem_toArray, List.getElem_cons_zero, List.getElem_cons_succ, List.setIfInBounds_toArray, List.set_cons_zero, List.set_cons_succ]
        refine anyL_take (i := 15) (v := undef) rfl (by kernel_rfl) (by kernel_rfl) (by kernel_rfl) (by decide) hsh (fun _ _ _ h => h) (Or.inr ⟨by kernel_rfl, rfl⟩) hS ?_
        intro hsh1 hS1; clear hsh hS; have hsh := hsh1; have hS := hS1; clear hsh1 hS1
        simp only [Act.put, List.getElem_toArray, List.getElem_cons_zero, List.getElem_cons_succ, List.setIfInBounds_toArray, List.set_cons_zero, List.set_cons_succ]
        refine anyL_take (i := 16) (v := undef) rfl (by kernel_rfl) (by kernel_rfl) (by kernel_rfl) (by decide) hsh (fun _ _ _ h => h) (Or.inr ⟨by kernel_rfl, rfl⟩) hS ?_
        intro hsh1 hS1; clear hsh hS; have hsh := hsh1; have hS := hS1; clear hsh1 hS1
        simp only [Act.put, List.getElem_toArray, List.getElem_cons_zero, List.getElem_cons_succ, List.setIfInBounds_toArray, List.set_cons_zero, List.set_cons_succ]
        refine anyL_take (i := 17) (v := undef) rfl (by kernel_rfl) (by kernel_rfl) (by kernel_rfl) (by decide) hsh (fun _ _ _ h => h) (Or.inr ⟨by kernel_rfl, rfl⟩) hS ?_
        intro hsh1 hS1; clear hsh hS; have hsh := hsh1; have hS := hS1; clear hsh1 hS1
        simp only [Act.put, List.getElem_toArray, List.getElem_cons_zero, List.getElem_cons_succ, List.setIfInBounds_toArray, List.set_cons_zero, List.set_cons_succ]
        refine anyL_take (i := 18) (v := undef) rfl (by kernel_rfl) (by kernel_rfl) (by kernel_rfl) (by decide) hsh (fun _ _ _ h => h) (Or.inr ⟨by kernel_rfl, rfl⟩) hS ?_
        intro hsh1 hS1; clear hsh hS; have hsh := hsh1; have hS := hS1; clear hsh1 hS1
        simp only [Act.put, List.getElem_toArray, List.getElem_cons_zero, List.getElem_cons_succ, List.setIfInBounds_toArray, List.set_cons_zero, List.set_cons_succ]
        refine anyL_take (i := 19) (v := ?_) rfl (by kernel_rfl) (by kernel_rfl) (by kernel_rfl) (by decide) hsh (fun _ _ _ h => h) (Or.inl ⟨by kernel_rfl, ?_⟩) hS ?_
        rotate_left 1
        · (intro wS hSw; (try dsimp only at hSw); first | (have q0 := cell_below k0 hSw (Nat.le_refl _); have qx := cell_below hcx hSw (Nat.le_refl _); go_simp; done) | (have q0 := cell_below k0 hSw (Nat.le_refl _); have qx := cell_below hcx hSw (Nat.le_refl _); go_simp; with_reducible rfl))
        intro hsh1 hS1; clear hsh hS; have hsh := hsh1; have hS := hS1; clear hsh1 hS1
        simp only [Act.put, List.setIfInBounds_toArray, List.set_cons_zero, List.set_cons_succ]
        refine anyL_done (by kernel_rfl) ?_ _
        go_wp2
        go_ret
        exact ⟨by rw [A.out]; rfl, below_two HBw.out hS.1⟩
      | true =>
        cases bt with
        | true =>
          have A : Aside0 (R = 234) := ⟨bad.out (by rw [HST.out]; rfl)⟩
          clear bad
          go_upto_region 6 with fail
          refine wp_region_L (fun w' => Below wr.heap.size wr w') (fun _ => True) 40 (by kernel_rfl) ((Below.refl _ _).drew) trivial (fun hsh hS => ?_)
          generalize wr.drew = w0 at *
          refine anyL_take (i := 0) (v := ?_) rfl (by kernel_rfl) (by kernel_rfl) (by kernel_rfl) (by decide) hsh (fun _ _ _ h => h) (Or.inl ⟨by kernel_rfl, ?_⟩) hS ?_
          rotate_left 1
          · (intro wS hSw; (try dsimp only at hSw); first | (have q0 := cell_below k0 hSw (Nat.le_refl _); have qx := cell_below hcx hSw (Nat.le_refl _); go_simp; done) | (have q0 := cell_below k0 hSw (Nat.le_refl _); have qx := cell_below hcx hSw (Nat.le_refl _); go_simp; with_reducible rfl))
          intro hsh1 hS1; clear hsh hS; have hsh := hsh1; have hS := hS1; clear hsh1 hS1
          simp only [Act.put, List.setIfInBounds_toArray, List.set_cons_zero, List.set_cons_succ]
          refine anyL_take (i := 1) (v := ?_) rfl (by kernel_rfl) (by kernel_rfl) (by kernel_rfl) (by decide) hsh (fun _ _ _ h => h) (Or.inl ⟨by kernel_rfl, ?_⟩) hS ?_
          rotate_left 1
          · (intro wS hSw; (try dsimp only at hSw); first | (have q0 := cell_below k0 hSw (Nat.le_refl _); have qx := cell_below hcx hSw (Nat.le_refl _); go_simp; done) | (have q0 := cell_below k0 hSw (Nat.le_refl _); have qx := cell_below hcx hSw (Nat.le_refl _); go_simp; with_reducible rfl))
          intro hsh1 hS1; clear hsh hS; have hsh := hsh1; have hS := hS1; clear hsh1 hS1
          simp only [Act.put, List.setIfInBounds_toArray, List.set_cons_zero, List.set_cons_succ]
          refine anyL_take (i := 2) (v := ?_) rfl (by kernel_rfl) (by kernel_rfl) (by kernel_rfl) (by decide) hsh (fun _ _ _ h => h) (Or.inl ⟨by kernel_rfl, ?_⟩) hS ?_
          rotate_left 1
          · (intro wS hSw; (try dsimp only at hSw); first | (have q0 := cell_below k0 hSw (Nat.le_refl _); have qx := cell_below hcx hSw (Nat.le_refl _); go_simp; done) | (have q0 := cell_below k0 hSw (Nat.le_refl _); have qx := cell_below hcx hSw (Nat.le_refl _); go_simp; with_reducible rfl))
          intro hsh1 hS1; clear hsh hS; have hsh := hsh1; have hS := hS1; clear hsh1 hS1
          simp only [Act.put, List.setIfInBounds_toArray, List.set_cons_zero, List.set_cons_succ]
          refine anyL_take (i := 3) (v := ?_) rfl (by kernel_rfl) (by kernel_rfl) (by kernel_rfl) (by decide) hsh (fun _ _ _ h => h) (Or.inl ⟨by kernel_rfl, ?_⟩) hS ?_
          rotate_left 1
          · (intro wS hSw; (try dsimp only at hSw); first | (have q0 := cell_below k0 hSw (Nat.le_refl _); have qx := cell_below hcx hSw (Nat.le_refl _); go_simp; done) | (have q0 := cell_below k0 hSw (Nat.le_refl _); have qx := cell_below hcx hSw (Nat.le_refl _); go_simp; with_reducible rfl))
          intro hsh1 hS1; clear hsh hS; have hsh := hsh1; have hS := hS1; clear hsh1 hS1
          simp only [Act.put, List.setIfInBounds_toArray, List.set_cons_zero, List.set_cons_succ]
          refine anyL_take (i := 4) (v := ?_) rfl (by kernel_rfl) (by kernel_rfl) (by kernel_rfl) (by decide) hsh (fun _ _ _ h => h) (Or.inl ⟨by kernel_rfl, ?_⟩) hS ?_
          rotate_left 1
          · (intro wS hSw; (try dsimp only at hSw); first | (have q0 := cell_below k0 hSw (Nat.le_refl _); have qx := cell_below hcx hSw (Nat.le_refl _); go_simp; done) | (have q0 := cell_below k0 hSw (Nat.le_refl _); have qx := cell_below hcx hSw (Nat.le_refl _); go_simp; with_reducible rfl))
          intro hsh1 hS1; clear hsh hS; have hsh := hsh1; have hS := hS1; clear hsh1 hS1
          simp only [Act.put, List.setIfInBounds_toArray, List.set_cons_zero, List.set_cons_succ]
          refine anyL_one (i := 5) (by kernel_rfl) rfl hsh (fun K hK => ?_)
          have hb5 := hS.1
          go_simp
          go_at_call 27
          with_reducible refine (cn _).mono ?_
          rintro e w1 ⟨rfl, hc5⟩
          have hd5 := below_two hb5 hc5
          try go_simp
          refine hK.out _ _ ⟨hd5, fun _ => trivial⟩ (fun hsh1 hS1 => ?_)
          clear hsh hS hK K; have hsh := hsh1; have hS := hS1; clear hsh1 hS1
          refine anyL_take (i := 6) (v := ?_) rfl (by kernel_rfl) (by kernel_rfl) (by kernel_rfl) (by decide) hsh (fun _ _ _ h => h) (Or.inl ⟨by kernel_rfl, ?_⟩) hS ?_
          rotate_left 1
          · (intro wS hSw; (try dsimp only at hSw); first | (have q0 := cell_below k0 hSw (Nat.le_refl _); have qx := cell_below hcx hSw (Nat.le_refl _); go_simp; done) | (have q0 := cell_below k0 hSw (Nat.le_refl _); have qx := cell_below hcx hSw (Nat.le_refl _); go_simp; with_reducible rfl))
          intro hsh1 hS1; clear hsh hS; have hsh := hsh1; have hS := hS1; clear hsh1 hS1
          simp only [Act.put, List.setIfInBounds_toArray, List.set_cons_zero, List.set_cons_succ]
          refine anyL_take (i := 7) (v := ?_) rfl (by kernel_rfl) (by kernel_rfl) (by kernel_rfl) (by decide) hsh (fun _ _ _ h => h) (Or.inl ⟨by kernel_rfl, ?_⟩) hS ?_
          rotate_left 1
          · (intro wS hSw; (try dsimp only at hSw); first | (have q0 := cell_below k0 hSw (Nat.le_refl _); have qx := cell_below hcx hSw (Nat.le_refl _); go_simp; done) | (have q0 := cell_below k0 hSw (Nat.le_refl _); have qx := cell_below hcx hSw (Nat.le_refl _); go_simp; with_reducible rfl))
          intro hsh1 hS1; clear hsh hS; have hsh := hsh1; have hS := hS1; clear hsh1 hS1
          simp only [Act.put, List.setIfInBounds_toArray, List.set_cons_zero, List.set_cons_succ]
          refine anyL_take (i := 8) (v := ?_) rfl (by kernel_rfl) (by kernel_rfl) (by kernel_rfl) (by decide) hsh (fun _ _ _ h => h) (Or.inl ⟨by kernel_rfl, ?_⟩) hS ?_
          rotate_left 1
          · (intro wS hSw; (try dsimp only at hSw); first | (have q0 := cell_below k0 hSw (Nat.le_refl _); have qx := cell_below hcx hSw (Nat.le_refl _); go_simp; done) | (have q0 := cell_below k0 hSw (Nat.le_refl _); have qx := cell_below hcx hSw (Nat.le_refl _); go_simp; with_reducible rfl))
          intro hsh1 hS1; clear hsh hS; have hsh := hsh1; have hS := hS1; clear hsh1 hS1
          simp only [Act.put, List.setIfInBounds_toArray, List.set_cons_zero, List.set_cons_succ]
          refine anyL_take (i := 9) (v := ?_) rfl (by kernel_rfl) (by kernel_rfl) (by kernel_rfl) (by decide) hsh (fun _ _ _ h => h) (Or.inl ⟨by kernel_rfl, ?_⟩) hS ?_
          rotate_left 1
          · (intro wS hSw; (try dsimp only at hSw); first | (have q0 := cell_below k0 hSw (Nat.le_refl _); have qx := cell_below hcx hSw (Nat.le_refl _); go_simp; done) | (have q0 := cell_below k0 hSw (Nat.le_refl _); have qx := cell_below hcx hSw (Nat.le_refl _); go_simp; with_reducible rfl))
          intro hsh1 hS1; clear hsh hS; have hsh := hsh1; have hS := hS1; clear hsh1 hS1
          simp only [Act.put, List.setIfInBounds_toArray, List.set_cons_zero, List.set_cons_succ]
          refine anyL_take (i := 10) (v := ?_) rfl (by kernel_rfl) (by kernel_rfl) (by kernel_rfl) (by decide) hsh (fun _ _ _ h => h) (Or.inl ⟨by kernel_rfl, ?_⟩) hS ?_
          rotate_left 1
          · (intro wS hSw; (try dsimp only at hSw); first | (have q0 := cell_below k0 hSw (Nat.le_refl _); have qx := cell_below hcx hSw (Nat.le_refl _); go_simp; done) | (have q0 := cell_below k0 hSw (Nat.le_refl _); have qx := cell_below hcx hSw (Nat.le_refl _); go_simp; with_reducible rfl))
          intro hsh1 hS1; clear hsh hS; have hsh := hsh1; have hS := hS1; clear hsh1 hS1
          simp only [Act.put, List.setIfInBounds_toArray, List.set_cons_zero, List.set_cons_succ]
          refine anyL_take (i := 11) (v := ?_) rfl (by kernel_rfl) (by kernel_rfl) (by kernel_rfl) (by decide) hsh (fun _ _ _ h => h) (Or.inl ⟨by kernel_rfl, ?_⟩) hS ?_
          rotate_left 1
          · (intro wS hSw; (try dsimp only at hSw); first | (have q0 := cell_below k0 hSw (Nat.le_refl _); have qx := cell_below hcx hSw (Nat.le_refl _); go_simp; done) | (have q0 := cell_below k0 hSw (Nat.le_refl _); have qx := cell_below hcx hSw (Nat.le_refl _); go_simp; with_reducible rfl))
          intro hsh1 hS1; clear hsh hS; have hsh := hsh1; have hS := hS1; clear hsh1 hS1
          simp only [Act.put, List.setIfInBounds_toArray, List.set_cons_zero, List.set_cons_succ]
          refine anyL_take (i := 12) (v := ?_) rfl (by kernel_rfl) (by kernel_rfl) (by kernel_rfl) (by decide) hsh (fun _ _ _ h => h) (Or.inl ⟨by kernel_rfl, ?_⟩) hS ?_
          rotate_left 1
          · (intro wS hSw; (try dsimp only at hSw); first | (have q0 := cell_below k0 hSw (Nat.le_refl _); have qx := cell_below hcx hSw (Nat.le_refl _); go_simp; done) | (have q0 := cell_below k0 hSw (Nat.le_refl _); have qx := cell_below hcx hSw (Nat.le_refl _); go_simp; with_reducible rfl))
          intro hsh1 hS1; clear hsh hS; have hsh := hsh1; have hS := hS1; clear hsh1 hS1
          simp only [Act.put, List.setIfInBounds_toArray, List.set_cons_zero, List.set_cons_succ]
          refine anyL_take (i := 13) (v := ?_) rfl (by kernel_rfl) (by kernel_rfl) (by kernel_rfl) (by decide) hsh (fun _ _ _ h => h) (Or.inl ⟨by kernel_rfl, ?_⟩) hS ?_
          rotate_left 1
          · (intro wS hSw; (try dsimp only at hSw); first | (have q0 := cell_below k0 hSw (Nat.le_refl _); have qx := cell_below hcx hSw (Nat.le_refl _); go_simp; done) | (have q0 := cell_below k0 hSw (Nat.le_refl _); have qx := cell_below hcx hSw (Nat.le_refl _); go_simp; with_reducible rfl))
          intro hsh1 hS1; clear hsh hS; have hsh := hsh1; have hS := hS1; clear hsh1 hS1
          simp only [Act.put, List.setIfInBounds_toArray, List.set_cons_zero, List.set_cons_succ]
          refine anyL_take (i := 14) (v := ?_) rfl (by kernel_rfl) (by kernel_rfl) (by kernel_rfl) (by decide) hsh (fun _ _ _ h => h) (Or.inl ⟨by kernel_rfl, ?_⟩) hS ?_
          rotate_left 1
          · (intro wS hSw; (try dsimp only at hSw); first | (have q0 := cell_below k0 hSw (Nat.le_refl _); have qx := cell_below hcx hSw (Nat.le_refl _); go_simp; done) | (have q0 := cell_below k0 hSw (Nat.le_refl _); have qx := cell_below hcx hSw (Nat.le_refl _); go_simp; with_reducible rfl))
          intro hsh1 hS1; clear hsh hS; have hsh := hsh1; have hS := hS1; clear hsh1 hS1
          simp only [Act.put, List.setIfInBounds_toArray, List.set_cons_zero, List.set_cons_succ]
          refine anyL_take (i := 15) (v := ?_) rfl (by kernel_rfl) (by kernel_rfl) (by kernel_rfl) (by decide) hsh (fun _ _ _ h => h) (Or.inl ⟨by kernel_rfl, ?_⟩) hS ?_
          rotate_left 1
          · (intro wS hSw; (try dsimp only at hSw); first | (have q0 := cell_below k0 hSw (Nat.le_refl _); have qx := cell_below hcx hSw (Nat.le_refl _); go_simp; done) | (have q0 := cell_below k0 hSw (Nat.le_refl _); have qx := cell_below hcx hSw (Nat.le_refl _); go_simp; with_reducible rfl))
          intro hsh1 hS1; clear hsh hS; have hsh := hsh1; have hS := hS1; clear hsh1 hS1
          simp only [Act.put, List.setIfInBounds_toArray, List.set_cons_zero, List.set_cons_succ]
          refine anyL_take (i := 16) (v := ?_) rfl (by kernel_rfl) (by kernel_rfl) (by kernel_rfl) (by decide) hsh (fun _ _ _ h => h) (Or.inl ⟨by kernel_rfl, ?_⟩) hS ?_
          rotate_left 1
          · (intro wS hSw; (try dsimp only at hSw); first | (have q0 := cell_below k0 hSw (Nat.le_refl _); have qx := cell_below hcx hSw (Nat.le_refl _); go_simp; done) | (have q0 := cell_below k0 hSw (Nat.le_refl _); have qx := cell_below hcx hSw (Nat.le_refl _); go_simp; with_reducible rfl))
          intro hsh1 hS1; clear hsh hS; have hsh := hsh1; have hS := hS1; clear hsh1 hS1
          simp only [Act.put, List.setIfInBounds_toArray, List.set_cons_zero, List.set_cons_succ]
          refine anyL_take (i := 17) (v := ?_) rfl (by kernel_rfl) (by kernel_rfl) (by kernel_rfl) (by decide) hsh (fun _ _ _ h => h) (Or.inl ⟨by kernel_rfl, ?_⟩) hS ?_
          rotate_left 1
          · (intro wS hSw; (try dsimp only at hSw); first | (have q0 := cell_below k0 hSw (Nat.le_refl _); have qx := cell_below hcx hSw (Nat.le_refl _); go_simp; done) | (have q0 := cell_below k0 hSw (Nat.le_refl _); have qx := cell_below hcx hSw (Nat.le_refl _); go_simp; with_reducible rfl))
          intro hsh1 hS1; clear hsh hS; have hsh := hsh1; have hS := hS1; clear hsh1 hS1
          simp only [Act.put, List.setIfInBounds_toArray, List.set_cons_zero, List.set_cons_succ]
          refine anyL_one (i := 18) (by kernel_rfl) rfl hsh (fun K hK => ?_)
          have hb18 := hS.1
          go_simp
          go_at_call 28
          with_reducible refine (ca _ hb18).mono ?_
          rintro e w2 ⟨rfl, hc18⟩
          have hd18 := below_two hb18 hc18
          try go_simp
          refine hK.out _ _ ⟨hd18, fun _ => trivial⟩ (fun hsh1 hS1 => ?_)
          clear hsh hS hK K; have hsh := hsh1; have hS := hS1; clear hsh1 hS1
          refine anyL_take (i := 19) (v := ?_) rfl (by kernel_rfl) (by kernel_rfl) (by kernel_rfl) (by decide) hsh (fun _ _ _ h => h) (Or.inl ⟨by kernel_rfl, ?_⟩) hS ?_
          rotate_left 1
          · (intro wS hSw; (try dsimp only at hSw); first | (have q0 := cell_below k0 hSw (Nat.le_refl _); have qx := cell_below hcx hSw (Nat.le_refl _); go_simp; done) | (have q0 := cell_below k0 hSw (Nat.le_refl _); have qx := cell_below hcx hSw (Nat.le_refl _); go_simp; with_reducible rfl))
          intro hsh1 hS1; clear hsh hS; have hsh := hsh1; have hS := hS1; clear hsh1 hS1
          simp only [Act.put, List.setIfInBounds_toArray, List.set_cons_zero, List.set_cons_succ]
          refine anyL_done (by kernel_rfl) ?_ _
          go_wp2
          go_ret
          exact ⟨by rw [A.out]; rfl, below_two HBw.out hS.1⟩
        | false =>
          have HN : Aside0 (namesR [] (nsL ms) = namesR (nsL (ms.take (i + 1))) ((nsL ms).drop (i + 1))) := ⟨by rw [HST.out]; rfl⟩
          clear bad
          go_upto_region 6 with fail
          refine wp_region_L (fun w' => Below wr.heap.size wr w') (fun _ => True) 40 (by kernel_rfl) ((Below.refl _ _).drew) trivial (fun hsh hS => ?_)
          generalize wr.drew = w0 at *
          refine anyL_take (i := 0) (v := ?_) rfl (by kernel_rfl) (by kernel_rfl) (by kernel_rfl) (by decide) hsh (fun _ _ _ h => h) (Or.inl ⟨by kernel_rfl, ?_⟩) hS ?_
          rotate_left 1
          · (intro wS hSw; (try dsimp only at hSw); first | (have q0 := cell_below k0 hSw (Nat.le_refl _); have qx := cell_below hcx hSw (Nat.le_refl _); go_simp; done) | (have q0 := cell_below k0 hSw (Nat.le_refl _); have qx := cell_below hcx hSw (Nat.le_refl _); go_simp; with_reducible rfl))
          intro hsh1 hS1; clear hsh hS; have hsh := hsh1; have hS := hS1; clear hsh1 hS1
          simp only [Act.put, List.setIfInBounds_toArray, List.set_cons_zero, List.set_cons_succ]
          refine anyL_take (i := 1) (v := ?_) rfl (by kernel_rfl) (by kernel_rfl) (by kernel_rfl) (by decide) hsh (fun _ _ _ h => h) (Or.inl ⟨by kernel_rfl, ?_⟩) hS ?_
          rotate_left 1
          · (intro wS hSw; (try dsimp only at hSw); first | (have q0 := cell_below k0 hSw (Nat.le_refl _); have qx := cell_below hcx hSw (Nat.le_refl _); go_simp; done) | (have q0 := cell_below k0 hSw (Nat.le_refl _); have qx := cell_below hcx hSw (Nat.le_refl _); go_simp; with_reducible rfl))
          intro hsh1 hS1; clear hsh hS; have hsh := hsh1; have hS := hS1; clear hsh1 hS1
          simp only [Act.put, List.setIfInBounds_toArray, List.set_cons_zero, List.set_cons_succ]
          refine anyL_take (i := 2) (v := ?_) rfl (by kernel_rfl) (by kernel_rfl) (by kernel_rfl) (by decide) hsh (fun _ _ _ h => h) (Or.inl ⟨by kernel_rfl, ?_⟩) hS ?_
          rotate_left 1
          · (intro wS hSw; (try dsimp only at hSw); first | (have q0 := cell_below k0 hSw (Nat.le_refl _); have qx := cell_below hcx hSw (Nat.le_refl _); go_simp; done) | (have q0 := cell_below k0 hSw (Nat.le_refl _); have qx := cell_below hcx hSw (Nat.le_refl _); go_simp; with_reducible rfl))
          intro hsh1 hS1; clear hsh hS; have hsh := hsh1; have hS := hS1; clear hsh1 hS1
          simp only [Act.put, List.setIfInBounds_toArray, List.set_cons_zero, List.set_cons_succ]
          refine anyL_take (i := 3) (v := ?_) rfl (by kernel_rfl) (by kernel_rfl) (by kernel_rfl) (by decide) hsh (fun _ _ _ h => h) (Or.inl ⟨by kernel_rfl, ?_⟩) hS ?_
          rotate_left 1
          · (intro wS hSw; (try dsimp only at hSw); first | (have q0 := cell_below k0 hSw (Nat.le_refl _); have qx := cell_below hcx hSw (Nat.le_refl _); go_simp; done) | (have q0 := cell_below k0 hSw (Nat.le_refl _); have qx := cell_below hcx hSw (Nat.le_refl _); go_simp; with_reducible rfl))
          intro hsh1 hS1; clear hsh hS; have hsh := hsh1; have hS := hS1; clear hsh1 hS1
          simp only [Act.put, List.setIfInBounds_toArray, List.set_cons_zero, List.set_cons_succ]
          refine anyL_take (i := 4) (v := ?_) rfl (by kernel_rfl) (by kernel_rfl) (by kernel_rfl) (by decide) hsh (fun _ _ _ h => h) (Or.inl ⟨by kernel_rfl, ?_⟩) hS ?_
          rotate_left 1
          · (intro wS hSw; (try dsimp only at hSw); first | (have q0 := cell_below k0 hSw (Nat.le_refl _); have qx := cell_below hcx hSw (Nat.le_refl _); go_simp; done) | (have q0 := cell_below k0 hSw (Nat.le_refl _); have qx := cell_below hcx hSw (Nat.le_refl _); go_simp; with_reducible rfl))
          intro hsh1 hS1; clear hsh hS; have hsh := hsh1; have hS := hS1; clear hsh1 hS1
          simp only [Act.put, List.setIfInBounds_toArray, List.set_cons_zero, List.set_cons_succ]
          refine anyL_one (i := 5) (by kernel_rfl) rfl hsh (fun K hK => ?_)
          have hb5 := hS.1
          go_simp
          go_at_call 27
          with_reducible refine (cn _).mono ?_
          rintro e w1 ⟨rfl, hc5⟩
          have hd5 := below_two hb5 hc5
          try go_simp
          refine hK.out _ _ ⟨hd5, fun _ => trivial⟩ (fun hsh1 hS1 => ?_)
          clear hsh hS hK K; have hsh := hsh1; have hS := hS1; clear hsh1 hS1
          refine anyL_take (i := 6) (v := ?_) rfl (by kernel_rfl) (by kernel_rfl) (by kernel_rfl) (by decide) hsh (fun _ _ _ h => h) (Or.inl ⟨by kernel_rfl, ?_⟩) hS ?_
          rotate_left 1
          · (intro wS hSw; (try dsimp only at hSw); first | (have q0 := cell_below k0 hSw (Nat.le_refl _); have qx := cell_below hcx hSw (Nat.le_refl _); go_simp; done) | (have q0 := cell_below k0 hSw (Nat.le_refl _); have qx := cell_below hcx hSw (Nat.le_refl _); go_simp; with_reducible rfl))
          intro hsh1 hS1; clear hsh hS; have hsh := hsh1; have hS := hS1; clear hsh1 hS1
          simp only [Act.put, List.setIfInBounds_toArray, List.set_cons_zero, List.set_cons_succ]
          refine anyL_take (i := 7) (v := ?_) rfl (by kernel_rfl) (by kernel_rfl) (by kernel_rfl) (by decide) hsh (fun _ _ _ h => h) (Or.inl ⟨by kernel_rfl, ?_⟩) hS ?_
          rotate_left 1
          · (intro wS hSw; (try dsimp only at hSw); first | (have q0 := cell_below k0 hSw (Nat.le_refl _); have qx := cell_below hcx hSw (Nat.le_refl _); go_simp; done) | (have q0 := cell_below k0 hSw (Nat.le_refl _); have qx := cell_below hcx hSw (Nat.le_refl _); go_simp; with_reducible rfl))
          intro hsh1 hS1; clear hsh hS; have hsh := hsh1; have hS := hS1; clear hsh1 hS1
          simp only [Act.put, List.setIfInBounds_toArray, List.set_cons_zero, List.set_cons_succ]
          refine anyL_take (i := 8) (v := ?_) rfl (by kernel_rfl) (by kernel_rfl) (by kernel_rfl) (by decide) hsh (fun _ _ _ h => h) (Or.inl ⟨by kernel_rfl, ?_⟩) hS ?_
          rotate_left 1
          · (intro wS hSw; (try dsimp only at hSw); first | (have q0 := cell_below k0 hSw (Nat.le_refl _); have qx := cell_below hcx hSw (Nat.le_refl _); go_simp; done) | (have q0 := cell_below k0 hSw (Nat.le_refl _); have qx := cell_below hcx hSw (Nat.le_refl _); go_simp; with_reducible rfl))
          intro hsh1 hS1; clear hsh hS; have hsh := hsh1; have hS := hS1; clear hsh1 hS1
          simp only [Act.put, List.setIfInBounds_toArray, List.set_cons_zero, List.set_cons_succ]
          refine anyL_take (i := 9) (v := ?_) rfl (by kernel_rfl) (by kernel_rfl) (by kernel_rfl) (by decide) hsh (fun _ _ _ h => h) (Or.inl ⟨by kernel_rfl, ?_⟩) hS ?_
          rotate_left 1
          · (intro wS hSw; (try dsimp only at hSw); first | (have q0 := cell_below k0 hSw (Nat.le_refl _); have qx := cell_below hcx hSw (Nat.le_refl _); go_simp; done) | (have q0 := cell_below k0 hSw (Nat.le_refl _); have qx := cell_below hcx hSw (Nat.le_refl _); go_simp; with_reducible rfl))
          intro hsh1 hS1; clear hsh hS; have hsh := hsh1; have hS := hS1; clear hsh1 hS1
          simp only [Act.put, List.setIfInBounds_toArray, List.set_cons_zero, List.set_cons_succ]
          refine anyL_take (i := 10) (v := ?_) rfl (by kernel_rfl) (by kernel_rfl) (by kernel_rfl) (by decide) hsh (fun _ _ _ h => h) (Or.inl ⟨by kernel_rfl, ?_⟩) hS ?_
          rotate_left 1
          · (intro wS hSw; (try dsimp only at hSw); first | (have q0 := cell_below k0 hSw (Nat.le_refl _); have qx := cell_below hcx hSw (Nat.le_refl _); go_simp; done) | (have q0 := cell_below k0 hSw (Nat.le_refl _); have qx := cell_below hcx hSw (Nat.le_refl _); go_simp; with_reducible rfl))
          intro hsh1 hS1; clear hsh hS; have hsh := hsh1; have hS := hS1; clear hsh1 hS1
          simp only [Act.put, List.setIfInBounds_toArray, List.set_cons_zero, List.set_cons_succ]
          refine anyL_take (i := 11) (v := ?_) rfl (by kernel_rfl) (by kernel_rfl) (by kernel_rfl) (by decide) hsh (fun _ _ _ h => h) (Or.inl ⟨by kernel_rfl, ?_⟩) hS ?_
          rotate_left 1
          · (intro wS hSw; (try dsimp only at hSw); first | (have q0 := cell_below k0 hSw (Nat.le_refl _); have qx := cell_below hcx hSw (Nat.le_refl _); go_simp; done) | (have q0 := cell_below k0 hSw (Nat.le_refl _); have qx := cell_below hcx hSw (Nat.le_refl _); go_simp; with_reducible rfl))
          intro hsh1 hS1; clear hsh hS; have hsh := hsh1; have hS := hS1; clear hsh1 hS1
          simp only [Act.put, List.setIfInBounds_toArray, List.set_cons_zero, List.set_cons_succ]
          refine anyL_take (i := 12) (v := ?_) rfl (by kernel_rfl) (by kernel_rfl) (by kernel_rfl) (by decide) hsh (fun _ _ _ h => h) (Or.inl ⟨by kernel_rfl, ?_⟩) hS ?_
          rotate_left 1
          · (intro wS hSw; (try dsimp only at hSw); first | (have q0 := cell_below k0 hSw (Nat.le_refl _); have qx := cell_below hcx hSw (Nat.le_refl _); go_simp; done) | (have q0 := cell_below k0 hSw (Nat.le_refl _); have qx := cell_below hcx hSw (Nat.le_refl _); go_simp; with_reducible rfl))
          intro hsh1 hS1; clear hsh hS; have hsh := hsh1; have hS := hS1; clear hsh1 hS1
          simp only [Act.put, List.setIfInBounds_toArray, List.set_cons_zero, List.set_cons_succ]
          refine anyL_take (i := 13) (v := ?_) rfl (by kernel_rfl) (by kernel_rfl) (by kernel_rfl) (by decide) hsh (fun _ _ _ h => h) (Or.inl ⟨by kernel_rfl, ?_⟩) hS ?_
          rotate_left 1
          · (intro wS hSw; (try dsimp only at hSw); first | (have q0 := cell_below k0 hSw (Nat.le_refl _); have qx := cell_below hcx hSw (Nat.le_refl _); go_simp; done) | (have q0 := cell_below k0 hSw (Nat.le_refl _); have qx := cell_below hcx hSw (Nat.le_refl _); go_simp; with_reducible rfl))
          intro hsh1 hS1; clear hsh hS; have hsh := hsh1; have hS := hS1; clear hsh1 hS1
          simp only [Act.put, List.setIfInBounds_toArray, List.set_cons_zero, List.set_cons_succ]
          refine anyL_take (i := 14) (v := ?_) rfl (by kernel_rfl) (by kernel_rfl) (by kernel_rfl) (by decide) hsh (fun _ _ _ h => h) (Or.inl ⟨by kernel_rfl, ?_⟩) hS ?_
          rotate_left 1
          · (intro wS hSw; (try dsimp only at hSw); first | (have q0 := cell_below k0 hSw (Nat.le_refl _); have qx := cell_below hcx hSw (Nat.le_refl _); go_simp; done) | (have q0 := cell_below k0 hSw (Nat.le_refl _); have qx := cell_below hcx hSw (Nat.le_refl _); go_simp; with_reducible rfl))
          intro hsh1 hS1; clear hsh hS; have hsh := hsh1; have hS := hS1; clear hsh1 hS1
          simp only [Act.put, List.setIfInBounds_toArray, List.set_cons_zero, List.set_cons_succ]
          refine anyL_take (i := 15) (v := ?_) rfl (by kernel_rfl) (by kernel_rfl) (by kernel_rfl) (by decide) hsh (fun _ _ _ h => h) (Or.inl ⟨by kernel_rfl, ?_⟩) hS ?_
          rotate_left 1
          · (intro wS hSw; (try dsimp only at hSw); first | (have q0 := cell_below k0 hSw (Nat.le_refl _); have qx := cell_below hcx hSw (Nat.le_refl _); go_simp; done) | (have q0 := cell_below k0 hSw (Nat.le_refl _); have qx := cell_below hcx hSw (Nat.le_refl _); go_simp; with_reducible rfl))
          intro hsh1 hS1; clear hsh hS; have hsh := hsh1; have hS := hS1; clear hsh1 hS1
          simp only [Act.put, List.setIfInBounds_toArray, List.set_cons_zero, List.set_cons_succ]
          refine anyL_take (i := 16) (v := ?_) rfl (by kernel_rfl) (by kernel_rfl) (by kernel_rfl) (by decide) hsh (fun _ _ _ h => h) (Or.inl ⟨by kernel_rfl, ?_⟩) hS ?_
          rotate_left 1
          · (intro wS hSw; (try dsimp only at hSw); first | (have q0 := cell_below k0 hSw (Nat.le_refl _); have qx := cell_below hcx hSw (Nat.le_refl _); go_simp; done) | (have q0 := cell_below k0 hSw (Nat.le_refl _); have qx := cell_below hcx hSw (Nat.le_refl _); go_simp; with_reducible rfl))
          intro hsh1 hS1; clear hsh hS; have hsh := hsh1; have hS := hS1; clear hsh1 hS1
          simp only [Act.put, List.setIfInBounds_toArray, List.set_cons_zero, List.set_cons_succ]
          refine anyL_take (i := 17) (v := ?_) rfl (by kernel_rfl) (by kernel_rfl) (by kernel_rfl) (by decide) hsh (fun _ _ _ h => h) (Or.inl ⟨by kernel_rfl, ?_⟩) hS ?_
          rotate_left 1
          · (intro wS hSw; (try dsimp only at hSw); first | (have q0 := cell_below k0 hSw (Nat.le_refl _); have qx := cell_below hcx hSw (Nat.le_refl _); go_simp; done) | (have q0 := cell_below k0 hSw (Nat.le_refl _); have qx := cell_below hcx hSw (Nat.le_refl _); go_simp; with_reducible rfl))
          intro hsh1 hS1; clear hsh hS; have hsh := hsh1; have hS := hS1; clear hsh1 hS1
          simp only [Act.put, List.setIfInBounds_toArray, List.set_cons_zero, List.set_cons_succ]
          refine anyL_one (i := 18) (by kernel_rfl) rfl hsh (fun K hK => ?_)
          have hb18 := hS.1
          go_simp
          go_at_call 28
          with_reducible refine (ca _ hb18).mono ?_
          rintro e w2 ⟨rfl, hc18⟩
          have hd18 := below_two hb18 hc18
          try go_simp
          refine hK.out _ _ ⟨hd18, fun _ => trivial⟩ (fun hsh1 hS1 => ?_)
          clear hsh hS hK K; have hsh := hsh1; have hS := hS1; clear hsh1 hS1
          refine anyL_take (i := 19) (v := ?_) rfl (by kernel_rfl) (by kernel_rfl) (by kernel_rfl) (by decide) hsh (fun _ _ _ h => h) (Or.inl ⟨by kernel_rfl, ?_⟩) hS ?_
          rotate_left 1
          · (intro wS hSw; (try dsimp only at hSw); first | (have q0 := cell_below k0 hSw (Nat.le_refl _); have qx := cell_below hcx hSw (Nat.le_refl _); go_simp; done) | (have q0 := cell_below k0 hSw (Nat.le_refl _); have qx := cell_below hcx hSw (Nat.le_refl _); go_simp; with_reducible rfl))
          intro hsh1 hS1; clear hsh hS; have hsh := hsh1; have hS := hS1; clear hsh1 hS1
          simp only [Act.put, List.setIfInBounds_toArray, List.set_cons_zero, List.set_cons_succ]
          refine anyL_done (by kernel_rfl) ?_ _
          go_wp2
          go_roundg q
          case measure => omega
          case rel => exact ⟨i + 1, by go_num, by omega, ⟨below_two hB.out hS.1⟩, HN⟩
    · obtain rfl : n = i := by omega
      have hlt : ¬ (n : Int) < (n : Int) := by omega
      have k1 := cell_below HK.out.2.2.1 hB.out (Nat.le_refl _)
      have hnm : namesR [] (nsL ms) = true := by
        rw [hF.out, List.drop_eq_nil_of_le (by rw [nsL, List.length_map, HW.out.2.1]; exact Nat.le_refl _)]; rfl
      have hall := namesR_all _ _ hnm
      have hlen : ¬ 16 < (nsL ms).length := by rw [nsL, List.length_map, HW.out.2.1]; exact h16
      have cf : Calls Tryd.prog 29 #[.agg #[.slice am n cm, .slice as1 ns cs]] wr (IsY (fSs s) wr) := by have := HP.out.2.1 wr hBw; rw [hall, Bool.true_and] at this; exact this
      have cp : ∀ W, Below wr.heap.size wr W → Calls Tryd.prog 30 #[.agg #[.slice am n cm, .slice as1 ns cs]] W (PartsP W s) := fun W hW => HP.out.1 W (below_two hBw hW)
      have HPV : Aside0 (∀ W, Below w.heap.size w W → SV W 1 (.slice am n cm) n (nsC ms)) := ⟨HP.out.2.2⟩
      have HRL : Aside0 (∀ L : List Fp, (∀ Q : Part → Prop, (∀ p ∈ L.map Fp.part, Q p) ↔ allS Q s 1 false) → fSs s = true → R = if (L.map Fp.part).all (fun p => !p.bad (nsL ms)) = false then 231 else if (L.map Fp.part).all (fun p => !p.out) = false then 232 else if (L.map Fp.part).all (fun p => decide (p.deep ≤ 64)) = false then 233 else 0) := ⟨fun L hL e => by
        have e2 := parts_loc hL
        rw [e] at e2
        rw [HR.out L hL, checkR, if_neg (by rw [hnm]; simp; exact Nat.le_of_not_lt hlen), if_neg (by rw [← e2]; decide)]⟩
      have A0 : Aside0 (fSs s = false → R = 231) := ⟨fun e => by
        rw [HRP.out, checkP, if_neg (by rw [namesG_eq _ _ (by simp), hnm]; simp; exact Nat.le_of_not_lt hlen), if_pos e]⟩
      have HBw : Aside0 (Below w.heap.size w wr) := ⟨hBw⟩
      obtain ⟨bf, hbf⟩ : ∃ b, fSs s = b := ⟨_, rfl⟩
      rw [hbf] at cf
      have HBF : Aside0 (fSs s = bf) := ⟨hbf⟩
      clear hbf hnm hall hlen hBw hF HP
      cases bf with
      | false =>
        have A : Aside0 (R = 231) := ⟨A0.out HBF.out⟩
        go_wp2_with (go_at_call 29; (with_reducible refine cf.mono ?_); rintro e w' ⟨rfl, hB2⟩)
        go_ret
        exact ⟨by rw [A.out]; rfl, below_two HBw.out hB2⟩
      | true =>
        go_wp2_with (first | (go_at_call 29; (with_reducible refine cf.mono ?_); rintro e w' ⟨rfl, hB2⟩; (have y0 := cell_below k0 hB2 (Nat.le_refl _)); (have y1 := cell_below k1 hB2 (Nat.le_refl _))) | (go_at_call 30; (with_reducible refine (cp _ hB2).mono ?_); intro e W2 hp; obtain ⟨v, L, rfl, hpl, hB2', hlc, -, hall⟩ := hp.read; obtain ⟨ao, c, g, o, rfl, hcap, hlead, hat⟩ := hpl.at))
        have A2 : Aside0 (R = if (L.map Fp.part).all (fun p => !p.bad (nsL ms)) = false then 231 else if (L.map Fp.part).all (fun p => !p.out) = false then 232 else if (L.map Fp.part).all (fun p => decide (p.deep ≤ 64)) = false then 233 else 0) := ⟨HRL.out L hall HBF.out⟩
        have hlc3 : L.length ≤ 3000000 := by have := HW.out.2.2.2; omega
        obtain ⟨nl, hnl⟩ : ∃ m, L.length = m := ⟨_, rfl⟩
        rw [hnl] at hlead hcap hlc3 ⊢
        have HL : Aside0 (L.length = nl ∧ (nl = 0 ∨ ao = some ⟨g, o, none⟩) ∧ (∀ (j : Nat) (f : Fp), L[j]? = some f → FAt W2 g (o + j * 15) f)) := ⟨hnl, hlead, hat⟩
        have HB2 : Aside0 (Below w.heap.size w W2) := ⟨below_two HBw.out (below_two hB2 hB2')⟩
        have HK2 : Aside0 (W2.cell? ⟨w.heap.size, 0, none⟩ = some (.slice am n cm) ∧ W2.cell? ⟨w.heap.size, 1, none⟩ = some (.slice as1 ns cs)) := ⟨cell_below y0 hB2' (Nat.le_refl _), cell_below y1 hB2' (Nat.le_refl _)⟩
        have HP := HPV
        clear hnl hlead hat hlc hpl hp hall cf cp HRL A0 HBF HPV HBw HK HR HRP k0 k1 y0 y1 hB2 hB2' hws hlt hig hB hi
        go_loopg [5] nl (fun g1 v5 wz => ∃ i : Nat, v5 = .int .i64 i ∧ i + g1 = nl ∧ Below W2.heap.size W2 wz ∧ Aside0 (∀ j f, j < i → L[j]? = some f → f.part.bad (nsL ms) = false))
        case atStart => exact ⟨0, rfl, by omega, Below.refl _ _, ⟨fun j x hj => by omega⟩⟩
        case round =>
          obtain ⟨i, rfl, hig, hB, hF⟩ := hrel
          have hBw : Below w.heap.size w wr := below_two HB2.out hB
          by_cases hi : i < nl
          · have hlt : (i : Int) < (nl : Int) := by omega
            obtain ⟨q, rfl⟩ : ∃ q, gk = q + 1 := ⟨gk - 1, by omega⟩
            obtain ⟨f, hf⟩ : ∃ f, L[i]? = some f := ⟨_, List.getElem?_eq_getElem (by rw [HL.out.1]; exact hi)⟩
            obtain ⟨a1, p1, a2, p2, a3, p3, a4, p4, ⟨x0, x1, x2, x3, x4, x5, x6⟩, ⟨x7, x8, x9, x10, x11⟩, x12, x13, x14⟩ := (HL.out.2.2 i f hf).below hB (Nat.le_refl _)
            have hao : ao = some ⟨g, o, none⟩ := by rcases HL.out.2.1 with e | e; (omega); exact e
            have HX : Aside0 (L[i]? = some f) := ⟨hf⟩
            have HBw : Aside0 (Below w.heap.size w wr) := ⟨hBw⟩
            have HBr : Aside0 (Below W2.heap.size W2 wr) := ⟨hB⟩
            subst hao
            clear hf
            have k0 := cell_below HK2.out.1 hB (Nat.le_refl _)
            have k1 := cell_below HK2.out.2 hB (Nat.le_refl _)
            have cu : ∀ W, Below wr.heap.size wr W → Calls Tryd.prog 31 #[.agg #[.slice am n cm, .slice as1 ns cs], .agg #[.int .i64 f.s.kind, .string f.s.name, .string f.s.key, .string f.s.val, .slice a1 f.s.exprs.len p1, .slice a2 f.s.body.len p2, .slice a3 f.s.els.len p3, .int .i64 f.x.kind, .int .i64 f.x.num, .string f.x.name, .string f.x.op, .slice a4 f.x.args.len p4, .bool f.is, .int .i64 (f.d : Int), .bool f.b]] W (IsY (!f.part.bad (nsL ms)) W) := fun W hW => by
              refine used_walk ms _ _ f _ _ _ _ W (by rw [HW.out.2.1]; exact hml) ?_ ⟨_, _, _, rfl⟩ ⟨_, _, _, rfl⟩ ⟨_, _, _, rfl⟩ ⟨_, _, _, rfl⟩ ⟨_, _, _, rfl⟩
              rw [HW.out.2.1]
              exact HP.out W (below_two HBw.out hW)
            obtain ⟨bu, hbu⟩ : ∃ b, (!f.part.bad (nsL ms)) = b := ⟨_, rfl⟩
            rw [hbu] at cu
            clear hB hBw
            cases bu with
            | false =>
              have A : Aside0 (R = 231) := ⟨by
                rw [A2.out, if_pos]
                rw [List.all_eq_false]
                exact ⟨f.part, List.mem_map.2 ⟨f, List.mem_of_getElem? HX.out, rfl⟩, by rw [hbu]; decide⟩⟩
              clear hbu
              go_upto_region 14 with fail
              refine wp_region_L (fun w' => Below wr.heap.size wr w') (fun _ => True) 40 (by kernel_rfl) ((Below.refl _ _).drew) trivial (fun hsh hS => ?_)
              generalize wr.drew = w0 at *
              refine anyL_take (i := 0) (v := ?_) rfl (by kernel_rfl) (by kernel_rfl) (by kernel_rfl) (by decide) hsh (fun _ _ _ h => h) (Or.inl ⟨by kernel_rfl, ?_⟩) hS ?_
              rotate_left 1
              · (intro wS hSw; (try dsimp only at hSw); first | (have q0 := cell_below k0 hSw (Nat.le_refl _); have q1 := cell_below k1 hSw (Nat.le_refl _); have p0 := cell_below x0 hSw (Nat.le_refl _); have p1 := cell_below x1 hSw (Nat.le_refl _); have p2 := cell_below x2 hSw (Nat.le_refl _); have p3 := cell_below x3 hSw (Nat.le_refl _); have p4 := cell_below x4 hSw (Nat.le_refl _); have p5 := cell_below x5 hSw (Nat.le_refl _); have p6 := cell_below x6 hSw (Nat.le_refl _); have p7 := cell_below x7 hSw (Nat.le_refl _); have p8 := cell_below x8 hSw (Nat.le_refl _); have p9 := cell_below x9 hSw (Nat.le_refl _); have p10 := cell_below x10 hSw (Nat.le_refl _); have p11 := cell_below x11 hSw (Nat.le_refl _); have p12 := cell_below x12 hSw (Nat.le_refl _); have p13 := cell_below x13 hSw (Nat.le_refl _); have p14 := cell_below x14 hSw (Nat.le_refl _); go_simp; done) | (have q0 := cell_below k0 hSw (Nat.le_refl _); have q1 := cell_below k1 hSw (Nat.le_refl _); have p0 := cell_below x0 hSw (Nat.le_refl _); have p1 := cell_below x1 hSw (Nat.le_refl _); have p2 := cell_below x2 hSw (Nat.le_refl _); have p3 := cell_below x3 hSw (Nat.le_refl _); have p4 := cell_below x4 hSw (Nat.le_refl _); have p5 := cell_below x5 hSw (Nat.le_refl _); have p6 := cell_below x6 hSw (Nat.le_refl _); have p7 := cell_below x7 hSw (Nat.le_refl _); have p8 := cell_below x8 hSw (Nat.le_refl _); have p9 := cell_below x9 hSw (Nat.le_refl _); have p10 := cell_below x10 hSw (Nat.le_refl _); have p11 := cell_below x11 hSw (Nat.le_refl _); have p12 := cell_below x12 hSw (Nat.le_refl _); have p13 := cell_below x13 hSw (Nat.le_refl _); have p14 := cell_below x14 hSw (Nat.le_refl _); go_simp; with_reducible rfl))
              intro hsh1 hS1; clear hsh hS; have hsh := hsh1; have hS := hS1; clear hsh1 hS1
              simp only [Act.put, List.setIfInBounds_toArray, List.set_cons_zero, List.set_cons_succ]
              refine anyL_take (i := 1) (v := ?_) rfl (by kernel_rfl) (by kernel_rfl) (by kernel_rfl) (by decide) hsh (fun _ _ _ h => h) (Or.inl ⟨by kernel_rfl, ?_⟩) hS ?_
              rotate_left 1
              · (intro wS hSw; (try dsimp only at hSw); first | (have q0 := cell_below k0 hSw (Nat.le_refl _); have q1 := cell_below k1 hSw (Nat.le_refl _); have p0 := cell_below x0 hSw (Nat.le_refl _); have p1 := cell_below x1 hSw (Nat.le_refl _); have p2 := cell_below x2 hSw (Nat.le_refl _); have p3 := cell_below x3 hSw (Nat.le_refl _); have p4 := cell_below x4 hSw (Nat.le_refl _); have p5 := cell_below x5 hSw (Nat.le_refl _); have p6 := cell_below x6 hSw (Nat.le_refl _); have p7 := cell_below x7 hSw (Nat.le_refl _); have p8 := cell_below x8 hSw (Nat.le_refl _); have p9 := cell_below x9 hSw (Nat.le_refl _); have p10 := cell_below x10 hSw (Nat.le_refl _); have p11 := cell_below x11 hSw (Nat.le_refl _); have p12 := cell_below x12 hSw (Nat.le_refl _); have p13 := cell_below x13 hSw (Nat.le_refl _); have p14 := cell_below x14 hSw (Nat.le_refl _); go_simp; done) | (have q0 := cell_below k0 hSw (Nat.le_refl _); have q1 := cell_below k1 hSw (Nat.le_refl _); have p0 := cell_below x0 hSw (Nat.le_refl _); have p1 := cell_below x1 hSw (Nat.le_refl _); have p2 := cell_below x2 hSw (Nat.le_refl _); have p3 := cell_below x3 hSw (Nat.le_refl _); have p4 := cell_below x4 hSw (Nat.le_refl _); have p5 := cell_below x5 hSw (Nat.le_refl _); have p6 := cell_below x6 hSw (Nat.le_refl _); have p7 := cell_below x7 hSw (Nat.le_refl _); have p8 := cell_below x8 hSw (Nat.le_refl _); have p9 := cell_below x9 hSw (Nat.le_refl _); have p10 := cell_below x10 hSw (Nat.le_refl _); have p11 := cell_below x11 hSw (Nat.le_refl _); have p12 := cell_below x12 hSw (Nat.le_refl _); have p13 := cell_below x13 hSw (Nat.le_refl _); have p14 := cell_below x14 hSw (Nat.le_refl _); go_simp; with_reducible rfl))
              intro hsh1 hS1; clear hsh hS; have hsh := hsh1; have hS := hS1; clear hsh1 hS1
              simp only [Act.put, List.setIfInBounds_toArray, List.set_cons_zero, List.set_cons_succ]
              refine anyL_take (i := 2) (v := ?_) rfl (by kernel_rfl) (by kernel_rfl) (by kernel_rfl) (by decide) hsh (fun _ _ _ h => h) (Or.inl ⟨by kernel_rfl, ?_⟩) hS ?_
              rotate_left 1
              · (intro wS hSw; (try dsimp only at hSw); first | (have q0 := cell_below k0 hSw (Nat.le_refl _); have q1 := cell_below k1 hSw (Nat.le_refl _); have p0 := cell_below x0 hSw (Nat.le_refl _); have p1 := cell_below x1 hSw (Nat.le_refl _); have p2 := cell_below x2 hSw (Nat.le_refl _); have p3 := cell_below x3 hSw (Nat.le_refl _); have p4 := cell_below x4 hSw (Nat.le_refl _); have p5 := cell_below x5 hSw (Nat.le_refl _); have p6 := cell_below x6 hSw (Nat.le_refl _); have p7 := cell_below x7 hSw (Nat.le_refl _); have p8 := cell_below x8 hSw (Nat.le_refl _); have p9 := cell_below x9 hSw (Nat.le_refl _); have p10 := cell_below x10 hSw (Nat.le_refl _); have p11 := cell_below x11 hSw (Nat.le_refl _); have p12 := cell_below x12 hSw (Nat.le_refl _); have p13 := cell_below x13 hSw (Nat.le_refl _); have p14 := cell_below x14 hSw (Nat.le_refl _); go_simp; done) | (have q0 := cell_below k0 hSw (Nat.le_refl _); have q1 := cell_below k1 hSw (Nat.le_refl _); have p0 := cell_below x0 hSw (Nat.le_refl _); have p1 := cell_below x1 hSw (Nat.le_refl _); have p2 := cell_below x2 hSw (Nat.le_refl _); have p3 := cell_below x3 hSw (Nat.le_refl _); have p4 := cell_below x4 hSw (Nat.le_refl _); have p5 := cell_below x5 hSw (Nat.le_refl _); have p6 := cell_below x6 hSw (Nat.le_refl _); have p7 := cell_below x7 hSw (Nat.le_refl _); have p8 := cell_below x8 hSw (Nat.le_refl _); have p9 := cell_below x9 hSw (Nat.le_refl _); have p10 := cell_below x10 hSw (Nat.le_refl _); have p11 := cell_below x11 hSw (Nat.le_refl _); have p12 := cell_below x12 hSw (Nat.le_refl _); have p13 := cell_below x13 hSw (Nat.le_refl _); have p14 := cell_below x14 hSw (Nat.le_refl _); go_simp; with_reducible rfl))
              intro hsh1 hS1; clear hsh hS; have hsh := hsh1; have hS := hS1; clear hsh1 hS1
              simp only [Act.put, List.setIfInBounds_toArray, List.set_cons_zero, List.set_cons_succ]
              refine anyL_take (i := 3) (v := ?_) rfl (by kernel_rfl) (by kernel_rfl) (by kernel_rfl) (by decide) hsh (fun _ _ _ h => h) (Or.inl ⟨by kernel_rfl, ?_⟩) hS ?_
              rotate_left 1
              · (intro wS hSw; (try dsimp only at hSw); first | (have q0 := cell_below k0 hSw (Nat.le_refl _); have q1 := cell_below k1 hSw (Nat.le_refl _); have p0 := cell_below x0 hSw (Nat.le_refl _); have p1 := cell_below x1 hSw (Nat.le_refl _); have p2 := cell_below x2 hSw (Nat.le_refl _); have p3 := cell_below x3 hSw (Nat.le_refl _); have p4 := cell_below x4 hSw (Nat.le_refl _); have p5 := cell_below x5 hSw (Nat.le_refl _); have p6 := cell_below x6 hSw (Nat.le_refl _); have p7 := cell_below x7 hSw (Nat.le_refl _); have p8 := cell_below x8 hSw (Nat.le_refl _); have p9 := cell_below x9 hSw (Nat.le_refl _); have p10 := cell_below x10 hSw (Nat.le_refl _); have p11 := cell_below x11 hSw (Nat.le_refl _); have p12 := cell_below x12 hSw (Nat.le_refl _); have p13 := cell_below x13 hSw (Nat.le_refl _); have p14 := cell_below x14 hSw (Nat.le_refl _); go_simp; done) | (have q0 := cell_below k0 hSw (Nat.le_refl _); have q1 := cell_below k1 hSw (Nat.le_refl _); have p0 := cell_below x0 hSw (Nat.le_refl _); have p1 := cell_below x1 hSw (Nat.le_refl _); have p2 := cell_below x2 hSw (Nat.le_refl _); have p3 := cell_below x3 hSw (Nat.le_refl _); have p4 := cell_below x4 hSw (Nat.le_refl _); have p5 := cell_below x5 hSw (Nat.le_refl _); have p6 := cell_below x6 hSw (Nat.le_refl _); have p7 := cell_below x7 hSw (Nat.le_refl _); have p8 := cell_below x8 hSw (Nat.le_refl _); have p9 := cell_below x9 hSw (Nat.le_refl _); have p10 := cell_below x10 hSw (Nat.le_refl _); have p11 := cell_below x11 hSw (Nat.le_refl _); have p12 := cell_below x12 hSw (Nat.le_refl _); have p13 := cell_below x13 hSw (Nat.le_refl _); have p14 := cell_below x14 hSw (Nat.le_refl _); go_simp; with_reducible rfl))
              intro hsh1 hS1; clear hsh hS; have hsh := hsh1; have hS := hS1; clear hsh1 hS1
              simp only [Act.put, List.setIfInBounds_toArray, List.set_cons_zero, List.set_cons_succ]
              refine anyL_take (i := 4) (v := ?_) rfl (by kernel_rfl) (by kernel_rfl) (by kernel_rfl) (by decide) hsh (fun _ _ _ h => h) (Or.inl ⟨by kernel_rfl, ?_⟩) hS ?_
              rotate_left 1
              · (intro wS hSw; (try dsimp only at hSw); first | (have q0 := cell_below k0 hSw (Nat.le_refl _); have q1 := cell_below k1 hSw (Nat.le_refl _); have p0 := cell_below x0 hSw (Nat.le_refl _); have p1 := cell_below x1 hSw (Nat.le_refl _); have p2 := cell_below x2 hSw (Nat.le_refl _); have p3 := cell_below x3 hSw (Nat.le_refl _); have p4 := cell_below x4 hSw (Nat.le_refl _); have p5 := cell_below x5 hSw (Nat.le_refl _); have p6 := cell_below x6 hSw (Nat.le_refl _); have p7 := cell_below x7 hSw (Nat.le_refl _); have p8 := cell_below x8 hSw (Nat.le_refl _); have p9 := cell_below x9 hSw (Nat.le_refl _); have p10 := cell_below x10 hSw (Nat.le_refl _); have p11 := cell_below x11 hSw (Nat.le_refl _); have p12 := cell_below x12 hSw (Nat.le_refl _); have p13 := cell_below x13 hSw (Nat.le_refl _); have p14 := cell_below x14 hSw (Nat.le_refl _); go_simp; done) | (have q0 := cell_below k0 hSw (Nat.le_refl _); have q1 := cell_below k1 hSw (Nat.le_refl _); have p0 := cell_below x0 hSw (Nat.le_refl _); have p1 := cell_below x1 hSw (Nat.le_refl _); have p2 := cell_below x2 hSw (Nat.le_refl _); have p3 := cell_below x3 hSw (Nat.le_refl _); have p4 := cell_below x4 hSw (Nat.le_refl _); have p5 := cell_below x5 hSw (Nat.le_refl _); have p6 := cell_below x6 hSw (Nat.le_refl _); have p7 := cell_below x7 hSw (Nat.le_refl _); have p8 := cell_below x8 hSw (Nat.le_refl _); have p9 := cell_below x9 hSw (Nat.le_refl _); have p10 := cell_below x10 hSw (Nat.le_refl _); have p11 := cell_below x11 hSw (Nat.le_refl _); have p12 := cell_below x12 hSw (Nat.le_refl _); have p13 := cell_below x13 hSw (Nat.le_refl _); have p14 := cell_below x14 hSw (Nat.le_refl _); go_simp; with_reducible rfl))
              intro hsh1 hS1; clear hsh hS; have hsh := hsh1; have hS := hS1; clear hsh1 hS1
              simp only [Act.put, List.setIfInBounds_toArray, List.set_cons_zero, List.set_cons_succ]
              refine anyL_one (i := 5) (by kernel_rfl) rfl hsh (fun K hK => ?_)
              have hb5 := hS.1
              go_simp
              go_at_call 31
              with_reducible refine (cu _ hb5).mono ?_
              rintro e w1 ⟨rfl, hc5⟩
              have hd5 := below_two hb5 hc5
              try go_simp
              refine hK.out _ _ ⟨hd5, fun _ => trivial⟩ (fun hsh1 hS1 => ?_)
              clear hsh hS hK K; have hsh := hsh1; have hS := hS1; clear hsh1 hS1
              refine anyL_take (i := 6) (v := ?_) rfl (by kernel_rfl) (by kernel_rfl) (by kernel_rfl) (by decide) hsh (fun _ _ _ h => h) (Or.inl ⟨by kernel_rfl, ?_⟩) hS ?_
              rotate_left 1
              · (intro wS hSw; (try dsimp only at hSw); first | (go_simp; done) | (go_simp; with_reducible rfl))
              intro hsh1 hS1; clear hsh hS; have hsh := hsh1; have hS := hS1; clear hsh1 hS1
              simp only [Act.put, List.setIfInBounds_toArray, List.set_cons_zero, List.set_cons_succ]
              refine anyL_done (by kernel_rfl) ?_ _
              go_wp2
              go_ret
              exact ⟨by rw [A.out]; rfl, below_two HBw.out hS.1⟩
            | true =>
              have HB : Aside0 (f.part.bad (nsL ms) = false) := ⟨by simpa using hbu⟩
              clear hbu
              have HS1 : Aside0 (∀ j y, j < i + 1 → L[j]? = some y → y.part.bad (nsL ms) = false) := ⟨fun j y hj hy => by
                by_cases e2 : j = i
                · subst e2; obtain rfl := Option.some.inj (hy.symm.trans HX.out); exact HB.out
                · exact hF.out j y (by omega) hy⟩
              go_upto_region 14 with fail
              refine wp_region_L (fun w' => Below wr.heap.size wr w') (fun _ => True) 40 (by kernel_rfl) ((Below.refl _ _).drew) trivial (fun hsh hS => ?_)
              generalize wr.drew = w0 at *
              refine anyL_take (i := 0) (v := ?_) rfl (by kernel_rfl) (by kernel_rfl) (by kernel_rfl) (by decide) hsh (fun _ _ _ h => h) (Or.inl ⟨by kernel_rfl, ?_⟩) hS ?_
              rotate_left 1
              · (intro wS hSw; (try dsimp only at hSw); first | (have q0 := cell_below k0 hSw (Nat.le_refl _); have q1 := cell_below k1 hSw (Nat.le_refl _); have p0 := cell_below x0 hSw (Nat.le_refl _); have p1 := cell_below x1 hSw (Nat.le_refl _); have p2 := cell_below x2 hSw (Nat.le_refl _); have p3 := cell_below x3 hSw (Nat.le_refl _); have p4 := cell_below x4 hSw (Nat.le_refl _); have p5 := cell_below x5 hSw (Nat.le_refl _); have p6 := cell_below x6 hSw (Nat.le_refl _); have p7 := cell_below x7 hSw (Nat.le_refl _); have p8 := cell_below x8 hSw (Nat.le_refl _); have p9 := cell_below x9 hSw (Nat.le_refl _); have p10 := cell_below x10 hSw (Nat.le_refl _); have p11 := cell_below x11 hSw (Nat.le_refl _); have p12 := cell_below x12 hSw (Nat.le_refl _); have p13 := cell_below x13 hSw (Nat.le_refl _); have p14 := cell_below x14 hSw (Nat.le_refl _); go_simp; done) | (have q0 := cell_below k0 hSw (Nat.le_refl _); have q1 := cell_below k1 hSw (Nat.le_refl _); have p0 := cell_below x0 hSw (Nat.le_refl _); have p1 := cell_below x1 hSw (Nat.le_refl _); have p2 := cell_below x2 hSw (Nat.le_refl _); have p3 := cell_below x3 hSw (Nat.le_refl _); have p4 := cell_below x4 hSw (Nat.le_refl _); have p5 := cell_below x5 hSw (Nat.le_refl _); have p6 := cell_below x6 hSw (Nat.le_refl _); have p7 := cell_below x7 hSw (Nat.le_refl _); have p8 := cell_below x8 hSw (Nat.le_refl _); have p9 := cell_below x9 hSw (Nat.le_refl _); have p10 := cell_below x10 hSw (Nat.le_refl _); have p11 := cell_below x11 hSw (Nat.le_refl _); have p12 := cell_below x12 hSw (Nat.le_refl _); have p13 := cell_below x13 hSw (Nat.le_refl _); have p14 := cell_below x14 hSw (Nat.le_refl _); go_simp; with_reducible rfl))
              intro hsh1 hS1; clear hsh hS; have hsh := hsh1; have hS := hS1; clear hsh1 hS1
              simp only [Act.put, List.setIfInBounds_toArray, List.set_cons_zero, List.set_cons_succ]
              refine anyL_take (i := 1) (v := ?_) rfl (by kernel_rfl) (by kernel_rfl) (by kernel_rfl) (by decide) hsh (fun _ _ _ h => h) (Or.inl ⟨by kernel_rfl, ?_⟩) hS ?_
              rotate_left 1
              · (intro wS hSw; (try dsimp only at hSw); first | (have q0 := cell_below k0 hSw (Nat.le_refl _); have q1 := cell_below k1 hSw (Nat.le_refl _); have p0 := cell_below x0 hSw (Nat.le_refl _); have p1 := cell_below x1 hSw (Nat.le_refl _); have p2 := cell_below x2 hSw (Nat.le_refl _); have p3 := cell_below x3 hSw (Nat.le_refl _); have p4 := cell_below x4 hSw (Nat.le_refl _); have p5 := cell_below x5 hSw (Nat.le_refl _); have p6 := cell_below x6 hSw (Nat.le_refl _); have p7 := cell_below x7 hSw (Nat.le_refl _); have p8 := cell_below x8 hSw (Nat.le_refl _); have p9 := cell_below x9 hSw (Nat.le_refl _); have p10 := cell_below x10 hSw (Nat.le_refl _); have p11 := cell_below x11 hSw (Nat.le_refl _); have p12 := cell_below x12 hSw (Nat.le_refl _); have p13 := cell_below x13 hSw (Nat.le_refl _); have p14 := cell_below x14 hSw (Nat.le_refl _); go_simp; done) | (have q0 := cell_below k0 hSw (Nat.le_refl _); have q1 := cell_below k1 hSw (Nat.le_refl _); have p0 := cell_below x0 hSw (Nat.le_refl _); have p1 := cell_below x1 hSw (Nat.le_refl _); have p2 := cell_below x2 hSw (Nat.le_refl _); have p3 := cell_below x3 hSw (Nat.le_refl _); have p4 := cell_below x4 hSw (Nat.le_refl _); have p5 := cell_below x5 hSw (Nat.le_refl _); have p6 := cell_below x6 hSw (Nat.le_refl _); have p7 := cell_below x7 hSw (Nat.le_refl _); have p8 := cell_below x8 hSw (Nat.le_refl _); have p9 := cell_below x9 hSw (Nat.le_refl _); have p10 := cell_below x10 hSw (Nat.le_refl _); have p11 := cell_below x11 hSw (Nat.le_refl _); have p12 := cell_below x12 hSw (Nat.le_refl _); have p13 := cell_below x13 hSw (Nat.le_refl _); have p14 := cell_below x14 hSw (Nat.le_refl _); go_simp; with_reducible rfl))
              intro hsh1 hS1; clear hsh hS; have hsh := hsh1; have hS := hS1; clear hsh1 hS1
              simp only [Act.put, List.setIfInBounds_toArray, List.set_cons_zero, List.set_cons_succ]
              refine anyL_take (i := 2) (v := ?_) rfl (by kernel_rfl) (by kernel_rfl) (by kernel_rfl) (by decide) hsh (fun _ _ _ h => h) (Or.inl ⟨by kernel_rfl, ?_⟩) hS ?_
              rotate_left 1
              · (intro wS hSw; (try dsimp only at hSw); first | (have q0 := cell_below k0 hSw (Nat.le_refl _); have q1 := cell_below k1 hSw (Nat.le_refl _); have p0 := cell_below x0 hSw (Nat.le_refl _); have p1 := cell_below x1 hSw (Nat.le_refl _); have p2 := cell_below x2 hSw (Nat.le_refl _); have p3 := cell_below x3 hSw (Nat.le_refl _); have p4 := cell_below x4 hSw (Nat.le_refl _); have p5 := cell_below x5 hSw (Nat.le_refl _); have p6 := cell_below x6 hSw (Nat.le_refl _); have p7 := cell_below x7 hSw (Nat.le_refl _); have p8 := cell_below x8 hSw (Nat.le_refl _); have p9 := cell_below x9 hSw (Nat.le_refl _); have p10 := cell_below x10 hSw (Nat.le_refl _); have p11 := cell_below x11 hSw (Nat.le_refl _); have p12 := cell_below x12 hSw (Nat.le_refl _); have p13 := cell_below x13 hSw (Nat.le_refl _); have p14 := cell_below x14 hSw (Nat.le_refl _); go_simp; done) | (have q0 := cell_below k0 hSw (Nat.le_refl _); have q1 := cell_below k1 hSw (Nat.le_refl _); have p0 := cell_below x0 hSw (Nat.le_refl _); have p1 := cell_below x1 hSw (Nat.le_refl _); have p2 := cell_below x2 hSw (Nat.le_refl _); have p3 := cell_below x3 hSw (Nat.le_refl _); have p4 := cell_below x4 hSw (Nat.le_refl _); have p5 := cell_below x5 hSw (Nat.le_refl _); have p6 := cell_below x6 hSw (Nat.le_refl _); have p7 := cell_below x7 hSw (Nat.le_refl _); have p8 := cell_below x8 hSw (Nat.le_refl _); have p9 := cell_below x9 hSw (Nat.le_refl _); have p10 := cell_below x10 hSw (Nat.le_refl _); have p11 := cell_below x11 hSw (Nat.le_refl _); have p12 := cell_below x12 hSw (Nat.le_refl _); have p13 := cell_below x13 hSw (Nat.le_refl _); have p14 := cell_below x14 hSw (Nat.le_refl _); go_simp; with_reducible rfl))
              intro hsh1 hS1; clear hsh hS; have hsh := hsh1; have hS := hS1; clear hsh1 hS1
              simp only [Act.put, List.setIfInBounds_toArray, List.set_cons_zero, List.set_cons_succ]
              refine anyL_take (i := 3) (v := ?_) rfl (by kernel_rfl) (by kernel_rfl) (by kernel_rfl) (by decide) hsh (fun _ _ _ h => h) (Or.inl ⟨by kernel_rfl, ?_⟩) hS ?_
              rotate_left 1
              · (intro wS hSw; (try dsimp only at hSw); first | (have q0 := cell_below k0 hSw (Nat.le_refl _); have q1 := cell_below k1 hSw (Nat.le_refl _); have p0 := cell_below x0 hSw (Nat.le_refl _); have p1 := cell_below x1 hSw (Nat.le_refl _); have p2 := cell_below x2 hSw (Nat.le_refl _); have p3 := cell_below x3 hSw (Nat.le_refl _); have p4 := cell_below x4 hSw (Nat.le_refl _); have p5 := cell_below x5 hSw (Nat.le_refl _); have p6 := cell_below x6 hSw (Nat.le_refl _); have p7 := cell_below x7 hSw (Nat.le_refl _); have p8 := cell_below x8 hSw (Nat.le_refl _); have p9 := cell_below x9 hSw (Nat.le_refl _); have p10 := cell_below x10 hSw (Nat.le_refl _); have p11 := cell_below x11 hSw (Nat.le_refl _); have p12 := cell_below x12 hSw (Nat.le_refl _); have p13 := cell_below x13 hSw (Nat.le_refl _); have p14 := cell_below x14 hSw (Nat.le_refl _); go_simp; done) | (have q0 := cell_below k0 hSw (Nat.le_refl _); have q1 := cell_below k1 hSw (Nat.le_refl _); have p0 := cell_below x0 hSw (Nat.le_refl _); have p1 := cell_below x1 hSw (Nat.le_refl _); have p2 := cell_below x2 hSw (Nat.le_refl _); have p3 := cell_below x3 hSw (Nat.le_refl _); have p4 := cell_below x4 hSw (Nat.le_refl _); have p5 := cell_below x5 hSw (Nat.le_refl _); have p6 := cell_below x6 hSw (Nat.le_refl _); have p7 := cell_below x7 hSw (Nat.le_refl _); have p8 := cell_below x8 hSw (Nat.le_refl _); have p9 := cell_below x9 hSw (Nat.le_refl _); have p10 := cell_below x10 hSw (Nat.le_refl _); have p11 := cell_below x11 hSw (Nat.le_refl _); have p12 := cell_below x12 hSw (Nat.le_refl _); have p13 := cell_below x13 hSw (Nat.le_refl _); have p14 := cell_below x14 hSw (Nat.le_refl _); go_simp; with_reducible rfl))
              intro hsh1 hS1; clear hsh hS; have hsh := hsh1; have hS := hS1; clear hsh1 hS1
              simp only [Act.put, List.setIfInBounds_toArray, List.set_cons_zero, List.set_cons_succ]
              refine anyL_take (i := 4) (v := ?_) rfl (by kernel_rfl) (by kernel_rfl) (by kernel_rfl) (by decide) hsh (fun _ _ _ h => h) (Or.inl ⟨by kernel_rfl, ?_⟩) hS ?_
              rotate_left 1
              · (intro wS hSw; (try dsimp only at hSw); first | (have q0 := cell_below k0 hSw (Nat.le_refl _); have q1 := cell_below k1 hSw (Nat.le_refl _); have p0 := cell_below x0 hSw (Nat.le_refl _); have p1 := cell_below x1 hSw (Nat.le_refl _); have p2 := cell_below x2 hSw (Nat.le_refl _); have p3 := cell_below x3 hSw (Nat.le_refl _); have p4 := cell_below x4 hSw (Nat.le_refl _); have p5 := cell_below x5 hSw (Nat.le_refl _); have p6 := cell_below x6 hSw (Nat.le_refl _); have p7 := cell_below x7 hSw (Nat.le_refl _); have p8 := cell_below x8 hSw (Nat.le_refl _); have p9 := cell_below x9 hSw (Nat.le_refl _); have p10 := cell_below x10 hSw (Nat.le_refl _); have p11 := cell_below x11 hSw (Nat.le_refl _); have p12 := cell_below x12 hSw (Nat.le_refl _); have p13 := cell_below x13 hSw (Nat.le_refl _); have p14 := cell_below x14 hSw (Nat.le_refl _); go_simp; done) | (have q0 := cell_below k0 hSw (Nat.le_refl _); have q1 := cell_below k1 hSw (Nat.le_refl _); have p0 := cell_below x0 hSw (Nat.le_refl _); have p1 := cell_below x1 hSw (Nat.le_refl _); have p2 := cell_below x2 hSw (Nat.le_refl _); have p3 := cell_below x3 hSw (Nat.le_refl _); have p4 := cell_below x4 hSw (Nat.le_refl _); have p5 := cell_below x5 hSw (Nat.le_refl _); have p6 := cell_below x6 hSw (Nat.le_refl _); have p7 := cell_below x7 hSw (Nat.le_refl _); have p8 := cell_below x8 hSw (Nat.le_refl _); have p9 := cell_below x9 hSw (Nat.le_refl _); have p10 := cell_below x10 hSw (Nat.le_refl _); have p11 := cell_below x11 hSw (Nat.le_refl _); have p12 := cell_below x12 hSw (Nat.le_refl _); have p13 := cell_below x13 hSw (Nat.le_refl _); have p14 := cell_below x14 hSw (Nat.le_refl _); go_simp; with_reducible rfl))
              intro hsh1 hS1; clear hsh hS; have hsh := hsh1; have hS := hS1; clear hsh1 hS1
              simp only [Act.put, List.setIfInBounds_toArray, List.set_cons_zero, List.set_cons_succ]
              refine anyL_one (i := 5) (by kernel_rfl) rfl hsh (fun K hK => ?_)
              have hb5 := hS.1
              go_simp
              go_at_call 31
              with_reducible refine (cu _ hb5).mono ?_
              rintro e w1 ⟨rfl, hc5⟩
              have hd5 := below_two hb5 hc5
              try go_simp
              refine hK.out _ _ ⟨hd5, fun _ => trivial⟩ (fun hsh1 hS1 => ?_)
              clear hsh hS hK K; have hsh := hsh1; have hS := hS1; clear hsh1 hS1
              refine anyL_take (i := 6) (v := ?_) rfl (by kernel_rfl) (by kernel_rfl) (by kernel_rfl) (by decide) hsh (fun _ _ _ h => h) (Or.inl ⟨by kernel_rfl, ?_⟩) hS ?_
              rotate_left 1
              · (intro wS hSw; (try dsimp only at hSw); first | (go_simp; done) | (go_simp; with_reducible rfl))
              intro hsh1 hS1; clear hsh hS; have hsh := hsh1; have hS := hS1; clear hsh1 hS1
              simp only [Act.put, List.setIfInBounds_toArray, List.set_cons_zero, List.set_cons_succ]
              refine anyL_done (by kernel_rfl) ?_ _
              go_wp2
              go_roundg q
              case measure => omega
              case rel => exact ⟨i + 1, by go_num, by omega, below_two HBr.out hS.1, HS1⟩
          · obtain rfl : i = nl := by omega
            have hlt : ¬ (i : Int) < (i : Int) := by omega
            have A3 : Aside0 ((L.map Fp.part).all (fun p => !p.bad (nsL ms)) = true) := ⟨by
              rw [List.all_eq_true]
              intro y hy
              obtain ⟨x, hx, rfl⟩ := List.mem_map.1 hy
              obtain ⟨j, hj⟩ := List.mem_iff_getElem?.1 hx
              have h1 := hF.out j x (by have := (List.getElem?_eq_some_iff.1 hj).1; rw [HL.out.1] at this; exact this) hj
              simp [h1]⟩
            have A4 : Aside0 (R = if (L.map Fp.part).all (fun p => !p.out) = false then 232 else if (L.map Fp.part).all (fun p => decide (p.deep ≤ 64)) = false then 233 else 0) := ⟨by rw [A2.out, if_neg (by rw [A3.out]; decide)]⟩
            have HB3 : Aside0 (Below w.heap.size w wr ∧ Below W2.heap.size W2 wr) := ⟨hBw, hB⟩
            clear A2 A3 hF hB hBw HP HK2 hlt hig
            go_wp2
            go_loopg [6] i (fun g1 v6 wz => ∃ j : Nat, v6 = .int .i64 j ∧ j + g1 = i ∧ wr = wz ∧ Aside0 (∀ k f, k < j → L[k]? = some f → f.part.out = false))
            case atStart => exact ⟨0, rfl, by omega, rfl, ⟨fun j x hj => by omega⟩⟩
            case round =>
              obtain ⟨j, rfl, hig, rfl, hF⟩ := hrel
              by_cases hi : j < i
              · have hlt : (j : Int) < (i : Int) := by omega
                obtain ⟨q, rfl⟩ : ∃ q, gk = q + 1 := ⟨gk - 1, by omega⟩
                obtain ⟨f, hf⟩ : ∃ f, L[j]? = some f := ⟨_, List.getElem?_eq_getElem (by rw [HL.out.1]; exact hi)⟩
                obtain ⟨a1, p1, a2, p2, a3, p3, a4, p4, ⟨x0, -, -, -, -, -, -⟩, -, x12, x13, x14⟩ := (HL.out.2.2 j f hf).below HB3.out.2 (Nat.le_refl _)
                have hao : ao = some ⟨g, o, none⟩ := by rcases HL.out.2.1 with e | e; (omega); exact e
                have HX : Aside0 (L[j]? = some f) := ⟨hf⟩
                subst hao
                clear hf
                have hpo : f.part.out = (f.is && ((decide (f.s.kind = 9) || decide (f.s.kind = 10)) && !f.b)) := by unfold Fp.part; cases f.is <;> simp [Part.out]
                obtain ⟨is, his⟩ : ∃ b, f.is = b := ⟨_, rfl⟩
                obtain ⟨lb, hlb⟩ : ∃ b, f.b = b := ⟨_, rfl⟩
                obtain ⟨k, hk⟩ : ∃ k, f.s.kind = k := ⟨_, rfl⟩
                rw [his, hlb, hk] at hpo
                rw [his] at x12
                rw [hlb] at x14
                rw [hk] at x0
                clear his hlb hk x13
                cases is with
                | false =>
                  have HB : Aside0 (f.part.out = false) := ⟨by rw [hpo]; rfl⟩
                  have HS1 : Aside0 (∀ k y, k < j + 1 → L[k]? = some y → y.part.out = false) := ⟨fun k y hj hy => by
                    by_cases e2 : k = j
                    · subst e2; obtain rfl := Option.some.inj (hy.symm.trans HX.out); exact HB.out
                    · exact hF.out k y (by omega) hy⟩
                  clear hpo
                  go_wp2
                  go_roundg q
                  case measure => omega
                  case rel => exact ⟨j + 1, by go_num, by omega, rfl, HS1⟩
                | true =>
                  cases lb with
                  | true =>
                    have HB : Aside0 (f.part.out = false) := ⟨by rw [hpo]; simp⟩
                    have HS1 : Aside0 (∀ k y, k < j + 1 → L[k]? = some y → y.part.out = false) := ⟨fun k y hj hy => by
                      by_cases e2 : k = j
                      · subst e2; obtain rfl := Option.some.inj (hy.symm.trans HX.out); exact HB.out
                      · exact hF.out k y (by omega) hy⟩
                    clear hpo
                    go_wp2
                    go_roundg q
                    case measure => omega
                    case rel => exact ⟨j + 1, by go_num, by omega, rfl, HS1⟩
                  | false =>
                    by_cases h9 : k = 9
                    · subst h9
                      have HB : Aside0 (f.part.out = true) := ⟨by rw [hpo]; rfl⟩
                      clear hpo
                      have A : Aside0 (R = 232) := ⟨by
                        rw [A4.out, if_pos]
                        rw [List.all_eq_false]
                        exact ⟨f.part, List.mem_map.2 ⟨f, List.mem_of_getElem? HX.out, rfl⟩, by rw [HB.out]; decide⟩⟩
                      go_wp2
                      go_ret
                      exact ⟨by rw [A.out]; rfl, HB3.out.1⟩
                    · by_cases h10 : k = 10
                      · subst h10
                        have HB : Aside0 (f.part.out = true) := ⟨by rw [hpo]; rfl⟩
                        clear hpo h9
                        have A : Aside0 (R = 232) := ⟨by
                          rw [A4.out, if_pos]
                          rw [List.all_eq_false]
                          exact ⟨f.part, List.mem_map.2 ⟨f, List.mem_of_getElem? HX.out, rfl⟩, by rw [HB.out]; decide⟩⟩
                        go_wp2
                        go_ret
                        exact ⟨by rw [A.out]; rfl, HB3.out.1⟩
                      · have HB : Aside0 (f.part.out = false) := ⟨by rw [hpo]; simp [h9, h10]⟩
                        have HS1 : Aside0 (∀ k y, k < j + 1 → L[k]? = some y → y.part.out = false) := ⟨fun k y hj hy => by
                          by_cases e2 : k = j
                          · subst e2; obtain rfl := Option.some.inj (hy.symm.trans HX.out); exact HB.out
                          · exact hF.out k y (by omega) hy⟩
                        clear hpo
                        have h9' : (k == 9) = false := by simpa using h9
                        have h10' : (k == 10) = false := by simpa using h10
                        go_wp2
                        go_roundg q
                        case measure => omega
                        case rel => exact ⟨j + 1, by go_num, by omega, rfl, HS1⟩
              · obtain rfl : j = i := by omega
                have hlt : ¬ (j : Int) < (j : Int) := by omega
                have A3 : Aside0 ((L.map Fp.part).all (fun p => !p.out) = true) := ⟨by
                  rw [List.all_eq_true]
                  intro y hy
                  obtain ⟨x, hx, rfl⟩ := List.mem_map.1 hy
                  obtain ⟨k, hj⟩ := List.mem_iff_getElem?.1 hx
                  have h1 := hF.out k x (by have := (List.getElem?_eq_some_iff.1 hj).1; rw [HL.out.1] at this; exact this) hj
                  simp [h1]⟩
                have A5 : Aside0 (R = if (L.map Fp.part).all (fun p => decide (p.deep ≤ 64)) = false then 233 else 0) := ⟨by rw [A4.out, if_neg (by rw [A3.out]; decide)]⟩
                clear A4 A3 hF hlt hig
                go_wp2
                go_loopg [7] j (fun g1 v7 wz => ∃ i : Nat, v7 = .int .i64 i ∧ i + g1 = j ∧ wr = wz ∧ Aside0 (∀ k f, k < i → L[k]? = some f → decide (f.part.deep ≤ 64) = true))
                case atStart => exact ⟨0, rfl, by omega, rfl, ⟨fun j x hj => by omega⟩⟩
                case round =>
                  obtain ⟨i, rfl, hig, rfl, hF⟩ := hrel
                  by_cases hi : i < j
                  · have hlt : (i : Int) < (j : Int) := by omega
                    obtain ⟨q, rfl⟩ : ∃ q, gk = q + 1 := ⟨gk - 1, by omega⟩
                    obtain ⟨f, hf⟩ : ∃ f, L[i]? = some f := ⟨_, List.getElem?_eq_getElem (by rw [HL.out.1]; exact hi)⟩
                    obtain ⟨a1, p1, a2, p2, a3, p3, a4, p4, ⟨x0, -, -, -, -, -, -⟩, -, x12, x13, x14⟩ := (HL.out.2.2 i f hf).below HB3.out.2 (Nat.le_refl _)
                    have hao : ao = some ⟨g, o, none⟩ := by rcases HL.out.2.1 with e | e; (omega); exact e
                    have HX : Aside0 (L[i]? = some f) := ⟨hf⟩
                    subst hao
                    clear hf
                    have hpo : f.part.deep = f.d := by unfold Fp.part; cases f.is <;> rfl
                    obtain ⟨d, hd⟩ : ∃ d, f.d = d := ⟨_, rfl⟩
                    rw [hd] at hpo x13
                    clear hd x0 x12 x14
                    by_cases h64 : d ≤ 64
                    · have HB : Aside0 (decide (f.part.deep ≤ 64) = true) := ⟨by rw [hpo]; exact decide_eq_true h64⟩
                      have HS1 : Aside0 (∀ j y, j < i + 1 → L[j]? = some y → decide (y.part.deep ≤ 64) = true) := ⟨fun j y hj hy => by
                        by_cases e2 : j = i
                        · subst e2; obtain rfl := Option.some.inj (hy.symm.trans HX.out); exact HB.out
                        · exact hF.out j y (by omega) hy⟩
                      have h64' : ¬ (64 : Int) < (d : Int) := by omega
                      clear hpo
                      go_wp2
                      go_roundg q
                      case measure => omega
                      case rel => exact ⟨i + 1, by go_num, by omega, rfl, HS1⟩
                    · have HB : Aside0 (decide (f.part.deep ≤ 64) = false) := ⟨by rw [hpo]; exact decide_eq_false h64⟩
                      have h64' : (64 : Int) < (d : Int) := by omega
                      clear hpo
                      have A : Aside0 (R = 233) := ⟨by
                        rw [A5.out, if_pos]
                        rw [List.all_eq_false]
                        exact ⟨f.part, List.mem_map.2 ⟨f, List.mem_of_getElem? HX.out, rfl⟩, by rw [HB.out]; decide⟩⟩
                      go_wp2
                      go_ret
                      exact ⟨by rw [A.out]; rfl, HB3.out.1⟩
                  · obtain rfl : i = j := by omega
                    have hlt : ¬ (i : Int) < (i : Int) := by omega
                    have A3 : Aside0 ((L.map Fp.part).all (fun p => decide (p.deep ≤ 64)) = true) := ⟨by
                      rw [List.all_eq_true]
                      intro y hy
                      obtain ⟨x, hx, rfl⟩ := List.mem_map.1 hy
                      obtain ⟨k, hj⟩ := List.mem_iff_getElem?.1 hx
                      have h1 := hF.out k x (by have := (List.getElem?_eq_some_iff.1 hj).1; rw [HL.out.1] at this; exact this) hj
                      simp [h1]⟩
                    have A6 : Aside0 (R = 0) := ⟨by rw [A5.out, if_neg (by rw [A3.out]; decide)]⟩
                    clear A5 A3 hF
                    go_wp2
                    go_ret
                    exact ⟨by rw [A6.out]; rfl, HB3.out.1⟩
end Go.Proofs.YthkmdmobeadigaaDoor.lg
