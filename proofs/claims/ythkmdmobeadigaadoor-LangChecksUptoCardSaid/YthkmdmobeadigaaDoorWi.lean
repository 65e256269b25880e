/- The program's Check, walked. -/
import Derived.Test.YthkmdmobeadigaaDoorWh
namespace Go.Proofs.YthkmdmobeadigaaDoor.lg
open Go.RowKit
set_option linter.unusedVariables false
set_option linter.unusedSimpArgs false
/-- Names as cells; as bytes. -/
def nsC (l : List ByteArray) : List Value := l.map Value.string
def nsL (l : List ByteArray) : List (List UInt8) := l.map fun s => s.data.toList
theorem nsC_at {l : List ByteArray} {j : Nat} {x : ByteArray} (h : l[j]? = some x) : (nsC l)[j]? = some (.string x) := by rw [nsC, List.getElem?_map, h]; rfl
theorem nsL_at {l : List ByteArray} {j : Nat} {x : ByteArray} (h : l[j]? = some x) : (nsL l)[j]? = some x.data.toList := by rw [nsL, List.getElem?_map, h]; rfl
theorem LEs.here {P : Nat → Prop} {w : World} : ∀ {l : Exs} {b o : Nat}, LEs P w b o l → LEs (fun b => b < w.heap.size) w b o l
  | .nil, _, _, _ => trivial
  | .cons _ _ _ _ a r, b, o, ⟨_, ⟨h0, h1, h2, h3⟩, ⟨ao, c, b', o', h5, h6, h7⟩, h8⟩ => ⟨World.block_lt_of_cell? _ _ h0, ⟨h0, h1, h2, h3⟩, ⟨ao, c, b', o', h5, h6, LEs.here h7⟩, LEs.here h8⟩
theorem LSs.here {P : Nat → Prop} {w : World} : ∀ {l : Sts} {b o : Nat}, LSs P w b o l → LSs (fun b => b < w.heap.size) w b o l
  | .nil, _, _, _ => trivial
  | .cons _ _ _ _ e s f r, b, o, ⟨_, ⟨h0, h1, h2, h3⟩, ⟨ao, c, b', o', h5, h6, h7⟩, ⟨ao2, c2, b2, o2, i5, i6, i7⟩, ⟨ao3, c3, b3, o3, j5, j6, j7⟩, h8⟩ => ⟨World.block_lt_of_cell? _ _ h0, ⟨h0, h1, h2, h3⟩, ⟨ao, c, b', o', h5, h6, LEs.here h7⟩, ⟨ao2, c2, b2, o2, i5, i6, LSs.here i7⟩, ⟨ao3, c3, b3, o3, j5, j6, LSs.here j7⟩, LSs.here h8⟩
theorem HE.here {P : Nat → Prop} {w : World} {v : Value} {l : Exs} (h : HE P w v l) : HE (fun b => b < w.heap.size) w v l := by
  obtain ⟨ao, c, b, o, h1, h2, h3⟩ := h
  exact ⟨ao, c, b, o, h1, h2, h3.here⟩
theorem HS.here {P : Nat → Prop} {w : World} {v : Value} {l : Sts} (h : HS P w v l) : HS (fun b => b < w.heap.size) w v l := by
  obtain ⟨ao, c, b, o, h1, h2, h3⟩ := h
  exact ⟨ao, c, b, o, h1, h2, h3.here⟩
set_option maxHeartbeats 2000000 in
set_option maxRecDepth 100000 in
theorem formed_walk (ms : List ByteArray) (s : Sts) (vm vs : Value) (P : Nat → Prop) (w : World) (hms : ∀ x ∈ ms, x.size ≤ 3000000) (hml : ms.length ≤ 3000000) (hm : s.wt ≤ 3000000) (hV : SV w 1 vm ms.length (nsC ms)) (h : HS P w vs s) (hT : Tabs w) :
    Calls Tryd.prog 25 #[.agg #[vm, vs]] w (IsY ((nsL ms).all nameB && fSs s) w) := by
  obtain ⟨R, hR⟩ : ∃ R, ((nsL ms).all nameB && fSs s) = R := ⟨_, rfl⟩
  rw [hR]
  have HR : Aside0 (R = ((nsL ms).all nameB && fSs s)) := ⟨hR.symm⟩
  obtain ⟨am, cm, gm, om, rfl, hW⟩ := hV
  obtain ⟨as1, cs, bs, os, rfl, _⟩ := id h
  obtain ⟨n, hn⟩ : ∃ n, ms.length = n := ⟨_, rfl⟩
  obtain ⟨ns, hns⟩ : ∃ n, s.len = n := ⟨_, rfl⟩
  have cs' : ∀ W, Below w.heap.size w W → Calls Tryd.prog 51 #[.slice as1 ns cs] W (IsY (fSs s) W) := fun W hW => hns ▸ formedStmts_walk s _ P W hm (h.below hW (Nat.le_refl _)) (hT.below hW)
  rw [hn] at hW hml ⊢
  rw [hns]
  have HW : Aside0 (SW w 1 am n cm gm om (nsC ms) ∧ ms.length = n ∧ Words w ∧ ∀ x ∈ ms, x.size ≤ 3000000) := ⟨hW, hn, hT.words, hms⟩
  obtain ⟨fb, hfb⟩ : ∃ x, fSs s = x := ⟨_, rfl⟩
  rw [hfb] at HR cs'
  obtain ⟨W1, hW1⟩ : ∃ W, w.alloc (.cells #[.slice am n cm, .slice as1 ns cs] 25) = W := ⟨_, rfl⟩
  have hB1 : Below w.heap.size w W1 := by rw [← hW1]; exact (Below.refl _ _).alloc (Nat.le_refl _) _
  have k0 : W1.cell? ⟨w.heap.size, 0, none⟩ = some (.slice am n cm) := by rw [← hW1]; simp
  have k1 : W1.cell? ⟨w.heap.size, 1, none⟩ = some (.slice as1 ns cs) := by rw [← hW1]; simp
  clear hR hW hn hns hfb hT hms h hm
  go_enter Tryd.func25, Tryd.ntmps25
  go_wp2
  clear hW1
  go_loopg [8] n (fun g v wr => W1 = wr ∧ ∃ i : Nat, v = .int .i64 i ∧ i + g = n ∧ Aside0 (∀ j x, j < i → ms[j]? = some x → nameB x.data.toList = true))
  case atStart => exact ⟨rfl, 0, rfl, by omega, ⟨fun j x hj => by omega⟩⟩
  case round =>
    obtain ⟨rfl, i, rfl, hig, hF⟩ := hrel
    by_cases hi : i < n
    · have hlt : (i : Int) < (n : Int) := by omega
      obtain ⟨q, rfl⟩ : ∃ q, gk = q + 1 := ⟨gk - 1, by omega⟩
      obtain ⟨x, hx⟩ : ∃ x, ms[i]? = some x := ⟨_, List.getElem?_eq_getElem (by rw [HW.out.2.1]; exact hi)⟩
      have hcx := (HW.out.1.below hB1 (Nat.le_refl _)).cells i _ (nsC_at hx)
      have hao : am = some ⟨gm, om, none⟩ := by rcases HW.out.1.lead with e | e; (omega); exact e
      have cn := isName_walk W1 x (by have := HW.out.2.2.2 x (List.mem_of_getElem? hx); omega) (HW.out.2.2.1.below hB1)
      have HX : Aside0 (ms[i]? = some x) := ⟨hx⟩
      obtain ⟨bx, hbx⟩ : ∃ b, nameB x.data.toList = b := ⟨_, rfl⟩
      have HB : Aside0 (nameB x.data.toList = bx) := ⟨hbx⟩
      rw [hbx] at cn
      subst hao
      clear hbx hx cs'
      cases bx with
      | false =>
        have A : Aside0 (R = false) := ⟨by
          rw [HR.out]
          have : (nsL ms).all nameB = false := by
            rw [List.all_eq_false]
            exact ⟨_, List.mem_of_getElem? (nsL_at HX.out), by rw [HB.out]; decide⟩
          rw [this]; rfl⟩
        go_wp2_with (go_at_call 24; (with_reducible refine cn.mono ?_); rintro e w' ⟨rfl, rfl⟩)
        go_ret
        exact ⟨ret_bool A.out.symm, hB1⟩
      | true =>
        go_wp2_with (go_at_call 24; (with_reducible refine cn.mono ?_); rintro e w' ⟨rfl, rfl⟩)
        go_roundg q
        case measure => omega
        case rel => exact ⟨rfl, i + 1, by go_num, by omega, ⟨fun j y hj hy => by
          by_cases e : j = i
          · subst e; obtain rfl := Option.some.inj (hy.symm.trans HX.out); exact HB.out
          · exact hF.out j y (by omega) hy⟩⟩
    · obtain rfl : i = n := by omega
      have hlt : ¬ (i : Int) < (i : Int) := by omega
      have A : Aside0 (R = fb) := ⟨by
        rw [HR.out]
        have : (nsL ms).all nameB = true := by
          rw [List.all_eq_true]
          intro y hy
          obtain ⟨x, hx, rfl⟩ := List.mem_map.1 hy
          obtain ⟨j, hj⟩ := List.mem_iff_getElem?.1 hx
          exact hF.out j x (by have := (List.getElem?_eq_some_iff.1 hj).1; rw [HW.out.2.1] at this; exact this) hj
        rw [this]; rfl⟩
      go_wp2_with (go_at_call 51; (with_reducible refine (cs' _ (by repeat (first | with_reducible assumption | with_reducible refine below_set ?_ (by omega) _ | with_reducible refine Below.alloc ?_ (by first | omega | (simp; done) | (simp; omega)) _ | with_reducible refine Below.drew ?_ | with_reducible exact Below.refl _ _ | with_reducible refine below_two ?_ (by with_reducible assumption)))).mono ?_); rintro e w1 ⟨rfl, hB2⟩)
      go_ret
      exact ⟨ret_bool A.out.symm, by repeat (first | with_reducible assumption | with_reducible refine below_set ?_ (by omega) _ | with_reducible refine Below.alloc ?_ (by first | omega | (simp; done) | (simp; omega)) _ | with_reducible refine Below.drew ?_ | with_reducible exact Below.refl _ _ | with_reducible refine below_two ?_ (by with_reducible assumption))⟩
theorem namesG_all : ∀ (l seen : List (List UInt8)), namesG seen l = true → l.all nameB = true
  | [], _, _ => rfl
  | m :: r, seen, h => by
    simp only [namesG, Bool.and_eq_true] at h
    simp only [List.all_cons, Bool.and_eq_true]
    exact ⟨h.1.2, namesG_all r _ h.2⟩
theorem nv_take {ms : List ByteArray} {i : Nat} {l : List Nv} {x : ByteArray} (h : keysL l = nsL (ms.take i)) (hx : ms[i]? = some x) (k : Int) : keysL (l ++ [(x, k)]) = nsL (ms.take (i + 1)) := by
  have hlt := (List.getElem?_eq_some_iff.1 hx).1
  rw [List.take_succ_eq_append_getElem hlt, (List.getElem?_eq_some_iff.1 hx).2]
  unfold keysL nsL at *
  rw [List.map_append, List.map_append, h]; rfl
theorem names_step {ms : List ByteArray} {i : Nat} {x : ByteArray} (hx : ms[i]? = some x) (h : namesG [] (nsL ms) = namesG (nsL (ms.take i)) ((nsL ms).drop i)) :
    namesG [] (nsL ms) = (!(nsL (ms.take i)).contains x.data.toList && decide (i < 16) && nameB x.data.toList && namesG (nsL (ms.take (i + 1))) ((nsL ms).drop (i + 1))) := by
  have hlt := (List.getElem?_eq_some_iff.1 hx).1
  have hd : (nsL ms).drop i = x.data.toList :: (nsL ms).drop (i + 1) := by
    have hl2 : i < (nsL ms).length := by rw [nsL, List.length_map]; exact hlt
    rw [List.drop_eq_getElem_cons hl2]
    congr 1
    have := nsL_at hx
    rw [List.getElem?_eq_getElem hl2] at this
    exact Option.some.inj this
  have ht : nsL (ms.take (i + 1)) = nsL (ms.take i) ++ [x.data.toList] := by
    rw [List.take_succ_eq_append_getElem hlt, (List.getElem?_eq_some_iff.1 hx).2]
    simp [nsL]
  have hl : (nsL (ms.take i)).length = i := by rw [nsL, List.length_map, List.length_take]; omega
  rw [h, hd, namesG, ht, hl]
set_option maxHeartbeats 4000000 in
set_option maxRecDepth 100000 in
theorem check_walk (ms : List ByteArray) (s : Sts) (vm vs : Value) (P : Nat → Prop) (w : World) (hms : ∀ x ∈ ms, x.size ≤ 3000000) (hml : ms.length ≤ 3000000) (hm : s.wt ≤ 3000000) (hV : SV w 1 vm ms.length (nsC ms)) (h : HS P w vs s) (hT : Tabs w) :
    Calls Tryd.prog 9 #[.agg #[vm, vs]] w (IsM (checkP (nsL ms) s) w) := by
  obtain ⟨R, hR⟩ : ∃ R, checkP (nsL ms) s = R := ⟨_, rfl⟩
  rw [hR]
  have HR : Aside0 (R = checkP (nsL ms) s) := ⟨hR.symm⟩
  have HV : Aside0 (SV w 1 vm ms.length (nsC ms) ∧ HS (fun b => b < w.heap.size) w vs s ∧ Tabs w ∧ (∀ x ∈ ms, x.size ≤ 3000000) ∧ s.wt ≤ 3000000) := ⟨hV, h.here, hT, hms, hm⟩
  obtain ⟨am, cm, gm, om, rfl, hW⟩ := hV
  obtain ⟨as1, cs, bs, os, rfl, _⟩ := id h
  obtain ⟨n, hn⟩ : ∃ n, ms.length = n := ⟨_, rfl⟩
  obtain ⟨ns, hns⟩ : ∃ n, s.len = n := ⟨_, rfl⟩
  rw [hn] at hW hml HV ⊢
  rw [hns] at HV ⊢
  have HW : Aside0 (SW w 1 am n cm gm om (nsC ms) ∧ ms.length = n) := ⟨hW, hn⟩
  have cfo : ∀ W, Below w.heap.size w W → Calls Tryd.prog 25 #[.agg #[.slice am n cm, .slice as1 ns cs]] W (IsY ((nsL ms).all nameB && fSs s) W) := fun W hW => formed_walk ms s _ _ _ W hms (by omega) hm (by rw [hn]; exact HV.out.1.below hW (Nat.le_refl _)) (HV.out.2.1.lt hW) (hT.below hW)
  obtain ⟨m, hmm⟩ : ∃ m, w.heap.size = m := ⟨_, rfl⟩
  obtain ⟨fo, hfo⟩ : ∃ x, ((nsL ms).all nameB && fSs s) = x := ⟨_, rfl⟩
  have HFO : Aside0 (((nsL ms).all nameB && fSs s) = fo) := ⟨hfo⟩
  rw [hfo] at cfo
  rw [hmm] at cfo
  have HM : Aside0 (w.heap.size = m) := ⟨hmm⟩
  obtain ⟨W1, hW1⟩ : ∃ W, w.alloc (.cells #[.slice am n cm, .slice as1 ns cs] 25) = W := ⟨_, rfl⟩
  have hs1 : W1.heap.size = m + 1 := by rw [← hW1, ← hmm]; simp
  have hB1 : Below m w W1 := by rw [← hW1, ← hmm]; exact (Below.refl _ _).alloc (Nat.le_refl _) _
  have b0 : W1.cell? ⟨m, 0, none⟩ = some (.slice am n cm) := by rw [← hW1, ← hmm]; simp
  have b1 : W1.cell? ⟨m, 1, none⟩ = some (.slice as1 ns cs) := by rw [← hW1, ← hmm]; simp
  obtain ⟨W2, hW2⟩ : ∃ W, W1.alloc (.map #[] 0) = W := ⟨_, rfl⟩
  have hs2 : W2.heap.size = m + 2 := by rw [← hW2]; simp; omega
  have hB2 : Below m w W2 := by rw [← hW2]; exact hB1.alloc (by omega) _
  obtain ⟨W3, hW3⟩ : ∃ W, W2.alloc (.cells #[.map (some (m + 1)), .bool false, .bool false] 63) = W := ⟨_, rfl⟩
  have hs3 : W3.heap.size = m + 3 := by rw [← hW3]; simp; omega
  have hB3 : Below m w W3 := by rw [← hW3]; exact hB2.alloc (by omega) _
  have c0 : W3.cell? ⟨m, 0, none⟩ = some (.slice am n cm) := by rw [← hW3]; refine cell_alloc _ ?_; rw [← hW2]; exact cell_alloc _ b0
  have c1 : W3.cell? ⟨m, 1, none⟩ = some (.slice as1 ns cs) := by rw [← hW3]; refine cell_alloc _ ?_; rw [← hW2]; exact cell_alloc _ b1
  have hK3 : LK W3 (m + 2) (m + 1) [] false false := by
    refine ⟨by rw [← hW3, ← hs2]; exact heap_alloc_new W2 _, ?_⟩
    rw [← hW3]
    refine World.ownsMap.alloc ?_ _
    rw [← hW2, ← hs1]
    exact World.ownsMap_made W1 Tryd.prog 9 (plainElem Tryd.prog 3)
  have hmk : ∀ W, (Instr.makeMap 61 none).run Tryd.prog W = .ok (.map (some W.heap.size)) (W.alloc (.map #[] 0)) := fun W => run_makeMap (P := Tryd.prog) 61 W
  clear hR hW hn hns hms hm h hT hfo b0 b1
  go_enter Tryd.func9, Tryd.ntmps9
  go_wp2
  clear hmk hW1 hW2 hW3 hs1 hs2 hB1 hB2
  have C1 : Aside0 (W3.cell? ⟨m, 0, none⟩ = some (.slice am n cm) ∧ W3.cell? ⟨m, 1, none⟩ = some (.slice as1 ns cs)) := ⟨c0, c1⟩
  have HB3 : Aside0 (Below m w W3 ∧ W3.heap.size = m + 3) := ⟨hB3, hs3⟩
  clear c0 c1 hB3
  go_loopg [15] n (fun g v wr => ∃ (i : Nat) (l : List Nv), v = .int .i64 i ∧ i + g = n ∧ i ≤ 16 ∧ l.length = i ∧ W3.grownBy wr (some (m + 1)) ∧ LK wr (m + 2) (m + 1) l false false ∧ Aside0 (keysL l = nsL (ms.take i) ∧ namesG [] (nsL ms) = namesG (nsL (ms.take i)) ((nsL ms).drop i)))
  case atStart => exact ⟨0, [], rfl, by omega, by omega, rfl, World.grownBy.refl _ _, hK3, ⟨rfl, rfl⟩⟩
  case round =>
    obtain ⟨i, l, rfl, hig, hi16, hll, hGr, hKr, hF⟩ := hrel
    have HLL : Aside0 (l.length = i) := ⟨hll⟩
    clear hK3 hll hmm hs3
    have hBW : Below m w wr := HB3.out.1.trans ⟨hGr.os, hGr.tape, hGr.output, hGr.size, fun k hk => hGr.block k (by have := HB3.out.2; omega) (by simp; omega)⟩
    have hBs := hGr.size
    have hW3s := HB3.out.2
    have hmw : m = w.heap.size := HM.out.symm
    by_cases hi : i < n
    · have hlt : (i : Int) < (n : Int) := by omega
      obtain ⟨q, rfl⟩ : ∃ q, gk = q + 1 := ⟨gk - 1, by omega⟩
      obtain ⟨x, hx⟩ : ∃ x, ms[i]? = some x := ⟨_, List.getElem?_eq_getElem (by rw [HW.out.2]; exact hi)⟩
      have hcx := (HW.out.1.below hBW (by omega)).cells i _ (nsC_at hx)
      have hao : am = some ⟨gm, om, none⟩ := by rcases HW.out.1.lead with e | e; (omega); exact e
      have hxs := HV.out.2.2.2.1 x (List.mem_of_getElem? hx)
      have cn := isName_walk wr x (by omega) (HV.out.2.2.1.words.below (hmw ▸ hBW))
      obtain ⟨c, hlk⟩ := hKr.map.look x (by unfold maxLen; omega)
      obtain ⟨k0, -, -, -, -⟩ := hKr.cells
      obtain ⟨bn, hbn⟩ : ∃ b, nameB x.data.toList = b := ⟨_, rfl⟩
      obtain ⟨bt, hbt⟩ : ∃ b, hasK l x = b := ⟨_, rfl⟩
      have hst := names_step hx hF.out.2
      have hc : (nsL (ms.take i)).contains x.data.toList = bt := by rw [← hF.out.1, ← hasK_keys, hbt]
      rw [hc, hbn] at hst
      have HST : Aside0 (namesG [] (nsL ms) = (!bt && decide (i < 16) && bn && namesG (nsL (ms.take (i + 1))) ((nsL ms).drop (i + 1)))) := ⟨hst⟩
      have HX : Aside0 (ms[i]? = some x ∧ x.size ≤ 3000000) := ⟨hx, hxs⟩
      rw [hbn] at cn
      rw [hbt] at hlk
      have bad : Aside0 (namesG [] (nsL ms) = false → R = 234) := ⟨fun e => by rw [HR.out, checkP, if_pos e]⟩
      have HK : Aside0 (LK wr (m + 2) (m + 1) l false false) := ⟨hKr⟩
      have HG : Aside0 (W3.grownBy wr (some (m + 1))) := ⟨hGr⟩
      subst hao
      clear hbn hbt hst hc hx hmw hGr hKr cfo hW3s
      cases bt with
      | true =>
        have A : Aside0 (R = 234) := ⟨bad.out (by rw [HST.out]; rfl)⟩
        clear bad cn
        go_wp2
        go_ret
        exact ⟨by rw [A.out]; rfl, by rw [HM.out]; exact hBW⟩
      | false =>
        by_cases h16 : i < 16
        · have h16' : ¬ (16 : Int) ≤ (i : Int) := by omega
          cases bn with
          | false =>
            have A : Aside0 (R = 234) := ⟨bad.out (by rw [HST.out]; simp)⟩
            clear bad
            go_wp2_with (go_at_call 24; (with_reducible refine cn.mono ?_); rintro e w' ⟨rfl, rfl⟩)
            go_ret
            exact ⟨by rw [A.out]; rfl, by rw [HM.out]; exact hBW⟩
          | true =>
            obtain ⟨w1, hrun, hO1, hg1⟩ := HK.out.map.update (x, (i : Int)) (by show x.size ≤ maxLen; have := HX.out.2; unfold maxLen; omega) (by
              show (decide (IntKind.i64.min ≤ (i : Int)) && decide ((i : Int) ≤ IntKind.i64.max)) = true
              have e1 : IntKind.i64.min = -9223372036854775808 := rfl
              have e2 : IntKind.i64.max = 9223372036854775807 := rfl
              rw [e1, e2]
              simp; omega) (by rw [HLL.out]; unfold maxLen; omega)
            have A : Aside0 (keysL (l ++ [(x, (i : Int))]) = nsL (ms.take (i + 1)) ∧ namesG [] (nsL ms) = namesG (nsL (ms.take (i + 1))) ((nsL ms).drop (i + 1)) ∧ LK w1 (m + 2) (m + 1) (l ++ [(x, (i : Int))]) false false) := ⟨nv_take hF.out.1 HX.out.1 _, by rw [HST.out]; simp [h16], (hg1.block (m + 2) HK.out.lt (by simp)).trans HK.out.blk, hO1⟩
            clear bad hO1
            go_wp2_with (go_at_call 24; (with_reducible refine cn.mono ?_); rintro e w' ⟨rfl, rfl⟩)
            go_roundg q
            case measure => omega
            case rel => exact ⟨i + 1, l ++ [(x, (i : Int))], by go_num, by omega, by omega, by rw [List.length_append, HLL.out]; rfl, HG.out.trans hg1, A.out.2.2, ⟨A.out.1, A.out.2.1⟩⟩
        · have h16' : (16 : Int) ≤ (i : Int) := by omega
          have A : Aside0 (R = 234) := ⟨bad.out (by rw [HST.out]; simp [h16])⟩
          clear bad cn
          go_wp2
          go_ret
          exact ⟨by rw [A.out]; rfl, by rw [HM.out]; exact hBW⟩
    · obtain rfl : i = n := by omega
      have hlt : ¬ (i : Int) < (i : Int) := by omega
      have hN : namesG [] (nsL ms) = true := by
        rw [hF.out.2, show (nsL ms).drop i = [] from List.drop_eq_nil_of_le (by rw [nsL, List.length_map, HW.out.2]; exact Nat.le_refl _)]
        rfl
      have hfo : fSs s = fo := by rw [← HFO.out, namesG_all _ _ hN]; rfl
      have hkeys : keysL l = nsL ms := by rw [hF.out.1, ← HW.out.2, List.take_length]
      obtain ⟨bu, hbu⟩ : ∃ b, useS (nsL ms) s = b := ⟨_, rfl⟩
      obtain ⟨bq, hbq⟩ : ∃ b, loopS s false = b := ⟨_, rfl⟩
      obtain ⟨D, hD⟩ : ∃ b, depS s = b := ⟨_, rfl⟩
      have HRR : Aside0 (R = if fo = false then 231 else if bu = true then 231 else if bq = true then 232 else if 64 < D then 233 else 0) := ⟨by rw [HR.out, checkP, if_neg (by rw [hN]; decide), hfo, hbu, hbq, hD]⟩
      have hD3 : D ≤ 3000000 := by have := depS_wt s; have := HV.out.2.2.2.2; omega
      have d0 := hGr.cell C1.out.1 (by simp)
      have d1 := hGr.cell C1.out.2 (by simp)
      have cst : ∀ W, Below wr.heap.size wr W → Calls Tryd.prog 26 #[.pointer (some ⟨m + 2, 0, none⟩), .slice as1 ns cs, .bool false] W (LkP W (m + 2) (m + 1) l (.int .i64 (D : Int)) bu bq) := fun W hW => by
        have := lookStmts_walk s (.slice as1 ns cs) W m (m + 2) (m + 1) l false false false HV.out.2.2.2.2 (by have h := HV.out.2.1; rw [← hmw] at h; exact h.lt (hBW.trans (hW.mono (by omega)))) (hKr.below hW) (by omega) (by have := hW.size; omega)
        rw [hkeys, hbu, hbq, hD, Bool.false_or, Bool.false_or] at this
        exact this
      have cfo' : ∀ W, Below wr.heap.size wr W → Calls Tryd.prog 25 #[.agg #[.slice am i cm, .slice as1 ns cs]] W (IsY fo W) := fun W hW => cfo W (by have := hBW.trans (hW.mono (show m ≤ wr.heap.size by omega)); exact this)
      have hKB := hKr
      have hmw2 : m + 2 < wr.heap.size := hKr.lt
      have hmw0 : m < wr.heap.size := by omega
      clear hN hfo hkeys hbu hbq hD cfo hF hKr HFO hmw
      cases fo with
      | false =>
        have A : Aside0 (R = 231) := ⟨by rw [HRR.out]; rfl⟩
        clear HRR cst
        go_wp2_with (go_at_call 25; (with_reducible refine (cfo' _ (by repeat (first | with_reducible assumption | with_reducible refine below_set ?_ (by omega) _ | with_reducible refine Below.alloc ?_ (by first | omega | (simp; done) | (simp; omega)) _ | with_reducible refine Below.drew ?_ | with_reducible exact Below.refl _ _ | with_reducible refine below_two ?_ (by with_reducible assumption)))).mono ?_); rintro e w1 ⟨rfl, hB4⟩)
        go_ret
        exact ⟨by rw [A.out]; rfl, by rw [HM.out]; exact hBW.trans (hB4.mono (by omega))⟩
      | true =>
        have HRF : Aside0 (R = if bu = true then 231 else if bq = true then 232 else if 64 < D then 233 else 0) := ⟨by rw [HRR.out]; rfl⟩
        clear HRR
        have fin : ∀ (w1 w2 : World), Below wr.heap.size wr w1 → w1.grownBy w2 (some (m + 2)) → Below w.heap.size w w2 := fun w1 w2 h1 h2 => by
          rw [HM.out]
          have h3 : Below m w w1 := hBW.trans (h1.mono (by omega))
          exact h3.trans (below_grown h2 (by omega) (by have := h1.size; omega))
        have FIN : Aside0 (∀ (w1 w2 : World), Below wr.heap.size wr w1 → w1.grownBy w2 (some (m + 2)) → Below w.heap.size w w2) := ⟨fin⟩
        clear fin hBW hKB
        cases bu with
        | true =>
          have A : Aside0 (R = 231) := ⟨by rw [HRF.out]; rfl⟩
          go_wp2_with (first | (go_at_call 25; (with_reducible refine (cfo' _ (by repeat (first | with_reducible assumption | with_reducible refine below_set ?_ (by omega) _ | with_reducible refine Below.alloc ?_ (by first | omega | (simp; done) | (simp; omega)) _ | with_reducible refine Below.drew ?_ | with_reducible exact Below.refl _ _ | with_reducible refine below_two ?_ (by with_reducible assumption)))).mono ?_); rintro e w1 ⟨rfl, hB4⟩; obtain ⟨hc1, hf1⟩ := bcell hB4) | (go_at_call 26; (with_reducible refine (cst _ (by repeat (first | with_reducible assumption | with_reducible refine below_set ?_ (by omega) _ | with_reducible refine Below.alloc ?_ (by first | omega | (simp; done) | (simp; omega)) _ | with_reducible refine Below.drew ?_ | with_reducible exact Below.refl _ _ | with_reducible refine below_two ?_ (by with_reducible assumption)))).mono ?_); rintro e w2 ⟨rfl, hG5, hK5⟩; obtain ⟨-, k1, k2, -, -⟩ := hK5.cells))
          go_ret
          exact ⟨by rw [A.out]; rfl, FIN.out _ _ hB4 hG5⟩
        | false =>
          cases bq with
          | true =>
            have A : Aside0 (R = 232) := ⟨by rw [HRF.out]; rfl⟩
            go_wp2_with (first | (go_at_call 25; (with_reducible refine (cfo' _ (by repeat (first | with_reducible assumption | with_reducible refine below_set ?_ (by omega) _ | with_reducible refine Below.alloc ?_ (by first | omega | (simp; done) | (simp; omega)) _ | with_reducible refine Below.drew ?_ | with_reducible exact Below.refl _ _ | with_reducible refine below_two ?_ (by with_reducible assumption)))).mono ?_); rintro e w1 ⟨rfl, hB4⟩; obtain ⟨hc1, hf1⟩ := bcell hB4) | (go_at_call 26; (with_reducible refine (cst _ (by repeat (first | with_reducible assumption | with_reducible refine below_set ?_ (by omega) _ | with_reducible refine Below.alloc ?_ (by first | omega | (simp; done) | (simp; omega)) _ | with_reducible refine Below.drew ?_ | with_reducible exact Below.refl _ _ | with_reducible refine below_two ?_ (by with_reducible assumption)))).mono ?_); rintro e w2 ⟨rfl, hG5, hK5⟩; obtain ⟨-, k1, k2, -, -⟩ := hK5.cells))
            go_ret
            exact ⟨by rw [A.out]; rfl, FIN.out _ _ hB4 hG5⟩
          | false =>
            by_cases h64 : 64 < D
            · have A : Aside0 (R = 233) := ⟨by rw [HRF.out]; simp [h64]⟩
              have h64' : (64 : Int) < (D : Int) := by omega
              go_wp2_with (first | (go_at_call 25; (with_reducible refine (cfo' _ (by repeat (first | with_reducible assumption | with_reducible refine below_set ?_ (by omega) _ | with_reducible refine Below.alloc ?_ (by first | omega | (simp; done) | (simp; omega)) _ | with_reducible refine Below.drew ?_ | with_reducible exact Below.refl _ _ | with_reducible refine below_two ?_ (by with_reducible assumption)))).mono ?_); rintro e w1 ⟨rfl, hB4⟩; obtain ⟨hc1, hf1⟩ := bcell hB4) | (go_at_call 26; (with_reducible refine (cst _ (by repeat (first | with_reducible assumption | with_reducible refine below_set ?_ (by omega) _ | with_reducible refine Below.alloc ?_ (by first | omega | (simp; done) | (simp; omega)) _ | with_reducible refine Below.drew ?_ | with_reducible exact Below.refl _ _ | with_reducible refine below_two ?_ (by with_reducible assumption)))).mono ?_); rintro e w2 ⟨rfl, hG5, hK5⟩; obtain ⟨-, k1, k2, -, -⟩ := hK5.cells))
              go_ret
              exact ⟨by rw [A.out]; rfl, FIN.out _ _ hB4 hG5⟩
            · have A : Aside0 (R = 0) := ⟨by rw [HRF.out]; simp [h64]⟩
              have h64' : (D : Int) ≤ 64 := by omega
              go_wp2_with (first | (go_at_call 25; (with_reducible refine (cfo' _ (by repeat (first | with_reducible assumption | with_reducible refine below_set ?_ (by omega) _ | with_reducible refine Below.alloc ?_ (by first | omega | (simp; done) | (simp; omega)) _ | with_reducible refine Below.drew ?_ | with_reducible exact Below.refl _ _ | with_reducible refine below_two ?_ (by with_reducible assumption)))).mono ?_); rintro e w1 ⟨rfl, hB4⟩; obtain ⟨hc1, hf1⟩ := bcell hB4) | (go_at_call 26; (with_reducible refine (cst _ (by repeat (first | with_reducible assumption | with_reducible refine below_set ?_ (by omega) _ | with_reducible refine Below.alloc ?_ (by first | omega | (simp; done) | (simp; omega)) _ | with_reducible refine Below.drew ?_ | with_reducible exact Below.refl _ _ | with_reducible refine below_two ?_ (by with_reducible assumption)))).mono ?_); rintro e w2 ⟨rfl, hG5, hK5⟩; obtain ⟨-, k1, k2, -, -⟩ := hK5.cells))
              go_ret
              exact ⟨by rw [A.out]; rfl, FIN.out _ _ hB4 hG5⟩
end Go.Proofs.YthkmdmobeadigaaDoor.lg
