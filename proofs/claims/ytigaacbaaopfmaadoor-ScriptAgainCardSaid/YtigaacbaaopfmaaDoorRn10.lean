/- ScriptFault's own function, walked. -/
import Derived.Test.YtigaacbaaopfmaaDoorCl
import Derived.Test.YtigaacbaaopfmaaDoorPp
import Derived.Test.YtigaacbaaopfmaaDoorLf
namespace Go.Proofs.YtigaacbaaopfmaaDoor.sh
open Go.RowKit
set_option linter.unusedVariables false
set_option linter.unusedSimpArgs false
theorem SW.take {w : World} {size : Nat} {ao : Option Addr} {n c g o : Nat} {xs : List Value} (h : SW w size ao n c g o xs) {k : Nat} (hk : k ≤ n) : SW w size ao k c g o (xs.take (k * size)) :=
  ⟨by rw [List.length_take, h.len]; exact Nat.min_eq_left (Nat.mul_le_mul_right _ hk), h.lead.imp (fun e => by omega) id, fun hp => h.bare hp, by have := h.cap; omega, fun j u hu => h.cells j u (by
    rw [List.getElem?_take] at hu
    split at hu
    · exact hu
    · cases hu)⟩
theorem cmv_take {w : World} {cs : List Value} {l : List Cm} (h : CmV w cs l) (k : Nat) : CmV w (cs.take (k * 9)) (l.take k) := fun i c hc => by
  rw [List.getElem?_take] at hc
  split at hc
  · next hi =>
    obtain ⟨vf, vh, h1, h2, h3⟩ := h i c hc
    exact ⟨vf, vh, h1, h2, fun t ht => by rw [List.getElem?_take, if_pos (by omega)]; exact h3 t ht⟩
  · cases hc
theorem parse_zero {line : Nat} {w w' : World} {e : Ending} (h : ParseP (S0, line, 160) w e w') : ∃ ao co ac cc, e = .returned (.tuple #[.agg #[.int .i64 0, .slice ao 0 co, .slice ac 0 cc], .int .i64 (line : Int), .int .i64 160]) ∧
    ScV w' (.agg #[.int .i64 0, .slice ao 0 co, .slice ac 0 cc]) S0 ∧ Below w.heap.size w w' := by
  obtain ⟨v, rfl, ⟨vo, vc, cs, rfl, ho, hc, hm⟩, hb⟩ := h
  obtain ⟨ao, co, rfl⟩ := own_slice ho
  obtain ⟨ac, cc, rfl⟩ := own_slice hc
  exact ⟨ao, co, ac, cc, rfl, ⟨_, _, cs, rfl, own_sv ho, own_sv hc, hm.cmv⟩, hb⟩
theorem fault_text (c : Sc) (hk : c.Ok) (hl : ∀ x ∈ c.cmds, hasLine x = true) (k : Nat) (hkn : k ≤ c.cmds.length) (name behind : ByteArray) (hn : ∀ x ∈ name.data.toList, 65 ≤ x.toNat) (tx : ByteArray)
    (ht : B (printL ⟨c.limit, c.over, c.cmds.take k⟩) ++ name ++ ⟨#[63, 10]⟩ ++ behind = tx) : parseP tx.data.toList = (S0, if 1048576 < tx.size then 0 else 1 + c.over.length + k + 1, 160) := by
  have e : tx.data.toList = printL ⟨c.limit, c.over, c.cmds.take k⟩ ++ name.data.toList ++ [63, 10] ++ behind.data.toList := by
    rw [← ht]
    simp only [ByteArray.data_append, Array.toList_append]
    rfl
  have hz : tx.size = tx.data.toList.length := by rw [Array.length_toList]; rfl
  rw [hz, e, parse_fault (take_ok hk k) (fun x hx => hl x (List.mem_of_mem_take hx)) _ _ hn]
  simp only [List.length_take, Nat.min_eq_left hkn]
theorem zero_scv (w : World) : ScV w (.agg #[.int .i64 0, .slice none 0 0, .slice none 0 0]) S0 := ⟨_, _, [], rfl, nil_sv w 2, nil_sv w 9, fun i c hc => by simp [S0] at hc⟩
theorem S0_fin : S0.Fin := ⟨by simp [S0], by simp [S0], fun c hc => by simp [S0] at hc⟩
set_option maxHeartbeats 8000000 in
set_option maxRecDepth 100000 in
theorem fault10 (w : World) (hb : Bs w) (hr : Rowz w) (s : Sc) (ok : s.Ok) (v : Value) (h : ScV w v s) (a : Int) (name behind : ByteArray) (hn : name.size ≤ 2000000) (hbh : behind.size ≤ 2000000) :
    Calls Tryd.prog 10 #[v, .int .i64 a, .string name, .string behind] w (YesP w) := by
  have HV := h
  obtain ⟨_, _, cs, rfl, ⟨a1, c1, g1, o1, rfl, p1⟩, ⟨b1, d1, k1, q1, rfl, r1⟩, m1⟩ := h
  clear p1 r1 m1
  have hk := cleanS_ok ok
  have hline := clean_line s
  have ccl := fun wq (q : Below w.heap.size w wq) => cleaned_walk wq s ok _ (HV.below q (Nat.le_refl _))
  obtain ⟨c, hc⟩ : ∃ c, cleanS s = c := ⟨_, rfl⟩
  rw [hc] at ccl hk hline
  have cps := fun k wq (q : Below w.heap.size w wq) => parse_walk wq (hb.below q) (hr.below q) (B (printL ⟨c.limit, c.over, c.cmds.take k⟩) ++ name ++ ⟨#[63, 10]⟩ ++ behind)
  have ccp := fun k wq (q : Below w.heap.size w wq) => copied_walk wq ⟨c.limit, c.over, c.cmds.take k⟩ (take_ok hk k)
  have cpr := fun k wq (q : Below w.heap.size w wq) => print_walk wq (hb.b3.below q) ⟨c.limit, c.over, c.cmds.take k⟩ (take_ok hk k)
  have HN : Aside0 (name.data.toList.length = name.size) := ⟨by rw [Array.length_toList]; rfl⟩
  have HC : Aside0 (c.Ok ∧ ∀ x ∈ c.cmds, hasLine x = true) := ⟨hk, hline⟩
  obtain ⟨m, hm⟩ : ∃ m, w.heap.size = m := ⟨_, rfl⟩
  rw [hm] at ccp ccl cpr cps
  have HQ : Aside0 (∀ w', Below m w w' → YesP w (.returned (.bool true)) w') := ⟨fun w' h => ⟨rfl, by rw [hm]; exact h⟩⟩
  obtain ⟨Q, hQ⟩ : ∃ Q, YesP w = Q := ⟨_, rfl⟩
  rw [hQ] at HQ ⊢
  obtain ⟨lim, hlim⟩ : ∃ x, s.limit = x := ⟨_, rfl⟩
  obtain ⟨no, hno⟩ : ∃ x, s.over.length = x := ⟨_, rfl⟩
  obtain ⟨nc, hnc⟩ : ∃ x, s.cmds.length = x := ⟨_, rfl⟩
  rw [hlim, hno, hnc] at ccl ⊢
  clear hQ hlim hno hnc HV hb hr ok hc hk hline
  have HX := round_new2 (.cells #[.int .i64 lim, .slice a1 no c1, .slice b1 nc d1] 30) (Below.refl w.heap.size w) (Nat.le_refl _) hm
  rw [hm] at HX
  go_enter Tryd.func10, Tryd.ntmps10
  go_upto_region 1 with fail
  generalize w.alloc (.cells #[.int .i64 lim, .slice a1 no c1, .slice b1 nc d1] 30) = W at HX ⊢
  obtain ⟨hz, hbk, hBW, -⟩ := HX W rfl
  clear HX
  have k0 : W.cell? ⟨m, 0, none⟩ = some (.int .i64 lim) := by unfold World.cell?; rw [hbk]; rfl
  have k1' : W.cell? ⟨m, 1, none⟩ = some (.slice a1 no c1) := by unfold World.cell?; rw [hbk]; rfl
  have k2 : W.cell? ⟨m, 2, none⟩ = some (.slice b1 nc d1) := by unfold World.cell?; rw [hbk]; rfl
  clear hbk hm
  go_wp2
  go_loopg [9] name.size (fun g v9 wr => ∃ k : Nat, v9 = .int .i64 k ∧ k + g = name.size ∧ W = wr ∧ Aside0 (∀ x ∈ name.data.toList.take k, 65 ≤ x.toNat))
  case atStart => exact ⟨0, rfl, by omega, rfl, ⟨by simp⟩⟩
  case round =>
    obtain ⟨k, rfl, hkg, rfl, hA⟩ := hrel
    by_cases hk : k < name.size
    · obtain ⟨g, rfl⟩ : ∃ g, gk = g + 1 := ⟨gk - 1, by omega⟩
      have hlt : (k : Int) < (name.size : Int) := by omega
      obtain ⟨x, hx⟩ : ∃ x, name.data.toList[k]? = some x := ⟨_, List.getElem?_eq_getElem (by have := HN.out; omega)⟩
      have hi := index_at name k x hx
      clear ccl cps ccp cpr k0 k1' k2
      by_cases hlo : x.toNat < 65
      · have hl : (x.toNat : Int) < 65 := by omega
        clear hx hA
        generalize x.toNat = cc at hi hl hlo
        go_wp2
        exact HQ.out _ hBW
      · have hl : ¬ (x.toNat : Int) < 65 := by omega
        have A : Aside0 (∀ y ∈ name.data.toList.take (k + 1), 65 ≤ y.toNat) := ⟨fun y hy => by
          rw [List.take_add_one, hx] at hy
          rcases List.mem_append.1 hy with h | h
          · exact hA.out y h
          · simp at h; subst h; omega⟩
        clear hx hA
        generalize x.toNat = cc at hi hl hlo
        by_cases hhi : 90 < cc
        · have hh : (cc : Int) > 90 := by omega
          go_wp2
          exact HQ.out _ hBW
        · have hh : ¬ (cc : Int) > 90 := by omega
          go_wp2
          go_roundg g
          case measure => omega
          case rel => exact ⟨k + 1, by go_num, by omega, rfl, A⟩
    · obtain rfl : k = name.size := by omega
      obtain rfl : gk = 0 := by omega
      have hlt : ¬ (name.size : Int) < (name.size : Int) := by omega
      have HU : Aside0 (∀ x ∈ name.data.toList, 65 ≤ x.toNat) := ⟨by
        have := hA.out
        rwa [List.take_of_length_le (by have := HN.out; omega)] at this⟩
      clear hA HN
      go_upto_region 6 with fail
      go_wp2_with fail
      refine (ccl _ hBW).mono ?_
      rintro e w1 ⟨_, rfl, ⟨_, _, cs1, rfl, ⟨a2, c2, g2, o2, rfl, p2⟩, ⟨b2, d2, e2, q2, rfl, r2⟩, m2⟩, hb1⟩
      have hB1 := below_next' hBW (by omega) hb1
      have hz1 := hb1.size
      rw [hz] at hz1
      clear ccl k0 k1' k2 hb1
      obtain ⟨p, hp⟩ : ∃ p, w1.heap.size = p := ⟨_, rfl⟩
      obtain ⟨l2, hl2⟩ : ∃ x, c.limit = x := ⟨_, rfl⟩
      obtain ⟨n2, hn2⟩ : ∃ x, c.over.length = x := ⟨_, rfl⟩
      obtain ⟨n, hnn⟩ : ∃ x, c.cmds.length = x := ⟨_, rfl⟩
      rw [hn2] at p2
      rw [hnn] at r2
      rw [hl2, hn2, hnn]
      have HL : Aside0 (c.limit = l2 ∧ c.over.length = n2 ∧ c.cmds.length = n) := ⟨hl2, hn2, hnn⟩
      clear hl2 hn2 hnn
      have HX := round_new2 (.cells #[.int .i64 l2, .slice a2 n2 c2, .slice b2 n d2] 30) (Below.refl w1.heap.size w1) (Nat.le_refl _) hp
      rw [hp] at HX
      go_upto_region 7 with fail
      generalize w1.alloc (.cells #[.int .i64 l2, .slice a2 n2 c2, .slice b2 n d2] 30) = W2 at HX ⊢
      obtain ⟨hz2, hbk2, hb2, -⟩ := HX W2 rfl
      have hB2 := below_next' hB1 (by omega) (hp ▸ hb2)
      have j0 : W2.cell? ⟨p, 0, none⟩ = some (.int .i64 l2) := by unfold World.cell?; rw [hbk2]; rfl
      have j1 : W2.cell? ⟨p, 1, none⟩ = some (.slice a2 n2 c2) := by unfold World.cell?; rw [hbk2]; rfl
      have j2 : W2.cell? ⟨p, 2, none⟩ = some (.slice b2 n d2) := by unfold World.cell?; rw [hbk2]; rfl
      have hcap := r2.cap
      have jf : W2.frozen? ⟨p, 2, none⟩ = false := by unfold World.frozen?; rw [hbk2]; rfl
      have hss : ∀ k, k ≤ n → ScV w1 (.agg #[.int .i64 l2, .slice a2 n2 c2, .slice b2 k d2]) ⟨c.limit, c.over, c.cmds.take k⟩ := fun k hk => by
        obtain ⟨x1, x2, x3⟩ := HL.out
        refine ⟨_, _, cs1.take (k * 9), by rw [x1], ?_, ?_, cmv_take m2 k⟩
        · show SV w1 2 _ c.over.length (ovC c.over)
          rw [x2]; exact ⟨_, _, _, _, rfl, p2⟩
        · show SV w1 9 _ (c.cmds.take k).length _
          rw [List.length_take, x3, Nat.min_eq_left hk]
          exact ⟨_, _, _, _, rfl, r2.take hk⟩
      have jg : ∀ u, (W2.setCell ⟨p, 2, none⟩ u).heap[p]? = some (.cells #[.int .i64 l2, .slice a2 n2 c2, u] 30 (0, 0)) := fun u => heap_setCell_same W2 p 2 _ 30 u hbk2
      clear p2 r2 m2 HX hbk2
      have hmp : m ≤ p := by omega
      obtain ⟨k, hkn, hka⟩ : ∃ k : Nat, k ≤ n ∧ ((a < 0 ∧ k = n) ∨ (¬ a < 0 ∧ a > (n : Int) ∧ k = n) ∨ (¬ a < 0 ∧ ¬ a > (n : Int) ∧ a = (k : Int))) := by
        by_cases h1 : a < 0
        · exact ⟨n, Nat.le_refl _, .inl ⟨h1, rfl⟩⟩
        · by_cases h2 : a > (n : Int)
          · exact ⟨n, Nat.le_refl _, .inr (.inl ⟨h1, h2, rfl⟩)⟩
          · exact ⟨a.toNat, by omega, .inr (.inr ⟨h1, h2, by omega⟩)⟩
      have hkc : k ≤ d2 := by omega
      rcases hka with ⟨h1, rfl⟩ | ⟨h1, h2, rfl⟩ | ⟨h1, h2, rfl⟩
      · skip
        go_upto_region 9 with fail
        go_upto_region 10 with fail
        have jg' := jg (.slice b2 k d2)
        have hb3 : Below p w1 (W2.setCell ⟨p, 2, none⟩ (.slice b2 k d2)) := hb2.setCell (Nat.le_refl _) _
        have hz3 : (W2.setCell ⟨p, 2, none⟩ (.slice b2 k d2)).heap.size = p + 1 := by rw [World.size_setCell, hz2]
        generalize W2.setCell ⟨p, 2, none⟩ (.slice b2 k d2) = W3 at jg' hb3 hz3 ⊢
        clear jg j0 j1 j2 jf hB2 hb2 hz2
        have j0 : W3.cell? ⟨p, 0, none⟩ = some (.int .i64 l2) := by unfold World.cell?; rw [jg']; rfl
        have j1 : W3.cell? ⟨p, 1, none⟩ = some (.slice a2 n2 c2) := by unfold World.cell?; rw [jg']; rfl
        have j2 : W3.cell? ⟨p, 2, none⟩ = some (.slice b2 k d2) := by unfold World.cell?; rw [jg']; rfl
        have hB3 := below_next' hB1 (by omega) (hp ▸ hb3)
        have hs3 := (hss k (by omega)).below hb3 (Nat.le_of_eq hp)
        have cps' := cps k
        have cpr' := cpr k
        have ccp' := ccp k
        clear cps cpr ccp jg' hb3 hss
        obtain ⟨tx, htx⟩ : ∃ tx, B (printL ⟨c.limit, c.over, c.cmds.take k⟩) ++ name ++ ⟨#[63, 10]⟩ ++ behind = tx := ⟨_, rfl⟩
        have hpar := fault_text c HC.out.1 HC.out.2 k (by have := HL.out.2.2; omega) name behind HU.out tx htx
        rw [HL.out.2.1] at hpar
        rw [htx, hpar] at cps'
        obtain ⟨st, hst⟩ : ∃ st, B (printL ⟨c.limit, c.over, c.cmds.take k⟩) = st := ⟨_, rfl⟩
        rw [hst] at htx cpr'
        have hz : st.size ≤ 400000000 := by rw [← hst, B_size]; exact printL_len (take_ok HC.out.1 k)
        have hzn : (st ++ name).size ≤ 500000000 := by rw [ByteArray.size_append]; omega
        have hzm : (st ++ name ++ ⟨#[63, 10]⟩).size ≤ 500000002 := by rw [ByteArray.size_append]; have : (⟨#[63, 10]⟩ : ByteArray).size = 2 := rfl; omega
        obtain ⟨g, hg⟩ : ∃ g, (⟨c.limit, c.over, c.cmds.take k⟩ : Sc) = g := ⟨_, rfl⟩
        have hgl : g.limit = c.limit := by rw [← hg]
        rw [hg] at ccp' cpr' hs3
        clear hg
        clear hpar hst
        go_wp2_with fail
        refine (ccp' _ hB3 _ hs3).mono ?_
        rintro e w4 ⟨vo4, vc4, rfl, hsc, hb4⟩
        have hv4 := hsc.scv
        rw [hgl] at hv4
        obtain ⟨cs4, V4, ho4, hc4, -⟩ := hsc
        obtain ⟨ao4, co4, rfl⟩ := ho4.slice
        obtain ⟨ac4, cc4, rfl⟩ := hc4.slice
        have hB4 := below_next' hB3 (by omega) hb4
        have hz4 := hb4.size
        rw [hz3] at hb4 hz4
        have j1 := cell_below j1 hb4 (Nat.le_of_eq hz3)
        clear ho4 hc4 ccp' hs3 j0 j2
        go_wp2_with fail
        refine (cpr' _ hB4 _ hv4).mono ?_
        rintro e w5 ⟨rfl, hb5⟩
        have hB5 := below_next' hB4 (by omega) hb5
        have hz5 := hb5.size
        have j1 := cell_below j1 hb5 (Nat.le_refl _)
        clear hv4 cpr'
        go_upto_region 12 with fail
        try rw [htx]
        clear htx hz hzn hzm hb4 hb5
        obtain ⟨ln, hln⟩ : ∃ ln, (if 1048576 < tx.size then 0 else 1 + n2 + k + 1) = ln := ⟨_, rfl⟩
        rw [hln] at cps'
        have HLN : Aside0 ((if 1048576 < tx.size then 0 else 1 + n2 + k + 1) = ln) := ⟨hln⟩
        clear hln
        go_wp2_with fail
        refine ((cps' _ hB5).mono fun e w' h => parse_zero h).mono ?_
        rintro e w6 ⟨ao6, co6, ac6, cc6, rfl, hs6, hb6⟩
        have hB6 := below_next' hB5 (by omega) hb6
        have hz6 := hb6.size
        have j1 := cell_below j1 hb6 (Nat.le_refl _)
        clear cps' hb6
        obtain ⟨q, hq⟩ : ∃ q, w6.heap.size = q := ⟨_, rfl⟩
        have HX := round_new2 (.cells #[.int .i64 0, .slice ao6 0 co6, .slice ac6 0 cc6] 30) (Below.refl w6.heap.size w6) (Nat.le_refl _) hq
        rw [hq] at HX
        go_upto_region 13 with fail
        generalize w6.alloc (.cells #[.int .i64 0, .slice ao6 0 co6, .slice ac6 0 cc6] 30) = W7 at HX ⊢
        obtain ⟨hz7, hbk7, hb7, -⟩ := HX W7 rfl
        have hs7 := hs6.below hb7 (Nat.le_of_eq hq)
        have j1 := cell_below j1 hb7 (Nat.le_of_eq hq)
        have hB7 := below_next' hB6 (by omega) (hq ▸ hb7)
        have i0 : W7.cell? ⟨q, 0, none⟩ = some (.int .i64 0) := by unfold World.cell?; rw [hbk7]; rfl
        have i1 : W7.cell? ⟨q, 1, none⟩ = some (.slice ao6 0 co6) := by unfold World.cell?; rw [hbk7]; rfl
        have i2 : W7.cell? ⟨q, 2, none⟩ = some (.slice ac6 0 cc6) := by unfold World.cell?; rw [hbk7]; rfl
        clear HX hbk7 hb7 hs6
        go_wp2_with fail
        refine (same_walk _ _ _ S0 S0_fin hs7 (zero_scv _)).mono ?_
        rintro e w8 ⟨rfl, hb8⟩
        have hB8 := below_next' hB7 (by omega) hb8
        have j1 := cell_below j1 hb8 (Nat.le_refl _)
        clear hs7 hb8 i0 i1 i2
        have hkb : k ≤ 300000 ∧ n2 ≤ 1000000 := by
          have e1 := ovsW_len c.over
          have e2 := cmsW_len c.cmds
          have e3 := HC.out.1.wt
          have e4 := HL.out.2
          omega
        obtain ⟨hkb1, hkb2⟩ := hkb
        by_cases hbig : 1048576 < tx.size
        · have hlt : (tx.size : Int) > 1048576 := by omega
          obtain rfl : ln = 0 := by rw [← HLN.out, if_pos hbig]
          go_wp2
          exact HQ.out _ hB8
        · have hlt : ¬ (tx.size : Int) > 1048576 := by omega
          have hl : (ln : Int) = 1 + (n2 : Int) + (k : Int) + 1 := by rw [← HLN.out, if_neg hbig]; omega
          go_wp2
          exact HQ.out _ hB8
      · skip
        go_upto_region 9 with fail
        go_upto_region 10 with fail
        have jg' := jg (.slice b2 k d2)
        have hb3 : Below p w1 (W2.setCell ⟨p, 2, none⟩ (.slice b2 k d2)) := hb2.setCell (Nat.le_refl _) _
        have hz3 : (W2.setCell ⟨p, 2, none⟩ (.slice b2 k d2)).heap.size = p + 1 := by rw [World.size_setCell, hz2]
        generalize W2.setCell ⟨p, 2, none⟩ (.slice b2 k d2) = W3 at jg' hb3 hz3 ⊢
        clear jg j0 j1 j2 jf hB2 hb2 hz2
        have j0 : W3.cell? ⟨p, 0, none⟩ = some (.int .i64 l2) := by unfold World.cell?; rw [jg']; rfl
        have j1 : W3.cell? ⟨p, 1, none⟩ = some (.slice a2 n2 c2) := by unfold World.cell?; rw [jg']; rfl
        have j2 : W3.cell? ⟨p, 2, none⟩ = some (.slice b2 k d2) := by unfold World.cell?; rw [jg']; rfl
        have hB3 := below_next' hB1 (by omega) (hp ▸ hb3)
        have hs3 := (hss k (by omega)).below hb3 (Nat.le_of_eq hp)
        have cps' := cps k
        have cpr' := cpr k
        have ccp' := ccp k
        clear cps cpr ccp jg' hb3 hss
        obtain ⟨tx, htx⟩ : ∃ tx, B (printL ⟨c.limit, c.over, c.cmds.take k⟩) ++ name ++ ⟨#[63, 10]⟩ ++ behind = tx := ⟨_, rfl⟩
        have hpar := fault_text c HC.out.1 HC.out.2 k (by have := HL.out.2.2; omega) name behind HU.out tx htx
        rw [HL.out.2.1] at hpar
        rw [htx, hpar] at cps'
        obtain ⟨st, hst⟩ : ∃ st, B (printL ⟨c.limit, c.over, c.cmds.take k⟩) = st := ⟨_, rfl⟩
        rw [hst] at htx cpr'
        have hz : st.size ≤ 400000000 := by rw [← hst, B_size]; exact printL_len (take_ok HC.out.1 k)
        have hzn : (st ++ name).size ≤ 500000000 := by rw [ByteArray.size_append]; omega
        have hzm : (st ++ name ++ ⟨#[63, 10]⟩).size ≤ 500000002 := by rw [ByteArray.size_append]; have : (⟨#[63, 10]⟩ : ByteArray).size = 2 := rfl; omega
        obtain ⟨g, hg⟩ : ∃ g, (⟨c.limit, c.over, c.cmds.take k⟩ : Sc) = g := ⟨_, rfl⟩
        have hgl : g.limit = c.limit := by rw [← hg]
        rw [hg] at ccp' cpr' hs3
        clear hg
        clear hpar hst
        go_wp2_with fail
        refine (ccp' _ hB3 _ hs3).mono ?_
        rintro e w4 ⟨vo4, vc4, rfl, hsc, hb4⟩
        have hv4 := hsc.scv
        rw [hgl] at hv4
        obtain ⟨cs4, V4, ho4, hc4, -⟩ := hsc
        obtain ⟨ao4, co4, rfl⟩ := ho4.slice
        obtain ⟨ac4, cc4, rfl⟩ := hc4.slice
        have hB4 := below_next' hB3 (by omega) hb4
        have hz4 := hb4.size
        rw [hz3] at hb4 hz4
        have j1 := cell_below j1 hb4 (Nat.le_of_eq hz3)
        clear ho4 hc4 ccp' hs3 j0 j2
        go_wp2_with fail
        refine (cpr' _ hB4 _ hv4).mono ?_
        rintro e w5 ⟨rfl, hb5⟩
        have hB5 := below_next' hB4 (by omega) hb5
        have hz5 := hb5.size
        have j1 := cell_below j1 hb5 (Nat.le_refl _)
        clear hv4 cpr'
        go_upto_region 12 with fail
        try rw [htx]
        clear htx hz hzn hzm hb4 hb5
        obtain ⟨ln, hln⟩ : ∃ ln, (if 1048576 < tx.size then 0 else 1 + n2 + k + 1) = ln := ⟨_, rfl⟩
        rw [hln] at cps'
        have HLN : Aside0 ((if 1048576 < tx.size then 0 else 1 + n2 + k + 1) = ln) := ⟨hln⟩
        clear hln
        go_wp2_with fail
        refine ((cps' _ hB5).mono fun e w' h => parse_zero h).mono ?_
        rintro e w6 ⟨ao6, co6, ac6, cc6, rfl, hs6, hb6⟩
        have hB6 := below_next' hB5 (by omega) hb6
        have hz6 := hb6.size
        have j1 := cell_below j1 hb6 (Nat.le_refl _)
        clear cps' hb6
        obtain ⟨q, hq⟩ : ∃ q, w6.heap.size = q := ⟨_, rfl⟩
        have HX := round_new2 (.cells #[.int .i64 0, .slice ao6 0 co6, .slice ac6 0 cc6] 30) (Below.refl w6.heap.size w6) (Nat.le_refl _) hq
        rw [hq] at HX
        go_upto_region 13 with fail
        generalize w6.alloc (.cells #[.int .i64 0, .slice ao6 0 co6, .slice ac6 0 cc6] 30) = W7 at HX ⊢
        obtain ⟨hz7, hbk7, hb7, -⟩ := HX W7 rfl
        have hs7 := hs6.below hb7 (Nat.le_of_eq hq)
        have j1 := cell_below j1 hb7 (Nat.le_of_eq hq)
        have hB7 := below_next' hB6 (by omega) (hq ▸ hb7)
        have i0 : W7.cell? ⟨q, 0, none⟩ = some (.int .i64 0) := by unfold World.cell?; rw [hbk7]; rfl
        have i1 : W7.cell? ⟨q, 1, none⟩ = some (.slice ao6 0 co6) := by unfold World.cell?; rw [hbk7]; rfl
        have i2 : W7.cell? ⟨q, 2, none⟩ = some (.slice ac6 0 cc6) := by unfold World.cell?; rw [hbk7]; rfl
        clear HX hbk7 hb7 hs6
        go_wp2_with fail
        refine (same_walk _ _ _ S0 S0_fin hs7 (zero_scv _)).mono ?_
        rintro e w8 ⟨rfl, hb8⟩
        have hB8 := below_next' hB7 (by omega) hb8
        have j1 := cell_below j1 hb8 (Nat.le_refl _)
        clear hs7 hb8 i0 i1 i2
        have hkb : k ≤ 300000 ∧ n2 ≤ 1000000 := by
          have e1 := ovsW_len c.over
          have e2 := cmsW_len c.cmds
          have e3 := HC.out.1.wt
          have e4 := HL.out.2
          omega
        obtain ⟨hkb1, hkb2⟩ := hkb
        by_cases hbig : 1048576 < tx.size
        · have hlt : (tx.size : Int) > 1048576 := by omega
          obtain rfl : ln = 0 := by rw [← HLN.out, if_pos hbig]
          go_wp2
          exact HQ.out _ hB8
        · have hlt : ¬ (tx.size : Int) > 1048576 := by omega
          have hl : (ln : Int) = 1 + (n2 : Int) + (k : Int) + 1 := by rw [← HLN.out, if_neg hbig]; omega
          go_wp2
          exact HQ.out _ hB8
      · skip
        go_upto_region 9 with fail
        go_upto_region 10 with fail
        have jg' := jg (.slice b2 k d2)
        have hb3 : Below p w1 (W2.setCell ⟨p, 2, none⟩ (.slice b2 k d2)) := hb2.setCell (Nat.le_refl _) _
        have hz3 : (W2.setCell ⟨p, 2, none⟩ (.slice b2 k d2)).heap.size = p + 1 := by rw [World.size_setCell, hz2]
        generalize W2.setCell ⟨p, 2, none⟩ (.slice b2 k d2) = W3 at jg' hb3 hz3 ⊢
        clear jg j0 j1 j2 jf hB2 hb2 hz2
        have j0 : W3.cell? ⟨p, 0, none⟩ = some (.int .i64 l2) := by unfold World.cell?; rw [jg']; rfl
        have j1 : W3.cell? ⟨p, 1, none⟩ = some (.slice a2 n2 c2) := by unfold World.cell?; rw [jg']; rfl
        have j2 : W3.cell? ⟨p, 2, none⟩ = some (.slice b2 k d2) := by unfold World.cell?; rw [jg']; rfl
        have hB3 := below_next' hB1 (by omega) (hp ▸ hb3)
        have hs3 := (hss k (by omega)).below hb3 (Nat.le_of_eq hp)
        have cps' := cps k
        have cpr' := cpr k
        have ccp' := ccp k
        clear cps cpr ccp jg' hb3 hss
        obtain ⟨tx, htx⟩ : ∃ tx, B (printL ⟨c.limit, c.over, c.cmds.take k⟩) ++ name ++ ⟨#[63, 10]⟩ ++ behind = tx := ⟨_, rfl⟩
        have hpar := fault_text c HC.out.1 HC.out.2 k (by have := HL.out.2.2; omega) name behind HU.out tx htx
        rw [HL.out.2.1] at hpar
        rw [htx, hpar] at cps'
        obtain ⟨st, hst⟩ : ∃ st, B (printL ⟨c.limit, c.over, c.cmds.take k⟩) = st := ⟨_, rfl⟩
        rw [hst] at htx cpr'
        have hz : st.size ≤ 400000000 := by rw [← hst, B_size]; exact printL_len (take_ok HC.out.1 k)
        have hzn : (st ++ name).size ≤ 500000000 := by rw [ByteArray.size_append]; omega
        have hzm : (st ++ name ++ ⟨#[63, 10]⟩).size ≤ 500000002 := by rw [ByteArray.size_append]; have : (⟨#[63, 10]⟩ : ByteArray).size = 2 := rfl; omega
        obtain ⟨g, hg⟩ : ∃ g, (⟨c.limit, c.over, c.cmds.take k⟩ : Sc) = g := ⟨_, rfl⟩
        have hgl : g.limit = c.limit := by rw [← hg]
        rw [hg] at ccp' cpr' hs3
        clear hg
        clear hpar hst
        go_wp2_with fail
        refine (ccp' _ hB3 _ hs3).mono ?_
        rintro e w4 ⟨vo4, vc4, rfl, hsc, hb4⟩
        have hv4 := hsc.scv
        rw [hgl] at hv4
        obtain ⟨cs4, V4, ho4, hc4, -⟩ := hsc
        obtain ⟨ao4, co4, rfl⟩ := ho4.slice
        obtain ⟨ac4, cc4, rfl⟩ := hc4.slice
        have hB4 := below_next' hB3 (by omega) hb4
        have hz4 := hb4.size
        rw [hz3] at hb4 hz4
        have j1 := cell_below j1 hb4 (Nat.le_of_eq hz3)
        clear ho4 hc4 ccp' hs3 j0 j2
        go_wp2_with fail
        refine (cpr' _ hB4 _ hv4).mono ?_
        rintro e w5 ⟨rfl, hb5⟩
        have hB5 := below_next' hB4 (by omega) hb5
        have hz5 := hb5.size
        have j1 := cell_below j1 hb5 (Nat.le_refl _)
        clear hv4 cpr'
        go_upto_region 12 with fail
        try rw [htx]
        clear htx hz hzn hzm hb4 hb5
        obtain ⟨ln, hln⟩ : ∃ ln, (if 1048576 < tx.size then 0 else 1 + n2 + k + 1) = ln := ⟨_, rfl⟩
        rw [hln] at cps'
        have HLN : Aside0 ((if 1048576 < tx.size then 0 else 1 + n2 + k + 1) = ln) := ⟨hln⟩
        clear hln
        go_wp2_with fail
        refine ((cps' _ hB5).mono fun e w' h => parse_zero h).mono ?_
        rintro e w6 ⟨ao6, co6, ac6, cc6, rfl, hs6, hb6⟩
        have hB6 := below_next' hB5 (by omega) hb6
        have hz6 := hb6.size
        have j1 := cell_below j1 hb6 (Nat.le_refl _)
        clear cps' hb6
        obtain ⟨q, hq⟩ : ∃ q, w6.heap.size = q := ⟨_, rfl⟩
        have HX := round_new2 (.cells #[.int .i64 0, .slice ao6 0 co6, .slice ac6 0 cc6] 30) (Below.refl w6.heap.size w6) (Nat.le_refl _) hq
        rw [hq] at HX
        go_upto_region 13 with fail
        generalize w6.alloc (.cells #[.int .i64 0, .slice ao6 0 co6, .slice ac6 0 cc6] 30) = W7 at HX ⊢
        obtain ⟨hz7, hbk7, hb7, -⟩ := HX W7 rfl
        have hs7 := hs6.below hb7 (Nat.le_of_eq hq)
        have j1 := cell_below j1 hb7 (Nat.le_of_eq hq)
        have hB7 := below_next' hB6 (by omega) (hq ▸ hb7)
        have i0 : W7.cell? ⟨q, 0, none⟩ = some (.int .i64 0) := by unfold World.cell?; rw [hbk7]; rfl
        have i1 : W7.cell? ⟨q, 1, none⟩ = some (.slice ao6 0 co6) := by unfold World.cell?; rw [hbk7]; rfl
        have i2 : W7.cell? ⟨q, 2, none⟩ = some (.slice ac6 0 cc6) := by unfold World.cell?; rw [hbk7]; rfl
        clear HX hbk7 hb7 hs6
        go_wp2_with fail
        refine (same_walk _ _ _ S0 S0_fin hs7 (zero_scv _)).mono ?_
        rintro e w8 ⟨rfl, hb8⟩
        have hB8 := below_next' hB7 (by omega) hb8
        have j1 := cell_below j1 hb8 (Nat.le_refl _)
        clear hs7 hb8 i0 i1 i2
        have hkb : k ≤ 300000 ∧ n2 ≤ 1000000 := by
          have e1 := ovsW_len c.over
          have e2 := cmsW_len c.cmds
          have e3 := HC.out.1.wt
          have e4 := HL.out.2
          omega
        obtain ⟨hkb1, hkb2⟩ := hkb
        by_cases hbig : 1048576 < tx.size
        · have hlt : (tx.size : Int) > 1048576 := by omega
          obtain rfl : ln = 0 := by rw [← HLN.out, if_pos hbig]
          go_wp2
          exact HQ.out _ hB8
        · have hlt : ¬ (tx.size : Int) > 1048576 := by omega
          have hl : (ln : Int) = 1 + (n2 : Int) + (k : Int) + 1 := by rw [← HLN.out, if_neg hbig]; omega
          go_wp2
          exact HQ.out _ hB8
end Go.Proofs.YtigaacbaaopfmaaDoor.sh
