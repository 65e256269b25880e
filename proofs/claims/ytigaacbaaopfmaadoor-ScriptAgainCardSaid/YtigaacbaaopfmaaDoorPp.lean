/- A script's text, read: the program's Parse, walked. -/
import Derived.Test.YtigaacbaaopfmaaDoorPh
import Derived.Test.YtigaacbaaopfmaaDoorWl
import Derived.Deep.Light
namespace Go.Proofs.YtigaacbaaopfmaaDoor.sh
open Go.RowKit
set_option linter.unusedVariables false
set_option linter.unusedSimpArgs false
set_option maxHeartbeats 4000000 in
set_option maxRecDepth 100000 in
theorem parse_big (w : World) (s : ByteArray) (h : 1048576 < s.size) : Calls Tryd.prog 21 #[.string s] w (ParseP (S0, 0, 160) w) := by
  have h1 : (s.size : Int) > 1048576 := by omega
  clear h
  go_enter Tryd.func21, Tryd.ntmps21
  go_wp2
  refine bodyPost_ret (v := .tuple #[.agg zero30, .int .i64 0, .int .i64 160]) ?_ rfl ⟨_, rfl, ScO.zero _ _, (Below.refl _ _).alloc (Nat.le_refl _) _⟩
  exact results_cell_tmp2 (p := 2) (q := 3) (r := 4) (ty := 30) rfl _ _ w.heap.size 30 zero30 (0, 0) _ _ _ rfl rfl rfl (heap_alloc_new _ _) Tryd.underlying30 rfl size30
set_option maxHeartbeats 8000000 in
set_option maxRecDepth 100000 in
theorem parse_ok (w : World) (hb : Bs w) (hr : Rowz w) (s : ByteArray) (hs : s.size ≤ 1048576) : Calls Tryd.prog 21 #[.string s] w (ParseP (parseG 0 false S0 (linesL s.data.toList)) w) := by
  have h1 : ¬ (s.size : Int) > 1048576 := by omega
  have hlen : s.data.toList.length = s.size := by rw [Array.length_toList]; rfl
  obtain ⟨hln, hlm⟩ := linesL_len s.data.toList
  have cl := fun wq => lines_walk wq s (by omega)
  generalize linesL s.data.toList = ls at *
  obtain ⟨n, hn⟩ : ∃ n, ls.length = n := ⟨_, rfl⟩
  obtain ⟨k, hk⟩ : ∃ k, w.heap.size = k := ⟨_, rfl⟩
  have HF : Aside0 (∀ (v : Value) (sc : Sc) (m : Nat) (er : Int) (e : Ending) (w' : World), parseG 0 false S0 ls = (sc, m, er) → e = .returned (.tuple #[v, .int .i64 (m : Int), .int .i64 er]) → ScO w' k v sc → Below k w w' → ParseP (parseG 0 false S0 ls) w e w') := ⟨fun v sc m er e w' h1 h2 h3 h4 => by subst hk; rw [h1]; exact ⟨v, h2, h3, h4⟩⟩
  obtain ⟨Q, hQ⟩ : ∃ Q, ParseP (parseG 0 false S0 ls) w = Q := ⟨_, rfl⟩
  rw [hQ] at HF ⊢
  obtain ⟨res, hres⟩ : ∃ r, parseG 0 false S0 ls = r := ⟨_, rfl⟩
  rw [hres] at HF
  have HR : Aside0 (parseG 0 false S0 ls = res) := ⟨hres⟩
  have HL : Aside0 (ls.length = n ∧ n ≤ 1048576 ∧ ∀ x ∈ ls, x.length ≤ 1048576) := ⟨hn, by omega, fun x hx => by have := hlm x hx; omega⟩
  have hn1 : n ≤ 1048576 := by omega
  clear hQ hres hlm hln hlen
  go_enter Tryd.func21, Tryd.ntmps21
  go_upto_region 5 with fail
  generalize hW : (w.alloc (.cells #[.int .i64 0, .slice none 0 0, .slice none 0 0] 30)).alloc (.cells #[.int .i64 0, .slice none 0 0, .slice none 0 0] 30) = W
  obtain ⟨hk0, hk1, hWs, hBW⟩ := two_allocs w _ _ k hk W hW
  clear hW
  have hS0 := Ss.fresh W (k + 1) (k + 2) (by go_light; omega) hk1
  go_wp2_with fail
  refine (cl _).mono ?_
  rintro e w1 ⟨vl, rfl, hown, hB1⟩
  rw [hWs] at hown hB1
  rw [hn] at hown
  have hSL := SL.of_own hown
  obtain ⟨al, cl', rfl⟩ := own_slice hown
  have hal : n = 0 ∨ ∃ gl ol, al = some ⟨gl, ol, none⟩ := by
    rcases hown.2 with ⟨_, h2⟩ | ⟨g, cap, cur, h2, _⟩
    · exact .inl h2
    · simp only [Value.slice.injEq] at h2; exact .inr ⟨g, 0, h2.1⟩
  have hS1 := hS0.below hB1 (by go_light; omega)
  have hres1 := (hB1.block k (by go_light; omega)).trans hk0
  have hB := hBW.trans (hB1.mono (by go_light; omega))
  clear hS0 hk0 hk1 hWs hBW hB1 hown cl
  go_wp2
  go_loopg [6, 22] n (fun q v6 v22 wr => ∃ (i : Nat) (begun : Bool) (sc : Sc) (vo vc : Value) (cs : List Value), v22 = .int .i64 i ∧ v6 = .bool begun ∧ i + q = n ∧ Ss wr (k + 1) (k + 2) vo vc cs sc ∧ wr.heap[k]? = some (.cells #[.int .i64 0, .slice none 0 0, .slice none 0 0] 30 (0, 0)) ∧ SL wr 9 (k + 2) (.slice al n cl') (ss ls) ∧ sc.over.length ≤ i ∧ sc.cmds.length ≤ i ∧ Aside0 (res = parseG i begun sc (ls.drop i)) ∧ Below k w wr)
  case atStart => exact ⟨0, false, S0, _, _, _, rfl, rfl, by omega, hS1, hres1, hSL, Nat.le_refl _, Nat.le_refl _, ⟨HR.out.symm⟩, hB⟩
  case round =>
    clear hS1 hres1 hSL hB
    obtain ⟨i, begun, sc, vo, vc, cs, rfl, rfl, hiq, hS, hres1, hSL, hov, hcm, hA, hB⟩ := hrel
    have hkw : k + 1 < wr.heap.size := hS.lt
    by_cases hi : i < n
    · obtain ⟨q, rfl⟩ : ∃ q, gk = q + 1 := ⟨gk - 1, by omega⟩
      have hil : (i : Int) < (n : Int) := by go_light; omega
      obtain ⟨l, hl⟩ : ∃ l, ls[i]? = some l := ⟨_, List.getElem?_eq_getElem (by rw [HL.out.1]; omega)⟩
      obtain ⟨gl, ol, rfl⟩ : ∃ gl ol, al = some ⟨gl, ol, none⟩ := by rcases hal with h | h; omega; exact h
      have hcl : wr.cell? ⟨gl, ol + i, none⟩ = some (.string (B l)) := hSL.at (by rw [ss, List.getElem?_map, hl]; rfl)
      have hll := HL.out.2.2 l (List.mem_of_getElem? hl)
      have hA1 : res = parseG i begun sc (l :: ls.drop (i + 1)) := by rw [hA.out, drop_cons hl]
      have cw := fun wq => words_walk wq (B l) (by rw [B_size]; omega)
      rw [B_data] at cw
      obtain ⟨hwl, hwm⟩ := wordsL_len l
      clear hA hl
      obtain ⟨lb, hlb⟩ : ∃ b, B l = b := ⟨_, rfl⟩
      rw [hlb] at hcl cw
      clear hlb
      go_wp2_with fail
      refine (cw _).mono ?_
      rintro e w2 ⟨vw, rfl, hown, hB1⟩
      clear cw hcl
      have hS2 := hS.below hB1 (Nat.le_refl _)
      have hres2 := (hB1.block k (by go_light; omega)).trans hres1
      have hSL2 := hSL.below hB1 (Nat.le_refl _)
      have hB2 := hB.trans (hB1.mono (by go_light; omega))
      have hz2 : wr.heap.size ≤ w2.heap.size := hB1.size
      clear hS hres1 hSL hB
      cases hw : wordsL l with
      | nil =>
        rw [hw] at hown
        have A1 : Aside0 (res = parseG (i + 1) begun sc (ls.drop (i + 1))) := ⟨by rw [hA1, pg_blank hw]⟩
        obtain ⟨aw, cww, rfl⟩ := own_slice hown
        clear hA1 hw hown hwl hwm
        go_wp2
        go_roundg q
        case measure => go_light; omega
        case rel => go_light; exact ⟨i + 1, begun, sc, vo, vc, cs, by go_num, rfl, by omega, hS2, hres2, hSL2, by omega, by omega, A1, hB2⟩
      | cons x ws =>
        rw [hw] at hown hwl hwm
        rw [List.length_cons] at hown hwl
        rcases hown.2 with ⟨_, h2⟩ | ⟨gw, cww, cur, rfl, hgw, hgc, hcap, hrest⟩
        · omega
        have hLT : LT w2 gw 0 (x :: ws) := fun j y hy => by
          have := hown.cellAt j (by have := (List.getElem?_eq_some_iff.1 hy).1; rw [List.length_cons] at this; omega)
          rw [Nat.zero_add, this, ss, List.getElem?_map, hy]; rfl
        have hgl : gw < w2.heap.size := (Array.getElem?_eq_some_iff.1 hgc).1
        have hcx : w2.cell? ⟨gw, 0, none⟩ = some (.string (B x)) := hLT 0 x rfl
        have cf := fun wq (hq : Rowz wq) => find_walk wq (B x) hq
        rw [B_data] at cf
        have hr2 := hr.below (by rw [hk]; exact hB2)
        obtain ⟨f0, hf0⟩ : ∃ f, findP x = f := ⟨_, rfl⟩
        rw [hf0] at cf
        have hfin := findP_in x
        rw [hf0] at hfin
        obtain ⟨xb, hxb⟩ : ∃ b, B x = b := ⟨_, rfl⟩
        rw [hxb] at hcx cf
        have hwl0 : ws.length ≤ 1048576 := by go_light; omega
        obtain ⟨nw, hnw⟩ : ∃ m, ws.length = m := ⟨_, rfl⟩
        rw [hnw] at hwl0 hcap hown ⊢
        have hwn1 : ((nw : Int) + 1 == 0) = false := beq_eq_false_iff_ne.2 (by go_light; omega)
        clear hxb hgc hwl hown hrest cur
        go_upto_region 12 with (go_at_call 45; (with_reducible refine (cf _ hr2).mono ?_); rintro e w3 ⟨rfl, hB3⟩)
        have hS3 := hS2.below hB3 (Nat.le_refl _)
        have hres3 := (hB3.block k (by go_light; omega)).trans hres2
        have hSL3 := hSL2.below hB3 (Nat.le_refl _)
        have hLT3 := hLT.below hB3 (Nat.le_refl _)
        have hB4 := hB2.trans (hB3.mono (by go_light; omega))
        have hz3 : w2.heap.size ≤ w3.heap.size := hB3.size
        have hlt3 := hS3.lt
        obtain ⟨c0, c1, c2, z0, z1, z2⟩ := hS3.cells
        clear hS2 hres2 hSL2 hLT hB2 cf hcx hr2
        have HA : Aside0 (res = parseG i begun sc (l :: ls.drop (i + 1)) ∧ wordsL l = x :: ws ∧ findP x = f0 ∧ ws.length = nw) := ⟨hA1, hw, hf0, hnw⟩
        clear hA1 hw hf0 hnw
        obtain ⟨bd, hbd⟩ : ∃ bd : Bool, decide (findP x < 0 ∨ (decide (findP x = 0) = begun) ∨ (findP x = 15 ∧ sc.cmds ≠ [])) = bd := ⟨_, rfl⟩
        have HBD : Aside0 (decide (findP x < 0 ∨ (decide (findP x = 0) = begun) ∨ (findP x = 15 ∧ sc.cmds ≠ [])) = bd) := ⟨hbd⟩
        clear hbd
        obtain ⟨nc, hnc⟩ : ∃ m, sc.cmds.length = m := ⟨_, rfl⟩
        obtain ⟨avc, cvc, rfl⟩ : ∃ a c, vc = .slice a nc c := by obtain ⟨a, c, h⟩ := own_slice hS3.rc; exact ⟨a, c, by rw [h, hnc]⟩
        have HNC : Aside0 (sc.cmds.length = nc) := ⟨hnc⟩
        rw [hnc] at hcm
        clear hnc
        go_cut [53] (fun v53 wx => v53 = .bool bd ∧ w3 = wx)
        case first =>
          clear hb hr hS3 hres3 hSL3 hLT3 hB4
          by_cases hneg : f0 < 0
          · go_wp2_with fail
            go_meet
            case rel => go_light; exact ⟨by rw [← HBD.out, decide_eq_true (.inl (by rw [HA.out.2.2.1]; exact hneg))], rfl⟩
          · by_cases h0 : f0 = 0
            · subst h0
              cases begun with
              | true =>
                go_wp2_with fail
                go_meet
                case rel => go_light; exact ⟨by rw [← HBD.out, decide_eq_true (.inr (.inl (by rw [HA.out.2.2.1]; rfl)))], rfl⟩
              | false =>
                go_wp2_with fail
                go_meet
                case rel => go_light; exact ⟨by rw [← HBD.out, decide_eq_false (by rw [HA.out.2.2.1]; simp)], rfl⟩
            · have e0 : (f0 == 0) = false := beq_eq_false_iff_ne.2 h0
              cases begun with
              | false =>
                go_wp2_with fail
                go_meet
                case rel => go_light; exact ⟨by rw [← HBD.out, decide_eq_true (.inr (.inl (by rw [HA.out.2.2.1]; simp [h0])))], rfl⟩
              | true =>
                by_cases h15 : f0 = 15
                · subst h15
                  by_cases hc0 : 0 < nc
                  · have hc1 : (nc : Int) > 0 := by go_light; omega
                    go_wp2_with fail
                    go_meet
                    case rel => go_light; exact ⟨by rw [← HBD.out, decide_eq_true (.inr (.inr ⟨HA.out.2.2.1, fun e => by have := HNC.out; rw [e] at this; simp at this; omega⟩))], rfl⟩
                  · have hc1 : ¬ (nc : Int) > 0 := by go_light; omega
                    go_wp2_with fail
                    go_meet
                    case rel => go_light; exact ⟨by
                      have : sc.cmds = [] := List.eq_nil_of_length_eq_zero (by have := HNC.out; omega)
                      rw [← HBD.out, decide_eq_false (by rw [HA.out.2.2.1]; simp [this])], rfl⟩
                · have e15 : (f0 == 15) = false := beq_eq_false_iff_ne.2 h15
                  go_wp2_with fail
                  go_meet
                  case rel => go_light; exact ⟨by rw [← HBD.out, decide_eq_false (by rw [HA.out.2.2.1]; simp [h0, h15]; omega)], rfl⟩
        case rest =>
          obtain ⟨rfl, hwc⟩ := hcut
          subst hwc
          cases bd with
          | true =>
            have A1 : Aside0 (res = (S0, i + 1, 160)) := ⟨by rw [HA.out.1, pg_bad HA.out.2.1 (of_decide_eq_true HBD.out)]⟩
            clear hLT3
            go_wp2_with (refine wpList_store_row rfl _ _ _ rfl k _ rfl rfl 30 _ hres3 size30 rfl all_zero30 ?_)
            refine bodyPost_ret (v := .tuple #[.agg zero30, .int .i64 ((i + 1 : Nat) : Int), .int .i64 160]) ?_ rfl (HF.out _ _ _ _ _ _ A1.out rfl (ScO.zero _ _) (setRow_below hB4))
            exact results_cell_tmp2 (p := 2) (q := 3) (r := 4) (ty := 30) rfl _ _ k 30 zero30 (0, 0) _ _ _ rfl rfl rfl (setRow_heap _ _ _ _ _ _ hres3) Tryd.underlying30 rfl size30
          | false =>
            have HG : Aside0 (¬ (findP x < 0 ∨ (decide (findP x = 0) = begun) ∨ (findP x = 15 ∧ sc.cmds ≠ []))) := ⟨of_decide_eq_false HBD.out⟩
            obtain ⟨kk, rfl⟩ : ∃ kk : Nat, f0 = kk := ⟨f0.toNat, by have := HG.out; rw [HA.out.2.2.1] at this; omega⟩
            have hk16 : kk < 16 := by go_light; omega
            have hk64 : (kk : Int) < 16 := by go_light; omega
            obtain ⟨f, er, hfe⟩ : ∃ f er, readF kk ws = (f, er) := ⟨_, _, rfl⟩
            have HFE : Aside0 (readF kk ws = (f, er)) := ⟨hfe⟩
            have hb3 := hb.below (by rw [hk]; exact hB4)
            obtain ⟨rc0, rc1, rc2, rc3⟩ := (hr.below (by rw [hk]; exact hB4)).cells kk hk16
            have hsl74 := fun W => slice74 W gw (nw + 1) cww (by go_light; omega) hcap
            rw [Nat.add_sub_cancel] at hsl74
            obtain ⟨o1, ho1⟩ : ∃ o, (if cww = 1 then 0 else 1) = o := ⟨_, rfl⟩
            have hlt1 : LT w3 gw o1 ws := by
              by_cases hc1 : cww = 1
              · have : ws = [] := List.eq_nil_of_length_eq_zero (by have := HA.out.2.2.2; omega)
                subst this
                intro j y hy; simp at hy
              · rw [if_neg hc1] at ho1
                subst ho1
                exact hLT3.tail
            rw [ho1] at hsl74
            have cr := fun wq hbq (hl : LT wq gw o1 ws) hg => fread_walk wq hbq kk (nm kk) (opOf kk) gw o1 (cww - 1) ws hl hg (fun y hy => by have := hwm y (List.mem_cons_of_mem _ hy); omega) (by have := HA.out.2.2.2; omega)
            rw [hfe, HA.out.2.2.2] at cr
            have hgl3 : gw < w3.heap.size := by go_light; omega
            generalize nm kk = xnm at rc0 cr
            generalize formOf kk = xfo at rc2 cr
            generalize moreOf kk = xmo at rc3 cr
            obtain ⟨xop, hxop⟩ : ∃ o, opOf kk = o := ⟨_, rfl⟩
            rw [hxop] at rc1 cr
            have HOP : Aside0 (opOf kk = xop) := ⟨hxop⟩
            clear hfe ho1 hLT3 hwm hxop hgl hll
            go_upto_region 14 with fail
            have hd3 : Below w3.heap.size w3 w3.drew := Below.drew (Below.refl _ w3)
            have hb3a := hb3.below hd3
            have hl3a := hlt1.below hd3 (Nat.le_refl _)
            have hg3a : gw < w3.drew.heap.size := hgl3
            have hpos3 : 0 < w3.heap.size := by go_light; omega
            go_cut [12, 13] (fun v12 v13 wx => CutF 79 (k + 2) w3 f er v12 v13 wx)
            case first =>
              have hb3b := fun (o : Obj) => hb3.below (Below.drew ((Below.refl _ w3).alloc (Nat.le_refl _) o))
              have hl3b := fun (o : Obj) => hlt1.below (Below.drew ((Below.refl _ w3).alloc (Nat.le_refl _) o)) (Nat.le_refl _)
              have hg3b : ∀ (o : Obj), gw < (w3.alloc o).drew.heap.size := fun o => by show gw < (w3.alloc o).heap.size; rw [alsize]; omega
              clear hb3 hlt1 hr hb
              go_region_with (first
                | (go_at_call 46; (with_reducible refine (cr _ hb3a hl3a hg3a).mono ?_); rintro e w4 ⟨vn, vw, vb, rfl, hR, hB5⟩; obtain ⟨an, cn, rfl⟩ := own_slice hR.rn; obtain ⟨aw, cw, rfl⟩ := own_slice hR.rw; obtain ⟨ab, cb, rfl⟩ := own_slice hR.rb; have hB6 : Below w3.heap.size w3 w4 := hd3.trans hB5; clear hB5; have hz4 : w3.heap.size ≤ w4.heap.size := hB6.size; obtain ⟨hc4, hf4⟩ := bcell hB6)
                | (go_at_call 46; (with_reducible refine (cr _ (hb3b _) (hl3b _) (hg3b _)).mono ?_); rintro e w4 ⟨vn, vw, vb, rfl, hR, hB5⟩; obtain ⟨an, cn, rfl⟩ := own_slice hR.rn; obtain ⟨aw, cw, rfl⟩ := own_slice hR.rw; obtain ⟨ab, cb, rfl⟩ := own_slice hR.rb; have hB6 : Below (w3.alloc (.cells #[.slice none 0 0, .slice none 0 0, .slice none 0 0] 79)).heap.size (w3.alloc (.cells #[.slice none 0 0, .slice none 0 0, .slice none 0 0] 79)) w4 := (Below.drew (Below.refl _ _)).trans hB5; clear hB5; have hz4 : w3.heap.size < w4.heap.size := (by go_light; have := hB6.size; simp at this; omega); obtain ⟨hc4, hf4⟩ := bcell hB6))
              all_goals
                clear hb3a hl3a hg3a hb3b hl3b hg3b cr rc0 rc1 rc2 rc3 c0 c1 c2 z0 z1 z2
                go_wp2_with fail
                go_meet
                case rel =>
                  clear hc4 hf4
                  first
                    | with_reducible exact cut_a hB6 hR (by go_light; omega)
                    | with_reducible exact cut_b hB6 hR (by go_light; omega)
            case rest =>
              obtain ⟨g, vn, vw, vb, rfl, hgg, rfl, hBc, hgb, hR⟩ := hcut
              clear cr hb3a hl3a hg3a hlt1 hd3 rc0 rc1 rc2 rc3 c0 c1 c2 z0 z1 z2 hb3
              have hS4 := hS3.below hBc (Nat.le_refl _)
              have hres4 := (hBc.block k (by go_light; omega)).trans hres3
              have hSL4 := hSL3.below hBc (Nat.le_refl _)
              have hB5 := hB4.trans (hBc.mono (by go_light; omega))
              have hb5 := hb.below (by rw [hk]; exact hB5)
              have hr5 := hr.below (by rw [hk]; exact hB5)
              have hz5 : w3.heap.size ≤ wc.heap.size := hBc.size
              have hglt : g < wc.heap.size := (Array.getElem?_eq_some_iff.1 hgb).1
              obtain ⟨an, cn, rfl⟩ := own_slice hR.rn
              obtain ⟨aw, cw, rfl⟩ := own_slice hR.rw
              obtain ⟨ab, cb, rfl⟩ := own_slice hR.rb
              clear hS3 hres3 hSL3 hB4 hBc
              by_cases her : er = 0
              · subst her
                have hsh := readF_shape kk hk16 ws f HFE.out
                obtain ⟨d0, d1, d2, z0, z1, z2⟩ := hS4.cells
                have g0 : wc.cell? ⟨g, 0, none⟩ = some (.slice an f.n.length cn) := by unfold World.cell?; rw [hgb]; rfl
                have g1 : wc.cell? ⟨g, 1, none⟩ = some (.slice aw f.w.length cw) := by unfold World.cell?; rw [hgb]; rfl
                have g2 : wc.cell? ⟨g, 2, none⟩ = some (.slice ab f.b.length cb) := by unfold World.cell?; rw [hgb]; rfl
                have hkc := hS4.lt
                by_cases h0 : kk = 0
                · have e0 : ((kk : Int) == 0) = true := beq_iff_eq.2 (by go_light; omega)
                  have hn1 : f.n.length = 1 := by unfold ShapeF at hsh; rw [if_pos h0] at hsh; exact hsh
                  obtain ⟨y, hy⟩ : ∃ y, f.n = [y] := List.length_eq_one_iff.1 hn1
                  have A1 : Aside0 (res = parseG (i + 1) true ⟨y, sc.over, sc.cmds⟩ (ls.drop (i + 1))) := ⟨by
                    rw [HA.out.1, pg_limit HA.out.2.1 (by rw [HA.out.2.2.1, h0]; rfl) HG.out (by rw [← h0]; exact HFE.out), hy]; rfl⟩
                  have hrn := hR.rn
                  rw [hy] at hrn g0
                  rcases hrn.2 with ⟨_, h2⟩ | ⟨gn, cn', cur, h2, _⟩
                  · simp at h2
                  simp only [Value.slice.injEq] at h2
                  obtain ⟨rfl, _, rfl⟩ := h2
                  have hq : wc.cell? ⟨gn, 0, none⟩ = some (.int .i64 y) := hrn.cellAt 0 (by simp)
                  have hres5 : (wc.setCell ⟨k + 1, 0, none⟩ (.int .i64 y)).heap[k]? = some (.cells #[.int .i64 0, .slice none 0 0, .slice none 0 0] 30 (0, 0)) := (heap_setCell_other wc ⟨k + 1, 0, none⟩ k _ (by show k ≠ k + 1; omega)).trans hres4
                  have hS5 := hS4.putLimit y
                  have hSL5 := hSL4.set (p := k + 1) (i := 0) (u := .int .i64 y) (by go_light; omega)
                  have hB6 := below_set (b := k + 1) (i := 0) hB5 (by go_light; omega) (.int .i64 y)
                  have hnc2 := HNC.out
                  clear hrn hR hgb g1 g2 hn1 hy h0 hsh hS4 hres4 hSL4 hB5
                  simp only [List.length_cons, List.length_nil, Nat.zero_add] at g0
                  go_wp2
                  go_roundg q
                  case measure => go_light; omega
                  case rel => go_light; exact ⟨i + 1, true, _, _, _, _, by go_num, rfl, by omega, hS5, hres5, hSL5, by show sc.over.length ≤ i + 1; omega, by show sc.cmds.length ≤ i + 1; omega, A1, hB6⟩
                · have e0 : ((kk : Int) == 0) = false := beq_eq_false_iff_ne.2 (by go_light; omega)
                  by_cases h15 : kk = 15
                  · have e15 : ((kk : Int) == 15) = true := beq_iff_eq.2 (by go_light; omega)
                    have hn1 : f.b.length = 1 ∧ f.w.length = 1 := by unfold ShapeF at hsh; rw [if_neg h0, if_pos h15] at hsh; exact hsh
                    obtain ⟨y, hy⟩ : ∃ y, f.b = [y] := List.length_eq_one_iff.1 hn1.1
                    obtain ⟨u, hu⟩ : ∃ y, f.w = [y] := List.length_eq_one_iff.1 hn1.2
                    have A1 : Aside0 (res = parseG (i + 1) begun ⟨sc.limit, sc.over ++ [(y, u)], sc.cmds⟩ (ls.drop (i + 1))) := ⟨by
                      rw [HA.out.1, pg_hash HA.out.2.1 (by rw [HA.out.2.2.1, h15]; rfl) HG.out (by rw [← h15]; exact HFE.out), hy, hu]; rfl⟩
                    have hrb := hR.rb
                    have hrw := hR.rw
                    rw [hy] at hrb g2
                    rw [hu] at hrw g1
                    rcases hrb.2 with ⟨_, h2⟩ | ⟨gb, cn', cur, h2, hgbb, hgbt, hx1⟩
                    · simp at h2
                    simp only [Value.slice.injEq] at h2
                    obtain ⟨rfl, _, rfl⟩ := h2
                    rcases hrw.2 with ⟨_, h2⟩ | ⟨gv, cn', cur, h2, hgvb, hgvt, hx2⟩
                    · simp at h2
                    simp only [Value.slice.injEq] at h2
                    obtain ⟨rfl, _, rfl⟩ := h2
                    have q1 : wc.cell? ⟨gb, 0, none⟩ = some (.string (B y)) := hrb.cellAt 0 (by simp)
                    have q2 : wc.cell? ⟨gv, 0, none⟩ = some (.int .u64 (u : Int)) := hrw.cellAt 0 (by simp)
                    have hd : Below wc.heap.size wc wc.drew := Below.drew (Below.refl _ wc)
                    have HS5 : Aside0 (Ss wc.drew (k + 1) (k + 2) vo (.slice avc nc cvc) cs sc) := ⟨hS4.below hd (Nat.le_refl _)⟩
                    have hro := HS5.out.ro
                    have hSL5 := hSL4.below hd (Nat.le_refl _)
                    have hB6 := hB5.drew
                    have hres5 : wc.drew.heap[k]? = some (.cells #[.int .i64 0, .slice none 0 0, .slice none 0 0] 30 (0, 0)) := hres4
                    have hkc5 : k + 1 < wc.drew.heap.size := hkc
                    have hov2 : sc.over.length ≤ 1048576 := by go_light; omega
                    have d1' : wc.drew.cell? ⟨k + 1, 1, none⟩ = some vo := d1
                    have z1' : wc.drew.frozen? ⟨k + 1, 1, none⟩ = false := z1
                    have hov3 := hov
                    clear hrb hrw hR g0 hn1 hy hu h0 h15 hsh hS4 hres4 hSL4 hB5 d0 d2 z0 z2
                    simp only [List.length_cons, List.length_nil, Nat.zero_add] at g1 g2
                    generalize hyb : B y = yb at q1
                    have HYB : Aside0 (B y = yb) := ⟨hyb⟩
                    clear hyb
                    go_wp2_with fail
                    clear hgbt hgvt hx1 hx2 hgbb hgvb hgb
                    repeat (rename ∀ (a : Act) (w : World), Code.wp _ _ _ a w → _ => hKK; have HKK := Aside0.mk hKK; clear hKK)
                    refine wp_region_L (fun _ => True) (fun w' => w'.cell? ⟨k + 1, 1, none⟩ = some vo ∧ w'.cell? ⟨g, 2, none⟩ = some (.slice (some ⟨gb, 0, none⟩) 1 cb) ∧ w'.cell? ⟨gb, 0, none⟩ = some (.string yb) ∧ w'.cell? ⟨g, 1, none⟩ = some (.slice (some ⟨gv, 0, none⟩) 1 cw) ∧ w'.cell? ⟨gv, 0, none⟩ = some (.int .u64 (u : Int))) 12 (by kernel_rfl) trivial ⟨d1, g2, q1, g1, q2⟩ (fun hsh hS => ?_)
                    refine anyL_take1 20 (i := 0) (v := ?_) rfl (by kernel_rfl) (by kernel_rfl) (by kernel_rfl) (by decide) (by kernel_rfl) hsh (fun _ _ _ h => h) (Or.inl ⟨by rfl, ?_⟩) hS ?_
                    rotate_left 1
                    · (intro wS hSw; (try dsimp only at hSw); first | (go_simp; done) | (go_simp; with_reducible rfl))
                    intro hsh1 hS1; clear hsh hS; have hsh := hsh1; have hS := hS1; clear hsh1 hS1
                    simp only [Act.put, List.setIfInBounds_toArray, List.set_cons_zero, List.set_cons_succ]
                    refine anyL_take1 20 (i := 1) (v := ?_) rfl (by kernel_rfl) (by kernel_rfl) (by kernel_rfl) (by decide) (by kernel_rfl) hsh (fun _ _ _ h => h) (Or.inl ⟨by rfl, ?_⟩) hS ?_
                    rotate_left 1
                    · (intro wS hSw; (try dsimp only at hSw); first | (go_simp; done) | (go_simp; with_reducible rfl))
                    intro hsh1 hS1; clear hsh hS; have hsh := hsh1; have hS := hS1; clear hsh1 hS1
                    simp only [Act.put, List.setIfInBounds_toArray, List.set_cons_zero, List.set_cons_succ]
                    refine anyL_take1 20 (i := 2) (v := ?_) rfl (by kernel_rfl) (by kernel_rfl) (by kernel_rfl) (by decide) (by kernel_rfl) hsh (fun _ _ _ h => h) (Or.inl ⟨by rfl, ?_⟩) hS ?_
                    rotate_left 1
                    · (intro wS hSw; (try dsimp only at hSw); first | (go_simp; done) | (go_simp; with_reducible rfl))
                    intro hsh1 hS1; clear hsh hS; have hsh := hsh1; have hS := hS1; clear hsh1 hS1
                    simp only [Act.put, List.setIfInBounds_toArray, List.set_cons_zero, List.set_cons_succ]
                    refine anyL_take1 20 (i := 3) (v := ?_) rfl (by kernel_rfl) (by kernel_rfl) (by kernel_rfl) (by decide) (by kernel_rfl) hsh (fun _ _ _ h => h) (Or.inl ⟨by rfl, ?_⟩) hS ?_
                    rotate_left 1
                    · (intro wS hSw; (try dsimp only at hSw); first | (go_simp; done) | (go_simp; with_reducible rfl))
                    intro hsh1 hS1; clear hsh hS; have hsh := hsh1; have hS := hS1; clear hsh1 hS1
                    simp only [Act.put, List.setIfInBounds_toArray, List.set_cons_zero, List.set_cons_succ]
                    refine anyL_take1 20 (i := 4) (v := ?_) rfl (by kernel_rfl) (by kernel_rfl) (by kernel_rfl) (by decide) (by kernel_rfl) hsh (fun _ _ _ h => h) (Or.inl ⟨by rfl, ?_⟩) hS ?_
                    rotate_left 1
                    · (intro wS hSw; (try dsimp only at hSw); first | (go_simp; done) | (go_simp; with_reducible rfl))
                    intro hsh1 hS1; clear hsh hS; have hsh := hsh1; have hS := hS1; clear hsh1 hS1
                    simp only [Act.put, List.setIfInBounds_toArray, List.set_cons_zero, List.set_cons_succ]
                    refine anyL_take1 20 (i := 5) (v := ?_) rfl (by kernel_rfl) (by kernel_rfl) (by kernel_rfl) (by decide) (by kernel_rfl) hsh (fun _ _ _ h => h) (Or.inl ⟨by rfl, ?_⟩) hS ?_
                    rotate_left 1
                    · (intro wS hSw; (try dsimp only at hSw); first | (go_simp; done) | (go_simp; with_reducible rfl))
                    intro hsh1 hS1; clear hsh hS; have hsh := hsh1; have hS := hS1; clear hsh1 hS1
                    simp only [Act.put, List.setIfInBounds_toArray, List.set_cons_zero, List.set_cons_succ]
                    refine anyL_take1 20 (i := 6) (v := ?_) rfl (by kernel_rfl) (by kernel_rfl) (by kernel_rfl) (by decide) (by kernel_rfl) hsh (fun _ _ _ h => h) (Or.inl ⟨by rfl, ?_⟩) hS ?_
                    rotate_left 1
                    · (intro wS hSw; (try dsimp only at hSw); first | (go_simp; done) | (go_simp; with_reducible rfl))
                    intro hsh1 hS1; clear hsh hS; have hsh := hsh1; have hS := hS1; clear hsh1 hS1
                    simp only [Act.put, List.setIfInBounds_toArray, List.set_cons_zero, List.set_cons_succ]
                    refine anyL_take1 20 (i := 7) (v := ?_) rfl (by kernel_rfl) (by kernel_rfl) (by kernel_rfl) (by decide) (by kernel_rfl) hsh (fun _ _ _ h => h) (Or.inl ⟨by rfl, ?_⟩) hS ?_
                    rotate_left 1
                    · (intro wS hSw; (try dsimp only at hSw); first | (go_simp; done) | (go_simp; with_reducible rfl))
                    intro hsh1 hS1; clear hsh hS; have hsh := hsh1; have hS := hS1; clear hsh1 hS1
                    simp only [Act.put, List.setIfInBounds_toArray, List.set_cons_zero, List.set_cons_succ]
                    refine anyL_take1 20 (i := 8) (v := ?_) rfl (by kernel_rfl) (by kernel_rfl) (by kernel_rfl) (by decide) (by kernel_rfl) hsh (fun _ _ _ h => h) (Or.inl ⟨by rfl, ?_⟩) hS ?_
                    rotate_left 1
                    · (intro wS hSw; (try dsimp only at hSw); first | (go_simp; done) | (go_simp; with_reducible rfl))
                    intro hsh1 hS1; clear hsh hS; have hsh := hsh1; have hS := hS1; clear hsh1 hS1
                    simp only [Act.put, List.setIfInBounds_toArray, List.set_cons_zero, List.set_cons_succ]
                    refine anyL_take1 20 (i := 9) (v := ?_) rfl (by kernel_rfl) (by kernel_rfl) (by kernel_rfl) (by decide) (by kernel_rfl) hsh (fun _ _ _ h => h) (Or.inl ⟨by rfl, ?_⟩) hS ?_
                    rotate_left 1
                    · (intro wS hSw; (try dsimp only at hSw); first | (go_simp; done) | (go_simp; with_reducible rfl))
                    intro hsh1 hS1; clear hsh hS; have hsh := hsh1; have hS := hS1; clear hsh1 hS1
                    simp only [Act.put, List.setIfInBounds_toArray, List.set_cons_zero, List.set_cons_succ]
                    refine anyL_take1 20 (i := 10) (v := ?_) rfl (by kernel_rfl) (by kernel_rfl) (by kernel_rfl) (by decide) (by kernel_rfl) hsh (fun _ _ _ h => h) (Or.inl ⟨by rfl, ?_⟩) hS ?_
                    rotate_left 1
                    · (intro wS hSw; (try dsimp only at hSw); first | (go_simp; done) | (go_simp; with_reducible rfl))
                    intro hsh1 hS1; clear hsh hS; have hsh := hsh1; have hS := hS1; clear hsh1 hS1
                    simp only [Act.put, List.setIfInBounds_toArray, List.set_cons_zero, List.set_cons_succ]
                    refine anyL_one (i := 11) (by kernel_rfl) rfl hsh (fun K hK => ?_)
                    go_simp
                    refine hK.out _ _ ⟨trivial, fun _ => ?_⟩ (fun hsh1 hS1 => ?_)
                    · obtain ⟨y0, y1, y2, y3, y4⟩ := hS.2 (by decide)
                      exact ⟨cell_alloc _ y0, cell_alloc _ y1, cell_alloc _ y2, cell_alloc _ y3, cell_alloc _ y4⟩
                    clear hsh hS hK K; have hsh := hsh1; have hS := hS1; clear hsh1 hS1
                    refine anyL_one (i := 12) (by kernel_rfl) rfl hsh (fun K hK => ?_)
                    refine step_new (T := 27) (E := 34) (size := 2) (bytes := 24) rfl (.tmp 93) (.tmp 103) rfl Tryd.underlying27 info34 rfl (by decide) (k + 2) sc.over.length _ (ovC sc.over) 1 1 [.string yb, .int .u64 (u : Int)] rfl hro (by simp [Act.eval]) (by simp [Act.eval]) (by intro y hy; simp at hy; rcases hy with rfl | rfl <;> rfl) (by go_light; unfold maxLen; omega) (by go_light; omega) (by go_light; omega) rfl ?_; intro v3 w6 own3 gr3; obtain ⟨a3, c3, rfl⟩ := own_slice own3; have HS7 : Aside0 (Ss (w6.setCell ⟨k + 1, 1, none⟩ (Value.slice a3 (sc.over.length + 1) c3)) (k + 1) (k + 2) (Value.slice a3 (sc.over.length + 1) c3) (.slice avc nc cvc) cs ⟨sc.limit, sc.over ++ [(y, u)], sc.cmds⟩) := ⟨HS5.out.putOver y u gr3 (by rw [HYB.out]; exact own3)⟩; have hblk := grown_blk2 hkc5 hro HS5.out.hp _ gr3 HS5.out.blk; have hcz : w6.cell? ⟨k + 1, 1, none⟩ = some vo := (World.cell?_of_block (a := ⟨k + 1, 1, none⟩) (hblk.trans HS5.out.blk.symm)).trans d1'; have hfz : w6.frozen? ⟨k + 1, 1, none⟩ = false := (World.frozen?_of_block (a := ⟨k + 1, 1, none⟩) (hblk.trans HS5.out.blk.symm)).trans z1'; have hlt7 : k + 1 < w6.heap.size := (by go_light; have := gr3.size; simp at this; omega); have hB8 := Aside0.mk (below_set (b := k + 1) (i := 1) (Below.grown (hB6.alloc (by go_light; omega) _) gr3 (by go_light; simp; omega) (fun j hj => by go_light; have := (hro.lt j hj).1; omega)) (by go_light; omega) (Value.slice a3 (sc.over.length + 1) c3)); have hres7 := Aside0.mk ((put_block (p := k + 1) (b := k) (i := 1) (u := Value.slice a3 (sc.over.length + 1) c3) hro gr3 (by go_light; omega) (by go_light; omega) (by go_light; omega)).trans hres5); have hSL7 := Aside0.mk ((hSL5.app hro (by decide) gr3).set (p := k + 1) (i := 1) (u := Value.slice a3 (sc.over.length + 1) c3) (by go_light; omega)); clear own3 gr3 hblk
                    refine hK.out _ _ ⟨trivial, fun h => absurd h (by decide)⟩ (fun hsh1 hS1 => ?_)
                    clear hsh hS hK K; have hsh := hsh1; have hS := hS1; clear hsh1 hS1
                    refine anyL_take (i := 13) (v := ?_) rfl (by kernel_rfl) (by kernel_rfl) (by kernel_rfl) (by decide) hsh (fun _ _ _ h => h) (Or.inl ⟨by rfl, ?_⟩) hS ?_
                    rotate_left 1
                    · (intro wS hSw; (try dsimp only at hSw); first | (go_simp; done) | (go_simp; with_reducible rfl))
                    intro hsh1 hS1; clear hsh hS; have hsh := hsh1; have hS := hS1; clear hsh1 hS1
                    simp only [Act.put, List.setIfInBounds_toArray, List.set_cons_zero, List.set_cons_succ]
                    refine anyL_one (i := 14) (by kernel_rfl) rfl hsh (fun K hK => ?_)
                    go_simp
                    refine hK.out _ _ ⟨trivial, fun h => absurd h (by decide)⟩ (fun hsh1 hS1 => ?_)
                    clear hsh hS hK K; have hsh := hsh1; have hS := hS1; clear hsh1 hS1
                    refine anyL_done (by kernel_rfl) ?_ _
                    all_goals
                      repeat (rename Aside0 (∀ (a : Act) (w : World), Code.wp _ _ _ a w → _) => HKK; have hKK := HKK.out; clear HKK)
                      go_wp2
                      go_roundg q
                      case measure => go_light; omega
                      case rel => go_light; exact ⟨i + 1, begun, _, _, _, _, by go_num, rfl, by omega, HS7.out, hres7.out, hSL7.out, by show (sc.over ++ [(y, u)]).length ≤ i + 1; simp; omega, by show sc.cmds.length ≤ i + 1; have := HNC.out; omega, A1, hB8.out⟩
                  · have e15 : ((kk : Int) == 15) = false := beq_eq_false_iff_ne.2 (by go_light; omega)
                    have hok : CmOk (opOf kk) f := by unfold ShapeF at hsh; rw [if_neg h0, if_neg h15] at hsh; exact hsh
                    have hop : opOf kk = (kk : Int) := by unfold opOf; rw [if_neg (by go_light; omega)]
                    have A1 : Aside0 (res = parseG (i + 1) begun ⟨sc.limit, sc.over, sc.cmds ++ [cmdF (kk : Int) f]⟩ (ls.drop (i + 1))) := ⟨by
                      rw [HA.out.1, pg_cmd HA.out.2.1 HA.out.2.2.1 h0 h15 HG.out HFE.out]⟩
                    rw [hop] at hok HOP
                    obtain ⟨rc0, rc1, rc2, rc3⟩ := hr5.cells kk hk16
                    rw [hop] at rc1
                    have hd : Below wc.heap.size wc wc.drew := Below.drew (Below.refl _ wc)
                    have cc := command_walk wc.drew (nm kk) (formOf kk) (moreOf kk) (kk : Int) _ _ _ (k + 2) f (hR.below hd (Nat.le_refl _)) hok
                    generalize nm kk = xnm at rc0 cc
                    generalize formOf kk = xfo at rc2 cc
                    generalize moreOf kk = xmo at rc3 cc
                    have HS5 : Aside0 (Ss wc.drew (k + 1) (k + 2) vo (.slice avc nc cvc) cs sc) := ⟨hS4.below hd (Nat.le_refl _)⟩
                    have hSL5 := hSL4.below hd (Nat.le_refl _)
                    have hB6 := hB5.drew
                    have hres5 : wc.drew.heap[k]? = some (.cells #[.int .i64 0, .slice none 0 0, .slice none 0 0] 30 (0, 0)) := hres4
                    have hkc5 : k + 1 < wc.drew.heap.size := hkc
                    have hov3 := hov
                    have hcm2 : sc.cmds.length ≤ 1048576 := by have := HNC.out; omega
                    obtain ⟨c, hc⟩ : ∃ c, cmdF (kk : Int) f = c := ⟨_, rfl⟩
                    rw [hc] at cc A1
                    unfold CmdP at cc
                    simp only [cmC] at cc
                    have d2' : wc.drew.cell? ⟨k + 1, 2, none⟩ = some (.slice avc nc cvc) := d2
                    have z2' : wc.drew.frozen? ⟨k + 1, 2, none⟩ = false := z2
                    clear hR hgb hc h0 h15 hsh hS4 hres4 hSL4 hB5 d0 d1 z0 z1 z2 hok hop hr5 hb5 HOP
                    go_wp2_with fail
                    repeat (rename ∀ (a : Act) (w : World), Code.wp _ _ _ a w → _ => hKK; have HKK := Aside0.mk hKK; clear hKK)
                    refine wp_region_L (fun _ => True) (fun w' => w'.cell? ⟨k + 1, 2, none⟩ = some (.slice avc nc cvc) ∧ w'.cell? ⟨0, kk * 4, none⟩ = some (.string xnm) ∧ w'.cell? ⟨0, kk * 4 + 1, none⟩ = some (.int .i64 (kk : Int)) ∧ w'.cell? ⟨0, kk * 4 + 2, none⟩ = some (.string xfo) ∧ w'.cell? ⟨0, kk * 4 + 3, none⟩ = some (.bool xmo) ∧ w'.cell? ⟨g, 0, none⟩ = some (.slice an f.n.length cn) ∧ w'.cell? ⟨g, 1, none⟩ = some (.slice aw f.w.length cw) ∧ w'.cell? ⟨g, 2, none⟩ = some (.slice ab f.b.length cb)) 8 (by kernel_rfl) trivial ⟨d2', rc0, rc1, rc2, rc3, g0, g1, g2⟩ (fun hsh hS => ?_)
                    refine anyL_take1 20 (i := 0) (v := ?_) rfl (by kernel_rfl) (by kernel_rfl) (by kernel_rfl) (by decide) (by kernel_rfl) hsh (fun _ _ _ h => h) (Or.inl ⟨by rfl, ?_⟩) hS ?_
                    rotate_left 1
                    · (intro wS hSw; (try dsimp only at hSw); first | (go_simp; done) | (go_simp; with_reducible rfl))
                    intro hsh1 hS1; clear hsh hS; have hsh := hsh1; have hS := hS1; clear hsh1 hS1
                    simp only [Act.put, List.setIfInBounds_toArray, List.set_cons_zero, List.set_cons_succ]
                    refine anyL_take1 20 (i := 1) (v := ?_) rfl (by kernel_rfl) (by kernel_rfl) (by kernel_rfl) (by decide) (by kernel_rfl) hsh (fun _ _ _ h => h) (Or.inl ⟨by rfl, ?_⟩) hS ?_
                    rotate_left 1
                    · (intro wS hSw; (try dsimp only at hSw); first | (go_simp; done) | (go_simp; with_reducible rfl))
                    intro hsh1 hS1; clear hsh hS; have hsh := hsh1; have hS := hS1; clear hsh1 hS1
                    simp only [Act.put, List.setIfInBounds_toArray, List.set_cons_zero, List.set_cons_succ]
                    refine anyL_take1 20 (i := 2) (v := ?_) rfl (by kernel_rfl) (by kernel_rfl) (by kernel_rfl) (by decide) (by kernel_rfl) hsh (fun _ _ _ h => h) (Or.inl ⟨by rfl, ?_⟩) hS ?_
                    rotate_left 1
                    · (intro wS hSw; (try dsimp only at hSw); first | (go_simp; done) | (go_simp; with_reducible rfl))
                    intro hsh1 hS1; clear hsh hS; have hsh := hsh1; have hS := hS1; clear hsh1 hS1
                    simp only [Act.put, List.setIfInBounds_toArray, List.set_cons_zero, List.set_cons_succ]
                    refine anyL_take1 20 (i := 3) (v := ?_) rfl (by kernel_rfl) (by kernel_rfl) (by kernel_rfl) (by decide) (by kernel_rfl) hsh (fun _ _ _ h => h) (Or.inl ⟨by rfl, ?_⟩) hS ?_
                    rotate_left 1
                    · (intro wS hSw; (try dsimp only at hSw); first | (go_simp; done) | (go_simp; with_reducible rfl))
                    intro hsh1 hS1; clear hsh hS; have hsh := hsh1; have hS := hS1; clear hsh1 hS1
                    simp only [Act.put, List.setIfInBounds_toArray, List.set_cons_zero, List.set_cons_succ]
                    refine anyL_take1 20 (i := 4) (v := ?_) rfl (by kernel_rfl) (by kernel_rfl) (by kernel_rfl) (by decide) (by kernel_rfl) hsh (fun _ _ _ h => h) (Or.inl ⟨by rfl, ?_⟩) hS ?_
                    rotate_left 1
                    · (intro wS hSw; (try dsimp only at hSw); first | (go_simp; done) | (go_simp; with_reducible rfl))
                    intro hsh1 hS1; clear hsh hS; have hsh := hsh1; have hS := hS1; clear hsh1 hS1
                    simp only [Act.put, List.setIfInBounds_toArray, List.set_cons_zero, List.set_cons_succ]
                    refine anyL_take1 20 (i := 5) (v := ?_) rfl (by kernel_rfl) (by kernel_rfl) (by kernel_rfl) (by decide) (by kernel_rfl) hsh (fun _ _ _ h => h) (Or.inl ⟨by rfl, ?_⟩) hS ?_
                    rotate_left 1
                    · (intro wS hSw; (try dsimp only at hSw); first | (go_simp; done) | (go_simp; with_reducible rfl))
                    intro hsh1 hS1; clear hsh hS; have hsh := hsh1; have hS := hS1; clear hsh1 hS1
                    simp only [Act.put, List.setIfInBounds_toArray, List.set_cons_zero, List.set_cons_succ]
                    refine anyL_one (i := 6) (by kernel_rfl) rfl hsh (fun K hK => ?_)
                    go_simp; go_at_call 47; (with_reducible refine cc.mono ?_); rintro e w6 ⟨vf, vh, rfl, hvf, hvh, hB7⟩; obtain ⟨af, cf, rfl⟩ := sl_slice hvf; obtain ⟨ah, ch, rfl⟩ := sl_slice hvh; have HS6 : Aside0 (Ss w6 (k + 1) (k + 2) vo (.slice avc nc cvc) cs sc) := ⟨HS5.out.below hB7 (Nat.le_refl _)⟩; have hrc6 := HS6.out.rc; have hSL6 := hSL5.below hB7 (Nat.le_refl _); have hres6 := (hB7.block k (by go_light; omega)).trans hres5; have hB9 := hB6.trans (hB7.mono (by go_light; omega)); have hkc6 : k + 1 < w6.heap.size := HS6.out.lt; have d26 := (hB7.cell (p := ⟨k + 1, 2, none⟩) hkc5).trans d2'; have z26 := (hB7.frozen (p := ⟨k + 1, 2, none⟩) hkc5).trans z2'
                    refine hK.out _ _ ⟨trivial, fun _ => ?_⟩ (fun hsh1 hS1 => ?_)
                    · obtain ⟨y0, y1, y2, y3, y4, y5, y6, y7⟩ := hS.2 (by decide)
                      exact ⟨cell_below y0 hB7 (Nat.le_refl _), cell_below y1 hB7 (Nat.le_refl _), cell_below y2 hB7 (Nat.le_refl _), cell_below y3 hB7 (Nat.le_refl _), cell_below y4 hB7 (Nat.le_refl _), cell_below y5 hB7 (Nat.le_refl _), cell_below y6 hB7 (Nat.le_refl _), cell_below y7 hB7 (Nat.le_refl _)⟩
                    clear hsh hS hK K; have hsh := hsh1; have hS := hS1; clear hsh1 hS1
                    refine anyL_one (i := 7) (by kernel_rfl) rfl hsh (fun K hK => ?_)
                    go_simp
                    refine hK.out _ _ ⟨trivial, fun _ => ?_⟩ (fun hsh1 hS1 => ?_)
                    · obtain ⟨y0, y1, y2, y3, y4, y5, y6, y7⟩ := hS.2 (by decide)
                      exact ⟨cell_alloc _ y0, cell_alloc _ y1, cell_alloc _ y2, cell_alloc _ y3, cell_alloc _ y4, cell_alloc _ y5, cell_alloc _ y6, cell_alloc _ y7⟩
                    clear hsh hS hK K; have hsh := hsh1; have hS := hS1; clear hsh1 hS1
                    refine anyL_one (i := 8) (by kernel_rfl) rfl hsh (fun K hK => ?_)
                    refine step_new (T := 28) (E := 37) (size := 9) (bytes := 120) rfl (.tmp 74) (.tmp 80) rfl Tryd.underlying28 info37 rfl (by decide) (k + 2) sc.cmds.length _ cs 1 1 (cmC c (.slice af (iv c.fields).length cf) (.slice ah (iv c.hs).length ch)) rfl hrc6 (by simp [Act.eval]) (by simp [Act.eval]) (by intro y hy; simp [cmC] at hy; rcases hy with rfl | rfl | rfl | rfl | rfl | rfl | rfl | rfl | rfl <;> rfl) (by go_light; unfold maxLen; omega) (by go_light; omega) (by go_light; omega) rfl ?_; intro v3 w8 own3 gr3; obtain ⟨a3, c3, rfl⟩ := own_slice own3; have HS7 : Aside0 (Ss (w8.setCell ⟨k + 1, 2, none⟩ (Value.slice a3 (sc.cmds.length + 1) c3)) (k + 1) (k + 2) vo (Value.slice a3 (sc.cmds.length + 1) c3) (cs ++ cmC c (.slice af (iv c.fields).length cf) (.slice ah (iv c.hs).length ch)) ⟨sc.limit, sc.over, sc.cmds ++ [c]⟩) := ⟨HS6.out.putCmd c _ _ hvf hvh gr3 own3⟩; have hblk := grown_blk2 hkc6 hrc6 HS6.out.hp _ gr3 HS6.out.blk; have hcz : w8.cell? ⟨k + 1, 2, none⟩ = some (.slice avc nc cvc) := (World.cell?_of_block (a := ⟨k + 1, 2, none⟩) (hblk.trans HS6.out.blk.symm)).trans d26; have hfz : w8.frozen? ⟨k + 1, 2, none⟩ = false := (World.frozen?_of_block (a := ⟨k + 1, 2, none⟩) (hblk.trans HS6.out.blk.symm)).trans z26; have hlt7 : k + 1 < w8.heap.size := (by go_light; have := gr3.size; simp at this; omega); have hB8 := Aside0.mk (below_set (b := k + 1) (i := 2) (Below.grown (hB9.alloc (by go_light; omega) _) gr3 (by go_light; simp; omega) (fun j hj => by go_light; have := (hrc6.lt j hj).1; omega)) (by go_light; omega) (Value.slice a3 (sc.cmds.length + 1) c3)); have hres7 := Aside0.mk ((put_block (p := k + 1) (b := k) (i := 2) (u := Value.slice a3 (sc.cmds.length + 1) c3) hrc6 gr3 (by go_light; omega) (by go_light; omega) (by go_light; omega)).trans hres6); have hSL7 := Aside0.mk ((hSL6.app hrc6 (by decide) gr3).set (p := k + 1) (i := 2) (u := Value.slice a3 (sc.cmds.length + 1) c3) (by go_light; omega)); clear own3 gr3 hblk
                    refine hK.out _ _ ⟨trivial, fun h => absurd h (by decide)⟩ (fun hsh1 hS1 => ?_)
                    clear hsh hS hK K; have hsh := hsh1; have hS := hS1; clear hsh1 hS1
                    refine anyL_take (i := 9) (v := ?_) rfl (by kernel_rfl) (by kernel_rfl) (by kernel_rfl) (by decide) hsh (fun _ _ _ h => h) (Or.inl ⟨by rfl, ?_⟩) hS ?_
                    rotate_left 1
                    · (intro wS hSw; (try dsimp only at hSw); first | (go_simp; done) | (go_simp; with_reducible rfl))
                    intro hsh1 hS1; clear hsh hS; have hsh := hsh1; have hS := hS1; clear hsh1 hS1
                    simp only [Act.put, List.setIfInBounds_toArray, List.set_cons_zero, List.set_cons_succ]
                    refine anyL_one (i := 10) (by kernel_rfl) rfl hsh (fun K hK => ?_)
                    go_simp
                    refine hK.out _ _ ⟨trivial, fun h => absurd h (by decide)⟩ (fun hsh1 hS1 => ?_)
                    clear hsh hS hK K; have hsh := hsh1; have hS := hS1; clear hsh1 hS1
                    refine anyL_done (by kernel_rfl) ?_ _
                    all_goals
                      repeat (rename Aside0 (∀ (a : Act) (w : World), Code.wp _ _ _ a w → _) => HKK; have hKK := HKK.out; clear HKK)
                      go_wp2
                      go_roundg q
                      case measure => go_light; omega
                      case rel => go_light; exact ⟨i + 1, begun, _, _, _, _, by go_num, rfl, by omega, HS7.out, hres7.out, hSL7.out, by show sc.over.length ≤ i + 1; omega, by show (sc.cmds ++ [c]).length ≤ i + 1; have := HNC.out; simp; omega, A1, hB8.out⟩
              · have hne : (er != 0) = true := by simpa using her
                have A1 : Aside0 (res = (S0, i + 1, er)) := ⟨by rw [HA.out.1, pg_err HA.out.2.1 HA.out.2.2.1 HG.out HFE.out her]⟩
                go_wp2_with (refine wpList_store_row rfl _ _ _ rfl k _ rfl rfl 30 _ hres4 size30 rfl all_zero30 ?_)
                refine bodyPost_ret (v := .tuple #[.agg zero30, .int .i64 ((i + 1 : Nat) : Int), .int .i64 er]) ?_ rfl (HF.out _ _ _ _ _ _ A1.out rfl (ScO.zero _ _) (setRow_below hB5))
                exact results_cell_tmp2 (p := 2) (q := 3) (r := 4) (ty := 30) rfl _ _ k 30 zero30 (0, 0) _ _ _ rfl rfl rfl (setRow_heap _ _ _ _ _ _ hres4) Tryd.underlying30 rfl size30
    · obtain rfl : i = n := by go_light; omega
      have hil : ¬ (i : Int) < (i : Int) := by go_light; omega
      have A0 : res = parseG i begun sc [] := by rw [hA.out, List.drop_eq_nil_of_le (by rw [HL.out.1]; omega)]
      clear hA
      cases begun with
      | false =>
        have A1 : Aside0 (res = (S0, i + 1, 160)) := ⟨by rw [A0]; rfl⟩
        clear A0
        go_wp2_with (refine wpList_store_row rfl _ _ _ rfl k _ rfl rfl 30 _ hres1 size30 rfl all_zero30 ?_)
        refine bodyPost_ret (v := .tuple #[.agg zero30, .int .i64 ((i + 1 : Nat) : Int), .int .i64 160]) ?_ rfl (HF.out _ _ _ _ _ _ A1.out rfl (ScO.zero _ _) (setRow_below hB))
        exact results_cell_tmp2 (p := 2) (q := 3) (r := 4) (ty := 30) rfl _ _ k 30 zero30 (0, 0) _ _ _ rfl rfl rfl (setRow_heap _ _ _ _ _ _ hres1) Tryd.underlying30 rfl size30
      | true =>
        have A1 : Aside0 (res = (sc, 0, 0)) := ⟨by rw [A0]; rfl⟩
        clear A0
        have hbk := hS.blk
        obtain ⟨ao, co, rfl⟩ := own_slice hS.ro
        obtain ⟨ac, cc, rfl⟩ := own_slice hS.rc
        go_wp2_with (first
          | (refine wpList_load_row rfl _ _ rfl (k + 1) rfl 30 _ _ _ hbk Tryd.underlying30 rfl size30 ?_)
          | (refine wpList_store_row rfl _ _ _ rfl k _ rfl rfl 30 _ hres1 size30 rfl (all_30 _ ao ac _ _ co cc) ?_))
        refine bodyPost_ret (v := .tuple #[.agg #[.int .i64 sc.limit, .slice ao sc.over.length co, .slice ac sc.cmds.length cc], .int .i64 ((0 : Nat) : Int), .int .i64 0]) ?_ rfl (HF.out _ _ _ _ _ _ A1.out rfl (hS.out (by go_light; omega)) (setRow_below hB))
        exact results_cell_tmp2 (p := 2) (q := 3) (r := 4) (ty := 30) rfl _ _ k 30 #[.int .i64 sc.limit, .slice ao sc.over.length co, .slice ac sc.cmds.length cc] (0, 0) _ _ _ rfl rfl rfl (setRow_heap _ _ _ _ _ _ hres1) Tryd.underlying30 rfl size30
theorem parse_walk (w : World) (hb : Bs w) (hr : Rowz w) (s : ByteArray) : Calls Tryd.prog 21 #[.string s] w (ParseP (parseP s.data.toList) w) := by
  have hlen : s.data.toList.length = s.size := by rw [Array.length_toList]; rfl
  unfold parseP
  rw [hlen]
  by_cases h : 1048576 < s.size
  · rw [if_pos h]; exact parse_big w s h
  · rw [if_neg h]; exact parse_ok w hb hr s (by go_light; omega)
end Go.Proofs.YtigaacbaaopfmaaDoor.sh
