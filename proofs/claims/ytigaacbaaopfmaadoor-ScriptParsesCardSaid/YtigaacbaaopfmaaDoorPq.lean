/- A script's text, read: the document's Parse, walked. -/
import Derived.Test.YtigaacbaaopfmaaDoorPh
import Derived.Test.YtigaacbaaopfmaaDoorWl
import Derived.Test.YtigaacbaaopfmaaDoorRg
import Derived.Test.YtigaacbaaopfmaaDoorCe
import Derived.Test.YtigaacbaaopfmaaDoorRo2
import Derived.Deep.Light
namespace Go.Proofs.YtigaacbaaopfmaaDoor.sh
open Go.RowKit
set_option linter.unusedVariables false
set_option linter.unusedSimpArgs false
theorem nm_limit : ∀ i : Fin 16, ((nm i.val).toList == [108, 105, 109, 105, 116]) = decide (i.val = 0) := by
  intro i
  unfold nm
  rw [B_toList]
  revert i
  decide
theorem nm_hash : ∀ i : Fin 16, ((nm i.val).toList == [104, 97, 115, 104]) = decide (i.val = 15) := by
  intro i
  unfold nm
  rw [B_toList]
  revert i
  decide
/-- The fields in block g, behind the call of the document's read. -/
def CutG (T b : Nat) (w3 : World) (f : Fld) (er : Int) (v12 v13 : Value) (wx : World) : Prop := ∃ g a1 n1 c1 a2 n2 c2 a3 n3 c3, v12 = .pointer (some ⟨g, 0, none⟩) ∧ w3.heap.size ≤ g ∧ v13 = .int .i64 er ∧ Below w3.heap.size w3 wx ∧ wx.heap[g]? = some (.cells #[.slice a1 n1 c1, .slice a2 n2 c2, .slice a3 n3 c3] T (0, 0)) ∧ (er = 0 → Rows3 wx b (.slice a1 n1 c1) (.slice a2 n2 c2) (.slice a3 n3 c3) f)
theorem cutg_a {T b : Nat} {w3 w4 : World} {a1 a2 a3 : Option Addr} {n1 n2 n3 c1 c2 c3 : Nat} {f : Fld} {er : Int} (hB : Below w3.heap.size w3 w4) (hR : er = 0 → Rows3 w4 w3.drew.heap.size (.slice a1 n1 c1) (.slice a2 n2 c2) (.slice a3 n3 c3) f) (hk : b ≤ w3.heap.size) : CutG T b w3 f er (.pointer (some ⟨w4.heap.size, 0, none⟩)) (.int .i64 er) (w4.alloc (.cells #[.slice a1 n1 c1, .slice a2 n2 c2, .slice a3 n3 c3] T)) :=
  ⟨_, a1, n1, c1, a2, n2, c2, a3, n3, c3, rfl, hB.size, rfl, hB.alloc hB.size _, heap_alloc_new _ _, fun h => ((hR h).mono (show b ≤ w3.heap.size from hk)).alloc _⟩
theorem cutg_b {T b : Nat} {w3 w4 : World} {a1 a2 a3 : Option Addr} {n1 n2 n3 c1 c2 c3 : Nat} {f : Fld} {er : Int} (hB : Below (w3.alloc (.cells #[.slice none 0 0, .slice none 0 0, .slice none 0 0] T)).heap.size (w3.alloc (.cells #[.slice none 0 0, .slice none 0 0, .slice none 0 0] T)) w4) (hR : er = 0 → Rows3 w4 (w3.alloc (.cells #[.slice none 0 0, .slice none 0 0, .slice none 0 0] T)).drew.heap.size (.slice a1 n1 c1) (.slice a2 n2 c2) (.slice a3 n3 c3) f) (hk : b ≤ w3.heap.size) :
    CutG T b w3 f er (.pointer (some ⟨w3.heap.size, 0, none⟩)) (.int .i64 er) (((w4.setCell ⟨w3.heap.size, 0, none⟩ (.slice a1 n1 c1)).setCell ⟨w3.heap.size, 1, none⟩ (.slice a2 n2 c2)).setCell ⟨w3.heap.size, 2, none⟩ (.slice a3 n3 c3)) := by
  refine ⟨w3.heap.size, a1, n1, c1, a2, n2, c2, a3, n3, c3, rfl, Nat.le_refl _, rfl, ?_, ?_, fun h => ?_⟩
  · have h0 : Below w3.heap.size w3 w4 := ((Below.refl _ w3).alloc (Nat.le_refl _) _).trans (hB.mono (by rw [alsize]; omega))
    exact below_set (below_set (below_set h0 (Nat.le_refl _) _) (Nat.le_refl _) _) (Nat.le_refl _) _
  · exact Bx.full3 (Bx.below (Bx.new w3 _ T 3 rfl) hB) _ _ _
  · have hR2 : Rows3 w4 (w3.heap.size + 1) _ _ _ f := (hR h).mono (by show w3.heap.size + 1 ≤ (w3.alloc _).heap.size; rw [alsize]; exact Nat.le_refl _)
    exact (((hR2.set (p := w3.heap.size) (by omega)).set (p := w3.heap.size) (by omega)).set (p := w3.heap.size) (by omega)).mono (by omega)
theorem bad_bool (kk nc : Nat) (begun : Bool) (sc : Sc) (hnc : sc.cmds.length = nc) (x : List UInt8) (hx : findP x = (kk : Int)) : ((decide (kk = 0) == begun) || (decide (kk = 15) && decide (0 < nc))) = decide (findP x < 0 ∨ (decide (findP x = 0) = begun) ∨ (findP x = 15 ∧ sc.cmds ≠ [])) := by
  have e : decide ((kk : Int) = 0) = decide (kk = 0) := decide_eq_decide.2 (by omega)
  have e4 : sc.cmds ≠ [] ↔ 0 < nc := by rw [← hnc]; exact List.length_pos_iff.symm
  apply Bool.eq_iff_iff.2
  rw [decide_eq_true_iff, hx, e, e4]
  simp only [Bool.or_eq_true, beq_iff_eq, Bool.and_eq_true, decide_eq_true_eq]
  constructor
  · rintro (h | ⟨h1, h2⟩)
    · exact .inr (.inl h)
    · exact .inr (.inr ⟨by omega, h2⟩)
  · rintro (h | h | ⟨h1, h2⟩)
    · omega
    · exact .inl h
    · exact .inr ⟨by omega, h2⟩
/-- The script behind a line. -/
def CutT (p : Nat) (w1 : World) (sc : Sc) (wx : World) : Prop := ∃ vo vc cs, Ss wx p (p + 1) vo vc cs sc ∧ Below p w1 wx
set_option maxHeartbeats 4000000 in
set_option maxRecDepth 100000 in
theorem rparse_big (w : World) (s : ByteArray) (h : 1048576 < s.size) : Calls Tryd.prog 42 #[.string s] w (ParseP (S0, 0, 160) w) := by
  have h1 : (s.size : Int) > 1048576 := by omega
  clear h
  go_enter Tryd.func42, Tryd.ntmps42
  go_wp2
  refine bodyPost_ret (v := .tuple #[.agg zero30, .int .i64 0, .int .i64 160]) ?_ rfl ⟨_, rfl, ScO.zero _ _, (Below.refl _ _).alloc (Nat.le_refl _) _⟩
  exact results_cell_tmp2 (p := 2) (q := 3) (r := 4) (ty := 30) rfl _ _ w.heap.size 30 zero30 (0, 0) _ _ _ rfl rfl rfl (heap_alloc_new _ _) Tryd.underlying30 rfl size30
set_option maxHeartbeats 8000000 in
set_option maxRecDepth 100000 in
theorem rparse_ok (w : World) (hw0 : 0 < w.heap.size) (s : ByteArray) (hs : s.size ≤ 1048576) : Calls Tryd.prog 42 #[.string s] w (ParseP (parseG 0 false S0 (linesL s.data.toList)) w) := by
  have h1 : ¬ (s.size : Int) > 1048576 := by omega
  have hlen : s.data.toList.length = s.size := by rw [Array.length_toList]; rfl
  obtain ⟨hln, hlm⟩ := linesL_len s.data.toList
  have cl := fun wq => rlines_walk wq s (by omega)
  generalize linesL s.data.toList = ls at *
  obtain ⟨n, hn⟩ : ∃ n, ls.length = n := ⟨_, rfl⟩
  obtain ⟨k, hk⟩ : ∃ k, w.heap.size = k := ⟨_, rfl⟩
  have HF : Aside0 (∀ (v : Value) (sc : Sc) (m : Nat) (er : Int) (e : Ending) (w' : World), parseG 0 false S0 ls = (sc, m, er) → e = .returned (.tuple #[v, .int .i64 (m : Int), .int .i64 er]) → ScO w' k v sc → Below k w w' → ParseP (parseG 0 false S0 ls) w e w') := ⟨fun v sc m er e w' h1 h2 h3 h4 => by subst hk; rw [h1]; exact ⟨v, h2, h3, h4⟩⟩
  obtain ⟨Q, hQ⟩ : ∃ Q, ParseP (parseG 0 false S0 ls) w = Q := ⟨_, rfl⟩
  rw [hQ] at HF ⊢
  obtain ⟨res, hres⟩ : ∃ r, parseG 0 false S0 ls = r := ⟨_, rfl⟩
  rw [hres] at HF
  have HR : Aside0 (parseG 0 false S0 ls = res) := ⟨hres⟩
  have HL : Aside0 (ls.length = n ∧ n ≤ 1048576 ∧ ∀ x ∈ ls, x.length ≤ 1048576) := ⟨hn, by omega, fun x hx => by have := hlm x hx; omega⟩
  have hn1 : n ≤ 1048576 := by omega
  clear hQ hres hlm hln hlen
  go_enter Tryd.func42, Tryd.ntmps42
  go_wp2_with fail
  refine (cl _).mono ?_
  rintro e w1 ⟨vl, rfl, hown, hB1⟩
  have hWs : (w.alloc (.cells #[.int .i64 0, .slice none 0 0, .slice none 0 0] 30)).heap.size = k + 1 := by rw [alsize, hk]
  have hk0 := heap_alloc_new w (.cells #[.int .i64 0, .slice none 0 0, .slice none 0 0] 30)
  rw [hk] at hk0
  rw [hWs] at hown hB1
  rw [hn] at hown
  obtain ⟨al, cl', rfl⟩ := own_slice hown
  have hal : n = 0 ∨ ∃ gl, al = some ⟨gl, 0, none⟩ ∧ gl < w1.heap.size ∧ LT w1 gl 0 ls := by
    rcases hown.2 with ⟨_, h2⟩ | ⟨g, cap, cur, h2, h3, h4, _⟩
    · exact .inl h2
    · simp only [Value.slice.injEq] at h2
      obtain ⟨rfl, _, rfl⟩ := h2
      refine .inr ⟨g, rfl, (Array.getElem?_eq_some_iff.1 h4).1, fun j y hy => ?_⟩
      have := hown.cellAt j (by have := (List.getElem?_eq_some_iff.1 hy).1; omega)
      rw [Nat.zero_add, this, ss, List.getElem?_map, hy]; rfl
  have hresw : w1.heap[k]? = some (.cells #[.int .i64 0, .slice none 0 0, .slice none 0 0] 30 (0, 0)) := (hB1.block k (by go_light; omega)).trans hk0
  have hBw : Below k w w1 := by
    have h0 : Below k w (w.alloc (.cells #[.int .i64 0, .slice none 0 0, .slice none 0 0] 30)) := (Below.refl _ w).alloc (by go_light; omega) _
    exact h0.trans (hB1.mono (by go_light; omega))
  obtain ⟨p, hp⟩ : ∃ p, w1.heap.size = p := ⟨_, rfl⟩
  have hkp : k < p := by rw [← hp]; have := hB1.size; omega
  have HW : Aside0 (w1.heap[k]? = some (.cells #[.int .i64 0, .slice none 0 0, .slice none 0 0] 30 (0, 0)) ∧ Below k w w1 ∧ 0 < k) := ⟨hresw, hBw, by omega⟩
  clear hk0 hWs hB1 hown cl hresw hBw
  go_upto_region 5 with fail
  have hfb := heap_alloc_new w1 (.cells #[.int .i64 0, .slice none 0 0, .slice none 0 0] 30)
  rw [hp] at hfb
  have hB0 : Below p w1 (w1.alloc (.cells #[.int .i64 0, .slice none 0 0, .slice none 0 0] 30)) := (Below.refl _ w1).alloc (by go_light; omega) _
  generalize w1.alloc (.cells #[.int .i64 0, .slice none 0 0, .slice none 0 0] 30) = W0 at hfb hB0 ⊢
  have hS0 := Ss.fresh W0 p (p + 1) (by go_light; omega) hfb
  rw [hp] at hal
  clear hfb
  go_wp2
  go_loopg [7, 8] n (fun q v7 v8 wr => ∃ (i : Nat) (begun : Bool) (sc : Sc) (vo vc : Value) (cs : List Value), v8 = .int .i64 i ∧ v7 = .bool begun ∧ i + q = n ∧ Ss wr p (p + 1) vo vc cs sc ∧ sc.over.length ≤ i ∧ sc.cmds.length ≤ i ∧ Aside0 (res = parseG i begun sc (ls.drop i)) ∧ Below p w1 wr)
  case atStart => exact ⟨0, false, S0, _, _, _, rfl, rfl, by omega, hS0, Nat.le_refl _, Nat.le_refl _, ⟨HR.out.symm⟩, hB0⟩
  case round =>
    clear hS0 hB0
    obtain ⟨i, begun, sc, vo, vc, cs, rfl, rfl, hiq, hS, hov, hcm, hA, hB⟩ := hrel
    have hkw : p < wr.heap.size := hS.lt
    by_cases hi : i < n
    · obtain ⟨q, rfl⟩ : ∃ q, gk = q + 1 := ⟨gk - 1, by omega⟩
      have hil : (i : Int) < (n : Int) := by go_light; omega
      obtain ⟨l, hl⟩ : ∃ l, ls[i]? = some l := ⟨_, List.getElem?_eq_getElem (by rw [HL.out.1]; omega)⟩
      obtain ⟨gl, rfl, hglp, hlt⟩ : ∃ gl, al = some ⟨gl, 0, none⟩ ∧ gl < p ∧ LT w1 gl 0 ls := by rcases hal with h | h; omega; exact h
      have hcl : wr.cell? ⟨gl, i, none⟩ = some (.string (B l)) := by
        have := hlt i l hl
        rw [Nat.zero_add] at this
        exact (hB.cell (p := ⟨gl, i, none⟩) hglp).trans this
      have hll := HL.out.2.2 l (List.mem_of_getElem? hl)
      have hA1 : res = parseG i begun sc (l :: ls.drop (i + 1)) := by rw [hA.out, drop_cons hl]
      have cw := fun wq => rwords_walk wq (B l) (by rw [B_size]; omega)
      rw [B_data] at cw
      obtain ⟨hwl, hwm⟩ := wordsL_len l
      clear hA hl hlt
      obtain ⟨lb, hlb⟩ : ∃ b, B l = b := ⟨_, rfl⟩
      rw [hlb] at hcl cw
      clear hlb
      go_wp2_with fail
      refine (cw _).mono ?_
      rintro e w2 ⟨vw, rfl, hown, hB1⟩
      clear cw hcl
      have hS2 := hS.below hB1 (Nat.le_refl _)
      have hB2 := hB.trans (hB1.mono (by go_light; omega))
      have hz2 : wr.heap.size ≤ w2.heap.size := hB1.size
      clear hS hB
      cases hw : wordsL l with
      | nil =>
        rw [hw] at hown
        have A1 : Aside0 (res = parseG (i + 1) begun sc (ls.drop (i + 1))) := ⟨by rw [hA1, pg_blank hw]⟩
        obtain ⟨aw, cww, rfl⟩ := own_slice hown
        clear hA1 hw hown hwl hwm
        go_wp2
        go_roundg q
        case measure => go_light; omega
        case rel => go_light; exact ⟨i + 1, begun, sc, vo, vc, cs, by go_num, rfl, by omega, hS2, by omega, by omega, A1, hB2⟩
      | cons x ws =>
        rw [hw] at hown hwl hwm
        rw [List.length_cons] at hown hwl
        rcases hown.2 with ⟨_, h2⟩ | ⟨gw, cww, cur, rfl, hgw, hgc, hcap, hrest⟩
        · omega
        have hLT : LT w2 gw 0 (x :: ws) := fun j y hy => by
          have := hown.cellAt j (by have := (List.getElem?_eq_some_iff.1 hy).1; rw [List.length_cons] at this; omega)
          rw [Nat.zero_add, this, ss, List.getElem?_map, hy]; rfl
        have hgl : gw < w2.heap.size := (Array.getElem?_eq_some_iff.1 hgc).1
        have hcx : w2.cell? ⟨gw, 0, none⟩ = some (.string (B x)) := hLT 0 x rfl
        have cf := fun wq => row_walk wq (B x)
        rw [B_data] at cf
        obtain ⟨f0, hf0⟩ : ∃ f, findP x = f := ⟨_, rfl⟩
        rw [hf0] at cf
        have hfin := findP_in x
        rw [hf0] at hfin
        obtain ⟨xb, hxb⟩ : ∃ b, B x = b := ⟨_, rfl⟩
        rw [hxb] at hcx cf
        have hwl0 : ws.length ≤ 1048576 := by go_light; omega
        obtain ⟨nw, hnw⟩ : ∃ m, ws.length = m := ⟨_, rfl⟩
        rw [hnw] at hwl0 hcap hown ⊢
        have hwn1 : ((nw : Int) + 1 == 0) = false := beq_eq_false_iff_ne.2 (by go_light; omega)
        clear hxb hgc hwl hown hrest cur
        have HA : Aside0 (res = parseG i begun sc (l :: ls.drop (i + 1)) ∧ wordsL l = x :: ws ∧ findP x = f0 ∧ ws.length = nw) := ⟨hA1, hw, hf0, hnw⟩
        clear hA1 hw hf0 hnw
        by_cases hneg : f0 < 0
        · have cf2 : ∀ wq, Calls Tryd.prog 65 #[.string xb] wq fun e w' => e = .returned (.tuple #[.agg #[.string ⟨#[]⟩, .int .i64 0, .string ⟨#[]⟩, .bool false], .bool false]) ∧ Below wq.heap.size wq w' := fun wq => (cf wq).mono fun e w' h => by
            unfold RowP rowV at h
            rw [if_neg (by go_light; omega), decide_eq_false (by go_light; omega)] at h
            exact h
          have A1 : Aside0 (res = (S0, i + 1, 160)) := ⟨by rw [HA.out.1, pg_bad HA.out.2.1 (.inl (by rw [HA.out.2.2.1]; exact hneg))]⟩
          clear cf hLT hwm
          go_upto_region 12 with (go_at_call 65; (with_reducible refine (cf2 _).mono ?_); rintro e w3 ⟨rfl, hB3⟩)
          have hB4 : Below p w1 (w3.alloc (.cells #[.string ⟨#[]⟩, .int .i64 0, .string ⟨#[]⟩, .bool false] 97)) := (hB2.trans (hB3.mono (by go_light; omega))).alloc (by have := hB3.size; omega) _
          have hrb := heap_alloc_new w3 (.cells #[.string ⟨#[]⟩, .int .i64 0, .string ⟨#[]⟩, .bool false] 97)
          have hrc : (w3.alloc (.cells #[.string ⟨#[]⟩, .int .i64 0, .string ⟨#[]⟩, .bool false] 97)).cell? ⟨w3.heap.size, 0, none⟩ = some (.string ⟨#[]⟩) := by unfold World.cell?; rw [hrb]; rfl
          generalize w3.alloc (.cells #[.string ⟨#[]⟩, .int .i64 0, .string ⟨#[]⟩, .bool false] 97) = W4 at hB4 hrc ⊢
          have hres4 := (hB4.block k hkp).trans HW.out.1
          clear hrb hS2 hB2 hB3 cf2 hcx
          go_wp2_with (refine wpList_store_row rfl _ _ _ rfl k _ rfl rfl 30 _ hres4 size30 rfl all_zero30 ?_)
          refine bodyPost_ret (v := .tuple #[.agg zero30, .int .i64 ((i + 1 : Nat) : Int), .int .i64 160]) ?_ rfl (HF.out _ _ _ _ _ _ A1.out rfl (ScO.zero _ _) (setRow_below (HW.out.2.1.trans (hB4.mono (by go_light; omega)))))
          exact results_cell_tmp2 (p := 2) (q := 3) (r := 4) (ty := 30) rfl _ _ k 30 zero30 (0, 0) _ _ _ rfl rfl rfl (setRow_heap _ _ _ _ _ _ hres4) Tryd.underlying30 rfl size30
        · obtain ⟨kk, rfl⟩ : ∃ kk : Nat, f0 = kk := ⟨f0.toNat, by omega⟩
          have hk16 : kk < 16 := by go_light; omega
          have cf2 : ∀ wq, Calls Tryd.prog 65 #[.string xb] wq fun e w' => e = .returned (.tuple #[.agg #[.string (nm kk), .int .i64 (opOf kk), .string (formOf kk), .bool (moreOf kk)], .bool true]) ∧ Below wq.heap.size wq w' := fun wq => (cf wq).mono fun e w' h => by
            unfold RowP rowV at h
            rw [if_pos (by go_light; omega), decide_eq_true (by go_light; omega), Int.toNat_natCast] at h
            exact h
          have hn1' := nm_limit ⟨kk, hk16⟩
          have hn2' := nm_hash ⟨kk, hk16⟩
          simp only at hn1' hn2'
          obtain ⟨b0, hb0⟩ : ∃ b, decide (kk = 0) = b := ⟨_, rfl⟩
          obtain ⟨b15, hb15⟩ : ∃ b, decide (kk = 15) = b := ⟨_, rfl⟩
          rw [hb0] at hn1'
          rw [hb15] at hn2'
          have HB : Aside0 (decide (kk = 0) = b0 ∧ decide (kk = 15) = b15) := ⟨hb0, hb15⟩
          obtain ⟨f, er, hfe⟩ : ∃ f er, readF kk ws = (f, er) := ⟨_, _, rfl⟩
          have HFE : Aside0 (readF kk ws = (f, er)) := ⟨hfe⟩
          have cr := fun wq gg oo cc (hl : LT wq gg oo ws) hg => rread_walk wq kk (nm kk) (opOf kk) gg oo cc ws hl hg (fun y hy => by have := hwm y (List.mem_cons_of_mem _ hy); omega) (by have := HA.out.2.2.2; omega)
          rw [hfe, HA.out.2.2.2] at cr
          generalize nm kk = xnm at cf2 hn1' hn2' cr
          generalize formOf kk = xfo at cf2 cr
          generalize moreOf kk = xmo at cf2 cr
          obtain ⟨xop, hxop⟩ : ∃ o, opOf kk = o := ⟨_, rfl⟩
          rw [hxop] at cf2 cr
          have HOP : Aside0 (opOf kk = xop) := ⟨hxop⟩
          clear cf hb0 hb15 hfe hxop
          go_upto_region 12 with (go_at_call 65; (with_reducible refine (cf2 _).mono ?_); rintro e w3 ⟨rfl, hB3⟩)
          have hz3 : w2.heap.size ≤ w3.heap.size := hB3.size
          have hB3' : Below w2.heap.size w2 (w3.alloc (.cells #[.string xnm, .int .i64 xop, .string xfo, .bool xmo] 97)) := hB3.alloc hB3.size _
          have hrb := heap_alloc_new w3 (.cells #[.string xnm, .int .i64 xop, .string xfo, .bool xmo] 97)
          have hzr : w3.heap.size < (w3.alloc (.cells #[.string xnm, .int .i64 xop, .string xfo, .bool xmo] 97)).heap.size := by rw [alsize]; omega
          generalize w3.alloc (.cells #[.string xnm, .int .i64 xop, .string xfo, .bool xmo] 97) = W4 at hB3' hrb hzr ⊢
          obtain ⟨r, hr⟩ : ∃ r, w3.heap.size = r := ⟨_, rfl⟩
          rw [hr] at hrb hzr hz3 ⊢
          have hr0 : W4.cell? ⟨r, 0, none⟩ = some (.string xnm) := by unfold World.cell?; rw [hrb]; rfl
          have hr1 : W4.cell? ⟨r, 1, none⟩ = some (.int .i64 xop) := by unfold World.cell?; rw [hrb]; rfl
          have hr2 : W4.cell? ⟨r, 2, none⟩ = some (.string xfo) := by unfold World.cell?; rw [hrb]; rfl
          have hr3 : W4.cell? ⟨r, 3, none⟩ = some (.bool xmo) := by unfold World.cell?; rw [hrb]; rfl
          have hS4 := hS2.below hB3' (Nat.le_refl _)
          have hLT4 := hLT.below hB3' (Nat.le_refl _)
          have hB4 := hB2.trans (hB3'.mono (by go_light; omega))
          have hz4 : w2.heap.size ≤ W4.heap.size := hB3'.size
          have hlt4 := hS4.lt
          obtain ⟨c0, c1, c2, z0, z1, z2⟩ := hS4.cells
          clear hS2 hB2 hB3 hB3' hLT cf2 hcx hr
          obtain ⟨bd, hbd⟩ : ∃ bd : Bool, decide (findP x < 0 ∨ (decide (findP x = 0) = begun) ∨ (findP x = 15 ∧ sc.cmds ≠ [])) = bd := ⟨_, rfl⟩
          have HBD : Aside0 (decide (findP x < 0 ∨ (decide (findP x = 0) = begun) ∨ (findP x = 15 ∧ sc.cmds ≠ [])) = bd) := ⟨hbd⟩
          obtain ⟨nc, hnc⟩ : ∃ m, sc.cmds.length = m := ⟨_, rfl⟩
          obtain ⟨avc, cvc, rfl⟩ : ∃ a c, vc = .slice a nc c := by obtain ⟨a, c, h⟩ := own_slice hS4.rc; exact ⟨a, c, by rw [h, hnc]⟩
          have HNC : Aside0 (sc.cmds.length = nc) := ⟨hnc⟩
          rw [hnc] at hcm
          obtain ⟨bl, hbl⟩ : ∃ b, (b15 && decide (0 < nc)) = b := ⟨_, rfl⟩
          have HBL : Aside0 ((b15 && decide (0 < nc)) = bl) := ⟨hbl⟩
          clear hbd hnc hbl
          go_upto_region 13 with fail
          go_cut [13] (fun v13 wx => v13 = .bool bl ∧ W4 = wx)
          case first =>
            clear hS4 hLT4 hB4 cr
            cases b15 with
            | false =>
              go_wp2_with fail
              go_meet
              case rel => go_light; exact ⟨by rw [← HBL.out]; rfl, rfl⟩
            | true =>
              by_cases hc0 : 0 < nc
              · have hc1 : (nc : Int) > 0 := by go_light; omega
                go_wp2_with fail
                go_meet
                case rel => go_light; exact ⟨by rw [← HBL.out, decide_eq_true hc0]; rfl, rfl⟩
              · have hc1 : ¬ (nc : Int) > 0 := by go_light; omega
                go_wp2_with fail
                go_meet
                case rel => go_light; exact ⟨by rw [← HBL.out, decide_eq_false hc0]; rfl, rfl⟩
          case rest =>
          obtain ⟨rfl, hwc⟩ := hcut
          subst hwc
          have HBQ : Aside0 (((b0 == begun) || bl) = bd) := ⟨by
            rw [← HBL.out, ← HBD.out, ← HB.out.1, ← HB.out.2]
            exact bad_bool kk nc begun sc HNC.out x HA.out.2.2.1⟩
          go_upto_region 14 with fail
          go_cut [64] (fun v64 wx => v64 = .bool bd ∧ W4 = wx)
          case first =>
            clear hS4 hLT4 hB4 cr
            cases b0 <;> cases begun <;> cases bl
            all_goals
              go_wp2_with fail
              go_meet
              case rel => go_light; exact ⟨by rw [← HBQ.out]; rfl, rfl⟩
          case rest =>
          obtain ⟨rfl, hwc⟩ := hcut
          subst hwc
          have hres4 := (hB4.block k hkp).trans HW.out.1
          cases bd with
          | true =>
            have A1 : Aside0 (res = (S0, i + 1, 160)) := ⟨by rw [HA.out.1, pg_bad HA.out.2.1 (of_decide_eq_true HBD.out)]⟩
            clear hLT4 cr
            go_wp2_with (refine wpList_store_row rfl _ _ _ rfl k _ rfl rfl 30 _ hres4 size30 rfl all_zero30 ?_)
            refine bodyPost_ret (v := .tuple #[.agg zero30, .int .i64 ((i + 1 : Nat) : Int), .int .i64 160]) ?_ rfl (HF.out _ _ _ _ _ _ A1.out rfl (ScO.zero _ _) (setRow_below (HW.out.2.1.trans (hB4.mono (by go_light; omega)))))
            exact results_cell_tmp2 (p := 2) (q := 3) (r := 4) (ty := 30) rfl _ _ k 30 zero30 (0, 0) _ _ _ rfl rfl rfl (setRow_heap _ _ _ _ _ _ hres4) Tryd.underlying30 rfl size30
          | false =>
            have HG : Aside0 (¬ (findP x < 0 ∨ (decide (findP x = 0) = begun) ∨ (findP x = 15 ∧ sc.cmds ≠ []))) := ⟨of_decide_eq_false HBD.out⟩
            have hsl74 := fun W => slice74 W gw (nw + 1) cww (by go_light; omega) hcap
            rw [Nat.add_sub_cancel] at hsl74
            obtain ⟨o1, ho1⟩ : ∃ o, (if cww = 1 then 0 else 1) = o := ⟨_, rfl⟩
            have hlt1 : LT W4 gw o1 ws := by
              by_cases hc1 : cww = 1
              · have : ws = [] := List.eq_nil_of_length_eq_zero (by have := HA.out.2.2.2; omega)
                subst this
                intro j y hy; simp at hy
              · rw [if_neg hc1] at ho1
                subst ho1
                exact hLT4.tail
            rw [ho1] at hsl74
            have hgl4 : gw < W4.heap.size := by go_light; omega
            clear ho1 hLT4 hwm hgl hll
            go_upto_region 16 with fail
            have hd3 : Below W4.heap.size W4 W4.drew := Below.drew (Below.refl _ W4)
            have hl3a := hlt1.below hd3 (Nat.le_refl _)
            have hg3a : gw < W4.drew.heap.size := hgl4
            go_cut [14, 15] (fun v14 v15 wx => CutG 106 (p + 1) W4 f er v14 v15 wx)
            case first =>
              have hl3b := fun (o : Obj) => hlt1.below (Below.drew ((Below.refl _ W4).alloc (Nat.le_refl _) o)) (Nat.le_refl _)
              have hg3b : ∀ (o : Obj), gw < (W4.alloc o).drew.heap.size := fun o => by show gw < (W4.alloc o).heap.size; rw [alsize]; omega
              clear hlt1
              go_region_with (first
                | (go_at_call 66; (with_reducible refine (cr _ _ _ _ hl3a hg3a).mono ?_); rintro e w4 ⟨_, _, _, rfl, hR, ⟨a1, n1, y1, a2, n2, y2, a3, n3, y3, rfl, rfl, rfl⟩, hB5⟩; have hB6 : Below W4.heap.size W4 w4 := hd3.trans hB5; clear hB5; have hz4 : W4.heap.size ≤ w4.heap.size := hB6.size; obtain ⟨hc4, hf4⟩ := bcell hB6)
                | (go_at_call 66; (with_reducible refine (cr _ _ _ _ (hl3b _) (hg3b _)).mono ?_); rintro e w4 ⟨_, _, _, rfl, hR, ⟨a1, n1, y1, a2, n2, y2, a3, n3, y3, rfl, rfl, rfl⟩, hB5⟩; have hB6 : Below (W4.alloc (.cells #[.slice none 0 0, .slice none 0 0, .slice none 0 0] 106)).heap.size (W4.alloc (.cells #[.slice none 0 0, .slice none 0 0, .slice none 0 0] 106)) w4 := (Below.drew (Below.refl _ _)).trans hB5; clear hB5; have hz4 : W4.heap.size < w4.heap.size := (by go_light; have := hB6.size; simp at this; omega); obtain ⟨hc4, hf4⟩ := bcell hB6))
              all_goals
                clear hl3a hg3a hl3b hg3b cr c0 c1 c2 z0 z1 z2
                go_wp2_with fail
                go_meet
                case rel =>
                  clear hc4 hf4
                  first
                    | with_reducible exact cutg_a hB6 hR (by go_light; omega)
                    | with_reducible exact cutg_b hB6 hR (by go_light; omega)
            case rest =>
              obtain ⟨g, a1, n1, d1, a2, n2, d2, a3, n3, d3, rfl, hgg, rfl, hBc, hgb, hR⟩ := hcut
              clear cr hl3a hg3a hlt1 hd3 c0 c1 c2 z0 z1 z2 hres4
              have hS5 := hS4.below hBc (Nat.le_refl _)
              have hB5 := hB4.trans (hBc.mono (by go_light; omega))
              have hz5 : W4.heap.size ≤ wc.heap.size := hBc.size
              have hglt : g < wc.heap.size := (Array.getElem?_eq_some_iff.1 hgb).1
              have hrr := (hBc.block r hzr).trans hrb
              have hr1' : wc.cell? ⟨r, 1, none⟩ = some (.int .i64 xop) := by unfold World.cell?; rw [hrr]; rfl
              clear hS4 hB4 hBc hr0 hr1 hr2 hr3 hrb hrr
              by_cases her : er = 0
              · subst her
                have hR := hR rfl
                obtain ⟨_, _, he1⟩ := own_slice hR.rn
                obtain ⟨_, _, he2⟩ := own_slice hR.rw
                obtain ⟨_, _, he3⟩ := own_slice hR.rb
                simp only [Value.slice.injEq] at he1 he2 he3
                obtain ⟨-, rfl, -⟩ := he1
                obtain ⟨-, rfl, -⟩ := he2
                obtain ⟨-, rfl, -⟩ := he3
                have hsh := readF_shape kk hk16 ws f HFE.out
                obtain ⟨d0, d1', d2', z0, z1, z2⟩ := hS5.cells
                have g0 : wc.cell? ⟨g, 0, none⟩ = some (.slice a1 f.n.length d1) := by unfold World.cell?; rw [hgb]; rfl
                have g1 : wc.cell? ⟨g, 1, none⟩ = some (.slice a2 f.w.length d2) := by unfold World.cell?; rw [hgb]; rfl
                have g2 : wc.cell? ⟨g, 2, none⟩ = some (.slice a3 f.b.length d3) := by unfold World.cell?; rw [hgb]; rfl
                have hkc := hS5.lt
                have hov3 := hov
                by_cases h0 : kk = 0
                · obtain rfl : b0 = true := by rw [← HB.out.1]; exact decide_eq_true h0
                  have hn1 : f.n.length = 1 := by unfold ShapeF at hsh; rw [if_pos h0] at hsh; exact hsh
                  obtain ⟨y, hy⟩ : ∃ y, f.n = [y] := List.length_eq_one_iff.1 hn1
                  have A1 : Aside0 (res = parseG (i + 1) true ⟨y, sc.over, sc.cmds⟩ (ls.drop (i + 1))) := ⟨by
                    rw [HA.out.1, pg_limit HA.out.2.1 (by rw [HA.out.2.2.1, h0]; rfl) HG.out (by rw [← h0]; exact HFE.out), hy]; rfl⟩
                  have hrn := hR.rn
                  rw [hy] at hrn g0
                  rcases hrn.2 with ⟨_, h2⟩ | ⟨gn, cn', cur, h2, _⟩
                  · simp at h2
                  simp only [Value.slice.injEq] at h2
                  obtain ⟨rfl, _, rfl⟩ := h2
                  have hq : wc.cell? ⟨gn, 0, none⟩ = some (.int .i64 y) := hrn.cellAt 0 (by simp)
                  have hS6 := hS5.putLimit y
                  have hB6 := below_set (b := p) (i := 0) hB5 (by go_light; omega) (.int .i64 y)
                  clear hrn hR hgb g1 g2 hn1 hy h0 hsh hS5 hB5
                  simp only [List.length_cons, List.length_nil, Nat.zero_add] at g0
                  go_wp2
                  go_roundg q
                  case measure => go_light; omega
                  case rel => go_light; exact ⟨i + 1, true, _, _, _, _, by go_num, rfl, by omega, hS6, by show sc.over.length ≤ i + 1; omega, by show sc.cmds.length ≤ i + 1; have := HNC.out; omega, A1, hB6⟩
                · obtain rfl : b0 = false := by rw [← HB.out.1]; exact decide_eq_false h0
                  by_cases h15 : kk = 15
                  · have hop : xop = 0 := by rw [← HOP.out, h15]; rfl
                    subst hop
                    have hn1 : f.b.length = 1 ∧ f.w.length = 1 := by unfold ShapeF at hsh; rw [if_neg h0, if_pos h15] at hsh; exact hsh
                    obtain ⟨y, hy⟩ : ∃ y, f.b = [y] := List.length_eq_one_iff.1 hn1.1
                    obtain ⟨u, hu⟩ : ∃ y, f.w = [y] := List.length_eq_one_iff.1 hn1.2
                    have A1 : Aside0 (res = parseG (i + 1) begun ⟨sc.limit, sc.over ++ [(y, u)], sc.cmds⟩ (ls.drop (i + 1))) := ⟨by
                      rw [HA.out.1, pg_hash HA.out.2.1 (by rw [HA.out.2.2.1, h15]; rfl) HG.out (by rw [← h15]; exact HFE.out), hy, hu]; rfl⟩
                    have hrb := hR.rb
                    have hrw := hR.rw
                    rw [hy] at hrb g2
                    rw [hu] at hrw g1
                    rcases hrb.2 with ⟨_, h2⟩ | ⟨gb, cn', cur, h2, hgbb, hgbt, hx1⟩
                    · simp at h2
                    simp only [Value.slice.injEq] at h2
                    obtain ⟨rfl, _, rfl⟩ := h2
                    rcases hrw.2 with ⟨_, h2⟩ | ⟨gv, cn', cur, h2, hgvb, hgvt, hx2⟩
                    · simp at h2
                    simp only [Value.slice.injEq] at h2
                    obtain ⟨rfl, _, rfl⟩ := h2
                    have q1 : wc.cell? ⟨gb, 0, none⟩ = some (.string (B y)) := hrb.cellAt 0 (by simp)
                    have q2 : wc.cell? ⟨gv, 0, none⟩ = some (.int .u64 (u : Int)) := hrw.cellAt 0 (by simp)
                    have hd : Below wc.heap.size wc wc.drew := Below.drew (Below.refl _ wc)
                    have HS5 : Aside0 (Ss wc.drew p (p + 1) vo (.slice avc nc cvc) cs sc) := ⟨hS5.below hd (Nat.le_refl _)⟩
                    have hro := HS5.out.ro
                    have hB6 := hB5.drew
                    have hkc5 : p < wc.drew.heap.size := hkc
                    have hov2 : sc.over.length ≤ 1048576 := by go_light; omega
                    have e1' : wc.drew.cell? ⟨p, 1, none⟩ = some vo := d1'
                    have z1' : wc.drew.frozen? ⟨p, 1, none⟩ = false := z1
                    clear hrb hrw hR g0 hn1 hy hu h0 h15 hsh hS5 hB5 d0 d2' z0 z2
                    simp only [List.length_cons, List.length_nil, Nat.zero_add] at g1 g2
                    generalize hyb : B y = yb at q1
                    have HYB : Aside0 (B y = yb) := ⟨hyb⟩
                    clear hyb
                    go_upto_region 24 with fail
                    clear hgbt hgvt hx1 hx2 hgbb hgvb hgb
                    repeat (rename ∀ (a : Act) (w : World), Code.wp _ _ _ a w → _ => hKK; have HKK := Aside0.mk hKK; clear hKK)
                    refine wp_region_L (fun _ => True) (fun w' => w'.cell? ⟨p, 1, none⟩ = some vo ∧ w'.cell? ⟨g, 2, none⟩ = some (.slice (some ⟨gb, 0, none⟩) 1 d3) ∧ w'.cell? ⟨gb, 0, none⟩ = some (.string yb) ∧ w'.cell? ⟨g, 1, none⟩ = some (.slice (some ⟨gv, 0, none⟩) 1 d2) ∧ w'.cell? ⟨gv, 0, none⟩ = some (.int .u64 (u : Int))) 12 (by kernel_rfl) trivial ⟨e1', g2, q1, g1, q2⟩ (fun hsh hS => ?_)
                    refine anyL_take1 20 (i := 0) (v := ?_) rfl (by kernel_rfl) (by kernel_rfl) (by kernel_rfl) (by decide) (by kernel_rfl) hsh (fun _ _ _ h => h) (Or.inl ⟨by rfl, ?_⟩) hS ?_
                    rotate_left 1
                    · (intro wS hSw; (try dsimp only at hSw); first | (go_simp; done) | (go_simp; with_reducible rfl))
                    intro hsh1 hS1; clear hsh hS; have hsh := hsh1; have hS := hS1; clear hsh1 hS1
                    simp only [Act.put, List.setIfInBounds_toArray, List.set_cons_zero, List.set_cons_succ]
                    refine anyL_take1 20 (i := 1) (v := ?_) rfl (by kernel_rfl) (by kernel_rfl) (by kernel_rfl) (by decide) (by kernel_rfl) hsh (fun _ _ _ h => h) (Or.inl ⟨by rfl, ?_⟩) hS ?_
                    rotate_left 1
                    · (intro wS hSw; (try dsimp only at hSw); first | (go_simp; done) | (go_simp; with_reducible rfl))
                    intro hsh1 hS1; clear hsh hS; have hsh := hsh1; have hS := hS1; clear hsh1 hS1
                    simp only [Act.put, List.setIfInBounds_toArray, List.set_cons_zero, List.set_cons_succ]
                    refine anyL_take1 20 (i := 2) (v := ?_) rfl (by kernel_rfl) (by kernel_rfl) (by kernel_rfl) (by decide) (by kernel_rfl) hsh (fun _ _ _ h => h) (Or.inl ⟨by rfl, ?_⟩) hS ?_
                    rotate_left 1
                    · (intro wS hSw; (try dsimp only at hSw); first | (go_simp; done) | (go_simp; with_reducible rfl))
                    intro hsh1 hS1; clear hsh hS; have hsh := hsh1; have hS := hS1; clear hsh1 hS1
                    simp only [Act.put, List.setIfInBounds_toArray, List.set_cons_zero, List.set_cons_succ]
                    refine anyL_take1 20 (i := 3) (v := ?_) rfl (by kernel_rfl) (by kernel_rfl) (by kernel_rfl) (by decide) (by kernel_rfl) hsh (fun _ _ _ h => h) (Or.inl ⟨by rfl, ?_⟩) hS ?_
                    rotate_left 1
                    · (intro wS hSw; (try dsimp only at hSw); first | (go_simp; done) | (go_simp; with_reducible rfl))
                    intro hsh1 hS1; clear hsh hS; have hsh := hsh1; have hS := hS1; clear hsh1 hS1
                    simp only [Act.put, List.setIfInBounds_toArray, List.set_cons_zero, List.set_cons_succ]
                    refine anyL_take1 20 (i := 4) (v := ?_) rfl (by kernel_rfl) (by kernel_rfl) (by kernel_rfl) (by decide) (by kernel_rfl) hsh (fun _ _ _ h => h) (Or.inl ⟨by rfl, ?_⟩) hS ?_
                    rotate_left 1
                    · (intro wS hSw; (try dsimp only at hSw); first | (go_simp; done) | (go_simp; with_reducible rfl))
                    intro hsh1 hS1; clear hsh hS; have hsh := hsh1; have hS := hS1; clear hsh1 hS1
                    simp only [Act.put, List.setIfInBounds_toArray, List.set_cons_zero, List.set_cons_succ]
                    refine anyL_take1 20 (i := 5) (v := ?_) rfl (by kernel_rfl) (by kernel_rfl) (by kernel_rfl) (by decide) (by kernel_rfl) hsh (fun _ _ _ h => h) (Or.inl ⟨by rfl, ?_⟩) hS ?_
                    rotate_left 1
                    · (intro wS hSw; (try dsimp only at hSw); first | (go_simp; done) | (go_simp; with_reducible rfl))
                    intro hsh1 hS1; clear hsh hS; have hsh := hsh1; have hS := hS1; clear hsh1 hS1
                    simp only [Act.put, List.setIfInBounds_toArray, List.set_cons_zero, List.set_cons_succ]
                    refine anyL_take1 20 (i := 6) (v := ?_) rfl (by kernel_rfl) (by kernel_rfl) (by kernel_rfl) (by decide) (by kernel_rfl) hsh (fun _ _ _ h => h) (Or.inl ⟨by rfl, ?_⟩) hS ?_
                    rotate_left 1
                    · (intro wS hSw; (try dsimp only at hSw); first | (go_simp; done) | (go_simp; with_reducible rfl))
                    intro hsh1 hS1; clear hsh hS; have hsh := hsh1; have hS := hS1; clear hsh1 hS1
                    simp only [Act.put, List.setIfInBounds_toArray, List.set_cons_zero, List.set_cons_succ]
                    refine anyL_take1 20 (i := 7) (v := ?_) rfl (by kernel_rfl) (by kernel_rfl) (by kernel_rfl) (by decide) (by kernel_rfl) hsh (fun _ _ _ h => h) (Or.inl ⟨by rfl, ?_⟩) hS ?_
                    rotate_left 1
                    · (intro wS hSw; (try dsimp only at hSw); first | (go_simp; done) | (go_simp; with_reducible rfl))
                    intro hsh1 hS1; clear hsh hS; have hsh := hsh1; have hS := hS1; clear hsh1 hS1
                    simp only [Act.put, List.setIfInBounds_toArray, List.set_cons_zero, List.set_cons_succ]
                    refine anyL_take1 20 (i := 8) (v := ?_) rfl (by kernel_rfl) (by kernel_rfl) (by kernel_rfl) (by decide) (by kernel_rfl) hsh (fun _ _ _ h => h) (Or.inl ⟨by rfl, ?_⟩) hS ?_
                    rotate_left 1
                    · (intro wS hSw; (try dsimp only at hSw); first | (go_simp; done) | (go_simp; with_reducible rfl))
                    intro hsh1 hS1; clear hsh hS; have hsh := hsh1; have hS := hS1; clear hsh1 hS1
                    simp only [Act.put, List.setIfInBounds_toArray, List.set_cons_zero, List.set_cons_succ]
                    refine anyL_take1 20 (i := 9) (v := ?_) rfl (by kernel_rfl) (by kernel_rfl) (by kernel_rfl) (by decide) (by kernel_rfl) hsh (fun _ _ _ h => h) (Or.inl ⟨by rfl, ?_⟩) hS ?_
                    rotate_left 1
                    · (intro wS hSw; (try dsimp only at hSw); first | (go_simp; done) | (go_simp; with_reducible rfl))
                    intro hsh1 hS1; clear hsh hS; have hsh := hsh1; have hS := hS1; clear hsh1 hS1
                    simp only [Act.put, List.setIfInBounds_toArray, List.set_cons_zero, List.set_cons_succ]
                    refine anyL_take1 20 (i := 10) (v := ?_) rfl (by kernel_rfl) (by kernel_rfl) (by kernel_rfl) (by decide) (by kernel_rfl) hsh (fun _ _ _ h => h) (Or.inl ⟨by rfl, ?_⟩) hS ?_
                    rotate_left 1
                    · (intro wS hSw; (try dsimp only at hSw); first | (go_simp; done) | (go_simp; with_reducible rfl))
                    intro hsh1 hS1; clear hsh hS; have hsh := hsh1; have hS := hS1; clear hsh1 hS1
                    simp only [Act.put, List.setIfInBounds_toArray, List.set_cons_zero, List.set_cons_succ]
                    refine anyL_one (i := 11) (by kernel_rfl) rfl hsh (fun K hK => ?_)
                    go_simp
                    refine hK.out _ _ ⟨trivial, fun _ => ?_⟩ (fun hsh1 hS1 => ?_)
                    · obtain ⟨y0, y1, y2, y3, y4⟩ := hS.2 (by decide)
                      exact ⟨cell_alloc _ y0, cell_alloc _ y1, cell_alloc _ y2, cell_alloc _ y3, cell_alloc _ y4⟩
                    clear hsh hS hK K; have hsh := hsh1; have hS := hS1; clear hsh1 hS1
                    refine anyL_one (i := 12) (by kernel_rfl) rfl hsh (fun K hK => ?_)
                    refine step_new (T := 27) (E := 34) (size := 2) (bytes := 24) rfl (.tmp 102) (.tmp 112) rfl Tryd.underlying27 info34 rfl (by decide) (p + 1) sc.over.length _ (ovC sc.over) 1 1 [.string yb, .int .u64 (u : Int)] rfl hro (by simp [Act.eval]) (by simp [Act.eval]) (by intro y hy; simp at hy; rcases hy with rfl | rfl <;> rfl) (by go_light; unfold maxLen; omega) (by go_light; omega) (by go_light; omega) rfl ?_; intro v3 w6 own3 gr3; obtain ⟨a3, c3, rfl⟩ := own_slice own3; have HS7 : Aside0 (Ss (w6.setCell ⟨p, 1, none⟩ (Value.slice a3 (sc.over.length + 1) c3)) p (p + 1) (Value.slice a3 (sc.over.length + 1) c3) (.slice avc nc cvc) cs ⟨sc.limit, sc.over ++ [(y, u)], sc.cmds⟩) := ⟨HS5.out.putOver y u gr3 (by rw [HYB.out]; exact own3)⟩; have hblk := grown_blk2 hkc5 hro HS5.out.hp _ gr3 HS5.out.blk; have hcz : w6.cell? ⟨p, 1, none⟩ = some vo := (World.cell?_of_block (a := ⟨p, 1, none⟩) (hblk.trans HS5.out.blk.symm)).trans e1'; have hfz : w6.frozen? ⟨p, 1, none⟩ = false := (World.frozen?_of_block (a := ⟨p, 1, none⟩) (hblk.trans HS5.out.blk.symm)).trans z1'; have hlt7 : p < w6.heap.size := (by go_light; have := gr3.size; simp at this; omega); have hB8 := Aside0.mk (below_set (b := p) (i := 1) (Below.grown (hB6.alloc (by go_light; omega) _) gr3 (by go_light; simp; omega) (fun j hj => by go_light; have := (hro.lt j hj).1; omega)) (by go_light; omega) (Value.slice a3 (sc.over.length + 1) c3)); clear own3 gr3 hblk
                    refine hK.out _ _ ⟨trivial, fun h => absurd h (by decide)⟩ (fun hsh1 hS1 => ?_)
                    clear hsh hS hK K; have hsh := hsh1; have hS := hS1; clear hsh1 hS1
                    refine anyL_take (i := 13) (v := ?_) rfl (by kernel_rfl) (by kernel_rfl) (by kernel_rfl) (by decide) hsh (fun _ _ _ h => h) (Or.inl ⟨by rfl, ?_⟩) hS ?_
                    rotate_left 1
                    · (intro wS hSw; (try dsimp only at hSw); first | (go_simp; done) | (go_simp; with_reducible rfl))
                    intro hsh1 hS1; clear hsh hS; have hsh := hsh1; have hS := hS1; clear hsh1 hS1
                    simp only [Act.put, List.setIfInBounds_toArray, List.set_cons_zero, List.set_cons_succ]
                    refine anyL_one (i := 14) (by kernel_rfl) rfl hsh (fun K hK => ?_)
                    go_simp
                    refine hK.out _ _ ⟨trivial, fun h => absurd h (by decide)⟩ (fun hsh1 hS1 => ?_)
                    clear hsh hS hK K; have hsh := hsh1; have hS := hS1; clear hsh1 hS1
                    refine anyL_done (by kernel_rfl) ?_ _
                    all_goals
                      repeat (rename Aside0 (∀ (a : Act) (w : World), Code.wp _ _ _ a w → _) => HKK; have hKK := HKK.out; clear HKK)
                      go_wp2
                      go_roundg q
                      case measure => go_light; omega
                      case rel => go_light; exact ⟨i + 1, begun, _, _, _, _, by go_num, rfl, by omega, HS7.out, by show (sc.over ++ [(y, u)]).length ≤ i + 1; simp; omega, by show sc.cmds.length ≤ i + 1; have := HNC.out; omega, A1, hB8.out⟩
                  · have hop : xop = (kk : Int) := by rw [← HOP.out]; unfold opOf; rw [if_neg (by go_light; omega)]
                    subst hop
                    have e15 : ((kk : Int) == 0) = false := beq_eq_false_iff_ne.2 (by go_light; omega)
                    have hok := readF_shape2 kk hk16 h0 h15 ws f HFE.out
                    rw [HOP.out] at hok
                    have A1 : Aside0 (res = parseG (i + 1) begun ⟨sc.limit, sc.over, sc.cmds ++ [cmdF (kk : Int) f]⟩ (ls.drop (i + 1))) := ⟨by
                      rw [HA.out.1, pg_cmd HA.out.2.1 HA.out.2.2.1 h0 h15 HG.out HFE.out]⟩
                    have hd : Below wc.heap.size wc wc.drew := Below.drew (Below.refl _ wc)
                    have cc := rcommand_walk wc.drew (by show 0 < wc.heap.size; omega) (kk : Int) _ _ _ (p + 1) f (hR.below hd (Nat.le_refl _)) hok
                    have HS5 : Aside0 (Ss wc.drew p (p + 1) vo (.slice avc nc cvc) cs sc) := ⟨hS5.below hd (Nat.le_refl _)⟩
                    have hB6 := hB5.drew
                    have hkc5 : p < wc.drew.heap.size := hkc
                    have hcm2 : sc.cmds.length ≤ 1048576 := by have := HNC.out; omega
                    obtain ⟨c, hc⟩ : ∃ c, cmdF (kk : Int) f = c := ⟨_, rfl⟩
                    rw [hc] at cc A1
                    unfold CmdP at cc
                    simp only [cmC] at cc
                    have e2' : wc.drew.cell? ⟨p, 2, none⟩ = some (.slice avc nc cvc) := d2'
                    have z2' : wc.drew.frozen? ⟨p, 2, none⟩ = false := z2
                    clear hR hgb hc h0 h15 hsh hS5 hB5 d0 d1' z0 z1 hok HOP
                    go_upto_region 19 with fail
                    repeat (rename ∀ (a : Act) (w : World), Code.wp _ _ _ a w → _ => hKK; have HKK := Aside0.mk hKK; clear hKK)
                    refine wp_region_L (fun _ => True) (fun w' => w'.cell? ⟨p, 2, none⟩ = some (.slice avc nc cvc) ∧ w'.cell? ⟨r, 1, none⟩ = some (.int .i64 (kk : Int)) ∧ w'.cell? ⟨g, 0, none⟩ = some (.slice a1 f.n.length d1) ∧ w'.cell? ⟨g, 1, none⟩ = some (.slice a2 f.w.length d2) ∧ w'.cell? ⟨g, 2, none⟩ = some (.slice a3 f.b.length d3)) 7 (by kernel_rfl) trivial ⟨e2', hr1', g0, g1, g2⟩ (fun hsh hS => ?_)
                    refine anyL_take1 20 (i := 0) (v := ?_) rfl (by kernel_rfl) (by kernel_rfl) (by kernel_rfl) (by decide) (by kernel_rfl) hsh (fun _ _ _ h => h) (Or.inl ⟨by rfl, ?_⟩) hS ?_
                    rotate_left 1
                    · (intro wS hSw; (try dsimp only at hSw); first | (go_simp; done) | (go_simp; with_reducible rfl))
                    intro hsh1 hS1; clear hsh hS; have hsh := hsh1; have hS := hS1; clear hsh1 hS1
                    simp only [Act.put, List.setIfInBounds_toArray, List.set_cons_zero, List.set_cons_succ]
                    refine anyL_take1 20 (i := 1) (v := ?_) rfl (by kernel_rfl) (by kernel_rfl) (by kernel_rfl) (by decide) (by kernel_rfl) hsh (fun _ _ _ h => h) (Or.inl ⟨by rfl, ?_⟩) hS ?_
                    rotate_left 1
                    · (intro wS hSw; (try dsimp only at hSw); first | (go_simp; done) | (go_simp; with_reducible rfl))
                    intro hsh1 hS1; clear hsh hS; have hsh := hsh1; have hS := hS1; clear hsh1 hS1
                    simp only [Act.put, List.setIfInBounds_toArray, List.set_cons_zero, List.set_cons_succ]
                    refine anyL_take1 20 (i := 2) (v := ?_) rfl (by kernel_rfl) (by kernel_rfl) (by kernel_rfl) (by decide) (by kernel_rfl) hsh (fun _ _ _ h => h) (Or.inl ⟨by rfl, ?_⟩) hS ?_
                    rotate_left 1
                    · (intro wS hSw; (try dsimp only at hSw); first | (go_simp; done) | (go_simp; with_reducible rfl))
                    intro hsh1 hS1; clear hsh hS; have hsh := hsh1; have hS := hS1; clear hsh1 hS1
                    simp only [Act.put, List.setIfInBounds_toArray, List.set_cons_zero, List.set_cons_succ]
                    refine anyL_take1 20 (i := 3) (v := ?_) rfl (by kernel_rfl) (by kernel_rfl) (by kernel_rfl) (by decide) (by kernel_rfl) hsh (fun _ _ _ h => h) (Or.inl ⟨by rfl, ?_⟩) hS ?_
                    rotate_left 1
                    · (intro wS hSw; (try dsimp only at hSw); first | (go_simp; done) | (go_simp; with_reducible rfl))
                    intro hsh1 hS1; clear hsh hS; have hsh := hsh1; have hS := hS1; clear hsh1 hS1
                    simp only [Act.put, List.setIfInBounds_toArray, List.set_cons_zero, List.set_cons_succ]
                    refine anyL_take1 20 (i := 4) (v := ?_) rfl (by kernel_rfl) (by kernel_rfl) (by kernel_rfl) (by decide) (by kernel_rfl) hsh (fun _ _ _ h => h) (Or.inl ⟨by rfl, ?_⟩) hS ?_
                    rotate_left 1
                    · (intro wS hSw; (try dsimp only at hSw); first | (go_simp; done) | (go_simp; with_reducible rfl))
                    intro hsh1 hS1; clear hsh hS; have hsh := hsh1; have hS := hS1; clear hsh1 hS1
                    simp only [Act.put, List.setIfInBounds_toArray, List.set_cons_zero, List.set_cons_succ]
                    refine anyL_one (i := 5) (by kernel_rfl) rfl hsh (fun K hK => ?_)
                    go_simp; go_at_call 67; (with_reducible refine cc.mono ?_); rintro e w6 ⟨vf, vh, rfl, hvf, hvh, hB7⟩; obtain ⟨af, cf, rfl⟩ := sl_slice hvf; obtain ⟨ah, ch, rfl⟩ := sl_slice hvh; have HS6 : Aside0 (Ss w6 p (p + 1) vo (.slice avc nc cvc) cs sc) := ⟨HS5.out.below hB7 (Nat.le_refl _)⟩; have hrc6 := HS6.out.rc; have hB9 := hB6.trans (hB7.mono (by go_light; omega)); have hkc6 : p < w6.heap.size := HS6.out.lt; have d26 := (hB7.cell (p := ⟨p, 2, none⟩) hkc5).trans e2'; have z26 := (hB7.frozen (p := ⟨p, 2, none⟩) hkc5).trans z2'
                    refine hK.out _ _ ⟨trivial, fun _ => ?_⟩ (fun hsh1 hS1 => ?_)
                    · obtain ⟨y0, y1, y2, y3, y4⟩ := hS.2 (by decide)
                      exact ⟨cell_below y0 hB7 (Nat.le_refl _), cell_below y1 hB7 (Nat.le_refl _), cell_below y2 hB7 (Nat.le_refl _), cell_below y3 hB7 (Nat.le_refl _), cell_below y4 hB7 (Nat.le_refl _)⟩
                    clear hsh hS hK K; have hsh := hsh1; have hS := hS1; clear hsh1 hS1
                    refine anyL_one (i := 6) (by kernel_rfl) rfl hsh (fun K hK => ?_)
                    go_simp
                    refine hK.out _ _ ⟨trivial, fun _ => ?_⟩ (fun hsh1 hS1 => ?_)
                    · obtain ⟨y0, y1, y2, y3, y4⟩ := hS.2 (by decide)
                      exact ⟨cell_alloc _ y0, cell_alloc _ y1, cell_alloc _ y2, cell_alloc _ y3, cell_alloc _ y4⟩
                    clear hsh hS hK K; have hsh := hsh1; have hS := hS1; clear hsh1 hS1
                    refine anyL_one (i := 7) (by kernel_rfl) rfl hsh (fun K hK => ?_)
                    refine step_new (T := 28) (E := 37) (size := 9) (bytes := 120) rfl (.tmp 82) (.tmp 87) rfl Tryd.underlying28 info37 rfl (by decide) (p + 1) sc.cmds.length _ cs 1 1 (cmC c (.slice af (iv c.fields).length cf) (.slice ah (iv c.hs).length ch)) rfl hrc6 (by simp [Act.eval]) (by simp [Act.eval]) (by intro y hy; simp [cmC] at hy; rcases hy with rfl | rfl | rfl | rfl | rfl | rfl | rfl | rfl | rfl <;> rfl) (by go_light; unfold maxLen; omega) (by go_light; omega) (by go_light; omega) rfl ?_; intro v3 w8 own3 gr3; obtain ⟨a3, c3, rfl⟩ := own_slice own3; have HS7 : Aside0 (Ss (w8.setCell ⟨p, 2, none⟩ (Value.slice a3 (sc.cmds.length + 1) c3)) p (p + 1) vo (Value.slice a3 (sc.cmds.length + 1) c3) (cs ++ cmC c (.slice af (iv c.fields).length cf) (.slice ah (iv c.hs).length ch)) ⟨sc.limit, sc.over, sc.cmds ++ [c]⟩) := ⟨HS6.out.putCmd c _ _ hvf hvh gr3 own3⟩; have hblk := grown_blk2 hkc6 hrc6 HS6.out.hp _ gr3 HS6.out.blk; have hcz : w8.cell? ⟨p, 2, none⟩ = some (.slice avc nc cvc) := (World.cell?_of_block (a := ⟨p, 2, none⟩) (hblk.trans HS6.out.blk.symm)).trans d26; have hfz : w8.frozen? ⟨p, 2, none⟩ = false := (World.frozen?_of_block (a := ⟨p, 2, none⟩) (hblk.trans HS6.out.blk.symm)).trans z26; have hlt7 : p < w8.heap.size := (by go_light; have := gr3.size; simp at this; omega); have hB8 := Aside0.mk (below_set (b := p) (i := 2) (Below.grown (hB9.alloc (by go_light; omega) _) gr3 (by go_light; simp; omega) (fun j hj => by go_light; have := (hrc6.lt j hj).1; omega)) (by go_light; omega) (Value.slice a3 (sc.cmds.length + 1) c3)); clear own3 gr3 hblk
                    refine hK.out _ _ ⟨trivial, fun h => absurd h (by decide)⟩ (fun hsh1 hS1 => ?_)
                    clear hsh hS hK K; have hsh := hsh1; have hS := hS1; clear hsh1 hS1
                    refine anyL_take (i := 8) (v := ?_) rfl (by kernel_rfl) (by kernel_rfl) (by kernel_rfl) (by decide) hsh (fun _ _ _ h => h) (Or.inl ⟨by rfl, ?_⟩) hS ?_
                    rotate_left 1
                    · (intro wS hSw; (try dsimp only at hSw); first | (go_simp; done) | (go_simp; with_reducible rfl))
                    intro hsh1 hS1; clear hsh hS; have hsh := hsh1; have hS := hS1; clear hsh1 hS1
                    simp only [Act.put, List.setIfInBounds_toArray, List.set_cons_zero, List.set_cons_succ]
                    refine anyL_one (i := 9) (by kernel_rfl) rfl hsh (fun K hK => ?_)
                    go_simp
                    refine hK.out _ _ ⟨trivial, fun h => absurd h (by decide)⟩ (fun hsh1 hS1 => ?_)
                    clear hsh hS hK K; have hsh := hsh1; have hS := hS1; clear hsh1 hS1
                    refine anyL_done (by kernel_rfl) ?_ _


                    all_goals
                      repeat (rename Aside0 (∀ (a : Act) (w : World), Code.wp _ _ _ a w → _) => HKK; have hKK := HKK.out; clear HKK)
                      go_wp2
                      go_roundg q
                      case measure => go_light; omega
                      case rel => go_light; exact ⟨i + 1, begun, _, _, _, _, by go_num, rfl, by omega, HS7.out, by show sc.over.length ≤ i + 1; omega, by show (sc.cmds ++ [c]).length ≤ i + 1; have := HNC.out; simp; omega, A1, hB8.out⟩
              · have hne : (er != 0) = true := by simpa using her
                have hres5 := (hB5.block k hkp).trans HW.out.1
                have A1 : Aside0 (res = (S0, i + 1, er)) := ⟨by rw [HA.out.1, pg_err HA.out.2.1 HA.out.2.2.1 HG.out HFE.out her]⟩
                go_wp2_with (refine wpList_store_row rfl _ _ _ rfl k _ rfl rfl 30 _ hres5 size30 rfl all_zero30 ?_)
                refine bodyPost_ret (v := .tuple #[.agg zero30, .int .i64 ((i + 1 : Nat) : Int), .int .i64 er]) ?_ rfl (HF.out _ _ _ _ _ _ A1.out rfl (ScO.zero _ _) (setRow_below (HW.out.2.1.trans (hB5.mono (by go_light; omega)))))
                exact results_cell_tmp2 (p := 2) (q := 3) (r := 4) (ty := 30) rfl _ _ k 30 zero30 (0, 0) _ _ _ rfl rfl rfl (setRow_heap _ _ _ _ _ _ hres5) Tryd.underlying30 rfl size30
    · obtain rfl : i = n := by go_light; omega
      have hil : ¬ (i : Int) < (i : Int) := by go_light; omega
      have A0 : res = parseG i begun sc [] := by rw [hA.out, List.drop_eq_nil_of_le (by rw [HL.out.1]; omega)]
      have hres1 := (hB.block k hkp).trans HW.out.1
      clear hA
      cases begun with
      | false =>
        have A1 : Aside0 (res = (S0, i + 1, 160)) := ⟨by rw [A0]; rfl⟩
        clear A0
        go_wp2_with (refine wpList_store_row rfl _ _ _ rfl k _ rfl rfl 30 _ hres1 size30 rfl all_zero30 ?_)
        refine bodyPost_ret (v := .tuple #[.agg zero30, .int .i64 ((i + 1 : Nat) : Int), .int .i64 160]) ?_ rfl (HF.out _ _ _ _ _ _ A1.out rfl (ScO.zero _ _) (setRow_below (HW.out.2.1.trans (hB.mono (by go_light; omega)))))
        exact results_cell_tmp2 (p := 2) (q := 3) (r := 4) (ty := 30) rfl _ _ k 30 zero30 (0, 0) _ _ _ rfl rfl rfl (setRow_heap _ _ _ _ _ _ hres1) Tryd.underlying30 rfl size30
      | true =>
        have A1 : Aside0 (res = (sc, 0, 0)) := ⟨by rw [A0]; rfl⟩
        clear A0
        have hbk := hS.blk
        obtain ⟨ao, co, rfl⟩ := own_slice hS.ro
        obtain ⟨ac, cc, rfl⟩ := own_slice hS.rc
        go_wp2_with (first
          | (refine wpList_load_row rfl _ _ rfl p rfl 30 _ _ _ hbk Tryd.underlying30 rfl size30 ?_)
          | (refine wpList_store_row rfl _ _ _ rfl k _ rfl rfl 30 _ hres1 size30 rfl (all_30 _ ao ac _ _ co cc) ?_))
        refine bodyPost_ret (v := .tuple #[.agg #[.int .i64 sc.limit, .slice ao sc.over.length co, .slice ac sc.cmds.length cc], .int .i64 ((0 : Nat) : Int), .int .i64 0]) ?_ rfl (HF.out _ _ _ _ _ _ A1.out rfl (hS.out (by go_light; omega)) (setRow_below (HW.out.2.1.trans (hB.mono (by go_light; omega)))))
        exact results_cell_tmp2 (p := 2) (q := 3) (r := 4) (ty := 30) rfl _ _ k 30 #[.int .i64 sc.limit, .slice ao sc.over.length co, .slice ac sc.cmds.length cc] (0, 0) _ _ _ rfl rfl rfl (setRow_heap _ _ _ _ _ _ hres1) Tryd.underlying30 rfl size30
theorem rparse_walk (w : World) (hw0 : 0 < w.heap.size) (s : ByteArray) : Calls Tryd.prog 42 #[.string s] w (ParseP (parseP s.data.toList) w) := by
  have hlen : s.data.toList.length = s.size := by rw [Array.length_toList]; rfl
  unfold parseP
  rw [hlen]
  by_cases h : 1048576 < s.size
  · rw [if_pos h]; exact rparse_big w s h
  · rw [if_neg h]; exact rparse_ok w hw0 s (by go_light; omega)
end Go.Proofs.YtigaacbaaopfmaaDoor.sh
