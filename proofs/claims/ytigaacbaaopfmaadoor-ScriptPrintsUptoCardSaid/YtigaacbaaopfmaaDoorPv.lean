/- A script's text: the document's Print, walked. -/
import Derived.Test.YtigaacbaaopfmaaDoorPt
import Derived.Test.YtigaacbaaopfmaaDoorLv
import Derived.Test.YtigaacbaaopfmaaDoorRa
import Derived.Deep.RegionHeldLaw
set_option linter.unusedSimpArgs false
namespace Go.Proofs.YtigaacbaaopfmaaDoor.sh
open Go.RowKit
set_option linter.unusedVariables false
theorem conv_run (s : ByteArray) (W : World) : (convert 9 61 (.string s)).run Tryd.prog W = .ok (.slice (some ⟨W.heap.size, 0, none⟩) s.size (grownCap W s.size 0 5)) (Lib.bytesWorld W 5 s) :=
  Lib.run_convert_string_bytes W 9 61 5 s Tryd.underlying9 Tryd.underlying61 Tryd.underlying5
theorem hash_ref {x : List UInt8 × Nat} {t1 t2 t3 t4 rb rw' : ByteArray} (hb : B (bytesP (B x.1)) = rb) (hw : B (wordL x.2) = rw') (h1 : (⟨#[104, 97, 115, 104, 32]⟩ : ByteArray) ++ rb = t1) (h2 : t1 ++ ⟨#[32]⟩ = t2) (h3 : t2 ++ rw' = t3) (h4 : t3 ++ ⟨#[10]⟩ = t4) : t4.data.toList = hashL x := by
  subst h4 h3 h2 h1 hb hw
  rw [data_append, data_append, data_append, data_append, bytesP_B]
  simp [hashL, B, wrdL, bytL]
theorem line_ref {c : Cm} (h : nameL c.op ≠ []) : (B (lineD c) ++ ⟨#[10]⟩).data.toList = cmdL c := by
  unfold lineD cmdL
  rw [if_neg h, if_neg h, data_append]
  simp [B]
/-- '[]byte(s)', a slice of bytes beside. -/
theorem conv_sv (w : World) (s : ByteArray) (hs : s.size ≤ 1000000000) : SV (Lib.bytesWorld w 5 s) 1 (.slice (some ⟨w.heap.size, 0, none⟩) s.size (grownCap w s.size 0 5)) s.size (bv s.data.toList) :=
  (conv_bytes w s 0 (Nat.zero_le _) hs).1.sv
/-- A text's bytes as a string again. -/
theorem conv_back {w : World} {base : Nat} {v : Value} {l : List UInt8} (h : OwnA w base 5 1 v l.length (bv l)) (hl : l ≠ []) : (convert 61 9 v).run Tryd.prog w = .ok (.string (B l)) w := by
  rcases h.2 with ⟨_, _, h2⟩ | ⟨g, o, cap, cur, fz, rfl, _, hb⟩
  · exact absurd (List.eq_nil_of_length_eq_zero h2) hl
  · exact run_convert_bytes_back w 61 9 5 ⟨g, o, none⟩ cap l Tryd.underlying61 Tryd.underlying5 Tryd.underlying9 (fun j hj => by
      have hadd : (⟨g, o, none⟩ : Addr).add j = ⟨g, o + j, none⟩ := by unfold Addr.add; split <;> simp_all
      rw [hadd]
      unfold World.cell?
      rw [hb.blk]
      exact hb.cells j _ (by rw [bv, List.getElem?_map, List.getElem?_eq_getElem hj]; rfl))
/-- Ahead of block m + 1 all is as in W. -/
def BZ (m : Nat) (W w' : World) : Prop := Below (m + 1) W w' ∧ m + 1 ≤ w'.heap.size
/-- And the slice v owns these bytes. -/
def PvI (m : Nat) (W : World) (v : Value) (M : List UInt8) (w' : World) : Prop := BZ m W w' ∧ OwnA w' (m + 1) 5 1 v M.length (bv M)
theorem BZ.next {m : Nat} {W w1 w2 : World} (h : BZ m W w1) (hb : Below w1.heap.size w1 w2) : BZ m W w2 := ⟨below_next' h.1 h.2 hb, by have := hb.size; have := h.2; omega⟩
theorem PvI.next {m : Nat} {W w1 w2 : World} {v : Value} {M : List UInt8} (h : PvI m W v M w1) (hb : Below w1.heap.size w1 w2) : PvI m W v M w2 := ⟨h.1.next hb, h.2.below hb (Nat.le_refl _)⟩
theorem conv_below (w : World) (s : ByteArray) : Below w.heap.size w (Lib.bytesWorld w 5 s) := ⟨rfl, rfl, rfl, by rw [Lib.bytesWorld_size]; omega, fun k hk => Lib.bytesWorld_at_old w 5 s k hk⟩
theorem PvI.conv {m : Nat} {W w1 : World} {v : Value} {M : List UInt8} (h : PvI m W v M w1) (s : ByteArray) : PvI m W v M (Lib.bytesWorld w1 5 s) := h.next (conv_below w1 s)
theorem PvI.app {m : Nat} {W w1 w2 : World} {v v2 : Value} {M : List UInt8} {t : ByteArray} (h : PvI m W v M w1) (hg : w1.grownBy w2 (rowOf v)) (ho : OwnA w2 (m + 1) 5 1 v2 (M.length + t.size) (bv M ++ bv t.data.toList)) : PvI m W v2 (M ++ t.data.toList) w2 :=
  ⟨⟨h.1.1.grown hg h.1.2 (fun k hk => (h.2.lt k hk).1), by have := hg.size; have := h.1.2; omega⟩, by
    have hs : t.data.toList.length = t.size := by rw [Array.length_toList]; rfl
    rw [List.length_append, hs, bv_append]; exact ho⟩
theorem PvI.start {m : Nat} {W w1 : World} (h : BZ m W w1) (s : ByteArray) (hs : s.size ≤ 1000000000) : PvI m W (.slice (some ⟨w1.heap.size, 0, none⟩) s.size (grownCap w1 s.size 0 5)) s.data.toList (Lib.bytesWorld w1 5 s) :=
  ⟨h.next (conv_below w1 s), by
    have e : s.data.toList.length = s.size := by rw [Array.length_toList]; rfl
    rw [e]
    exact (conv_bytes w1 s (m + 1) h.2 hs).1⟩
set_option maxHeartbeats 8000000 in
set_option maxRecDepth 100000 in
theorem rprint_walk (w : World) (hb : Base3 w) (s : Sc) (ok : s.Ok) (v : Value) (h : ScV w v s) :
    Calls Tryd.prog 18 #[v] w fun e w' => e = .returned (.string (B (printL s))) ∧ Below w.heap.size w w' := by
  obtain ⟨_, _, cs, rfl, ⟨a1, c1, g1, o1, rfl, p1⟩, ⟨b1, d1, k1, q1, rfl, r1⟩, m1⟩ := h
  have HO : Aside0 (SW w 2 a1 s.over.length c1 g1 o1 (ovC s.over)) := ⟨p1⟩
  have HC : Aside0 (SW w 9 b1 s.cmds.length d1 k1 q1 cs ∧ CmV w cs s.cmds) := ⟨r1, m1⟩
  clear p1 r1 m1
  obtain ⟨R, hR⟩ : ∃ R, B (printL s) = R := ⟨_, rfl⟩
  obtain ⟨no, hno⟩ : ∃ n, s.over.length = n := ⟨_, rfl⟩
  obtain ⟨nc, hnc⟩ : ∃ n, s.cmds.length = n := ⟨_, rfl⟩
  have hno2 : no ≤ 3000000 := by have := ovsW_len s.over; have := ok.wt; omega
  have hnc2 : nc ≤ 3000000 := by have := cmsW_len s.cmds; have := ok.wt; omega
  rw [hR, hno, hnc]
  rw [hno] at HO
  rw [hnc] at HC
  have HR : Aside0 (s.over.length = no ∧ s.cmds.length = nc ∧ B (printL s) = R) := ⟨hno, hnc, hR⟩
  have HOK : Aside0 s.Ok := ⟨ok⟩
  obtain ⟨lim, hlim⟩ : ∃ x, s.limit = x := ⟨_, rfl⟩
  obtain ⟨rl, hrl⟩ : ∃ r, B (Lib.itoa s.limit) = r := ⟨_, rfl⟩
  obtain ⟨srl, crl⟩ := ref_num hb.base s.limit ok.lim rl hrl
  obtain ⟨s1, hs1⟩ : ∃ s, (⟨#[108, 105, 109, 105, 116, 32]⟩ : ByteArray) ++ rl = s := ⟨_, rfl⟩
  obtain ⟨s2, hs2⟩ : ∃ s, s1 ++ ⟨#[10]⟩ = s := ⟨_, rfl⟩
  have l0 : (⟨#[108, 105, 109, 105, 116, 32]⟩ : ByteArray).size = 6 := rfl
  have l1 : (⟨#[10]⟩ : ByteArray).size = 1 := rfl
  obtain ⟨z1, x1⟩ := add_run hs1 (by omega)
  obtain ⟨z2, x2⟩ := add_run hs2 (by omega)
  have x3 := conv_run s2
  have H0 : Aside0 (s2.data.toList = partO s 0) := ⟨by
    rw [partO_zero, ← hs2, ← hs1, data_append, data_append, ← hrl]; rfl⟩
  have hs2' : s2.size ≤ 300 := by omega
  rw [hlim] at crl ⊢
  clear hno hnc hR hlim hrl ok hs1 hs2 l0 l1 z1 z2
  have HB : Aside0 (Base3 w) := ⟨hb⟩
  clear hb
  obtain ⟨m, hm⟩ : ∃ m, w.heap.size = m := ⟨_, rfl⟩
  have HWX := round_new2 (.cells #[.int .i64 lim, .slice a1 no c1, .slice b1 nc d1] 30) (Below.refl w.heap.size w) (Nat.le_refl _) hm
  rw [hm] at crl HWX ⊢
  have HM : Aside0 (w.heap.size = m) := ⟨hm⟩
  go_enter Tryd.func18, Tryd.ntmps18
  go_upto_region 1 with fail
  generalize hW : w.alloc (.cells #[.int .i64 lim, .slice a1 no c1, .slice b1 nc d1] 30) = W
  obtain ⟨hz, hbk, hB, _⟩ := HWX W hW
  clear hW HWX hm
  have HBK : Aside0 (∀ w', Below (m + 1) W w' → Below m w w' ∧ w'.cell? ⟨m, 1, none⟩ = some (.slice a1 no c1) ∧ w'.cell? ⟨m, 2, none⟩ = some (.slice b1 nc d1)) := ⟨fun w' h => ⟨hB.trans (h.mono (by omega)), by
    have := (h.block m (by omega)).trans hbk
    unfold World.cell?
    rw [this]; rfl, by
    have := (h.block m (by omega)).trans hbk
    unfold World.cell?
    rw [this]; rfl⟩⟩
  have k0 : W.cell? ⟨m, 0, none⟩ = some (.int .i64 lim) := by unfold World.cell?; rw [hbk]; rfl
  go_upto_region 2 with (go_at_call 33; (with_reducible refine (crl _ hB).mono ?_); rintro e w1 ⟨rfl, b1⟩)
  have hI0 := PvI.start (m := m) (W := W) ⟨below_next' (Below.refl _ W) (by omega) (b1.mono (by omega)), by have := b1.size; omega⟩ s2 (by omega)
  rw [H0.out] at hI0
  clear hB k0 crl b1 x1 x2 x3 srl hbk
  generalize Lib.bytesWorld w1 5 s2 = w2 at hI0
  generalize Value.slice (some ⟨w1.heap.size, 0, none⟩) s2.size (grownCap w1 s2.size 0 5) = v2 at hI0
  go_wp2
  go_loopg [3, 4] no (fun q v3 v4 wr => ∃ (i : Nat) (v : Value), v4 = .int .i64 i ∧ i + q = no ∧ v = v3 ∧ PvI m W v (partO s i) wr)
  case atStart => exact ⟨0, v2, rfl, by omega, rfl, hI0⟩
  case round =>
    clear hI0
    obtain ⟨i, v3, rfl, hiq, rfl, hI⟩ := hrel
    obtain ⟨hBw, hc1, hc2⟩ := HBK.out _ hI.1.1
    by_cases hi : i < no
    · obtain ⟨q, rfl⟩ : ∃ q, gk = q + 1 := ⟨gk - 1, by omega⟩
      have hil : (i : Int) < (no : Int) := by omega
      have hp := HO.out
      have ok := HOK.out
      obtain ⟨x, hx⟩ : ∃ x, s.over[i]? = some x := ⟨_, List.getElem?_eq_getElem (by rw [HR.out.1]; exact hi)⟩
      have hxm := List.mem_of_getElem? hx
      obtain ⟨e1, e2⟩ := ovC_at s.over i x hx
      obtain rfl : a1 = some ⟨g1, o1, none⟩ := by rcases hp.lead with h | h; omega; exact h
      have keepS : ∀ {w'}, BZ m W w' → BZ m W w' ∧ w'.cell? ⟨m, 1, none⟩ = some (.slice (some ⟨g1, o1, none⟩) no c1) ∧ w'.cell? ⟨g1, o1 + i * 2, none⟩ = some (.string (B x.1)) ∧ w'.cell? ⟨g1, o1 + i * 2 + 1, none⟩ = some (.int .u64 (x.2 : Int)) := fun {w'} h => by
        obtain ⟨hB', hc', _⟩ := HBK.out _ h.1
        have hp' := (hp.below hB' (by rw [HM.out]; exact Nat.le_refl _)).cells
        exact ⟨h, hc', hp' _ _ e1, by rw [Nat.add_assoc]; exact hp' _ _ e2⟩
      obtain ⟨rb, hrb⟩ : ∃ r, B (bytesP (B x.1)) = r := ⟨_, rfl⟩
      obtain ⟨srb, crb⟩ := ref_byt (w := w) (B x.1) (by rw [B_size]; have := ovsW_at hxm; have := ok.wt; unfold ovW at *; omega) rb hrb
      obtain ⟨ru, hru⟩ : ∃ r, B (wordL x.2) = r := ⟨_, rfl⟩
      obtain ⟨sru, cru⟩ := ref_word (w := w) x.2 (ok.ov x hxm) ru hru
      rw [HM.out] at crb cru
      have qa : ∀ wq, PvI m W v3 (partO s i) wq → Calls Tryd.prog 34 #[.string (B x.1)] wq (fun e w' => e = .returned (.string rb) ∧ PvI m W v3 (partO s i) w') := fun wq h => (crb wq (HBK.out _ h.1.1).1).mono fun e w' ⟨h1, h2⟩ => ⟨h1, h.next h2⟩
      have qb : ∀ wq, PvI m W v3 (partO s i) wq → Calls Tryd.prog 39 #[.int .u64 (x.2 : Int)] wq (fun e w' => e = .returned (.string ru) ∧ PvI m W v3 (partO s i) w') := fun wq h => (cru wq (HBK.out _ h.1.1).1).mono fun e w' ⟨h1, h2⟩ => ⟨h1, h.next h2⟩
      obtain ⟨t1, ht1⟩ : ∃ s, (⟨#[104, 97, 115, 104, 32]⟩ : ByteArray) ++ rb = s := ⟨_, rfl⟩
      obtain ⟨t2, ht2⟩ : ∃ s, t1 ++ ⟨#[32]⟩ = s := ⟨_, rfl⟩
      obtain ⟨t3, ht3⟩ : ∃ s, t2 ++ ru = s := ⟨_, rfl⟩
      obtain ⟨t4, ht4⟩ : ∃ s, t3 ++ ⟨#[10]⟩ = s := ⟨_, rfl⟩
      have l0 : (⟨#[104, 97, 115, 104, 32]⟩ : ByteArray).size = 5 := rfl
      have l1 : (⟨#[10]⟩ : ByteArray).size = 1 := rfl
      have l2 : (⟨#[32]⟩ : ByteArray).size = 1 := rfl
      obtain ⟨z1, x1⟩ := add_run ht1 (by omega)
      obtain ⟨z2, x2⟩ := add_run ht2 (by omega)
      obtain ⟨z3, x3⟩ := add_run ht3 (by omega)
      obtain ⟨z4, x4⟩ := add_run ht4 (by omega)
      have x5 := conv_run t4
      have HN : Aside0 (partO s i ++ t4.data.toList = partO s (i + 1)) := ⟨by rw [partO_next hx, hash_ref hrb hru ht1 ht2 ht3 ht4]⟩
      have hml := partO_len ok i
      have hcsv := fun wq => conv_sv wq t4 (by omega)
      have hsum : (partO s i).length + t4.size ≤ maxLen := by unfold maxLen; omega
      have hsum2 : ((partO s i).length + t4.size) * 1 ≤ 140737488355328 := by omega
      clear hx hxm e1 e2 hrb hru ht1 ht2 ht3 ht4 l0 l1 l2 z1 z2 z3 z4 hml ok hp srb sru crb cru hBw hc2
      generalize partO s i = M at *
      generalize B x.1 = kb at *
      generalize x.2 = un at *
      have hBZ := hI.1
      have hI' := hI.next (Below.refl _ wr).drew
      have hBZ' := hI'.1
      obtain ⟨-, -, f1, f2⟩ := keepS hBZ
      go_upto_region 5 with fail
      go_region_held_law (fun w' => BZ m W w' ∧ w'.cell? ⟨m, 1, none⟩ = some (.slice (some ⟨g1, o1, none⟩) no c1) ∧ w'.cell? ⟨g1, o1 + i * 2, none⟩ = some (.string kb) ∧ w'.cell? ⟨g1, o1 + i * 2 + 1, none⟩ = some (.int .u64 (un : Int)))
        (first | with_reducible exact keepS (by with_reducible assumption))
        (first
        | (go_at_call 34; (with_reducible refine (qa _ (by with_reducible assumption)).mono ?_); rintro e wa ⟨rfl, ha⟩; have ha' := ha.1)
        | (go_at_call 39; (with_reducible refine (qb _ (by with_reducible assumption)).mono ?_); rintro e wb ⟨rfl, hb⟩; have hb' := hb.1; have hb2 := hb.conv t4; have hb2' := hb2.1)
        | (refine step_append_sv (by rfl) (.tmp 20) (.tmp 39) (by rfl) Tryd.underlying61 info5 rfl (by decide) (m + 1) M.length v3 (bv M) (by rfl) hb2.2 _ t4.size (bv t4.data.toList) (by rfl) (hcsv _) (bv_one _) hsum hsum2 hb2.1.2 ?_; intro v5 w5 own5 gr5 at5; have h5 := hb2.app gr5 own5; have h5' := h5.1))
      all_goals
        clear qa qb keepS ha ha' hb hb' hb2 hb2' hBZ hBZ' hI hI' hcsv x1 x2 x3 x4 x5 f1 f2 own5 gr5 at5 h5'
        rw [HN.out] at h5
        clear HN hsum hsum2
        go_wp2
        go_roundg q
        case measure => omega
        case rel => exact ⟨i + 1, v5, by go_num, by omega, rfl, h5⟩
    · obtain rfl : i = no := by omega
      have hil : ¬ (i : Int) < (i : Int) := by omega
      rw [partO_all (Nat.le_of_eq HR.out.1)] at hI
      clear hBw hc2
      go_wp2
      go_loopg [3, 5] nc (fun q v3 v5 wr => ∃ (j : Nat) (v : Value), v5 = .int .i64 j ∧ j + q = nc ∧ v = v3 ∧ PvI m W v (partC s j) wr)
      case atStart => exact ⟨0, v3, rfl, by omega, rfl, hI⟩
      case round =>
        clear hI hc1 hil hiq hi
        obtain ⟨j, v6, rfl, hjq, rfl, hI⟩ := hrel
        obtain ⟨hBw, -, hc2⟩ := HBK.out _ hI.1.1
        by_cases hj : j < nc
        · obtain ⟨q, rfl⟩ : ∃ q, gk = q + 1 := ⟨gk - 1, by omega⟩
          have hjl : (j : Int) < (nc : Int) := by omega
          obtain ⟨hp, hcm⟩ := HC.out
          have ok := HOK.out
          obtain ⟨x, hx⟩ : ∃ x, s.cmds[j]? = some x := ⟨_, List.getElem?_eq_getElem (by rw [HR.out.2.1]; exact hj)⟩
          obtain ⟨vf, vh, u1, u2, e1⟩ := hcm j x hx
          have fit := ok.cm x (List.mem_of_getElem? hx)
          have hcs := (hp.below hBw (by rw [HM.out]; exact Nat.le_refl _)).cells
          obtain rfl : b1 = some ⟨k1, q1, none⟩ := by rcases hp.lead with h | h; omega; exact h
          obtain ⟨af, cf, gf, of', rfl, sf⟩ := u1
          obtain ⟨ah, ch, gh, oh, rfl, sh⟩ := u2
          have cl := fun wq (h : Below w.heap.size w wq) => rline_walk wq (HB.out.below h) x fit af ah cf ch gf gh of' oh (sf.below h (Nat.le_refl _)) (sh.below h (Nat.le_refl _))
          unfold cmV at cl
          rw [HM.out] at cl
          obtain ⟨rn, hrn⟩ : ∃ r, B (lineD x) = r := ⟨_, rfl⟩
          have srn : rn.size ≤ 500000000 := by
            have q1 := lineL_len fit
            have q2 := fit.fl
            have q3 := fit.hl
            have q4 := fit.key
            have q5 := fit.elem
            have q6 := name_len x.op
            rw [← hrn, B_size]; unfold lineD; split <;> simp only [List.length_append, List.length_nil] <;> omega
          rw [hrn] at cl
          have hml := partC_len ok j
          obtain ⟨t2, ht2⟩ : ∃ s, rn ++ ⟨#[10]⟩ = s := ⟨_, rfl⟩
          have l1 : (⟨#[10]⟩ : ByteArray).size = 1 := rfl
          obtain ⟨z2, x2⟩ := add_run ht2 (by omega)
          have x5 := conv_run t2
          have HNL : Aside0 (rn.toList = lineD x) := ⟨by rw [← hrn, ByteArray.toList_eq]; rfl⟩
          have HNE : Aside0 (nameL x.op = [] → partC s j = partC s (j + 1) ∧ lineD x = []) := ⟨fun h => ⟨by rw [partC_next hx, cmdL, if_pos h, List.append_nil], by unfold lineD; rw [if_pos h]⟩⟩
          have HNN : Aside0 (nameL x.op ≠ [] → partC s j ++ t2.data.toList = partC s (j + 1) ∧ lineD x ≠ []) := ⟨fun h => ⟨by
            rw [partC_next hx, ← ht2, ← hrn, line_ref h], by unfold lineD; rw [if_neg h]; simp [h]⟩⟩
          have hcsv := fun wq => conv_sv wq t2 (by omega)
          have hsum : (partC s j).length + t2.size ≤ maxLen := by unfold maxLen; omega
          have hsum2 : ((partC s j).length + t2.size) * 1 ≤ 140737488355328 := by omega
          clear hrn hx hp hcm fit sf sh ok ht2 l1 z2 hml srn
          have z0 := hcs _ _ ((e1 0 (by omega)).trans rfl)
          have z1 := hcs _ _ ((e1 1 (by omega)).trans rfl)
          have z2 := hcs _ _ ((e1 2 (by omega)).trans rfl)
          have z3 := hcs _ _ ((e1 3 (by omega)).trans rfl)
          have z4 := hcs _ _ ((e1 4 (by omega)).trans rfl)
          have z5 := hcs _ _ ((e1 5 (by omega)).trans rfl)
          have z6 := hcs _ _ ((e1 6 (by omega)).trans rfl)
          have z7 := hcs _ _ ((e1 7 (by omega)).trans rfl)
          have z8 := hcs _ _ ((e1 8 (by omega)).trans rfl)
          simp only [← Nat.add_assoc, Nat.add_zero] at z0 z1 z2 z3 z4 z5 z6 z7 z8
          clear hcs e1
          obtain ⟨op, h, fields, hs, u, v, n, key, elem⟩ := x
          dsimp only at *
          generalize fields.length = nf at *
          generalize hs.length = nh at *
          generalize B key = kb at *
          generalize B elem = eb at *
          by_cases hne : nameL op = []
          · have hnb : rn.toList = [] := by rw [HNL.out]; exact (HNE.out hne).2
            have HN : Aside0 (partC s j = partC s (j + 1)) := ⟨(HNE.out hne).1⟩
            clear HNE HNN HNL hne
            generalize partC s j = M at *
            go_wp2_with (go_at_call 40; (with_reducible refine (cl _ hBw).mono ?_); rintro e wa ⟨rfl, ba⟩; have ha := hI.next ba)
            go_roundg q
            case measure => omega
            case rel => exact ⟨j + 1, v6, by go_num, by omega, rfl, by rw [← HN.out]; exact ha⟩
          · have hnb : rn.toList.isEmpty = false := by rw [HNL.out]; simpa using (HNN.out hne).2
            have hnb' : ¬ rn.toList = [] := by rw [HNL.out]; exact (HNN.out hne).2
            have HN : Aside0 (partC s j ++ t2.data.toList = partC s (j + 1)) := ⟨(HNN.out hne).1⟩
            clear HNE HNN HNL hne
            generalize partC s j = M at *
            go_wp2_with (first
              | (go_at_call 40; (with_reducible refine (cl _ hBw).mono ?_); rintro e wa ⟨rfl, ba⟩; have ha := hI.next ba; have hb2 := ha.conv t2)
              | (at_builtin; refine wpList_append_sv rfl (.tmp 56) (.tmp 59) rfl Tryd.underlying61 info5 rfl (by decide) (m + 1) M.length v6 (bv M) rfl hb2.2 _ t2.size (bv t2.data.toList) rfl (hcsv _) (bv_one _) hsum hsum2 hb2.1.2 ?_; intro v7 w5 own5 gr5 at5; have h5 := hb2.app gr5 own5))
            rw [HN.out] at h5
            clear ha hb2 own5 gr5 at5 hI hcsv x2 x5 cl
            go_roundg q
            case measure => omega
            case rel => exact ⟨j + 1, v7, by go_num, by omega, rfl, h5⟩
        · obtain rfl : j = nc := by omega
          have hjl : ¬ (j : Int) < (j : Int) := by omega
          rw [partC_all (Nat.le_of_eq HR.out.2.1)] at hI
          have hcv := conv_back hI.2 (by unfold printL limitL; simp)
          rw [HR.out.2.2] at hcv
          obtain ⟨ao6, c6, rfl⟩ := hI.2.slice
          clear hI
          generalize (printL s).length = nl at hcv
          go_wp2
          go_ret
          exact ⟨rfl, hBw⟩
end Go.Proofs.YtigaacbaaopfmaaDoor.sh
