/- A script's text: the program's Print, walked. -/
import Derived.Test.YtigaacbaaopfmaaDoorPm
import Derived.Test.YtigaacbaaopfmaaDoorPh
import Derived.Deep.CutBlock
set_option linter.unusedSimpArgs false
namespace Go.Proofs.YtigaacbaaopfmaaDoor.sh
open Go.RowKit
set_option linter.unusedVariables false
theorem data_append (a b : ByteArray) : (a ++ b).data.toList = a.data.toList ++ b.data.toList := by
  simp
theorem add_run {a b c : ByteArray} (h : a ++ b = c) (hs : a.size + b.size ≤ 1000000000) : c.size = a.size + b.size ∧ ∀ W, (Op.stringOp .add a b).run Tryd.prog W = .ok (.string c) W := by
  subst h
  exact ⟨ByteArray.size_append, fun W => run_string_add_sum (w := W) _ _ (by omega)⟩
theorem pt_world (w : World) (A : Obj) (m : Nat) (hm : w.heap.size = m) : ∀ W, (w.alloc A).alloc (.cells #[.pointer none, .slice none 0 0] 63) = W →
    W.heap[m]? = some A ∧ IsB (m + 1) (m + 1) [] W ∧ W.heap.size = m + 2 ∧ Below m w W := by
  intro W hW
  obtain ⟨h1, h2, h3, h4⟩ := two_allocs w A _ m hm W hW
  refine ⟨h1, ?_, h3, h4⟩
  have := Lib.IsBuilderF.of (Lib.fresh_isBuilder 63 5 (w.alloc A))
  rw [alsize, hm] at this
  rw [← hW]
  exact this
theorem round_new {w wr : World} {k p : Nat} (A : Obj) (hB : Below k w wr) (hk : k ≤ wr.heap.size) (hp : wr.heap.size = p) : ∀ wz, wr.alloc A = wz → wz.drew.heap.size = p + 1 ∧ wz.drew.heap[p]? = some A ∧ Below k w wz.drew ∧ Below wr.heap.size wr wz.drew := by
  rintro wz rfl
  subst hp
  exact ⟨by rw [World.size_drew, alsize], heap_alloc_new wr A, (hB.alloc hk A).drew, ((Below.refl _ wr).alloc (Nat.le_refl _) A).drew⟩
theorem round_new2 {w wr : World} {k p : Nat} (A : Obj) (hB : Below k w wr) (hk : k ≤ wr.heap.size) (hp : wr.heap.size = p) : ∀ wz, wr.alloc A = wz → wz.heap.size = p + 1 ∧ wz.heap[p]? = some A ∧ Below k w wz ∧ Below wr.heap.size wr wz := by
  rintro wz rfl
  subst hp
  exact ⟨by rw [alsize], heap_alloc_new wr A, hB.alloc hk A, (Below.refl _ wr).alloc (Nat.le_refl _) A⟩
theorem below_next' {k : Nat} {w w1 w2 : World} (h : Below k w w1) (hk : k ≤ w1.heap.size) (h2 : Below w1.heap.size w1 w2) : Below k w w2 := h.trans (h2.mono hk)
theorem hash_str {x : List UInt8 × Nat} {t1 t2 t3 rb rw' : ByteArray} (hb : showB (B x.1) = rb) (hw : showW x.2 = rw') (h1 : (⟨#[104, 97, 115, 104]⟩ : ByteArray) ++ rb = t1) (h2 : t1 ++ rw' = t2) (h3 : t2 ++ ⟨#[10]⟩ = t3) : t3.data.toList = hashL x := by
  subst h3 h2 h1 hb hw
  rw [data_append, data_append, data_append, showB_L]
  simp [hashL, B, showW, wrdL]
set_option maxHeartbeats 8000000 in
set_option maxRecDepth 100000 in
theorem print_walk (w : World) (hb : Base3 w) (s : Sc) (ok : s.Ok) (v : Value) (h : ScV w v s) :
    Calls Tryd.prog 17 #[v] w fun e w' => e = .returned (.string (B (printL s))) ∧ Below w.heap.size w w' := by
  obtain ⟨_, _, cs, rfl, ⟨a1, c1, g1, o1, rfl, p1⟩, ⟨b1, d1, k1, q1, rfl, r1⟩, m1⟩ := h
  have HO : Aside0 (SW w 2 a1 s.over.length c1 g1 o1 (ovC s.over)) := ⟨p1⟩
  have HC : Aside0 (SW w 9 b1 s.cmds.length d1 k1 q1 cs ∧ CmV w cs s.cmds) := ⟨r1, m1⟩
  clear p1 r1 m1
  obtain ⟨R, hR⟩ : ∃ R, B (printL s) = R := ⟨_, rfl⟩
  obtain ⟨no, hno⟩ : ∃ n, s.over.length = n := ⟨_, rfl⟩
  obtain ⟨nc, hnc⟩ : ∃ n, s.cmds.length = n := ⟨_, rfl⟩
  have hno2 : no ≤ 3000000 := by have := ovsW_len s.over; have := ok.wt; omega
  have hnc2 : nc ≤ 3000000 := by have := cmsW_len s.cmds; have := ok.wt; omega
  rw [hR, hno, hnc]
  rw [hno] at HO
  rw [hnc] at HC
  have HR : Aside0 (s.over.length = no ∧ s.cmds.length = nc ∧ B (printL s) = R) := ⟨hno, hnc, hR⟩
  have HOK : Aside0 s.Ok := ⟨ok⟩
  obtain ⟨lim, hlim⟩ : ∃ x, s.limit = x := ⟨_, rfl⟩
  obtain ⟨rl, hrl⟩ : ∃ r, showN s.limit = r := ⟨_, rfl⟩
  obtain ⟨srl, crl⟩ := show_num hb.base s.limit ok.lim rl hrl
  obtain ⟨s1, hs1⟩ : ∃ s, (⟨#[108, 105, 109, 105, 116]⟩ : ByteArray) ++ rl = s := ⟨_, rfl⟩
  obtain ⟨s2, hs2⟩ : ∃ s, s1 ++ ⟨#[10]⟩ = s := ⟨_, rfl⟩
  have l0 : (⟨#[108, 105, 109, 105, 116]⟩ : ByteArray).size = 5 := rfl
  have l1 : (⟨#[10]⟩ : ByteArray).size = 1 := rfl
  obtain ⟨z1, x1⟩ := add_run hs1 (by omega)
  obtain ⟨z2, x2⟩ := add_run hs2 (by omega)
  have H0 : Aside0 (([] : List UInt8) ++ s2.data.toList = partO s 0) := ⟨by
    rw [partO_zero, ← hs2, ← hs1, data_append, data_append, ← hrl]; rfl⟩
  have hs2' : s2.size ≤ 300 := by omega
  rw [hlim] at crl ⊢
  clear hno hnc hR hlim hrl ok hs1 hs2 l0 l1 z1 z2
  have HB : Aside0 (Base3 w) := ⟨hb⟩
  clear hb
  obtain ⟨m, hm⟩ : ∃ m, w.heap.size = m := ⟨_, rfl⟩
  have HWX := pt_world w (.cells #[.int .i64 lim, .slice a1 no c1, .slice b1 nc d1] 30) m hm
  rw [hm] at crl ⊢
  have HM : Aside0 (w.heap.size = m) := ⟨hm⟩
  go_enter Tryd.func17, Tryd.ntmps17
  go_upto_region 2 with fail
  generalize hW : (w.alloc (.cells #[.int .i64 lim, .slice a1 no c1, .slice b1 nc d1] 30)).alloc (.cells #[.pointer none, .slice none 0 0] 63) = W
  obtain ⟨hbk, hI, hz, hB⟩ := HWX W hW
  clear hW HWX hm
  have HBK : Aside0 (∀ w', Below (m + 1) W w' → Below m w w' ∧ w'.cell? ⟨m, 2, none⟩ = some (.slice b1 nc d1)) := ⟨fun w' h => ⟨hB.trans (h.mono (by omega)), by
    have := (h.block m (by omega)).trans hbk
    unfold World.cell?
    rw [this]; rfl⟩⟩
  have k0 : W.cell? ⟨m, 0, none⟩ = some (.int .i64 lim) := by unfold World.cell?; rw [hbk]; rfl
  have k1' : W.cell? ⟨m, 1, none⟩ = some (.slice a1 no c1) := by unfold World.cell?; rw [hbk]; rfl
  have hB0 : ∀ w', Below W.heap.size W w' → Below (m + 1) W w' := fun w' h => h.mono (by omega)
  have k1w := fun w' (h : Below (m + 1) W w') => (h.cell (p := ⟨m, 1, none⟩) (by show m < m + 1; omega)).trans k1'
  clear hbk k1'
  go_upto_region 3 with (first
    | (go_at_call 29; (with_reducible refine (crl _ hB).mono ?_); rintro e w1 ⟨rfl, b1⟩; have hsz1 := b1.size; have hB1 := hB0 _ b1)
    | (go_at_call 35; (with_reducible refine (writeString_walk (m + 1) (m + 1) [] s2 _ (hI.below b1) (by simp only [List.length_nil]; omega) (by omega)).mono ?_); rintro e w2 ⟨rfl, hI2, b2⟩))
  rw [H0.out] at hI2
  have hB2 := hB1.trans b2
  have hsz2 := b2.size
  have k1'' := k1w _ hB2
  have hz2 : m + 2 ≤ w2.heap.size := by omega
  clear hI hB crl k0 hB0 k1w hB1 b2 hsz1 hsz2 b1 hz x1 x2 hs2' srl
  go_wp2
  go_loopg [18] no (fun q v18 wr => ∃ i : Nat, v18 = .int .i64 i ∧ i + q = no ∧ IsB (m + 1) (m + 1) (partO s i) wr ∧ Below (m + 1) W wr ∧ m + 2 ≤ wr.heap.size)
  case atStart => exact ⟨0, rfl, by omega, hI2, hB2, hz2⟩
  case round =>
    clear hI2 hB2 hz2 k1''
    obtain ⟨i, rfl, hiq, hI, hB, hz⟩ := hrel
    by_cases hi : i < no
    · obtain ⟨q, rfl⟩ : ∃ q, gk = q + 1 := ⟨gk - 1, by omega⟩
      have hil : (i : Int) < (no : Int) := by omega
      obtain ⟨hBw, _⟩ := HBK.out _ hB
      have hp := HO.out
      have ok := HOK.out
      obtain ⟨x, hx⟩ : ∃ x, s.over[i]? = some x := ⟨_, List.getElem?_eq_getElem (by rw [HR.out.1]; exact hi)⟩
      have hxm := List.mem_of_getElem? hx
      obtain ⟨e1, e2⟩ := ovC_at s.over i x hx
      have y1 := (hp.below hBw (by rw [HM.out]; exact Nat.le_refl _)).cells _ _ e1
      have y2 := (hp.below hBw (by rw [HM.out]; exact Nat.le_refl _)).cells _ _ e2
      rw [← Nat.add_assoc] at y2
      obtain rfl : a1 = some ⟨g1, o1, none⟩ := by rcases hp.lead with h | h; omega; exact h
      obtain ⟨rb, hrb⟩ : ∃ r, showB (B x.1) = r := ⟨_, rfl⟩
      obtain ⟨srb, crb⟩ := show_byt (w := w) (B x.1) (by rw [B_size]; have := ovsW_at hxm; have := ok.wt; unfold ovW at *; omega) rb hrb
      obtain ⟨ru, hru⟩ : ∃ r, showW x.2 = r := ⟨_, rfl⟩
      obtain ⟨sru, cru⟩ := show_word HB.out x.2 (ok.ov x hxm) ru hru
      obtain ⟨t1, ht1⟩ : ∃ s, (⟨#[104, 97, 115, 104]⟩ : ByteArray) ++ rb = s := ⟨_, rfl⟩
      obtain ⟨t2, ht2⟩ : ∃ s, t1 ++ ru = s := ⟨_, rfl⟩
      obtain ⟨t3, ht3⟩ : ∃ s, t2 ++ ⟨#[10]⟩ = s := ⟨_, rfl⟩
      have l0 : (⟨#[104, 97, 115, 104]⟩ : ByteArray).size = 4 := rfl
      have l1 : (⟨#[10]⟩ : ByteArray).size = 1 := rfl
      obtain ⟨z1, x1⟩ := add_run ht1 (by omega)
      obtain ⟨z2, x2⟩ := add_run ht2 (by omega)
      obtain ⟨z3, x3⟩ := add_run ht3 (by omega)
      have HN : Aside0 (partO s i ++ t3.data.toList = partO s (i + 1)) := ⟨by rw [partO_next hx, hash_str hrb hru ht1 ht2 ht3]⟩
      have hml := partO_len ok i
      have hsum : (partO s i).length + t3.size ≤ 140737488355328 := by omega
      rw [HM.out] at crb cru
      clear hx hxm e1 e2 hrb hru ht1 ht2 ht3 l0 l1 z1 z2 z3 hml ok hp srb sru
      generalize partO s i = M at *
      generalize B x.1 = kb at *
      generalize x.2 = un at *
      go_upto_region 6 with fail
      obtain ⟨p, hp⟩ : ∃ p, wr.heap.size = p := ⟨_, rfl⟩
      rw [hp] at hz ⊢
      have HX := round_new (.cells #[.string kb, .int .u64 (un : Int)] 34) hB (by omega) hp
      generalize wr.alloc (.cells #[.string kb, .int .u64 (un : Int)] 34) = wz at HX ⊢
      obtain ⟨hzd, hbk, hBd, hBr⟩ := HX wz rfl
      have hId : IsB (m + 1) (m + 1) M wz.drew := hI.below hBr
      have c0 : wz.drew.cell? ⟨p, 0, none⟩ = some (.string kb) := by unfold World.cell?; rw [hbk]; rfl
      have c1 : wz.drew.cell? ⟨p, 1, none⟩ = some (.int .u64 (un : Int)) := by unfold World.cell?; rw [hbk]; rfl
      have hbd := (HBK.out _ hBd).1
      clear hI hB hBw y1 y2 hp hbk hBr HX
      generalize hwd : wz.drew = wd at *
      go_region_with (first
        | (go_at_call 30; (with_reducible refine (crb _ hbd).mono ?_); rintro e wa ⟨rfl, ba⟩; have hda := below_next' hbd (by omega) ba; have ca := cell_below c1 ba (Nat.le_refl _); have hIa := hId.below ba; have hBa := below_next' hBd (by omega) ba; have hza := ba.size)
        | (go_at_call 36; (with_reducible refine (cru _ hda).mono ?_); rintro e wb ⟨rfl, bb⟩; have hIb := hIa.below bb; have hBb := below_next' hBa (by omega) bb; have hzb := bb.size)
        | (go_at_call 35; (with_reducible refine (writeString_walk (m + 1) (m + 1) M t3 _ hIb hsum (by omega)).mono ?_); rintro e wc ⟨rfl, hIc, bc⟩))
      all_goals
        have hw2 : m + 2 ≤ wc.heap.size := by have := bc.size; omega
        clear crb cru ba bb hda hIa hIb hza hzb hBa hbd hBd hId c0 c1 ca x1 x2 x3 hsum
        have hBc := hBb.trans bc
        rw [HN.out] at hIc
        clear hBb bc HN
        go_wp2
        go_roundg q
        case measure => omega
        case rel => exact ⟨i + 1, by go_num, by omega, hIc, hBc, hw2⟩
    · obtain rfl : i = no := by omega
      have hil : ¬ (i : Int) < (i : Int) := by omega
      obtain ⟨hBw, hc2⟩ := HBK.out _ hB
      rw [partO_all (Nat.le_of_eq HR.out.1)] at hI
      clear hBw
      go_wp2
      go_loopg [36] nc (fun q v36 wq => ∃ j : Nat, v36 = .int .i64 j ∧ j + q = nc ∧ IsB (m + 1) (m + 1) (partC s j) wq ∧ Below (m + 1) W wq ∧ m + 2 ≤ wq.heap.size)
      case atStart => exact ⟨0, rfl, by omega, hI, hB, hz⟩
      case round =>
        clear hI hB hz hc2 hil hiq hi
        obtain ⟨j, rfl, hjq, hI, hB, hz⟩ := hrel
        by_cases hj : j < nc
        · obtain ⟨q, rfl⟩ : ∃ q, gk = q + 1 := ⟨gk - 1, by omega⟩
          have hjl : (j : Int) < (nc : Int) := by omega
          obtain ⟨hBw, _⟩ := HBK.out _ hB
          obtain ⟨hp, hcm⟩ := HC.out
          have ok := HOK.out
          obtain ⟨x, hx⟩ : ∃ x, s.cmds[j]? = some x := ⟨_, List.getElem?_eq_getElem (by rw [HR.out.2.1]; exact hj)⟩
          obtain ⟨vf, vh, u1, u2, e1⟩ := hcm j x hx
          have fit := ok.cm x (List.mem_of_getElem? hx)
          have hcs := (hp.below hBw (by rw [HM.out]; exact Nat.le_refl _)).cells
          obtain rfl : b1 = some ⟨k1, q1, none⟩ := by rcases hp.lead with h | h; omega; exact h
          obtain ⟨af, cf, gf, of', rfl, sf⟩ := u1
          obtain ⟨ah, ch, gh, oh, rfl, sh⟩ := u2
          have cl := fun wq (h : Below w.heap.size w wq) => line_walk wq (HB.out.below h) x fit af ah cf ch gf gh of' oh (sf.below h (Nat.le_refl _)) (sh.below h (Nat.le_refl _))
          have cname := fun wq (h : Below w.heap.size w wq) => nameOf_walk wq x.op (HB.out.base.tab.below h)
          unfold LineP cmV at cl
          rw [HM.out] at cl cname
          obtain ⟨rn, hrn⟩ : ∃ r, B (lineL x) = r := ⟨_, rfl⟩
          obtain ⟨nb, hnb⟩ : ∃ r, nameP x.op = r := ⟨_, rfl⟩
          have hnbl : nb.toList = nameL x.op := by rw [← hnb, nameP_eq, ByteArray.toList_eq]; rfl
          have snb : nb.size ≤ 20 := by rw [← hnb, nameP_eq, B_size]; exact name_len _
          have srn : rn.size ≤ 500000000 := by
            have q1 := lineL_len fit
            have q2 := fit.fl
            have q3 := fit.hl
            have q4 := fit.key
            have q5 := fit.elem
            rw [← hrn, B_size]; omega
          rw [hrn] at cl
          rw [hnb] at cname
          have hml := partC_len ok j
          have HNE : Aside0 (nameL x.op = [] → partC s (j + 1) = partC s j) := ⟨fun h => by rw [partC_next hx, cmdL, if_pos h, List.append_nil]⟩
          have HNN : Aside0 (nameL x.op ≠ [] → partC s (j + 1) = partC s j ++ (nb ++ rn ++ ⟨#[10]⟩ : ByteArray).data.toList) := ⟨fun h => by
            rw [partC_next hx, cmdL, if_neg h, data_append, data_append, ← hnb, ← hrn, nameP_eq]; rfl⟩
          have HNL : Aside0 (nb.toList = nameL x.op) := ⟨hnbl⟩
          clear hnbl hnb hrn hx hp hcm fit sf sh ok hBw
          have z0 := hcs _ _ ((e1 0 (by omega)).trans rfl)
          have z1 := hcs _ _ ((e1 1 (by omega)).trans rfl)
          have z2 := hcs _ _ ((e1 2 (by omega)).trans rfl)
          have z3 := hcs _ _ ((e1 3 (by omega)).trans rfl)
          have z4 := hcs _ _ ((e1 4 (by omega)).trans rfl)
          have z5 := hcs _ _ ((e1 5 (by omega)).trans rfl)
          have z6 := hcs _ _ ((e1 6 (by omega)).trans rfl)
          have z7 := hcs _ _ ((e1 7 (by omega)).trans rfl)
          have z8 := hcs _ _ ((e1 8 (by omega)).trans rfl)
          simp only [← Nat.add_assoc, Nat.add_zero] at z0 z1 z2 z3 z4 z5 z6 z7 z8
          clear hcs e1
          obtain ⟨op, h, fields, hs, u, v, n, key, elem⟩ := x
          dsimp only at *
          generalize fields.length = nf at *
          generalize hs.length = nh at *
          generalize B key = kb at *
          generalize B elem = eb at *
          generalize partC s j = M at *
          obtain ⟨M2, hM2⟩ : ∃ M2, partC s (j + 1) = M2 := ⟨_, rfl⟩
          have HM2 : Aside0 (partC s (j + 1) = M2) := ⟨hM2⟩
          rw [hM2] at HNE HNN
          clear hM2
          obtain ⟨p, hp⟩ : ∃ p, wr.heap.size = p := ⟨_, rfl⟩
          rw [hp] at hz
          have HX := round_new2 (.cells #[.int .i64 op, .int .i64 h, .slice af nf cf, .slice ah nh ch, .int .u64 (u : Int), .int .u64 (v : Int), .int .i64 n, .string kb, .string eb] 37) hB (by omega) hp
          go_upto_region 11 with fail
          generalize wr.alloc (.cells #[.int .i64 op, .int .i64 h, .slice af nf cf, .slice ah nh ch, .int .u64 (u : Int), .int .u64 (v : Int), .int .i64 n, .string kb, .string eb] 37) = wz at HX ⊢
          obtain ⟨hzd, hbk, hBd, hBr⟩ := HX wz rfl
          have hId : IsB (m + 1) (m + 1) M wz := hI.below hBr
          have k0' : wz.cell? ⟨p, 0, none⟩ = some (.int .i64 op) := by unfold World.cell?; rw [hbk]; rfl
          have k1' : wz.cell? ⟨p, 1, none⟩ = some (.int .i64 h) := by unfold World.cell?; rw [hbk]; rfl
          have k2' : wz.cell? ⟨p, 2, none⟩ = some (.slice af nf cf) := by unfold World.cell?; rw [hbk]; rfl
          have k3' : wz.cell? ⟨p, 3, none⟩ = some (.slice ah nh ch) := by unfold World.cell?; rw [hbk]; rfl
          have k4' : wz.cell? ⟨p, 4, none⟩ = some (.int .u64 (u : Int)) := by unfold World.cell?; rw [hbk]; rfl
          have k5' : wz.cell? ⟨p, 5, none⟩ = some (.int .u64 (v : Int)) := by unfold World.cell?; rw [hbk]; rfl
          have k6' : wz.cell? ⟨p, 6, none⟩ = some (.int .i64 n) := by unfold World.cell?; rw [hbk]; rfl
          have k7' : wz.cell? ⟨p, 7, none⟩ = some (.string kb) := by unfold World.cell?; rw [hbk]; rfl
          have k8' : wz.cell? ⟨p, 8, none⟩ = some (.string eb) := by unfold World.cell?; rw [hbk]; rfl
          have hbd := (HBK.out _ hBd).1
          clear hI hB hp hbk hBr HX z0 z1 z2 z3 z4 z5 z6 z7 z8
          by_cases hne : nameL op = []
          · have hnb : nb.toList = [] := by rw [HNL.out]; exact hne
            have hM := HNE.out hne
            subst hM
            clear HNE HNN HNL hne
            go_wp2_with (go_at_call 28; (with_reducible refine (cname _ hbd).mono ?_); rintro e w4 ⟨rfl, hw⟩; rw [hw]; clear hw w4)
            go_roundg q
            case measure => omega
            case rel => exact ⟨j + 1, by go_num, by omega, by rw [HM2.out]; exact hId, hBd, by omega⟩
          · have hnb : nb.toList.isEmpty = false := by rw [HNL.out]; simpa using hne
            have hnb' : ¬ nb.toList = [] := by rw [HNL.out]; exact hne
            obtain ⟨t1, ht1⟩ : ∃ s, nb ++ rn = s := ⟨_, rfl⟩
            obtain ⟨t2, ht2⟩ : ∃ s, t1 ++ ⟨#[10]⟩ = s := ⟨_, rfl⟩
            have l1 : (⟨#[10]⟩ : ByteArray).size = 1 := rfl
            obtain ⟨z1, x1⟩ := add_run ht1 (by omega)
            obtain ⟨z2, x2⟩ := add_run ht2 (by omega)
            have HN : Aside0 (M ++ t2.data.toList = M2) := ⟨by rw [HNN.out hne, ← ht2, ← ht1]⟩
            have hsum : M.length + t2.size ≤ 140737488355328 := by omega
            clear HNE HNN HNL hne ht1 ht2 l1 z1 z2 hml srn snb
            go_wp2_with (first
              | (go_at_call 28; (with_reducible refine (cname _ hbd).mono ?_); rintro e w4 ⟨rfl, hw⟩; rw [hw]; clear hw w4)
              | (go_at_call 37; (with_reducible refine (cl _ hbd).mono ?_); rintro e wa ⟨rfl, ba⟩; have hIa := hId.below ba; have hBa := below_next' hBd (by omega) ba; have hza := ba.size)
              | (go_at_call 35; (with_reducible refine (writeString_walk (m + 1) (m + 1) M t2 _ hIa hsum (by omega)).mono ?_); rintro e wc ⟨rfl, hIc, bc⟩))
            have hw2 : m + 2 ≤ wc.heap.size := by have := bc.size; omega
            have hBc := hBa.trans bc
            rw [HN.out] at hIc
            clear hBa bc HN hIa hId hBd hza hzd
            go_roundg q
            case measure => omega
            case rel => exact ⟨j + 1, by go_num, by omega, by rw [HM2.out]; exact hIc, hBc, hw2⟩
        · obtain rfl : j = nc := by omega
          have hjl : ¬ (j : Int) < (j : Int) := by omega
          obtain ⟨hBw, _⟩ := HBK.out _ hB
          rw [partC_all (Nat.le_of_eq HR.out.2.1)] at hI
          go_wp2_with (go_at_call 38; (with_reducible refine (Tryd.Builder_String_any_f _ _ _ _ hI (by omega)).mono ?_); rintro e w4 ⟨rfl, _, b4⟩)
          go_ret
          exact ⟨by rw [← HR.out.2.2]; rfl, hBw.trans (b4.mono (by omega))⟩
end Go.Proofs.YtigaacbaaopfmaaDoor.sh
