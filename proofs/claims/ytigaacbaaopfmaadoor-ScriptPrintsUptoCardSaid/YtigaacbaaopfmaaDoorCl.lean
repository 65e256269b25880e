/- The law's cleaned: the script of those commands that have a line: walked. -/
import Derived.Test.YtigaacbaaopfmaaDoorCn
import Derived.Test.YtigaacbaaopfmaaDoorCp
set_option linter.unusedSimpArgs false
namespace Go.Proofs.YtigaacbaaopfmaaDoor.sh
open Go.RowKit
set_option linter.unusedVariables false
theorem new_sv (w : World) (cs : List Value) (T size : Nat) (h : cs.length = size) : SV (w.alloc (.cells cs.toArray T)) size (.slice (some ⟨w.heap.size, 0, none⟩) 1 1) 1 cs :=
  ⟨_, _, w.heap.size, 0, rfl, by omega, .inr rfl, (fun e => by cases e), Nat.le_refl _, fun j u hj => by
    have hb := heap_alloc_new w (.cells cs.toArray T)
    unfold World.cell?
    rw [hb]
    simpa using hj⟩
theorem CmV.snoc {w : World} {cs : List Value} {l : List Cm} {d : Cm} {vf vh : Value} (h : CmV w cs l) (hl : cs.length = l.length * 9) (hf : SV w 1 vf d.fields.length (iv d.fields)) (hh : SV w 1 vh d.hs.length (iv d.hs)) : CmV w (cs ++ cmC d vf vh) (l ++ [d]) := fun i c hc => by
  by_cases hi : i < l.length
  · rw [List.getElem?_append_left hi] at hc
    obtain ⟨a, b, h1, h2, h3⟩ := h i c hc
    exact ⟨a, b, h1, h2, fun t ht => by rw [List.getElem?_append_left (by omega)]; exact h3 t ht⟩
  · rw [List.getElem?_append_right (by omega)] at hc
    have hi2 : i - l.length = 0 := by
      have := (List.getElem?_eq_some_iff.1 hc).1
      simp at this; omega
    rw [hi2] at hc
    simp only [List.getElem?_cons_zero, Option.some.injEq] at hc
    subst hc
    refine ⟨vf, vh, hf, hh, fun t ht => ?_⟩
    rw [List.getElem?_append_right (by omega), show i * 9 + t - cs.length = t by omega]
theorem ite_slice {p : Prop} [Decidable p] (a : Option Addr) (n c : Nat) : ∃ a2 n2 c2, (if p then Value.slice a n c else .slice none 0 0) = .slice a2 n2 c2 := by
  by_cases h : p
  · exact ⟨a, n, c, if_pos h⟩
  · exact ⟨none, 0, 0, if_neg h⟩
theorem nil_sv (w : World) (size : Nat) : SV w size (.slice none 0 0) 0 [] := ⟨none, 0, 0, 0, rfl, by simp, .inl rfl, fun _ => rfl, Nat.le_refl _, fun j u hu => by simp at hu⟩
theorem clC_lists {w : World} {c : Cm} {vf vh : Value} (hf : SV w 1 vf c.fields.length (iv c.fields)) (hh : SV w 1 vh c.hs.length (iv c.hs)) : SV w 1 (if c.op = 1 then vf else .slice none 0 0) (clC c).fields.length (iv (clC c).fields) ∧ SV w 1 (if c.op = 10 then vh else .slice none 0 0) (clC c).hs.length (iv (clC c).hs) := by
  by_cases h1 : c.op = 1
  · have e : clC c = ⟨1, 0, c.fields, [], c.u, 0, c.n, [], []⟩ := by unfold clC; rw [if_pos h1]
    rw [e, if_pos h1, if_neg (by omega)]
    exact ⟨hf, nil_sv _ _⟩
  · by_cases h10 : c.op = 10
    · have e : clC c = ⟨10, 0, [], c.hs, 0, 0, 0, [], []⟩ := by unfold clC; rw [if_neg h1, if_pos h10]
      rw [e, if_neg h1, if_pos h10]
      exact ⟨nil_sv _ _, hh⟩
    · have e : (clC c).fields = [] ∧ (clC c).hs = [] := by
        unfold clC
        rw [if_neg h1, if_neg h10]
        split <;> exact ⟨rfl, rfl⟩
      rw [e.1, e.2, if_neg h1, if_neg h10]
      exact ⟨nil_sv _ _, nil_sv _ _⟩
theorem cmC_one (d : Cm) (a1 a2 : Option Addr) (n1 n2 c1 c2 : Nat) : ∀ u ∈ cmC d (.slice a1 n1 c1) (.slice a2 n2 c2), u.oneCell' = true := by
  intro u hu
  simp [cmC] at hu
  rcases hu with rfl | rfl | rfl | rfl | rfl | rfl | rfl | rfl | rfl <;> rfl
/-- The commands kept of the first i. -/
def keptL (cmds : List Cm) (i : Nat) : List Cm := ((cmds.take i).filter hasLine).map clC
theorem kept_yes {cmds : List Cm} {i : Nat} {c : Cm} (h : cmds[i]? = some c) (hy : hasLine c = true) : keptL cmds (i + 1) = keptL cmds i ++ [clC c] := by
  unfold keptL
  rw [take_next h, List.filter_append, List.map_append]
  simp [hy]
theorem kept_no {cmds : List Cm} {i : Nat} {c : Cm} (h : cmds[i]? = some c) (hy : hasLine c = false) : keptL cmds (i + 1) = keptL cmds i := by
  unfold keptL
  rw [take_next h, List.filter_append, List.map_append]
  simp [hy]
theorem kept_len (cmds : List Cm) (i : Nat) : (keptL cmds i).length ≤ i := by
  unfold keptL
  rw [List.length_map]
  have := List.length_filter_le hasLine (cmds.take i)
  have h2 := List.length_take_le i cmds
  omega
theorem kept_all {cmds : List Cm} {i : Nat} (h : cmds.length ≤ i) : keptL cmds i = (cmds.filter hasLine).map clC := by
  unfold keptL
  rw [List.take_of_length_le h]
/-- When i commands have been looked at. -/
def ClI (w W : World) (m : Nat) (lim : Int) (vo : Value) (cmds : List Cm) (i : Nat) (wr : World) : Prop :=
  ∃ vc cs, wr.heap[m + 2]? = some (.cells #[.int .i64 lim, vo, vc] 30 (0, 0)) ∧ OwnA wr (m + 3) 37 9 vc (keptL cmds i).length cs ∧ CmV w cs (keptL cmds i) ∧ BZ (m + 1) W wr
theorem ClI.next {w W wr w2 : World} {m : Nat} {lim : Int} {vo : Value} {cmds : List Cm} {i : Nat} (h : ClI w W m lim vo cmds i wr) (hb : Below wr.heap.size wr w2) : ClI w W m lim vo cmds i w2 := by
  obtain ⟨vc, cs, h1, h2, h3, h4⟩ := h
  exact ⟨vc, cs, (hb.block _ (Array.getElem?_eq_some_iff.1 h1).1).trans h1, h2.below hb (Nat.le_refl _), h3, h4.next hb⟩
theorem three_allocs (w : World) (A F G : Obj) (k : Nat) (hk : w.heap.size = k) : ∀ W, ((w.alloc A).alloc F).alloc G = W →
    W.heap[k]? = some A ∧ W.heap[k + 1]? = some F ∧ W.heap[k + 2]? = some G ∧ W.heap.size = k + 3 ∧ Below k w W := by
  rintro W rfl
  obtain ⟨h1, h2, h3, h4⟩ := two_allocs w A F k hk _ rfl
  have hn := heap_alloc_new ((w.alloc A).alloc F) G
  rw [h3] at hn
  refine ⟨?_, ?_, hn, by rw [alsize, h3], h4.alloc (by omega) _⟩
  · rw [heap_alloc_old _ _ (by omega)]; exact h1
  · rw [heap_alloc_old _ _ (by omega)]; exact h2
set_option maxHeartbeats 8000000 in
set_option maxRecDepth 100000 in
theorem cleaned_walk (w : World) (s : Sc) (ok : s.Ok) (v : Value) (h : ScV w v s) :
    Calls Tryd.prog 23 #[v] w fun e w' => ∃ v', e = .returned v' ∧ ScV w' v' (cleanS s) ∧ Below w.heap.size w w' := by
  obtain ⟨_, _, cs, rfl, ⟨a1, c1, g1, o1, rfl, p1⟩, ⟨b1, d1, k1, q1, rfl, r1⟩, m1⟩ := h
  have HO : Aside0 (SW w 2 a1 s.over.length c1 g1 o1 (ovC s.over)) := ⟨p1⟩
  have HC : Aside0 (SW w 9 b1 s.cmds.length d1 k1 q1 cs ∧ CmV w cs s.cmds) := ⟨r1, m1⟩
  clear p1 r1 m1
  obtain ⟨no, hno⟩ : ∃ n, s.over.length = n := ⟨_, rfl⟩
  obtain ⟨nc, hnc⟩ : ∃ n, s.cmds.length = n := ⟨_, rfl⟩
  have hno2 : no ≤ 3000000 := by have := ovsW_len s.over; have := ok.wt; omega
  have hnc2 : nc ≤ 3000000 := by have := cmsW_len s.cmds; have := ok.wt; omega
  rw [hno] at HO ⊢
  rw [hnc] at HC ⊢
  have HR : Aside0 (s.over.length = no ∧ s.cmds.length = nc) := ⟨hno, hnc⟩
  obtain ⟨m, hm⟩ : ∃ m, w.heap.size = m := ⟨_, rfl⟩
  obtain ⟨Q, hQ⟩ : ∃ Q : Ending → World → Prop, (fun e w' => ∃ v', e = .returned v' ∧ ScV w' v' (cleanS s) ∧ Below w.heap.size w w') = Q := ⟨_, rfl⟩
  have HQ : Aside0 (∀ v' w', ScV w' v' (cleanS s) → Below m w w' → Q (.returned v') w') := ⟨fun v' w' h1 h2 => by rw [← hQ]; exact ⟨v', rfl, h1, by rw [hm]; exact h2⟩⟩
  rw [hQ]
  obtain ⟨lim, hlim⟩ : ∃ x, s.limit = x := ⟨_, rfl⟩
  have HLM : Aside0 (s.limit = lim) := ⟨hlim⟩
  rw [hlim]
  clear hno hnc ok hQ hlim
  have HWX := three_allocs w (.cells #[.int .i64 lim, .slice a1 no c1, .slice b1 nc d1] 30) (.cells zero30 30) (.cells #[.int .i64 lim, .slice a1 no c1, .slice none 0 0] 30) m hm
  have HM : Aside0 (w.heap.size = m) := ⟨hm⟩
  unfold zero30 at HWX
  go_enter Tryd.func23, Tryd.ntmps23
  go_upto_region 2 with fail
  generalize hW : ((w.alloc (.cells #[.int .i64 lim, .slice a1 no c1, .slice b1 nc d1] 30)).alloc (.cells #[.int .i64 0, .slice none 0 0, .slice none 0 0] 30)).alloc (.cells #[.int .i64 lim, .slice a1 no c1, .slice none 0 0] 30) = W
  obtain ⟨hbk, hb2, hb3, hz, hB⟩ := HWX W hW
  clear hW HWX hm
  have HBW : Aside0 (∀ w', BZ (m + 1) W w' → Below w.heap.size w w') := ⟨fun w' h => by rw [HM.out]; exact hB.trans (h.1.mono (by omega))⟩
  have HB2 : Aside0 (W.heap[m + 1]? = some (.cells #[.int .i64 0, .slice none 0 0, .slice none 0 0] 30 (0, 0))) := ⟨hb2⟩
  have k2 : W.cell? ⟨m, 2, none⟩ = some (.slice b1 nc d1) := by unfold World.cell?; rw [hbk]; rfl
  have hI0 : ClI w W m lim (.slice a1 no c1) s.cmds 0 W := ⟨.slice none 0 0, [], hb3, by unfold keptL; simpa using OwnA.bare W (m + 3) 37 9 none, fun i c hc => by simp [keptL] at hc, ⟨Below.refl _ _, by omega⟩⟩
  clear hbk hb2 hb3 hB hz
  go_wp2
  go_loopg [16] nc (fun q v16 wr => ∃ i : Nat, v16 = .int .i64 i ∧ i + q = nc ∧ ClI w W m lim (.slice a1 no c1) s.cmds i wr)
  case atStart => exact ⟨0, rfl, by omega, hI0⟩
  case round =>
    clear hI0 k2
    obtain ⟨i, rfl, hiq, hI⟩ := hrel
    by_cases hi : i < nc
    · obtain ⟨q, rfl⟩ : ∃ q, gk = q + 1 := ⟨gk - 1, by omega⟩
      have hil : (i : Int) < (nc : Int) := by omega
      obtain ⟨hp, hcm⟩ := HC.out
      have hBw := HBW.out _ hI.choose_spec.choose_spec.2.2.2
      obtain ⟨x, hx⟩ : ∃ x, s.cmds[i]? = some x := ⟨_, List.getElem?_eq_getElem (by rw [HR.out.2]; exact hi)⟩
      obtain ⟨vf, vh, u1, u2, e1⟩ := hcm i x hx
      have hcs := (hp.below hBw (Nat.le_refl _)).cells
      obtain rfl : b1 = some ⟨k1, q1, none⟩ := by rcases hp.lead with h | h; omega; exact h
      have hls := clC_lists u1 u2
      obtain ⟨af, cf, gf, of', rfl, -⟩ := u1
      obtain ⟨ah, ch, gh, oh, rfl, -⟩ := u2
      have cl := fun wq => clean_walk wq x af ah x.fields.length cf x.hs.length ch
      unfold clV at cl
      obtain ⟨a2, n2, c2, q2⟩ := ite_slice (p := x.op = 1) af x.fields.length cf
      obtain ⟨a3, n3, c3, q3⟩ := ite_slice (p := x.op = 10) ah x.hs.length ch
      rw [q2, q3] at cl
      rw [q2, q3] at hls
      have HLS : Aside0 (SV w 1 (.slice a2 n2 c2) (clC x).fields.length (iv (clC x).fields) ∧ SV w 1 (.slice a3 n3 c3) (clC x).hs.length (iv (clC x).hs)) := ⟨hls⟩
      have HKY : Aside0 (hasLine x = true → keptL s.cmds (i + 1) = keptL s.cmds i ++ [clC x]) := ⟨kept_yes hx⟩
      have HKN : Aside0 (hasLine x = false → keptL s.cmds (i + 1) = keptL s.cmds i) := ⟨kept_no hx⟩
      have hkl := kept_len s.cmds i
      clear hx hp hcm hls q2 q3 hBw
      have z0 := hcs _ _ ((e1 0 (by omega)).trans rfl)
      have z1 := hcs _ _ ((e1 1 (by omega)).trans rfl)
      have z2 := hcs _ _ ((e1 2 (by omega)).trans rfl)
      have z3 := hcs _ _ ((e1 3 (by omega)).trans rfl)
      have z4 := hcs _ _ ((e1 4 (by omega)).trans rfl)
      have z5 := hcs _ _ ((e1 5 (by omega)).trans rfl)
      have z6 := hcs _ _ ((e1 6 (by omega)).trans rfl)
      have z7 := hcs _ _ ((e1 7 (by omega)).trans rfl)
      have z8 := hcs _ _ ((e1 8 (by omega)).trans rfl)
      simp only [← Nat.add_assoc, Nat.add_zero] at z0 z1 z2 z3 z4 z5 z6 z7 z8
      clear hcs e1
      obtain ⟨d, hd⟩ : ∃ d, clC x = d := ⟨_, rfl⟩
      rw [hd] at HLS HKY cl
      clear hd
      cases hhas : hasLine x with
      | false =>
        rw [hhas, if_neg (by simp)] at cl
        have HK := HKN.out hhas
        clear HKN HKY HLS hhas
        obtain ⟨op, h, fields, hs, u, v, n, key, elem⟩ := x
        unfold cmV at cl
        dsimp only at *
        generalize fields.length = nf at *
        generalize hs.length = nh at *
        generalize B key = kb at *
        generalize B elem = eb at *
        obtain ⟨p, hp⟩ : ∃ p, wr.heap.size = p := ⟨_, rfl⟩
        have HX := round_new2 (.cells #[.int .i64 op, .int .i64 h, .slice af nf cf, .slice ah nh ch, .int .u64 (u : Int), .int .u64 (v : Int), .int .i64 n, .string kb, .string eb] 37) (Below.refl wr.heap.size wr) (Nat.le_refl _) hp
        go_upto_region 5 with fail
        generalize wr.alloc (.cells #[.int .i64 op, .int .i64 h, .slice af nf cf, .slice ah nh ch, .int .u64 (u : Int), .int .u64 (v : Int), .int .i64 n, .string kb, .string eb] 37) = wz at HX ⊢
        obtain ⟨hzd, hbk, hBr, -⟩ := HX wz rfl
        have hIz := hI.next hBr
        have k0 : wz.cell? ⟨p, 0, none⟩ = some (.int .i64 op) := by unfold World.cell?; rw [hbk]; rfl
        have k1' : wz.cell? ⟨p, 1, none⟩ = some (.int .i64 h) := by unfold World.cell?; rw [hbk]; rfl
        have k2 : wz.cell? ⟨p, 2, none⟩ = some (.slice af nf cf) := by unfold World.cell?; rw [hbk]; rfl
        have k3 : wz.cell? ⟨p, 3, none⟩ = some (.slice ah nh ch) := by unfold World.cell?; rw [hbk]; rfl
        have k4 : wz.cell? ⟨p, 4, none⟩ = some (.int .u64 (u : Int)) := by unfold World.cell?; rw [hbk]; rfl
        have k5 : wz.cell? ⟨p, 5, none⟩ = some (.int .u64 (v : Int)) := by unfold World.cell?; rw [hbk]; rfl
        have k6 : wz.cell? ⟨p, 6, none⟩ = some (.int .i64 n) := by unfold World.cell?; rw [hbk]; rfl
        have k7 : wz.cell? ⟨p, 7, none⟩ = some (.string kb) := by unfold World.cell?; rw [hbk]; rfl
        have k8 : wz.cell? ⟨p, 8, none⟩ = some (.string eb) := by unfold World.cell?; rw [hbk]; rfl
        clear hI hp hbk hBr HX z0 z1 z2 z3 z4 z5 z6 z7 z8
        go_wp2_with (go_at_call 50; (with_reducible refine (cl _).mono ?_); rintro e wa ⟨rfl, ba⟩; have hIa := hIz.next ba)
        go_roundg q
        case measure => omega
        case rel => exact ⟨i + 1, by go_num, by omega, by unfold ClI; rw [HK]; exact hIa.next ((Below.refl _ wa).alloc (Nat.le_refl _) _)⟩
      | true =>
        rw [hhas, if_pos rfl] at cl
        have HK : Aside0 (keptL s.cmds (i + 1) = keptL s.cmds i ++ [d]) := ⟨HKY.out hhas⟩
        clear HKN HKY hhas
        obtain ⟨op, h, fields, hs, u, v, n, key, elem⟩ := x
        unfold cmV at cl
        dsimp only at *
        generalize fields.length = nf at *
        generalize hs.length = nh at *
        generalize B key = kb at *
        generalize B elem = eb at *
        have HD : Aside0 (∃ dop dh du dv dn dk de, cmC d (.slice a2 n2 c2) (.slice a3 n3 c3) = [.int .i64 dop, .int .i64 dh, .slice a2 n2 c2, .slice a3 n3 c3, .int .u64 (du : Int), .int .u64 (dv : Int), .int .i64 dn, .string dk, .string de]) := ⟨⟨d.op, d.h, ((d.u : Nat) : Int), ((d.v : Nat) : Int), d.n, B d.key, B d.elem, rfl⟩⟩
        clear HD
        obtain ⟨dop, hdop⟩ : ∃ x, d.op = x := ⟨_, rfl⟩
        obtain ⟨dh, hdh⟩ : ∃ x, d.h = x := ⟨_, rfl⟩
        obtain ⟨du, hdu⟩ : ∃ x, d.u = x := ⟨_, rfl⟩
        obtain ⟨dv, hdv⟩ : ∃ x, d.v = x := ⟨_, rfl⟩
        obtain ⟨dn, hdn⟩ : ∃ x, d.n = x := ⟨_, rfl⟩
        obtain ⟨dk, hdk⟩ : ∃ x, B d.key = x := ⟨_, rfl⟩
        obtain ⟨de, hde⟩ : ∃ x, B d.elem = x := ⟨_, rfl⟩
        have HCE : Aside0 (cmC d (.slice a2 n2 c2) (.slice a3 n3 c3) = [.int .i64 dop, .int .i64 dh, .slice a2 n2 c2, .slice a3 n3 c3, .int .u64 (du : Int), .int .u64 (dv : Int), .int .i64 dn, .string dk, .string de]) := ⟨by unfold cmC; rw [hdop, hdh, hdu, hdv, hdn, hdk, hde]⟩
        rw [hdop, hdh, hdu, hdv, hdn, hdk, hde] at cl
        clear hdop hdh hdu hdv hdn hdk hde
        obtain ⟨p, hp⟩ : ∃ p, wr.heap.size = p := ⟨_, rfl⟩
        have HX := round_new2 (.cells #[.int .i64 op, .int .i64 h, .slice af nf cf, .slice ah nh ch, .int .u64 (u : Int), .int .u64 (v : Int), .int .i64 n, .string kb, .string eb] 37) (Below.refl wr.heap.size wr) (Nat.le_refl _) hp
        go_upto_region 5 with fail
        generalize wr.alloc (.cells #[.int .i64 op, .int .i64 h, .slice af nf cf, .slice ah nh ch, .int .u64 (u : Int), .int .u64 (v : Int), .int .i64 n, .string kb, .string eb] 37) = wz at HX ⊢
        obtain ⟨hzd, hbk, hBr, -⟩ := HX wz rfl
        have hIz := hI.next hBr
        have k0 : wz.cell? ⟨p, 0, none⟩ = some (.int .i64 op) := by unfold World.cell?; rw [hbk]; rfl
        have k1' : wz.cell? ⟨p, 1, none⟩ = some (.int .i64 h) := by unfold World.cell?; rw [hbk]; rfl
        have k2 : wz.cell? ⟨p, 2, none⟩ = some (.slice af nf cf) := by unfold World.cell?; rw [hbk]; rfl
        have k3 : wz.cell? ⟨p, 3, none⟩ = some (.slice ah nh ch) := by unfold World.cell?; rw [hbk]; rfl
        have k4 : wz.cell? ⟨p, 4, none⟩ = some (.int .u64 (u : Int)) := by unfold World.cell?; rw [hbk]; rfl
        have k5 : wz.cell? ⟨p, 5, none⟩ = some (.int .u64 (v : Int)) := by unfold World.cell?; rw [hbk]; rfl
        have k6 : wz.cell? ⟨p, 6, none⟩ = some (.int .i64 n) := by unfold World.cell?; rw [hbk]; rfl
        have k7 : wz.cell? ⟨p, 7, none⟩ = some (.string kb) := by unfold World.cell?; rw [hbk]; rfl
        have k8 : wz.cell? ⟨p, 8, none⟩ = some (.string eb) := by unfold World.cell?; rw [hbk]; rfl
        clear hI hp hbk hBr HX z0 z1 z2 z3 z4 z5 z6 z7 z8 hzd
        go_upto_region 6 with (go_at_call 50; (with_reducible refine (cl _).mono ?_); rintro e wa ⟨rfl, ba⟩; have hIa := hIz.next ba)
        clear k0 k1' k2 k3 k4 k5 k6 k7 k8 hIz ba cl
        obtain ⟨p2, hp2⟩ : ∃ p, wa.heap.size = p := ⟨_, rfl⟩
        have HX := round_new2 (.cells #[.int .i64 dop, .int .i64 dh, .slice a2 n2 c2, .slice a3 n3 c3, .int .u64 (du : Int), .int .u64 (dv : Int), .int .i64 dn, .string dk, .string de] 37) (Below.refl wa.heap.size wa) (Nat.le_refl _) hp2
        rw [hp2]
        generalize wa.alloc (.cells #[.int .i64 dop, .int .i64 dh, .slice a2 n2 c2, .slice a3 n3 c3, .int .u64 (du : Int), .int .u64 (dv : Int), .int .i64 dn, .string dk, .string de] 37) = wb at HX ⊢
        obtain ⟨hzd, hbk, hBr, -⟩ := HX wb rfl
        have hIb := hIa.next hBr
        have j0 : wb.cell? ⟨p2, 0, none⟩ = some (.int .i64 dop) := by unfold World.cell?; rw [hbk]; rfl
        have j1 : wb.cell? ⟨p2, 1, none⟩ = some (.int .i64 dh) := by unfold World.cell?; rw [hbk]; rfl
        have j2 : wb.cell? ⟨p2, 2, none⟩ = some (.slice a2 n2 c2) := by unfold World.cell?; rw [hbk]; rfl
        have j3 : wb.cell? ⟨p2, 3, none⟩ = some (.slice a3 n3 c3) := by unfold World.cell?; rw [hbk]; rfl
        have j4 : wb.cell? ⟨p2, 4, none⟩ = some (.int .u64 (du : Int)) := by unfold World.cell?; rw [hbk]; rfl
        have j5 : wb.cell? ⟨p2, 5, none⟩ = some (.int .u64 (dv : Int)) := by unfold World.cell?; rw [hbk]; rfl
        have j6 : wb.cell? ⟨p2, 6, none⟩ = some (.int .i64 dn) := by unfold World.cell?; rw [hbk]; rfl
        have j7 : wb.cell? ⟨p2, 7, none⟩ = some (.string dk) := by unfold World.cell?; rw [hbk]; rfl
        have j8 : wb.cell? ⟨p2, 8, none⟩ = some (.string de) := by unfold World.cell?; rw [hbk]; rfl
        clear hIa hp2 hbk hBr HX hzd
        obtain ⟨vc, cs2, h1, h2, h3, h4⟩ := hIb
        obtain ⟨ac, cc, rfl⟩ := h2.slice
        have t2 : wb.cell? ⟨m + 1 + 1, 2, none⟩ = some (.slice ac (keptL s.cmds i).length cc) := by unfold World.cell?; rw [h1]; rfl
        have hlt := (Array.getElem?_eq_some_iff.1 h1).1
        have H1 : Aside0 (wb.heap[m + 2]? = some (.cells #[.int .i64 lim, .slice a1 no c1, .slice ac (keptL s.cmds i).length cc] 30 (0, 0))) := ⟨h1⟩
        have hsv : SV (wb.alloc (.cells #[.int .i64 dop, .int .i64 dh, .slice a2 n2 c2, .slice a3 n3 c3, .int .u64 (du : Int), .int .u64 (dv : Int), .int .i64 dn, .string dk, .string de] 37)) 9 (.slice (some ⟨wb.heap.size, 0, none⟩) 1 1) 1 [.int .i64 dop, .int .i64 dh, .slice a2 n2 c2, .slice a3 n3 c3, .int .u64 (du : Int), .int .u64 (dv : Int), .int .i64 dn, .string dk, .string de] := new_sv wb [.int .i64 dop, .int .i64 dh, .slice a2 n2 c2, .slice a3 n3 c3, .int .u64 (du : Int), .int .u64 (dv : Int), .int .i64 dn, .string dk, .string de] 37 9 rfl
        have hone : ∀ u ∈ ([.int .i64 dop, .int .i64 dh, .slice a2 n2 c2, .slice a3 n3 c3, .int .u64 (du : Int), .int .u64 (dv : Int), .int .i64 dn, .string dk, .string de] : List Value), u.oneCell' = true := by rw [← HCE.out]; exact cmC_one d _ _ _ _ _ _
        have HKL : Aside0 (keptL s.cmds i = keptL s.cmds i) := ⟨rfl⟩
        obtain ⟨nk, hnk⟩ : ∃ n, (keptL s.cmds i).length = n := ⟨_, rfl⟩
        have HNK : Aside0 ((keptL s.cmds i).length = nk) := ⟨hnk⟩
        rw [hnk] at hkl h2 t2 H1
        have H3 : Aside0 (CmV w cs2 (keptL s.cmds i)) := ⟨h3⟩
        have hbz := h4.next ((Below.refl _ wb).alloc (Nat.le_refl _) (.cells #[.int .i64 dop, .int .i64 dh, .slice a2 n2 c2, .slice a3 n3 c3, .int .u64 (du : Int), .int .u64 (dv : Int), .int .i64 dn, .string dk, .string de] 37))
        clear hnk h1 h3 HKL
        have h2' := h2.alloc (.cells #[.int .i64 dop, .int .i64 dh, .slice a2 n2 c2, .slice a3 n3 c3, .int .u64 (du : Int), .int .u64 (dv : Int), .int .i64 dn, .string dk, .string de] 37)
        have own30 : ∀ g, rowOf (Value.slice ac nk cc) = some g → g ≠ m + 2 := fun g hg e => by
          have := (h2.lt g hg).1
          omega
        have hal : (wb.alloc (.cells #[.int .i64 dop, .int .i64 dh, .slice a2 n2 c2, .slice a3 n3 c3, .int .u64 (du : Int), .int .u64 (dv : Int), .int .i64 dn, .string dk, .string de] 37)).heap[m + 2]? = some (.cells #[.int .i64 lim, .slice a1 no c1, .slice ac nk cc] 30 (0, 0)) := (heap_alloc_old wb _ hlt).trans H1.out
        have hls : m + 3 ≤ wb.heap.size := hlt
        have hbz2 : m + 3 ≤ (wb.alloc (.cells #[.int .i64 dop, .int .i64 dh, .slice a2 n2 c2, .slice a3 n3 c3, .int .u64 (du : Int), .int .u64 (dv : Int), .int .i64 dn, .string dk, .string de] 37)).heap.size := by rw [alsize]; omega
        go_wp2_with (at_builtin; refine wpList_append_sv rfl (.tmp 27) (.tmp 29) rfl Tryd.underlying28 info37 rfl (by decide) (m + 3) nk (.slice ac nk cc) cs2 rfl h2' _ 1 [.int .i64 dop, .int .i64 dh, .slice a2 n2 c2, .slice a3 n3 c3, .int .u64 (du : Int), .int .u64 (dv : Int), .int .i64 dn, .string dk, .string de] rfl hsv hone (by unfold maxLen; omega) (by omega) hbz2 ?_; intro v5 w5 own5 gr5 at5; obtain ⟨a5, c5, rfl⟩ := own5.slice; have hb5 := (gr5.block (m + 2) (by rw [alsize]; omega) (fun e => own30 _ e.symm rfl)).trans hal; have t5 : w5.cell? ⟨m + 1 + 1, 2, none⟩ = some (.slice ac nk cc) := (by unfold World.cell?; rw [hb5]; rfl); have f5 : w5.frozen? ⟨m + 1 + 1, 2, none⟩ = false := (by unfold World.frozen?; rw [hb5]; rfl))
        go_roundg q
        case measure => omega
        case rel =>
          have hB5 : BZ (m + 1) W w5 := ⟨hbz.1.grown gr5 hbz.2 (fun k hk => by have := (h2.lt k hk).1; omega), by have := gr5.size; rw [alsize] at this; omega⟩
          refine ⟨i + 1, by go_num, by omega, .slice a5 (nk + 1) c5, cs2 ++ cmC d (.slice a2 n2 c2) (.slice a3 n3 c3), set_blk hb5, ?_, ?_, below_set hB5.1 (by omega) _, by have := hB5.2; simpa using this⟩
          · rw [HK.out, List.length_append, HNK.out, HCE.out]
            refine own5.set (fun e => ?_)
            obtain ⟨q1, q2, q3⟩ := own5.type _ e
            rw [hb5] at q3
            simp only [Option.some.injEq, Obj.cells.injEq] at q3
            exact absurd q3.2.1 (by decide)
          · rw [HK.out]
            exact H3.out.snoc (by rw [HNK.out]; exact h2.1) HLS.out.1 HLS.out.2
    · obtain rfl : i = nc := by omega
      have hil : ¬ (i : Int) < (i : Int) := by omega
      obtain ⟨vc, cs2, h1, h2, h3, h4⟩ := hI
      obtain ⟨ac, cc, rfl⟩ := h2.slice
      rw [kept_all (Nat.le_of_eq HR.out.2)] at h1 h2 h3
      have hres : wr.heap[m + 1]? = some (.cells #[.int .i64 0, .slice none 0 0, .slice none 0 0] 30 (0, 0)) := (h4.1.block (m + 1) (by omega)).trans HB2.out
      obtain ⟨nk, hnk⟩ : ∃ n, ((s.cmds.filter hasLine).map clC).length = n := ⟨_, rfl⟩
      have hbl : Below m w (wr.setRow (m + 1) #[.int .i64 lim, .slice a1 no c1, .slice ac nk cc]) := by
        have e := HBW.out wr h4
        rw [HM.out] at e
        exact e.trans ⟨rfl, rfl, rfl, by simp, fun z hz => setRow_other wr (m + 1) z _ (by omega)⟩
      have hfin : Aside0 (ScV (wr.setRow (m + 1) #[.int .i64 lim, .slice a1 no c1, .slice ac nk cc]) (.agg #[.int .i64 lim, .slice a1 no c1, .slice ac nk cc]) (cleanS s)) := ⟨by
        refine ⟨.slice a1 no c1, .slice ac nk cc, cs2, by show _ = Value.agg #[.int .i64 s.limit, _, _]; rw [HLM.out], ?_, ?_, ?_⟩
        · show SV _ 2 _ s.over.length (ovC s.over)
          rw [HR.out.1]
          exact ⟨_, _, _, _, rfl, HO.out.below hbl (by rw [HM.out]; exact Nat.le_refl _)⟩
        · rw [← hnk]
          exact (h2.keep (fun g hg => setRow_other wr (m + 1) g _ (by have := (h2.lt g hg).1; omega))).sv
        · exact h3.below hbl (by rw [HM.out]; exact Nat.le_refl _)⟩
      rw [hnk] at h1 h2
      clear hnk h3 h2
      go_wp2_with (first
        | (refine wpList_load_row rfl _ _ rfl (m + 2) rfl 30 _ _ _ h1 Tryd.underlying30 rfl size30 ?_)
        | (refine wpList_store_row rfl _ _ _ rfl (m + 1) _ rfl rfl 30 _ hres size30 rfl (all_30 _ a1 ac _ _ c1 cc) ?_))
      refine bodyPost_ret ?_ rfl (HQ.out _ _ hfin.out hbl)
      exact results_cell_row rfl _ _ (m + 1) 30 #[.int .i64 lim, .slice a1 no c1, .slice ac nk cc] (0, 0) _ rfl (setRow_heap _ _ _ _ _ _ hres) Tryd.underlying30 rfl size30
end Go.Proofs.YtigaacbaaopfmaaDoor.sh
