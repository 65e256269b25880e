/- The document's list of a program's parts, walked. -/
import Derived.Test.YthkmdmobeadigaaDoorLq
import Derived.Test.YthkmdmobeadigaaDoorXd
import Derived.IntWalk
namespace Go.Proofs.YthkmdmobeadigaaDoor.lg
open Go.RowKit
set_option linter.unusedVariables false
set_option linter.unusedSimpArgs false
theorem info71 : (Tryd.prog.info? 71).map (fun i => (i.zero, i.size, i.bytes)) = some (some (.agg #[.int .i64 0, .string ⟨#[]⟩, .string ⟨#[]⟩, .string ⟨#[]⟩, .slice none 0 0, .slice none 0 0, .slice none 0 0, .int .i64 0, .int .i64 0, .string ⟨#[]⟩, .string ⟨#[]⟩, .slice none 0 0, .bool false, .int .i64 0, .bool false]), 15, 224) := by kernel_rfl
/-- What Parts leaves: the parts lie there, and are all. -/
def PartsP (w : World) (s : Sts) (e : Ending) (w' : World) : Prop :=
  ∃ v L xs, e = .returned v ∧ OwnA w' w.heap.size 71 15 v L.length xs ∧ FC (fun _ => True) w' xs L ∧ Below w.heap.size w w' ∧ L.length ≤ s.cnt ∧ (∀ (j : Nat) (f : Fp), L[j]? = some f → f.d ≤ j + 1) ∧ ∀ Q : Part → Prop, (∀ p ∈ L.map Fp.part, Q p) ↔ allS Q s 1 false
set_option maxHeartbeats 8000000 in
set_option maxRecDepth 100000 in
theorem parts_walk (vm vs : Value) (s : Sts) (P : Nat → Prop) (w : World) (hm : s.wt ≤ 3000000) (hvm : ∃ a n c, vm = .slice a n c) (hS : HS P w vs s) : Calls Tryd.prog 30 #[.agg #[vm, vs]] w (PartsP w s) := by
  obtain ⟨am, nm, cm, rfl⟩ := hvm
  obtain ⟨as1, cs, bs, os, rfl, hd, hL⟩ := hS
  have hcw := s.cnt_wt
  have hlw := s.len_wt
  obtain ⟨ns, hns⟩ : ∃ n, s.len = n := ⟨_, rfl⟩
  obtain ⟨T, hT⟩ : ∃ n, s.cnt = n := ⟨_, rfl⟩
  have hT3 : T ≤ 3000000 := by omega
  have hns3 : ns ≤ 3000000 := by omega
  have HIN : Aside0 (LSs P w bs os s ∧ Hd as1 s.len cs bs os ∧ s.len = ns ∧ s.cnt = T ∧ s.wt ≤ 3000000) := ⟨hL, hd, hns, hT, hm⟩
  obtain ⟨m, hmm⟩ : ∃ m, w.heap.size = m := ⟨_, rfl⟩
  obtain ⟨W1, hW1⟩ : ∃ W, w.alloc (.cells #[.slice am nm cm, .slice as1 ns cs] 25) = W := ⟨_, rfl⟩
  have hs1 : W1.heap.size = m + 1 := by rw [← hW1, ← hmm]; simp
  have hB1 : Below w.heap.size w W1 := by rw [← hW1]; exact (Below.refl _ _).alloc (Nat.le_refl _) _
  have b1 : W1.cell? ⟨m, 1, none⟩ = some (.slice as1 ns cs) := by rw [← hW1, ← hmm]; simp
  have HB1 : Aside0 (Below w.heap.size w W1 ∧ W1.heap.size = m + 1 ∧ w.heap.size = m ∧ W1.cell? ⟨m, 1, none⟩ = some (.slice as1 ns cs)) := ⟨hB1, hs1, hmm, b1⟩
  have HL1 : Aside0 (LSs P W1 bs os s) := ⟨hL.below hB1 (Nat.le_refl _)⟩
  obtain ⟨Q, hQ⟩ : ∃ Q, PartsP w s = Q := ⟨_, rfl⟩
  have HQ : Aside0 (∀ v L xs w', OwnA w' w.heap.size 71 15 v L.length xs → FC (fun _ => True) w' xs L → Below w.heap.size w w' → L.length ≤ s.cnt → (∀ (j : Nat) (f : Fp), L[j]? = some f → f.d ≤ j + 1) → (∀ Q : Part → Prop, (∀ p ∈ L.map Fp.part, Q p) ↔ allS Q s 1 false) → Q (.returned v) w') := ⟨fun v L xs w' h1 h2 h3 h4 h5 h6 => by rw [← hQ]; exact ⟨v, L, xs, rfl, h1, h2, h3, h4, h5, h6⟩⟩
  have HJ0 : Aside0 (∃ xs, PJ W1 P (.slice none 0 0) [] xs W1) := ⟨[], OwnA.bare _ _ _ _ _, FC.nil _ _, Below.refl _ _⟩
  have HI0 : Aside0 (Inv s [] 0 (fun Q => allS Q (s.drop 0) 1 false ∧ True) ((s.drop 0).cnt + 0)) := ⟨((Inv.start s).to (fun Q => by simp) rfl).begS⟩
  rw [hns, hQ]
  clear hQ hL hd hns hT hm hcw hlw hs1 hB1 b1
  go_enter Tryd.func30, Tryd.ntmps30
  go_wp2
  clear hW1
  go_loopg [3, 4] ns (fun g v3 v4 wr => ∃ (i : Nat) (L : List Fp) (ao : Option Addr) (c : Nat), v4 = .int .i64 (i : Int) ∧ v3 = .slice ao L.length c ∧ i + g = ns ∧ Aside0 (∃ xs, PJ W1 P (.slice ao L.length c) L xs wr) ∧ Aside0 (Inv s L 0 (fun Q => allS Q (s.drop i) 1 false ∧ True) ((s.drop i).cnt + 0)))
  case atStart => exact ⟨0, [], none, 0, rfl, rfl, by omega, HJ0, HI0⟩
  case round =>
    obtain ⟨i, L, ao, c, rfl, rfl, hig, hJ, hI⟩ := hrel
    clear HJ0 HI0
    obtain ⟨xs, hP⟩ := hJ.out
    have hbx : wr.cell? ⟨m, 1, none⟩ = some (.slice as1 ns cs) := cell_below HB1.out.2.2.2 hP.bel (Nat.le_refl _)
    obtain ⟨n, hn⟩ : ∃ n, L.length = n := ⟨_, rfl⟩
    have hn3 : n ≤ 3000000 := by have := hI.out.len; have := HIN.out.2.2.2.1; omega
    by_cases hi : i < ns
    · have hlt : (i : Int) < (ns : Int) := by omega
      obtain ⟨q, rfl⟩ : ∃ q, gk = q + 1 := ⟨gk - 1, by omega⟩
      obtain ⟨y, hy⟩ := Sts.get_lt (l := s) (j := i) (by rw [HIN.out.2.2.1]; exact hi)
      obtain ⟨-, y1, y2, y3, y4, ⟨ve, y5, hve⟩, ⟨vb, y6, hvb⟩, ⟨vf, y7, hvf⟩⟩ := HL1.out.at hy
      replace y1 := cell_below y1 hP.bel (Nat.le_refl _)
      replace y2 := cell_below y2 hP.bel (Nat.le_refl _)
      replace y3 := cell_below y3 hP.bel (Nat.le_refl _)
      replace y4 := cell_below y4 hP.bel (Nat.le_refl _)
      replace y5 := cell_below y5 hP.bel (Nat.le_refl _)
      replace y6 := cell_below y6 hP.bel (Nat.le_refl _)
      replace y7 := cell_below y7 hP.bel (Nat.le_refl _)
      have e1 : ∃ ao c, ve = .slice ao y.exprs.len c := by obtain ⟨ao, c, _, _, e, _⟩ := hve; exact ⟨ao, c, e⟩
      have e2 : ∃ ao c, vb = .slice ao y.body.len c := by obtain ⟨ao, c, _, _, e, _⟩ := hvb; exact ⟨ao, c, e⟩
      have e3 : ∃ ao c, vf = .slice ao y.els.len c := by obtain ⟨ao, c, _, _, e, _⟩ := hvf; exact ⟨ao, c, e⟩
      obtain ⟨s1, r1, rfl⟩ := e1
      obtain ⟨s2, r2, rfl⟩ := e2
      obtain ⟨s3, r3, rfl⟩ := e3
      have hao : as1 = some ⟨bs, os, none⟩ := by rcases HIN.out.2.1.lead with e | e; (have := HIN.out.2.2.1; omega); exact e
      have hFL : FL P W1 (Fp.ofS y 1 false) (.slice s1 y.exprs.len r1) (.slice s2 y.body.len r2) (.slice s3 y.els.len r3) (.slice none 0 0) := FL.ofS hve hvb hvf
      have HN : Aside0 (Inv s (L ++ [Fp.ofS y 1 false]) 0 (fun Q => allS Q (s.drop (i + 1)) 1 false ∧ True) ((s.drop (i + 1)).cnt + 0)) := ⟨hI.out.pushS hy (by omega)⟩
      obtain ⟨yk, yn, ykey, yval, ye, yb, yf⟩ := y
      simp only at y1 y2 y3 y4 y5 y6 y7 hFL
      have HPP : Aside0 (PJ W1 P (.slice ao L.length c) L xs wr ∧ FL P W1 (Fp.ofS ⟨yk, yn, ykey, yval, ye, yb, yf⟩ 1 false) (.slice s1 ye.len r1) (.slice s2 yb.len r2) (.slice s3 yf.len r3) (.slice none 0 0) ∧ L.length = n) := ⟨hP, hFL, hn⟩
      have hown := hP.own
      have hone := hFL.one
      have hsz : W1.heap.size ≤ wr.heap.size := hP.bel.size
      rw [hn] at hown ⊢
      subst hao
      clear hy hve hvb hvf hP hFL hI hJ hn
      go_wp2_with (at_builtin; refine wpList_newA (w := wr) rfl (.tmp 19) (.tmp 26) rfl Tryd.underlying67 info71 rfl (by decide) W1.heap.size n _ xs 1 1 (Fp.cells (Fp.ofS ⟨yk, yn, ykey, yval, ye, yb, yf⟩ 1 false) (.slice s1 ye.len r1) (.slice s2 yb.len r2) (.slice s3 yf.len r3) (.slice none 0 0)) rfl (Nat.le_refl _) hown rfl rfl hone (by unfold maxLen; omega) (by omega) hsz rfl ?_; intro v5 w5 own5 gr5 att5; obtain ⟨a5, c5, rfl⟩ := own5.slice)
      have HF : Aside0 (∃ xs, PJ W1 P (.slice a5 (L ++ [Fp.ofS ⟨yk, yn, ykey, yval, ye, yb, yf⟩ 1 false]).length c5) (L ++ [Fp.ofS ⟨yk, yn, ykey, yval, ye, yb, yf⟩ 1 false]) xs w5) := ⟨by
        have hl : (L ++ [Fp.ofS ⟨yk, yn, ykey, yval, ye, yb, yf⟩ 1 false]).length = n + 1 := by rw [List.length_append, HPP.out.2.2]; rfl
        rw [hl]
        have hx := HPP.out.1
        exact ⟨_, hx.app HPP.out.2.1 (by rw [HPP.out.2.2]; exact own5) (by rw [HPP.out.2.2]; exact gr5)⟩⟩
      have hl : (L ++ [Fp.ofS ⟨yk, yn, ykey, yval, ye, yb, yf⟩ 1 false]).length = n + 1 := by rw [List.length_append, HPP.out.2.2]; rfl
      have HLn : Aside0 ((L ++ [Fp.ofS ⟨yk, yn, ykey, yval, ye, yb, yf⟩ 1 false]).length = n + 1) := ⟨hl⟩
      clear own5 gr5 att5 hown hl
      go_roundg q
      case measure => omega
      case rel => exact ⟨i + 1, _, a5, c5, by go_num, by rw [HLn.out], by omega, HF, HN⟩
    · obtain rfl : i = ns := by omega
      have hlt : ¬ (i : Int) < (i : Int) := by omega
      have HI2 : Aside0 (Inv s L 0 (fun _ => True) 0) := ⟨hI.out.endS HIN.out.2.2.1⟩
      have HJ2 : Aside0 (∃ xs, PJ W1 P (.slice ao n c) L xs wr) := ⟨by rw [← hn]; exact hJ.out⟩
      have HLn : Aside0 (L.length = n) := ⟨hn⟩
      rw [hn]
      clear hP hJ hI hn xs
      go_wp2
      clear hbx hns3
      go_loopg [3, 5] T (fun g v3 v5 wr => ∃ (i : Nat) (L : List Fp) (ao : Option Addr) (c n : Nat), v5 = .int .i64 (i : Int) ∧ v3 = .slice ao n c ∧ i + g = T ∧ Aside0 (L.length = n ∧ ∃ xs, PJ W1 P (.slice ao n c) L xs wr) ∧ Aside0 (Inv s L i (fun _ => True) 0))
      case atStart => exact ⟨0, L, ao, c, n, rfl, rfl, by omega, ⟨HLn.out, HJ2.out⟩, HI2⟩
      case round =>
        clear HJ2 HI2 HLn hn3 hig hi hlt
        obtain ⟨i, L, ao, c, n, rfl, rfl, hig, hJ, hI⟩ := hrel
        obtain ⟨hLn, xs, hP⟩ := hJ.out
        have hnT : n ≤ T := by have := hI.out.len; have := HIN.out.2.2.2.1; omega
        have hin : i ≤ n := by have := hI.out.le; omega
        by_cases hi : i < n
        · have hlt : (i : Int) < (n : Int) := by omega
          obtain ⟨q, rfl⟩ : ∃ q, gk = q + 1 := ⟨gk - 1, by omega⟩
          obtain ⟨f, hf⟩ : ∃ f, L[i]? = some f := ⟨_, List.getElem?_eq_getElem (by omega)⟩
          obtain ⟨ve, vb, vf, va, hFL, hcs⟩ := hP.fc i f hf
          have hpop := hI.out.pop hf
          have hfd := hI.out.deep i f hf
          obtain ⟨⟨sk, sn, skey, sval, se, sb, sf⟩, ⟨xk, xn, xm, xp, xa⟩, is, d, bb⟩ := f
          obtain ⟨h1, h2, h3, h4⟩ := hFL
          simp only at h1 h2 h3 h4 hfd
          obtain ⟨s1, r1, b1, o1, rfl, d1, l1⟩ := h1
          obtain ⟨s2, r2, b2, o2, rfl, d2, l2⟩ := h2
          obtain ⟨s3, r3, b3, o3, rfl, d3, l3⟩ := h3
          obtain ⟨s4, r4, b4, o4, rfl, d4, l4⟩ := h4
          obtain ⟨g0, o0, hae, hcells⟩ : ∃ g o, ao = some ⟨g, o, none⟩ ∧ ∀ (j : Nat) (u : Value), xs[j]? = some u → wr.cell? ⟨g, o + j, none⟩ = some u := by
            rcases hP.own.2 with ⟨_, e, e2⟩ | ⟨g, o, cap, cur, fz, e, hcp, hb⟩
            · omega
            · simp only [Value.slice.injEq] at e
              obtain ⟨rfl, _, rfl⟩ := e
              exact ⟨g, o, rfl, fun j u hu => by unfold World.cell?; rw [hb.blk]; exact hb.cells j u hu⟩
          subst hae
          have hx : ∀ t u, t < 15 → (Fp.cells ⟨⟨sk, sn, skey, sval, se, sb, sf⟩, ⟨xk, xn, xm, xp, xa⟩, is, d, bb⟩ (.slice s1 se.len r1) (.slice s2 sb.len r2) (.slice s3 sf.len r3) (.slice s4 xa.len r4))[t]? = some u → wr.cell? ⟨g0, o0 + i * 15 + t, none⟩ = some u := fun t u ht hu => by
            rw [Nat.add_assoc]
            exact hcells _ _ ((hcs t ht).trans hu)
          have x0 := hx 0 _ (by decide) rfl
          have x1 := hx 1 _ (by decide) rfl
          have x2 := hx 2 _ (by decide) rfl
          have x3 := hx 3 _ (by decide) rfl
          have x4 := hx 4 _ (by decide) rfl
          have x5 := hx 5 _ (by decide) rfl
          have x6 := hx 6 _ (by decide) rfl
          have x7 := hx 7 _ (by decide) rfl
          have x8 := hx 8 _ (by decide) rfl
          have x9 := hx 9 _ (by decide) rfl
          have x10 := hx 10 _ (by decide) rfl
          have x11 := hx 11 _ (by decide) rfl
          have x12 := hx 12 _ (by decide) rfl
          have x13 := hx 13 _ (by decide) rfl
          have x14 := hx 14 _ (by decide) rfl
          rw [Nat.add_zero] at x0
          simp only at x0 x1 x2 x3 x4 x5 x6 x7 x8 x9 x10 x11 x12 x13 x14
          obtain ⟨p, hp⟩ : ∃ p, wr.heap.size = p := ⟨_, rfl⟩
          obtain ⟨W2, hW2⟩ : ∃ W, wr.alloc (.cells #[.int .i64 sk, .string sn, .string skey, .string sval, .slice s1 se.len r1, .slice s2 sb.len r2, .slice s3 sf.len r3, .int .i64 xk, .int .i64 xn, .string xm, .string xp, .slice s4 xa.len r4, .bool is, .int .i64 (d : Int), .bool bb] 71) = W := ⟨_, rfl⟩
          have hPB := hP.box #[.int .i64 sk, .string sn, .string skey, .string sval, .slice s1 se.len r1, .slice s2 sb.len r2, .slice s3 sf.len r3, .int .i64 xk, .int .i64 xn, .string xm, .string xp, .slice s4 xa.len r4, .bool is, .int .i64 (d : Int), .bool bb]
          rw [hW2, hp] at hPB
          obtain ⟨il, hil⟩ : ∃ x, inner sk bb = x := ⟨_, rfl⟩
          have HI1 : Aside0 (Inv s L (i + 1) (fun Q => allE Q (xa.drop 0) (d + 1) bb ∧ allE Q se (d + 1) bb ∧ allS Q sb (d + 1) il ∧ allS Q sf (d + 1) il ∧ True) ((xa.drop 0).cnt + (se.cnt + (sb.cnt + (sf.cnt + 0))))) := ⟨(hpop.to (fun Q => by simp only [Fp.kids, hil, and_true]) (by simp only [Fp.kc]; omega)).begE⟩
          obtain ⟨na, hna⟩ : ∃ x, xa.len = x := ⟨_, rfl⟩
          obtain ⟨nn, hnn⟩ : ∃ x, se.len = x := ⟨_, rfl⟩
          obtain ⟨nb, hnb⟩ : ∃ x, sb.len = x := ⟨_, rfl⟩
          obtain ⟨nf, hnf⟩ : ∃ x, sf.len = x := ⟨_, rfl⟩
          have HL : Aside0 ((LEs P W1 b4 o4 xa ∧ Hd s4 na r4 b4 o4 ∧ xa.len = na) ∧ (LEs P W1 b1 o1 se ∧ Hd s1 nn r1 b1 o1 ∧ se.len = nn) ∧ (LSs P W1 b2 o2 sb ∧ Hd s2 nb r2 b2 o2 ∧ sb.len = nb) ∧ (LSs P W1 b3 o3 sf ∧ Hd s3 nf r3 b3 o3 ∧ sf.len = nf) ∧ inner sk bb = il ∧ d ≤ i + 1) := ⟨⟨l4, hna ▸ d4, hna⟩, ⟨l1, hnn ▸ d1, hnn⟩, ⟨l2, hnb ▸ d2, hnb⟩, ⟨l3, hnf ▸ d3, hnf⟩, hil, hfd⟩
          have hdd : d ≤ 3000001 := by omega
          have hcc : na ≤ 3000000 ∧ nn ≤ 3000000 ∧ nb ≤ 3000000 ∧ nf ≤ 3000000 := by
            have k1 := xa.len_cnt
            have k2 := se.len_cnt
            have k3 := sb.len_cnt
            have k4 := sf.len_cnt
            have k5 := hpop.cnt
            simp only [Fp.kc] at k5
            have k6 := HIN.out.2.2.2.1
            omega
          rw [hna, hnn, hnb, hnf] at hPB hW2
          rw [hna] at x11
          rw [hnn] at x4
          rw [hnb] at x5
          rw [hnf] at x6
          have HPB : Aside0 (L.length = n ∧ PB W1 P p #[.int .i64 sk, .string sn, .string skey, .string sval, .slice s1 nn r1, .slice s2 nb r2, .slice s3 nf r3, .int .i64 xk, .int .i64 xn, .string xm, .string xp, .slice s4 na r4, .bool is, .int .i64 (d : Int), .bool bb] (.slice (some ⟨g0, o0, none⟩) n c) L W2) := ⟨hLn, by rw [← hLn]; rw [← hLn] at hPB; exact hPB⟩
          clear hx hcells hcs hf hP hJ hI hpop hfd l1 l2 l3 l4 d1 d2 d3 d4 hPB hil hna hnn hnb hnf
          have HQI : Aside0 (i < n ∧ i + (q + 1) = T) := ⟨hi, hig⟩
          go_wp2
          clear hW2 x0 x1 x2 x3 x4 x5 x6 x7 x8 x9 x10 x11 x12 x13 x14 hp hlt hi hin
          go_loopg [3, 7] na (fun g v3 vj wr => ∃ (j : Nat) (L : List Fp) (ao : Option Addr) (c n : Nat), vj = .int .i64 (j : Int) ∧ v3 = .slice ao n c ∧ j + g = na ∧ Aside0 (L.length = n ∧ i < n ∧ PB W1 P p #[.int .i64 sk, .string sn, .string skey, .string sval, .slice s1 nn r1, .slice s2 nb r2, .slice s3 nf r3, .int .i64 xk, .int .i64 xn, .string xm, .string xp, .slice s4 na r4, .bool is, .int .i64 (d : Int), .bool bb] (.slice ao n c) L wr) ∧ Aside0 (Inv s L (i + 1) (fun Q => allE Q (xa.drop j) (d + 1) bb ∧ allE Q se (d + 1) bb ∧ allS Q sb (d + 1) il ∧ allS Q sf (d + 1) il ∧ True) ((xa.drop j).cnt + (se.cnt + (sb.cnt + (sf.cnt + 0))))))
          case atStart => exact ⟨0, L, _, c, n, rfl, rfl, by omega, ⟨HPB.out.1, HQI.out.1, HPB.out.2⟩, HI1⟩
          case round =>
            clear HPB HI1 hnT
            obtain ⟨j, L, ao, c, n, rfl, rfl, hjg, hB, hI⟩ := hrel
            obtain ⟨hLn, hin, xs, hP, hbox, hrp, hkp⟩ := hB.out
            have hnT : n ≤ T := by have := hI.out.len; have := HIN.out.2.2.2.1; omega
            obtain ⟨z0, z4, z5, z6, z11, z13, z14⟩ := cells15 hbox
            by_cases hj : j < na
            · have hltj : (j : Int) < (na : Int) := by omega
              obtain ⟨q2, rfl⟩ : ∃ g, gk = g + 1 := ⟨gk - 1, by omega⟩
              obtain ⟨y, hy⟩ := Exs.get_lt (l := xa) (j := j) (by rw [HL.out.1.2.2]; exact hj)
              obtain ⟨-, y1, y2, y3, y4, ⟨vy, y5, hvy⟩⟩ := HL.out.1.1.at hy
              replace y1 := cell_below y1 hP.bel (Nat.le_refl _)
              replace y2 := cell_below y2 hP.bel (Nat.le_refl _)
              replace y3 := cell_below y3 hP.bel (Nat.le_refl _)
              replace y4 := cell_below y4 hP.bel (Nat.le_refl _)
              replace y5 := cell_below y5 hP.bel (Nat.le_refl _)
              have e1 : ∃ ao c, vy = .slice ao y.args.len c := by obtain ⟨ao, c, _, _, e, _⟩ := hvy; exact ⟨ao, c, e⟩
              obtain ⟨t1, u1x, rfl⟩ := e1
              have hao : s4 = some ⟨b4, o4, none⟩ := by rcases HL.out.1.2.1.lead with e | e; (omega); exact e
              have hFL := FL.ofE (P := P) (w := W1) (d := d + 1) (b := bb) hvy
              have HN := hI.out.pushE hy (by have := HL.out.2.2.2.2.2; have := hI.out.le; omega)
              obtain ⟨yk, yn, ym, yp, ya⟩ := y
              simp only at y1 y2 y3 y4 y5 hFL
              have HNA : Aside0 (Inv s (L ++ [(Fp.ofE ⟨yk, yn, ym, yp, ya⟩ (d + 1) bb)]) (i + 1) (fun Q => allE Q (xa.drop (j + 1)) (d + 1) bb ∧ allE Q se (d + 1) bb ∧ allS Q sb (d + 1) il ∧ allS Q sf (d + 1) il ∧ True) ((xa.drop (j + 1)).cnt + (se.cnt + (sb.cnt + (sf.cnt + 0))))) := ⟨HN⟩
              have HPP : Aside0 (PB W1 P p #[.int .i64 sk, .string sn, .string skey, .string sval, .slice s1 nn r1, .slice s2 nb r2, .slice s3 nf r3, .int .i64 xk, .int .i64 xn, .string xm, .string xp, .slice s4 na r4, .bool is, .int .i64 (d : Int), .bool bb] (.slice ao n c) L wr ∧ FL P W1 (Fp.ofE ⟨yk, yn, ym, yp, ya⟩ (d + 1) bb) (.slice none 0 0) (.slice none 0 0) (.slice none 0 0) (.slice t1 ya.len u1x) ∧ L.length = n ∧ i < n) := ⟨⟨xs, hP, hbox, hrp, hkp⟩, hFL, hLn, hin⟩
              subst hao
              clear hy hFL HN hB hI hP hbox hrp hkp hvy z0 z4 z5 z6
              have hwd : IntKind.i64.wrap ((d : Int) + 1) = (d : Int) + 1 := IntWalk.i64_in _ (by omega)
              go_upto_region 13 with fail
              refine wp_region_L (fun _ => True) (fun w' => w'.cell? ⟨p, 11, none⟩ = some (.slice (some ⟨b4, o4, none⟩) na r4) ∧ w'.cell? ⟨p, 13, none⟩ = some (.int .i64 (d : Int)) ∧ w'.cell? ⟨p, 14, none⟩ = some (.bool bb) ∧ w'.cell? ⟨b4, o4 + j * 5, none⟩ = some (.int .i64 yk) ∧ w'.cell? ⟨b4, o4 + j * 5 + 1, none⟩ = some (.int .i64 yn) ∧ w'.cell? ⟨b4, o4 + j * 5 + 2, none⟩ = some (.string ym) ∧ w'.cell? ⟨b4, o4 + j * 5 + 3, none⟩ = some (.string yp) ∧ w'.cell? ⟨b4, o4 + j * 5 + 4, none⟩ = some (.slice t1 ya.len u1x)) 14 (by kernel_rfl) trivial ⟨z11, z13, z14, y1, y2, y3, y4, y5⟩ (fun hsh hS => ?_)
              have hPd := HPP.out.1.below (Below.refl _ _).drew
              generalize wr.drew = w0 at *
              obtain ⟨xs, hP, hbox, hrp, hkp⟩ := hPd
              refine anyL_take1 20 (i := 0) (v := ?_) rfl (by kernel_rfl) (by kernel_rfl) (by kernel_rfl) (by decide) (by kernel_rfl) hsh (fun _ _ _ h => h) (Or.inl ⟨by rfl, ?_⟩) hS ?_
              rotate_left 1
              · (intro wS hSw; (try dsimp only at hSw); first | (go_simp; done) | (go_simp; with_reducible rfl))
              intro hsh1 hS1; clear hsh hS; have hsh := hsh1; have hS := hS1; clear hsh1 hS1
              simp only [Act.put, List.setIfInBounds_toArray, List.set_cons_zero, List.set_cons_succ]
              refine anyL_take1 20 (i := 1) (v := ?_) rfl (by kernel_rfl) (by kernel_rfl) (by kernel_rfl) (by decide) (by kernel_rfl) hsh (fun _ _ _ h => h) (Or.inl ⟨by rfl, ?_⟩) hS ?_
              rotate_left 1
              · (intro wS hSw; (try dsimp only at hSw); first | (go_simp; done) | (go_simp; with_reducible rfl))
              intro hsh1 hS1; clear hsh hS; have hsh := hsh1; have hS := hS1; clear hsh1 hS1
              simp only [Act.put, List.setIfInBounds_toArray, List.set_cons_zero, List.set_cons_succ]
              refine anyL_take1 20 (i := 2) (v := ?_) rfl (by kernel_rfl) (by kernel_rfl) (by kernel_rfl) (by decide) (by kernel_rfl) hsh (fun _ _ _ h => h) (Or.inl ⟨by rfl, ?_⟩) hS ?_
              rotate_left 1
              · (intro wS hSw; (try dsimp only at hSw); first | (go_simp; done) | (go_simp; with_reducible rfl))
              intro hsh1 hS1; clear hsh hS; have hsh := hsh1; have hS := hS1; clear hsh1 hS1
              simp only [Act.put, List.setIfInBounds_toArray, List.set_cons_zero, List.set_cons_succ]
              refine anyL_take1 20 (i := 3) (v := ?_) rfl (by kernel_rfl) (by kernel_rfl) (by kernel_rfl) (by decide) (by kernel_rfl) hsh (fun _ _ _ h => h) (Or.inl ⟨by rfl, ?_⟩) hS ?_
              rotate_left 1
              · (intro wS hSw; (try dsimp only at hSw); first | (go_simp; done) | (go_simp; with_reducible rfl))
              intro hsh1 hS1; clear hsh hS; have hsh := hsh1; have hS := hS1; clear hsh1 hS1
              simp only [Act.put, List.setIfInBounds_toArray, List.set_cons_zero, List.set_cons_succ]
              refine anyL_take1 20 (i := 4) (v := ?_) rfl (by kernel_rfl) (by kernel_rfl) (by kernel_rfl) (by decide) (by kernel_rfl) hsh (fun _ _ _ h => h) (Or.inl ⟨by rfl, ?_⟩) hS ?_
              rotate_left 1
              · (intro wS hSw; (try dsimp only at hSw); first | (go_simp; done) | (go_simp; with_reducible rfl))
              intro hsh1 hS1; clear hsh hS; have hsh := hsh1; have hS := hS1; clear hsh1 hS1
              simp only [Act.put, List.setIfInBounds_toArray, List.set_cons_zero, List.set_cons_succ]
              refine anyL_take1 20 (i := 5) (v := ?_) rfl (by kernel_rfl) (by kernel_rfl) (by kernel_rfl) (by decide) (by kernel_rfl) hsh (fun _ _ _ h => h) (Or.inl ⟨by rfl, ?_⟩) hS ?_
              rotate_left 1
              · (intro wS hSw; (try dsimp only at hSw); first | (go_simp; done) | (go_simp; with_reducible rfl))
              intro hsh1 hS1; clear hsh hS; have hsh := hsh1; have hS := hS1; clear hsh1 hS1
              simp only [Act.put, List.setIfInBounds_toArray, List.set_cons_zero, List.set_cons_succ]
              refine anyL_take1 20 (i := 6) (v := ?_) rfl (by kernel_rfl) (by kernel_rfl) (by kernel_rfl) (by decide) (by kernel_rfl) hsh (fun _ _ _ h => h) (Or.inl ⟨by rfl, ?_⟩) hS ?_
              rotate_left 1
              · (intro wS hSw; (try dsimp only at hSw); first | (go_simp; done) | (go_simp; with_reducible rfl))
              intro hsh1 hS1; clear hsh hS; have hsh := hsh1; have hS := hS1; clear hsh1 hS1
              simp only [Act.put, List.setIfInBounds_toArray, List.set_cons_zero, List.set_cons_succ]
              refine anyL_take1 20 (i := 7) (v := ?_) rfl (by kernel_rfl) (by kernel_rfl) (by kernel_rfl) (by decide) (by kernel_rfl) hsh (fun _ _ _ h => h) (Or.inl ⟨by rfl, ?_⟩) hS ?_
              rotate_left 1
              · (intro wS hSw; (try dsimp only at hSw); first | (go_simp; done) | (go_simp; with_reducible rfl))
              intro hsh1 hS1; clear hsh hS; have hsh := hsh1; have hS := hS1; clear hsh1 hS1
              simp only [Act.put, List.setIfInBounds_toArray, List.set_cons_zero, List.set_cons_succ]
              refine anyL_take1 20 (i := 8) (v := ?_) rfl (by kernel_rfl) (by kernel_rfl) (by kernel_rfl) (by decide) (by kernel_rfl) hsh (fun _ _ _ h => h) (Or.inl ⟨by rfl, ?_⟩) hS ?_
              rotate_left 1
              · (intro wS hSw; (try dsimp only at hSw); first | (go_simp; done) | (go_simp; with_reducible rfl))
              intro hsh1 hS1; clear hsh hS; have hsh := hsh1; have hS := hS1; clear hsh1 hS1
              simp only [Act.put, List.setIfInBounds_toArray, List.set_cons_zero, List.set_cons_succ]
              refine anyL_take1 20 (i := 9) (v := ?_) rfl (by kernel_rfl) (by kernel_rfl) (by kernel_rfl) (by decide) (by kernel_rfl) hsh (fun _ _ _ h => h) (Or.inl ⟨by rfl, ?_⟩) hS ?_
              rotate_left 1
              · (intro wS hSw; (try dsimp only at hSw); first | (go_simp; done) | (go_simp; with_reducible rfl))
              intro hsh1 hS1; clear hsh hS; have hsh := hsh1; have hS := hS1; clear hsh1 hS1
              simp only [Act.put, List.setIfInBounds_toArray, List.set_cons_zero, List.set_cons_succ]
              refine anyL_take1 20 (i := 10) (v := ?_) rfl (by kernel_rfl) (by kernel_rfl) (by kernel_rfl) (by decide) (by kernel_rfl) hsh (fun _ _ _ h => h) (Or.inl ⟨by rfl, ?_⟩) hS ?_
              rotate_left 1
              · (intro wS hSw; (try dsimp only at hSw); first | (go_simp; done) | (go_simp; with_reducible rfl))
              intro hsh1 hS1; clear hsh hS; have hsh := hsh1; have hS := hS1; clear hsh1 hS1
              simp only [Act.put, List.setIfInBounds_toArray, List.set_cons_zero, List.set_cons_succ]
              refine anyL_take1 20 (i := 11) (v := ?_) rfl (by kernel_rfl) (by kernel_rfl) (by kernel_rfl) (by decide) (by kernel_rfl) hsh (fun _ _ _ h => h) (Or.inl ⟨by rfl, ?_⟩) hS ?_
              rotate_left 1
              · (intro wS hSw; (try dsimp only at hSw); first | (go_simp; done) | (go_simp; with_reducible rfl))
              intro hsh1 hS1; clear hsh hS; have hsh := hsh1; have hS := hS1; clear hsh1 hS1
              simp only [Act.put, List.setIfInBounds_toArray, List.set_cons_zero, List.set_cons_succ]
              refine anyL_take1 20 (i := 12) (v := ?_) rfl (by kernel_rfl) (by kernel_rfl) (by kernel_rfl) (by decide) (by kernel_rfl) hsh (fun _ _ _ h => h) (Or.inl ⟨by rfl, ?_⟩) hS ?_
              rotate_left 1
              · (intro wS hSw; (try dsimp only at hSw); first | (go_simp; done) | (go_simp; with_reducible rfl))
              intro hsh1 hS1; clear hsh hS; have hsh := hsh1; have hS := hS1; clear hsh1 hS1
              simp only [Act.put, List.setIfInBounds_toArray, List.set_cons_zero, List.set_cons_succ]
              refine anyL_one (i := 13) (by kernel_rfl) rfl hsh (fun K hK => ?_)
              go_simp
              have hSc := hS.2 (by decide)
              refine hK.out _ _ ⟨trivial, fun _ => ⟨cell_alloc _ hSc.1, cell_alloc _ hSc.2.1, cell_alloc _ hSc.2.2.1, cell_alloc _ hSc.2.2.2.1, cell_alloc _ hSc.2.2.2.2.1, cell_alloc _ hSc.2.2.2.2.2.1, cell_alloc _ hSc.2.2.2.2.2.2.1, cell_alloc _ hSc.2.2.2.2.2.2.2⟩⟩ (fun hsh1 hS1 => ?_)
              clear hsh hS hK K; have hsh := hsh1; have hS := hS1; clear hsh1 hS1
              refine anyL_one (i := 14) (by kernel_rfl) rfl hsh (fun K hK => ?_)
              refine step_append_sv (by rfl) (.tmp 46) (.tmp 59) (by rfl) Tryd.underlying67 info71 rfl (by decide) W1.heap.size n (Value.slice ao n c) xs (by rfl) ((hLn ▸ hP.own).alloc _) (Value.slice (some ⟨w0.heap.size, 0, none⟩) 1 1) 1 [.int .i64 0, .string ⟨#[]⟩, .string ⟨#[]⟩, .string ⟨#[]⟩, .slice none 0 0, .slice none 0 0, .slice none 0 0, .int .i64 yk, .int .i64 yn, .string ym, .string yp, .slice t1 ya.len u1x, .bool false, .int .i64 ((d : Int) + 1), .bool bb] (by rfl) ⟨_, _, w0.heap.size, 0, rfl, rfl, .inr rfl, (fun e => by cases e), Nat.le_refl _, fun j u hj => by rw [Nat.zero_add, cell_new]; simpa using hj⟩ (by intro u hu; simp only [List.mem_cons, List.not_mem_nil, or_false] at hu; rcases hu with rfl | rfl | rfl | rfl | rfl | rfl | rfl | rfl | rfl | rfl | rfl | rfl | rfl | rfl | rfl <;> rfl) (by unfold maxLen; omega) (by omega) (by have := hP.bel.size; simp; omega) ?_
              intro v7 w7 own7 gr7 att7
              obtain ⟨a7, c7, rfl⟩ := own7.slice
              refine hK.out _ _ ⟨trivial, fun h => absurd h (by decide)⟩ (fun hsh1 hS1 => ?_)
              clear hsh hS hK K; have hsh := hsh1; have hS := hS1; clear hsh1 hS1
              refine anyL_one (i := 15) (by kernel_rfl) rfl hsh (fun K hK => ?_)
              go_simp
              refine hK.out _ _ ⟨trivial, fun h => absurd h (by decide)⟩ (fun hsh1 hS1 => ?_)
              clear hsh hS hK K; have hsh := hsh1; have hS := hS1; clear hsh1 hS1
              refine anyL_done (by kernel_rfl) ?_ _
              have hce : Fp.cells (Fp.ofE ⟨yk, yn, ym, yp, ya⟩ (d + 1) bb) (.slice none 0 0) (.slice none 0 0) (.slice none 0 0) (.slice t1 ya.len u1x) = [.int .i64 0, .string ⟨#[]⟩, .string ⟨#[]⟩, .string ⟨#[]⟩, .slice none 0 0, .slice none 0 0, .slice none 0 0, .int .i64 yk, .int .i64 yn, .string ym, .string yp, .slice t1 ya.len u1x, .bool false, .int .i64 ((d : Int) + 1), .bool bb] := by simp [Fp.cells, Fp.ofE, Fp.ofS, zeroS, zeroX]
              have HF : Aside0 ((L ++ [(Fp.ofE ⟨yk, yn, ym, yp, ya⟩ (d + 1) bb)]).length = n + 1 ∧ i < n + 1 ∧ PB W1 P p #[.int .i64 sk, .string sn, .string skey, .string sval, .slice s1 nn r1, .slice s2 nb r2, .slice s3 nf r3, .int .i64 xk, .int .i64 xn, .string xm, .string xp, .slice (some ⟨b4, o4, none⟩) na r4, .bool is, .int .i64 (d : Int), .bool bb] (.slice a7 (n + 1) c7) (L ++ [(Fp.ofE ⟨yk, yn, ym, yp, ya⟩ (d + 1) bb)]) w7) := ⟨by rw [List.length_append, hLn]; rfl, by omega, PB.app hP hbox hrp hkp HPP.out.2.1 (by rw [hce, hLn]; exact own7) (by rw [hce]; exact gr7) (by rw [hce]; exact att7)⟩
              clear own7 gr7 att7 hS hsh hce hP hbox hrp hkp
              go_wp2
              go_roundg q2
              case measure => omega
              case rel => exact ⟨j + 1, _, a7, c7, n + 1, by go_num, rfl, by omega, HF, HNA⟩
            · have hjn : na ≤ j := by omega
              have hltj : ¬ (j : Int) < (na : Int) := by omega
              have HPB1 : Aside0 (L.length = n ∧ i < n ∧ PB W1 P p #[.int .i64 sk, .string sn, .string skey, .string sval, .slice s1 nn r1, .slice s2 nb r2, .slice s3 nf r3, .int .i64 xk, .int .i64 xn, .string xm, .string xp, .slice s4 na r4, .bool is, .int .i64 (d : Int), .bool bb] (.slice ao n c) L wr) := hB
              have HI2 := Aside0.mk (hI.out.endE (by have := HL.out.1.2.2; omega)).begE
              clear hB hI hP hbox hrp hkp z13 z4 z5 z6 z0 z14
              go_wp2
              clear z11
              go_loopg [3, 8] nn (fun g v3 vj wr => ∃ (j : Nat) (L : List Fp) (ao : Option Addr) (c n : Nat), vj = .int .i64 (j : Int) ∧ v3 = .slice ao n c ∧ j + g = nn ∧ Aside0 (L.length = n ∧ i < n ∧ PB W1 P p #[.int .i64 sk, .string sn, .string skey, .string sval, .slice s1 nn r1, .slice s2 nb r2, .slice s3 nf r3, .int .i64 xk, .int .i64 xn, .string xm, .string xp, .slice s4 na r4, .bool is, .int .i64 (d : Int), .bool bb] (.slice ao n c) L wr) ∧ Aside0 (Inv s L (i + 1) (fun Q => allE Q (se.drop j) (d + 1) bb ∧ allS Q sb (d + 1) il ∧ allS Q sf (d + 1) il ∧ True) ((se.drop j).cnt + (sb.cnt + (sf.cnt + 0)))))
              case atStart => exact ⟨0, L, _, c, n, rfl, rfl, by omega, ⟨HPB1.out.1, HPB1.out.2.1, HPB1.out.2.2⟩, HI2⟩
              case round =>
                clear HPB1 HI2 hnT hjg hj hltj hjn hin hLn xs
                obtain ⟨j, L, ao, c, n, rfl, rfl, hjg, hB, hI⟩ := hrel
                obtain ⟨hLn, hin, xs, hP, hbox, hrp, hkp⟩ := hB.out
                have hnT : n ≤ T := by have := hI.out.len; have := HIN.out.2.2.2.1; omega
                obtain ⟨z0, z4, z5, z6, z11, z13, z14⟩ := cells15 hbox
                by_cases hj : j < nn
                · have hltj : (j : Int) < (nn : Int) := by omega
                  obtain ⟨q2, rfl⟩ : ∃ g, gk = g + 1 := ⟨gk - 1, by omega⟩
                  obtain ⟨y, hy⟩ := Exs.get_lt (l := se) (j := j) (by rw [HL.out.2.1.2.2]; exact hj)
                  obtain ⟨-, y1, y2, y3, y4, ⟨vy, y5, hvy⟩⟩ := HL.out.2.1.1.at hy
                  replace y1 := cell_below y1 hP.bel (Nat.le_refl _)
                  replace y2 := cell_below y2 hP.bel (Nat.le_refl _)
                  replace y3 := cell_below y3 hP.bel (Nat.le_refl _)
                  replace y4 := cell_below y4 hP.bel (Nat.le_refl _)
                  replace y5 := cell_below y5 hP.bel (Nat.le_refl _)
                  have e1 : ∃ ao c, vy = .slice ao y.args.len c := by obtain ⟨ao, c, _, _, e, _⟩ := hvy; exact ⟨ao, c, e⟩
                  obtain ⟨t1, u1x, rfl⟩ := e1
                  have hao : s1 = some ⟨b1, o1, none⟩ := by rcases HL.out.2.1.2.1.lead with e | e; (omega); exact e
                  have hFL := FL.ofE (P := P) (w := W1) (d := d + 1) (b := bb) hvy
                  have HN := hI.out.pushE hy (by have := HL.out.2.2.2.2.2; have := hI.out.le; omega)
                  obtain ⟨yk, yn, ym, yp, ya⟩ := y
                  simp only at y1 y2 y3 y4 y5 hFL
                  have HNA : Aside0 (Inv s (L ++ [(Fp.ofE ⟨yk, yn, ym, yp, ya⟩ (d + 1) bb)]) (i + 1) (fun Q => allE Q (se.drop (j + 1)) (d + 1) bb ∧ allS Q sb (d + 1) il ∧ allS Q sf (d + 1) il ∧ True) ((se.drop (j + 1)).cnt + (sb.cnt + (sf.cnt + 0)))) := ⟨HN⟩
                  have HPP : Aside0 (PB W1 P p #[.int .i64 sk, .string sn, .string skey, .string sval, .slice s1 nn r1, .slice s2 nb r2, .slice s3 nf r3, .int .i64 xk, .int .i64 xn, .string xm, .string xp, .slice s4 na r4, .bool is, .int .i64 (d : Int), .bool bb] (.slice ao n c) L wr ∧ FL P W1 (Fp.ofE ⟨yk, yn, ym, yp, ya⟩ (d + 1) bb) (.slice none 0 0) (.slice none 0 0) (.slice none 0 0) (.slice t1 ya.len u1x) ∧ L.length = n ∧ i < n) := ⟨⟨xs, hP, hbox, hrp, hkp⟩, hFL, hLn, hin⟩
                  subst hao
                  clear hy hFL HN hB hI hP hbox hrp hkp hvy z0 z5 z6 z11
                  have hwd : IntKind.i64.wrap ((d : Int) + 1) = (d : Int) + 1 := IntWalk.i64_in _ (by omega)
                  go_upto_region 17 with fail
                  refine wp_region_L (fun _ => True) (fun w' => w'.cell? ⟨p, 4, none⟩ = some (.slice (some ⟨b1, o1, none⟩) nn r1) ∧ w'.cell? ⟨p, 13, none⟩ = some (.int .i64 (d : Int)) ∧ w'.cell? ⟨p, 14, none⟩ = some (.bool bb) ∧ w'.cell? ⟨b1, o1 + j * 5, none⟩ = some (.int .i64 yk) ∧ w'.cell? ⟨b1, o1 + j * 5 + 1, none⟩ = some (.int .i64 yn) ∧ w'.cell? ⟨b1, o1 + j * 5 + 2, none⟩ = some (.string ym) ∧ w'.cell? ⟨b1, o1 + j * 5 + 3, none⟩ = some (.string yp) ∧ w'.cell? ⟨b1, o1 + j * 5 + 4, none⟩ = some (.slice t1 ya.len u1x)) 14 (by kernel_rfl) trivial ⟨z4, z13, z14, y1, y2, y3, y4, y5⟩ (fun hsh hS => ?_)
                  have hPd := HPP.out.1.below (Below.refl _ _).drew
                  generalize wr.drew = w0 at *
                  obtain ⟨xs, hP, hbox, hrp, hkp⟩ := hPd
                  refine anyL_take1 20 (i := 0) (v := ?_) rfl (by kernel_rfl) (by kernel_rfl) (by kernel_rfl) (by decide) (by kernel_rfl) hsh (fun _ _ _ h => h) (Or.inl ⟨by rfl, ?_⟩) hS ?_
                  rotate_left 1
                  · (intro wS hSw; (try dsimp only at hSw); first | (go_simp; done) | (go_simp; with_reducible rfl))
                  intro hsh1 hS1; clear hsh hS; have hsh := hsh1; have hS := hS1; clear hsh1 hS1
                  simp only [Act.put, List.setIfInBounds_toArray, List.set_cons_zero, List.set_cons_succ]
                  refine anyL_take1 20 (i := 1) (v := ?_) rfl (by kernel_rfl) (by kernel_rfl) (by kernel_rfl) (by decide) (by kernel_rfl) hsh (fun _ _ _ h => h) (Or.inl ⟨by rfl, ?_⟩) hS ?_
                  rotate_left 1
                  · (intro wS hSw; (try dsimp only at hSw); first | (go_simp; done) | (go_simp; with_reducible rfl))
                  intro hsh1 hS1; clear hsh hS; have hsh := hsh1; have hS := hS1; clear hsh1 hS1
                  simp only [Act.put, List.setIfInBounds_toArray, List.set_cons_zero, List.set_cons_succ]
                  refine anyL_take1 20 (i := 2) (v := ?_) rfl (by kernel_rfl) (by kernel_rfl) (by kernel_rfl) (by decide) (by kernel_rfl) hsh (fun _ _ _ h => h) (Or.inl ⟨by rfl, ?_⟩) hS ?_
                  rotate_left 1
                  · (intro wS hSw; (try dsimp only at hSw); first | (go_simp; done) | (go_simp; with_reducible rfl))
                  intro hsh1 hS1; clear hsh hS; have hsh := hsh1; have hS := hS1; clear hsh1 hS1
                  simp only [Act.put, List.setIfInBounds_toArray, List.set_cons_zero, List.set_cons_succ]
                  refine anyL_take1 20 (i := 3) (v := ?_) rfl (by kernel_rfl) (by kernel_rfl) (by kernel_rfl) (by decide) (by kernel_rfl) hsh (fun _ _ _ h => h) (Or.inl ⟨by rfl, ?_⟩) hS ?_
                  rotate_left 1
                  · (intro wS hSw; (try dsimp only at hSw); first | (go_simp; done) | (go_simp; with_reducible rfl))
                  intro hsh1 hS1; clear hsh hS; have hsh := hsh1; have hS := hS1; clear hsh1 hS1
                  simp only [Act.put, List.setIfInBounds_toArray, List.set_cons_zero, List.set_cons_succ]
                  refine anyL_take1 20 (i := 4) (v := ?_) rfl (by kernel_rfl) (by kernel_rfl) (by kernel_rfl) (by decide) (by kernel_rfl) hsh (fun _ _ _ h => h) (Or.inl ⟨by rfl, ?_⟩) hS ?_
                  rotate_left 1
                  · (intro wS hSw; (try dsimp only at hSw); first | (go_simp; done) | (go_simp; with_reducible rfl))
                  intro hsh1 hS1; clear hsh hS; have hsh := hsh1; have hS := hS1; clear hsh1 hS1
                  simp only [Act.put, List.setIfInBounds_toArray, List.set_cons_zero, List.set_cons_succ]
                  refine anyL_take1 20 (i := 5) (v := ?_) rfl (by kernel_rfl) (by kernel_rfl) (by kernel_rfl) (by decide) (by kernel_rfl) hsh (fun _ _ _ h => h) (Or.inl ⟨by rfl, ?_⟩) hS ?_
                  rotate_left 1
                  · (intro wS hSw; (try dsimp only at hSw); first | (go_simp; done) | (go_simp; with_reducible rfl))
                  intro hsh1 hS1; clear hsh hS; have hsh := hsh1; have hS := hS1; clear hsh1 hS1
                  simp only [Act.put, List.setIfInBounds_toArray, List.set_cons_zero, List.set_cons_succ]
                  refine anyL_take1 20 (i := 6) (v := ?_) rfl (by kernel_rfl) (by kernel_rfl) (by kernel_rfl) (by decide) (by kernel_rfl) hsh (fun _ _ _ h => h) (Or.inl ⟨by rfl, ?_⟩) hS ?_
                  rotate_left 1
                  · (intro wS hSw; (try dsimp only at hSw); first | (go_simp; done) | (go_simp; with_reducible rfl))
                  intro hsh1 hS1; clear hsh hS; have hsh := hsh1; have hS := hS1; clear hsh1 hS1
                  simp only [Act.put, List.setIfInBounds_toArray, List.set_cons_zero, List.set_cons_succ]
                  refine anyL_take1 20 (i := 7) (v := ?_) rfl (by kernel_rfl) (by kernel_rfl) (by kernel_rfl) (by decide) (by kernel_rfl) hsh (fun _ _ _ h => h) (Or.inl ⟨by rfl, ?_⟩) hS ?_
                  rotate_left 1
                  · (intro wS hSw; (try dsimp only at hSw); first | (go_simp; done) | (go_simp; with_reducible rfl))
                  intro hsh1 hS1; clear hsh hS; have hsh := hsh1; have hS := hS1; clear hsh1 hS1
                  simp only [Act.put, List.setIfInBounds_toArray, List.set_cons_zero, List.set_cons_succ]
                  refine anyL_take1 20 (i := 8) (v := ?_) rfl (by kernel_rfl) (by kernel_rfl) (by kernel_rfl) (by decide) (by kernel_rfl) hsh (fun _ _ _ h => h) (Or.inl ⟨by rfl, ?_⟩) hS ?_
                  rotate_left 1
                  · (intro wS hSw; (try dsimp only at hSw); first | (go_simp; done) | (go_simp; with_reducible rfl))
                  intro hsh1 hS1; clear hsh hS; have hsh := hsh1; have hS := hS1; clear hsh1 hS1
                  simp only [Act.put, List.setIfInBounds_toArray, List.set_cons_zero, List.set_cons_succ]
                  refine anyL_take1 20 (i := 9) (v := ?_) rfl (by kernel_rfl) (by kernel_rfl) (by kernel_rfl) (by decide) (by kernel_rfl) hsh (fun _ _ _ h => h) (Or.inl ⟨by rfl, ?_⟩) hS ?_
                  rotate_left 1
                  · (intro wS hSw; (try dsimp only at hSw); first | (go_simp; done) | (go_simp; with_reducible rfl))
                  intro hsh1 hS1; clear hsh hS; have hsh := hsh1; have hS := hS1; clear hsh1 hS1
                  simp only [Act.put, List.setIfInBounds_toArray, List.set_cons_zero, List.set_cons_succ]
                  refine anyL_take1 20 (i := 10) (v := ?_) rfl (by kernel_rfl) (by kernel_rfl) (by kernel_rfl) (by decide) (by kernel_rfl) hsh (fun _ _ _ h => h) (Or.inl ⟨by rfl, ?_⟩) hS ?_
                  rotate_left 1
                  · (intro wS hSw; (try dsimp only at hSw); first | (go_simp; done) | (go_simp; with_reducible rfl))
                  intro hsh1 hS1; clear hsh hS; have hsh := hsh1; have hS := hS1; clear hsh1 hS1
                  simp only [Act.put, List.setIfInBounds_toArray, List.set_cons_zero, List.set_cons_succ]
                  refine anyL_take1 20 (i := 11) (v := ?_) rfl (by kernel_rfl) (by kernel_rfl) (by kernel_rfl) (by decide) (by kernel_rfl) hsh (fun _ _ _ h => h) (Or.inl ⟨by rfl, ?_⟩) hS ?_
                  rotate_left 1
                  · (intro wS hSw; (try dsimp only at hSw); first | (go_simp; done) | (go_simp; with_reducible rfl))
                  intro hsh1 hS1; clear hsh hS; have hsh := hsh1; have hS := hS1; clear hsh1 hS1
                  simp only [Act.put, List.setIfInBounds_toArray, List.set_cons_zero, List.set_cons_succ]
                  refine anyL_take1 20 (i := 12) (v := ?_) rfl (by kernel_rfl) (by kernel_rfl) (by kernel_rfl) (by decide) (by kernel_rfl) hsh (fun _ _ _ h => h) (Or.inl ⟨by rfl, ?_⟩) hS ?_
                  rotate_left 1
                  · (intro wS hSw; (try dsimp only at hSw); first | (go_simp; done) | (go_simp; with_reducible rfl))
                  intro hsh1 hS1; clear hsh hS; have hsh := hsh1; have hS := hS1; clear hsh1 hS1
                  simp only [Act.put, List.setIfInBounds_toArray, List.set_cons_zero, List.set_cons_succ]
                  refine anyL_one (i := 13) (by kernel_rfl) rfl hsh (fun K hK => ?_)
                  go_simp
                  have hSc := hS.2 (by decide)
                  refine hK.out _ _ ⟨trivial, fun _ => ⟨cell_alloc _ hSc.1, cell_alloc _ hSc.2.1, cell_alloc _ hSc.2.2.1, cell_alloc _ hSc.2.2.2.1, cell_alloc _ hSc.2.2.2.2.1, cell_alloc _ hSc.2.2.2.2.2.1, cell_alloc _ hSc.2.2.2.2.2.2.1, cell_alloc _ hSc.2.2.2.2.2.2.2⟩⟩ (fun hsh1 hS1 => ?_)
                  clear hsh hS hK K; have hsh := hsh1; have hS := hS1; clear hsh1 hS1
                  refine anyL_one (i := 14) (by kernel_rfl) rfl hsh (fun K hK => ?_)
                  refine step_append_sv (by rfl) (.tmp 69) (.tmp 82) (by rfl) Tryd.underlying67 info71 rfl (by decide) W1.heap.size n (Value.slice ao n c) xs (by rfl) ((hLn ▸ hP.own).alloc _) (Value.slice (some ⟨w0.heap.size, 0, none⟩) 1 1) 1 [.int .i64 0, .string ⟨#[]⟩, .string ⟨#[]⟩, .string ⟨#[]⟩, .slice none 0 0, .slice none 0 0, .slice none 0 0, .int .i64 yk, .int .i64 yn, .string ym, .string yp, .slice t1 ya.len u1x, .bool false, .int .i64 ((d : Int) + 1), .bool bb] (by rfl) ⟨_, _, w0.heap.size, 0, rfl, rfl, .inr rfl, (fun e => by cases e), Nat.le_refl _, fun j u hj => by rw [Nat.zero_add, cell_new]; simpa using hj⟩ (by intro u hu; simp only [List.mem_cons, List.not_mem_nil, or_false] at hu; rcases hu with rfl | rfl | rfl | rfl | rfl | rfl | rfl | rfl | rfl | rfl | rfl | rfl | rfl | rfl | rfl <;> rfl) (by unfold maxLen; omega) (by omega) (by have := hP.bel.size; simp; omega) ?_
                  intro v7 w7 own7 gr7 att7
                  obtain ⟨a7, c7, rfl⟩ := own7.slice
                  refine hK.out _ _ ⟨trivial, fun h => absurd h (by decide)⟩ (fun hsh1 hS1 => ?_)
                  clear hsh hS hK K; have hsh := hsh1; have hS := hS1; clear hsh1 hS1
                  refine anyL_one (i := 15) (by kernel_rfl) rfl hsh (fun K hK => ?_)
                  go_simp
                  refine hK.out _ _ ⟨trivial, fun h => absurd h (by decide)⟩ (fun hsh1 hS1 => ?_)
                  clear hsh hS hK K; have hsh := hsh1; have hS := hS1; clear hsh1 hS1
                  refine anyL_done (by kernel_rfl) ?_ _
                  have hce : Fp.cells (Fp.ofE ⟨yk, yn, ym, yp, ya⟩ (d + 1) bb) (.slice none 0 0) (.slice none 0 0) (.slice none 0 0) (.slice t1 ya.len u1x) = [.int .i64 0, .string ⟨#[]⟩, .string ⟨#[]⟩, .string ⟨#[]⟩, .slice none 0 0, .slice none 0 0, .slice none 0 0, .int .i64 yk, .int .i64 yn, .string ym, .string yp, .slice t1 ya.len u1x, .bool false, .int .i64 ((d : Int) + 1), .bool bb] := by simp [Fp.cells, Fp.ofE, Fp.ofS, zeroS, zeroX]
                  have HF : Aside0 ((L ++ [(Fp.ofE ⟨yk, yn, ym, yp, ya⟩ (d + 1) bb)]).length = n + 1 ∧ i < n + 1 ∧ PB W1 P p #[.int .i64 sk, .string sn, .string skey, .string sval, .slice (some ⟨b1, o1, none⟩) nn r1, .slice s2 nb r2, .slice s3 nf r3, .int .i64 xk, .int .i64 xn, .string xm, .string xp, .slice s4 na r4, .bool is, .int .i64 (d : Int), .bool bb] (.slice a7 (n + 1) c7) (L ++ [(Fp.ofE ⟨yk, yn, ym, yp, ya⟩ (d + 1) bb)]) w7) := ⟨by rw [List.length_append, hLn]; rfl, by omega, PB.app hP hbox hrp hkp HPP.out.2.1 (by rw [hce, hLn]; exact own7) (by rw [hce]; exact gr7) (by rw [hce]; exact att7)⟩
                  clear own7 gr7 att7 hS hsh hce hP hbox hrp hkp
                  go_wp2
                  go_roundg q2
                  case measure => omega
                  case rel => exact ⟨j + 1, _, a7, c7, n + 1, by go_num, rfl, by omega, HF, HNA⟩
                · have hjn : nn ≤ j := by omega
                  have hltj : ¬ (j : Int) < (nn : Int) := by omega
                  have HPB2 : Aside0 (L.length = n ∧ i < n ∧ PB W1 P p #[.int .i64 sk, .string sn, .string skey, .string sval, .slice s1 nn r1, .slice s2 nb r2, .slice s3 nf r3, .int .i64 xk, .int .i64 xn, .string xm, .string xp, .slice s4 na r4, .bool is, .int .i64 (d : Int), .bool bb] (.slice ao n c) L wr) := hB
                  have HI3 := Aside0.mk (hI.out.endE (by have := HL.out.2.1.2.2; omega)).begS
                  clear hB hI hP hbox hrp hkp z13 z5 z6 z11
                  go_upto_region 18 with fail
                  clear z4
                  have hIL : Aside0 (inner sk bb = il) := ⟨HL.out.2.2.2.2.1⟩
                  go_cut [9] (fun v9 wx => v9 = .bool il ∧ wr = wx)
                  case first =>
                    have hil : il = (bb || decide (sk = 7) || decide (sk = 8)) := hIL.out.symm
                    clear HPB2 HI3
                    by_cases h7 : sk = 7
                    · have h7' : (sk == 7) = true := beq_iff_eq.2 h7
                      have HI : Aside0 (il = true) := ⟨by rw [hil]; simp [h7]⟩
                      clear hil h7
                      cases bb
                      all_goals
                        go_wp2
                        go_meet
                        exact ⟨by rw [HI.out], rfl⟩
                    have h7' : (sk == 7) = false := beq_eq_false_iff_ne.2 h7
                    by_cases h8 : sk = 8
                    · have h8' : (sk == 8) = true := beq_iff_eq.2 h8
                      have HI : Aside0 (il = true) := ⟨by rw [hil]; simp [h8]⟩
                      clear hil h8
                      cases bb
                      all_goals
                        go_wp2
                        go_meet
                        exact ⟨by rw [HI.out], rfl⟩
                    have h8' : (sk == 8) = false := beq_eq_false_iff_ne.2 h8
                    have HI : Aside0 (il = bb) := ⟨by rw [hil]; simp [h7, h8]⟩
                    clear hil
                    cases bb
                    all_goals
                      go_wp2
                      go_meet
                      exact ⟨by rw [HI.out], rfl⟩
                  case rest =>
                    obtain ⟨rfl, rfl⟩ := hcut
                    clear z0 z14 hIL
                    go_wp2
                    go_loopg [3, 10] nb (fun g v3 vj wr => ∃ (j : Nat) (L : List Fp) (ao : Option Addr) (c n : Nat), vj = .int .i64 (j : Int) ∧ v3 = .slice ao n c ∧ j + g = nb ∧ Aside0 (L.length = n ∧ i < n ∧ PB W1 P p #[.int .i64 sk, .string sn, .string skey, .string sval, .slice s1 nn r1, .slice s2 nb r2, .slice s3 nf r3, .int .i64 xk, .int .i64 xn, .string xm, .string xp, .slice s4 na r4, .bool is, .int .i64 (d : Int), .bool bb] (.slice ao n c) L wr) ∧ Aside0 (Inv s L (i + 1) (fun Q => allS Q (sb.drop j) (d + 1) il ∧ allS Q sf (d + 1) il ∧ True) ((sb.drop j).cnt + (sf.cnt + 0))))
                    case atStart => exact ⟨0, L, _, c, n, rfl, rfl, by omega, ⟨HPB2.out.1, HPB2.out.2.1, HPB2.out.2.2⟩, HI3⟩
                    case round =>
                      clear HPB2 HI3 hnT hjg hj hltj hjn hin hLn xs
                      obtain ⟨j, L, ao, c, n, rfl, rfl, hjg, hB, hI⟩ := hrel
                      obtain ⟨hLn, hin, xs, hP, hbox, hrp, hkp⟩ := hB.out
                      have hnT : n ≤ T := by have := hI.out.len; have := HIN.out.2.2.2.1; omega
                      obtain ⟨z0, z4, z5, z6, z11, z13, z14⟩ := cells15 hbox
                      by_cases hj : j < nb
                      · have hltj : (j : Int) < (nb : Int) := by omega
                        obtain ⟨q2, rfl⟩ : ∃ g, gk = g + 1 := ⟨gk - 1, by omega⟩
                        obtain ⟨y, hy⟩ := Sts.get_lt (l := sb) (j := j) (by rw [HL.out.2.2.1.2.2]; exact hj)
                        obtain ⟨-, y1, y2, y3, y4, ⟨ve, y5, hve⟩, ⟨vb, y6, hvb⟩, ⟨vf, y7, hvf⟩⟩ := HL.out.2.2.1.1.at hy
                        replace y1 := cell_below y1 hP.bel (Nat.le_refl _)
                        replace y2 := cell_below y2 hP.bel (Nat.le_refl _)
                        replace y3 := cell_below y3 hP.bel (Nat.le_refl _)
                        replace y4 := cell_below y4 hP.bel (Nat.le_refl _)
                        replace y5 := cell_below y5 hP.bel (Nat.le_refl _)
                        replace y6 := cell_below y6 hP.bel (Nat.le_refl _)
                        replace y7 := cell_below y7 hP.bel (Nat.le_refl _)
                        have e1 : ∃ ao c, ve = .slice ao y.exprs.len c := by obtain ⟨ao, c, _, _, e, _⟩ := hve; exact ⟨ao, c, e⟩
                        have e2 : ∃ ao c, vb = .slice ao y.body.len c := by obtain ⟨ao, c, _, _, e, _⟩ := hvb; exact ⟨ao, c, e⟩
                        have e3 : ∃ ao c, vf = .slice ao y.els.len c := by obtain ⟨ao, c, _, _, e, _⟩ := hvf; exact ⟨ao, c, e⟩
                        obtain ⟨t1, u1x, rfl⟩ := e1
                        obtain ⟨t2, u2x, rfl⟩ := e2
                        obtain ⟨t3, u3x, rfl⟩ := e3
                        have hao : s2 = some ⟨b2, o2, none⟩ := by rcases HL.out.2.2.1.2.1.lead with e | e; (omega); exact e
                        have hFL := FL.ofS (P := P) (w := W1) (x := y) (d := d + 1) (b := il) hve hvb hvf
                        have HN := hI.out.pushS hy (by have := HL.out.2.2.2.2.2; have := hI.out.le; omega)
                        obtain ⟨yk, yn, ykey, yval, ye, yb, yf⟩ := y
                        simp only at y1 y2 y3 y4 y5 y6 y7 hFL
                        have HNA : Aside0 (Inv s (L ++ [(Fp.ofS ⟨yk, yn, ykey, yval, ye, yb, yf⟩ (d + 1) il)]) (i + 1) (fun Q => allS Q (sb.drop (j + 1)) (d + 1) il ∧ allS Q sf (d + 1) il ∧ True) ((sb.drop (j + 1)).cnt + (sf.cnt + 0))) := ⟨HN⟩
                        have HPP : Aside0 (PB W1 P p #[.int .i64 sk, .string sn, .string skey, .string sval, .slice s1 nn r1, .slice s2 nb r2, .slice s3 nf r3, .int .i64 xk, .int .i64 xn, .string xm, .string xp, .slice s4 na r4, .bool is, .int .i64 (d : Int), .bool bb] (.slice ao n c) L wr ∧ FL P W1 (Fp.ofS ⟨yk, yn, ykey, yval, ye, yb, yf⟩ (d + 1) il) (.slice t1 ye.len u1x) (.slice t2 yb.len u2x) (.slice t3 yf.len u3x) (.slice none 0 0) ∧ L.length = n ∧ i < n) := ⟨⟨xs, hP, hbox, hrp, hkp⟩, hFL, hLn, hin⟩
                        subst hao
                        clear hy hFL HN hB hI hP hbox hrp hkp hve hvb hvf z0 z4 z6 z11
                        have hwd : IntKind.i64.wrap ((d : Int) + 1) = (d : Int) + 1 := IntWalk.i64_in _ (by omega)
                        go_upto_region 22 with fail
                        refine wp_region_L (fun _ => True) (fun w' => w'.cell? ⟨p, 5, none⟩ = some (.slice (some ⟨b2, o2, none⟩) nb r2) ∧ w'.cell? ⟨p, 13, none⟩ = some (.int .i64 (d : Int)) ∧ w'.cell? ⟨p, 14, none⟩ = some (.bool bb) ∧ w'.cell? ⟨b2, o2 + j * 7, none⟩ = some (.int .i64 yk) ∧ w'.cell? ⟨b2, o2 + j * 7 + 1, none⟩ = some (.string yn) ∧ w'.cell? ⟨b2, o2 + j * 7 + 2, none⟩ = some (.string ykey) ∧ w'.cell? ⟨b2, o2 + j * 7 + 3, none⟩ = some (.string yval) ∧ w'.cell? ⟨b2, o2 + j * 7 + 4, none⟩ = some (.slice t1 ye.len u1x) ∧ w'.cell? ⟨b2, o2 + j * 7 + 5, none⟩ = some (.slice t2 yb.len u2x) ∧ w'.cell? ⟨b2, o2 + j * 7 + 6, none⟩ = some (.slice t3 yf.len u3x)) 13 (by kernel_rfl) trivial ⟨z5, z13, z14, y1, y2, y3, y4, y5, y6, y7⟩ (fun hsh hS => ?_)
                        have hPd := HPP.out.1.below (Below.refl _ _).drew
                        generalize wr.drew = w0 at *
                        obtain ⟨xs, hP, hbox, hrp, hkp⟩ := hPd
                        refine anyL_take1 20 (i := 0) (v := ?_) rfl (by kernel_rfl) (by kernel_rfl) (by kernel_rfl) (by decide) (by kernel_rfl) hsh (fun _ _ _ h => h) (Or.inl ⟨by rfl, ?_⟩) hS ?_
                        rotate_left 1
                        · (intro wS hSw; (try dsimp only at hSw); first | (go_simp; done) | (go_simp; with_reducible rfl))
                        intro hsh1 hS1; clear hsh hS; have hsh := hsh1; have hS := hS1; clear hsh1 hS1
                        simp only [Act.put, List.setIfInBounds_toArray, List.set_cons_zero, List.set_cons_succ]
                        refine anyL_take1 20 (i := 1) (v := ?_) rfl (by kernel_rfl) (by kernel_rfl) (by kernel_rfl) (by decide) (by kernel_rfl) hsh (fun _ _ _ h => h) (Or.inl ⟨by rfl, ?_⟩) hS ?_
                        rotate_left 1
                        · (intro wS hSw; (try dsimp only at hSw); first | (go_simp; done) | (go_simp; with_reducible rfl))
                        intro hsh1 hS1; clear hsh hS; have hsh := hsh1; have hS := hS1; clear hsh1 hS1
                        simp only [Act.put, List.setIfInBounds_toArray, List.set_cons_zero, List.set_cons_succ]
                        refine anyL_take1 20 (i := 2) (v := ?_) rfl (by kernel_rfl) (by kernel_rfl) (by kernel_rfl) (by decide) (by kernel_rfl) hsh (fun _ _ _ h => h) (Or.inl ⟨by rfl, ?_⟩) hS ?_
                        rotate_left 1
                        · (intro wS hSw; (try dsimp only at hSw); first | (go_simp; done) | (go_simp; with_reducible rfl))
                        intro hsh1 hS1; clear hsh hS; have hsh := hsh1; have hS := hS1; clear hsh1 hS1
                        simp only [Act.put, List.setIfInBounds_toArray, List.set_cons_zero, List.set_cons_succ]
                        refine anyL_take1 20 (i := 3) (v := ?_) rfl (by kernel_rfl) (by kernel_rfl) (by kernel_rfl) (by decide) (by kernel_rfl) hsh (fun _ _ _ h => h) (Or.inl ⟨by rfl, ?_⟩) hS ?_
                        rotate_left 1
                        · (intro wS hSw; (try dsimp only at hSw); first | (go_simp; done) | (go_simp; with_reducible rfl))
                        intro hsh1 hS1; clear hsh hS; have hsh := hsh1; have hS := hS1; clear hsh1 hS1
                        simp only [Act.put, List.setIfInBounds_toArray, List.set_cons_zero, List.set_cons_succ]
                        refine anyL_take1 20 (i := 4) (v := ?_) rfl (by kernel_rfl) (by kernel_rfl) (by kernel_rfl) (by decide) (by kernel_rfl) hsh (fun _ _ _ h => h) (Or.inl ⟨by rfl, ?_⟩) hS ?_
                        rotate_left 1
                        · (intro wS hSw; (try dsimp only at hSw); first | (go_simp; done) | (go_simp; with_reducible rfl))
                        intro hsh1 hS1; clear hsh hS; have hsh := hsh1; have hS := hS1; clear hsh1 hS1
                        simp only [Act.put, List.setIfInBounds_toArray, List.set_cons_zero, List.set_cons_succ]
                        refine anyL_take1 20 (i := 5) (v := ?_) rfl (by kernel_rfl) (by kernel_rfl) (by kernel_rfl) (by decide) (by kernel_rfl) hsh (fun _ _ _ h => h) (Or.inl ⟨by rfl, ?_⟩) hS ?_
                        rotate_left 1
                        · (intro wS hSw; (try dsimp only at hSw); first | (go_simp; done) | (go_simp; with_reducible rfl))
                        intro hsh1 hS1; clear hsh hS; have hsh := hsh1; have hS := hS1; clear hsh1 hS1
                        simp only [Act.put, List.setIfInBounds_toArray, List.set_cons_zero, List.set_cons_succ]
                        refine anyL_take1 20 (i := 6) (v := ?_) rfl (by kernel_rfl) (by kernel_rfl) (by kernel_rfl) (by decide) (by kernel_rfl) hsh (fun _ _ _ h => h) (Or.inl ⟨by rfl, ?_⟩) hS ?_
                        rotate_left 1
                        · (intro wS hSw; (try dsimp only at hSw); first | (go_simp; done) | (go_simp; with_reducible rfl))
                        intro hsh1 hS1; clear hsh hS; have hsh := hsh1; have hS := hS1; clear hsh1 hS1
                        simp only [Act.put, List.setIfInBounds_toArray, List.set_cons_zero, List.set_cons_succ]
                        refine anyL_take1 20 (i := 7) (v := ?_) rfl (by kernel_rfl) (by kernel_rfl) (by kernel_rfl) (by decide) (by kernel_rfl) hsh (fun _ _ _ h => h) (Or.inl ⟨by rfl, ?_⟩) hS ?_
                        rotate_left 1
                        · (intro wS hSw; (try dsimp only at hSw); first | (go_simp; done) | (go_simp; with_reducible rfl))
                        intro hsh1 hS1; clear hsh hS; have hsh := hsh1; have hS := hS1; clear hsh1 hS1
                        simp only [Act.put, List.setIfInBounds_toArray, List.set_cons_zero, List.set_cons_succ]
                        refine anyL_take1 20 (i := 8) (v := ?_) rfl (by kernel_rfl) (by kernel_rfl) (by kernel_rfl) (by decide) (by kernel_rfl) hsh (fun _ _ _ h => h) (Or.inl ⟨by rfl, ?_⟩) hS ?_
                        rotate_left 1
                        · (intro wS hSw; (try dsimp only at hSw); first | (go_simp; done) | (go_simp; with_reducible rfl))
                        intro hsh1 hS1; clear hsh hS; have hsh := hsh1; have hS := hS1; clear hsh1 hS1
                        simp only [Act.put, List.setIfInBounds_toArray, List.set_cons_zero, List.set_cons_succ]
                        refine anyL_take1 20 (i := 9) (v := ?_) rfl (by kernel_rfl) (by kernel_rfl) (by kernel_rfl) (by decide) (by kernel_rfl) hsh (fun _ _ _ h => h) (Or.inl ⟨by rfl, ?_⟩) hS ?_
                        rotate_left 1
                        · (intro wS hSw; (try dsimp only at hSw); first | (go_simp; done) | (go_simp; with_reducible rfl))
                        intro hsh1 hS1; clear hsh hS; have hsh := hsh1; have hS := hS1; clear hsh1 hS1
                        simp only [Act.put, List.setIfInBounds_toArray, List.set_cons_zero, List.set_cons_succ]
                        refine anyL_take1 20 (i := 10) (v := ?_) rfl (by kernel_rfl) (by kernel_rfl) (by kernel_rfl) (by decide) (by kernel_rfl) hsh (fun _ _ _ h => h) (Or.inl ⟨by rfl, ?_⟩) hS ?_
                        rotate_left 1
                        · (intro wS hSw; (try dsimp only at hSw); first | (go_simp; done) | (go_simp; with_reducible rfl))
                        intro hsh1 hS1; clear hsh hS; have hsh := hsh1; have hS := hS1; clear hsh1 hS1
                        simp only [Act.put, List.setIfInBounds_toArray, List.set_cons_zero, List.set_cons_succ]
                        refine anyL_take1 20 (i := 11) (v := ?_) rfl (by kernel_rfl) (by kernel_rfl) (by kernel_rfl) (by decide) (by kernel_rfl) hsh (fun _ _ _ h => h) (Or.inl ⟨by rfl, ?_⟩) hS ?_
                        rotate_left 1
                        · (intro wS hSw; (try dsimp only at hSw); first | (go_simp; done) | (go_simp; with_reducible rfl))
                        intro hsh1 hS1; clear hsh hS; have hsh := hsh1; have hS := hS1; clear hsh1 hS1
                        simp only [Act.put, List.setIfInBounds_toArray, List.set_cons_zero, List.set_cons_succ]
                        refine anyL_one (i := 12) (by kernel_rfl) rfl hsh (fun K hK => ?_)
                        go_simp
                        have hSc := hS.2 (by decide)
                        refine hK.out _ _ ⟨trivial, fun _ => ⟨cell_alloc _ hSc.1, cell_alloc _ hSc.2.1, cell_alloc _ hSc.2.2.1, cell_alloc _ hSc.2.2.2.1, cell_alloc _ hSc.2.2.2.2.1, cell_alloc _ hSc.2.2.2.2.2.1, cell_alloc _ hSc.2.2.2.2.2.2.1, cell_alloc _ hSc.2.2.2.2.2.2.2.1, cell_alloc _ hSc.2.2.2.2.2.2.2.2.1, cell_alloc _ hSc.2.2.2.2.2.2.2.2.2⟩⟩ (fun hsh1 hS1 => ?_)
                        clear hsh hS hK K; have hsh := hsh1; have hS := hS1; clear hsh1 hS1
                        refine anyL_one (i := 13) (by kernel_rfl) rfl hsh (fun K hK => ?_)
                        refine step_append_sv (by rfl) (.tmp 106) (.tmp 118) (by rfl) Tryd.underlying67 info71 rfl (by decide) W1.heap.size n (Value.slice ao n c) xs (by rfl) ((hLn ▸ hP.own).alloc _) (Value.slice (some ⟨w0.heap.size, 0, none⟩) 1 1) 1 [.int .i64 yk, .string yn, .string ykey, .string yval, .slice t1 ye.len u1x, .slice t2 yb.len u2x, .slice t3 yf.len u3x, .int .i64 0, .int .i64 0, .string ⟨#[]⟩, .string ⟨#[]⟩, .slice none 0 0, .bool true, .int .i64 ((d : Int) + 1), .bool il] (by rfl) ⟨_, _, w0.heap.size, 0, rfl, rfl, .inr rfl, (fun e => by cases e), Nat.le_refl _, fun j u hj => by rw [Nat.zero_add, cell_new]; simpa using hj⟩ (by intro u hu; simp only [List.mem_cons, List.not_mem_nil, or_false] at hu; rcases hu with rfl | rfl | rfl | rfl | rfl | rfl | rfl | rfl | rfl | rfl | rfl | rfl | rfl | rfl | rfl <;> rfl) (by unfold maxLen; omega) (by omega) (by have := hP.bel.size; simp; omega) ?_
                        intro v7 w7 own7 gr7 att7
                        obtain ⟨a7, c7, rfl⟩ := own7.slice
                        refine hK.out _ _ ⟨trivial, fun h => absurd h (by decide)⟩ (fun hsh1 hS1 => ?_)
                        clear hsh hS hK K; have hsh := hsh1; have hS := hS1; clear hsh1 hS1
                        refine anyL_one (i := 14) (by kernel_rfl) rfl hsh (fun K hK => ?_)
                        go_simp
                        refine hK.out _ _ ⟨trivial, fun h => absurd h (by decide)⟩ (fun hsh1 hS1 => ?_)
                        clear hsh hS hK K; have hsh := hsh1; have hS := hS1; clear hsh1 hS1
                        refine anyL_done (by kernel_rfl) ?_ _
                        have hce : Fp.cells (Fp.ofS ⟨yk, yn, ykey, yval, ye, yb, yf⟩ (d + 1) il) (.slice t1 ye.len u1x) (.slice t2 yb.len u2x) (.slice t3 yf.len u3x) (.slice none 0 0) = [.int .i64 yk, .string yn, .string ykey, .string yval, .slice t1 ye.len u1x, .slice t2 yb.len u2x, .slice t3 yf.len u3x, .int .i64 0, .int .i64 0, .string ⟨#[]⟩, .string ⟨#[]⟩, .slice none 0 0, .bool true, .int .i64 ((d : Int) + 1), .bool il] := by simp [Fp.cells, Fp.ofE, Fp.ofS, zeroS, zeroX]
                        have HF : Aside0 ((L ++ [(Fp.ofS ⟨yk, yn, ykey, yval, ye, yb, yf⟩ (d + 1) il)]).length = n + 1 ∧ i < n + 1 ∧ PB W1 P p #[.int .i64 sk, .string sn, .string skey, .string sval, .slice s1 nn r1, .slice (some ⟨b2, o2, none⟩) nb r2, .slice s3 nf r3, .int .i64 xk, .int .i64 xn, .string xm, .string xp, .slice s4 na r4, .bool is, .int .i64 (d : Int), .bool bb] (.slice a7 (n + 1) c7) (L ++ [(Fp.ofS ⟨yk, yn, ykey, yval, ye, yb, yf⟩ (d + 1) il)]) w7) := ⟨by rw [List.length_append, hLn]; rfl, by omega, PB.app hP hbox hrp hkp HPP.out.2.1 (by rw [hce, hLn]; exact own7) (by rw [hce]; exact gr7) (by rw [hce]; exact att7)⟩
                        clear own7 gr7 att7 hS hsh hce hP hbox hrp hkp
                        go_wp2
                        go_roundg q2
                        case measure => omega
                        case rel => exact ⟨j + 1, _, a7, c7, n + 1, by go_num, rfl, by omega, HF, HNA⟩
                      · have hjn : nb ≤ j := by omega
                        have hltj : ¬ (j : Int) < (nb : Int) := by omega
                        have HPB3 : Aside0 (L.length = n ∧ i < n ∧ PB W1 P p #[.int .i64 sk, .string sn, .string skey, .string sval, .slice s1 nn r1, .slice s2 nb r2, .slice s3 nf r3, .int .i64 xk, .int .i64 xn, .string xm, .string xp, .slice s4 na r4, .bool is, .int .i64 (d : Int), .bool bb] (.slice ao n c) L wr) := hB
                        have HI4 := Aside0.mk (hI.out.endS (by have := HL.out.2.2.1.2.2; omega)).begS
                        clear hB hI hP hbox hrp hkp z13 z4 z6 z11 z0 z14
                        go_wp2
                        clear z5
                        go_loopg [3, 11] nf (fun g v3 vj wr => ∃ (j : Nat) (L : List Fp) (ao : Option Addr) (c n : Nat), vj = .int .i64 (j : Int) ∧ v3 = .slice ao n c ∧ j + g = nf ∧ Aside0 (L.length = n ∧ i < n ∧ PB W1 P p #[.int .i64 sk, .string sn, .string skey, .string sval, .slice s1 nn r1, .slice s2 nb r2, .slice s3 nf r3, .int .i64 xk, .int .i64 xn, .string xm, .string xp, .slice s4 na r4, .bool is, .int .i64 (d : Int), .bool bb] (.slice ao n c) L wr) ∧ Aside0 (Inv s L (i + 1) (fun Q => allS Q (sf.drop j) (d + 1) il ∧ True) ((sf.drop j).cnt + 0)))
                        case atStart => exact ⟨0, L, _, c, n, rfl, rfl, by omega, ⟨HPB3.out.1, HPB3.out.2.1, HPB3.out.2.2⟩, HI4⟩
                        case round =>
                          clear HPB3 HI4 hnT hjg hj hltj hjn hin hLn xs
                          obtain ⟨j, L, ao, c, n, rfl, rfl, hjg, hB, hI⟩ := hrel
                          obtain ⟨hLn, hin, xs, hP, hbox, hrp, hkp⟩ := hB.out
                          have hnT : n ≤ T := by have := hI.out.len; have := HIN.out.2.2.2.1; omega
                          obtain ⟨z0, z4, z5, z6, z11, z13, z14⟩ := cells15 hbox
                          by_cases hj : j < nf
                          · have hltj : (j : Int) < (nf : Int) := by omega
                            obtain ⟨q2, rfl⟩ : ∃ g, gk = g + 1 := ⟨gk - 1, by omega⟩
                            obtain ⟨y, hy⟩ := Sts.get_lt (l := sf) (j := j) (by rw [HL.out.2.2.2.1.2.2]; exact hj)
                            obtain ⟨-, y1, y2, y3, y4, ⟨ve, y5, hve⟩, ⟨vb, y6, hvb⟩, ⟨vf, y7, hvf⟩⟩ := HL.out.2.2.2.1.1.at hy
                            replace y1 := cell_below y1 hP.bel (Nat.le_refl _)
                            replace y2 := cell_below y2 hP.bel (Nat.le_refl _)
                            replace y3 := cell_below y3 hP.bel (Nat.le_refl _)
                            replace y4 := cell_below y4 hP.bel (Nat.le_refl _)
                            replace y5 := cell_below y5 hP.bel (Nat.le_refl _)
                            replace y6 := cell_below y6 hP.bel (Nat.le_refl _)
                            replace y7 := cell_below y7 hP.bel (Nat.le_refl _)
                            have e1 : ∃ ao c, ve = .slice ao y.exprs.len c := by obtain ⟨ao, c, _, _, e, _⟩ := hve; exact ⟨ao, c, e⟩
                            have e2 : ∃ ao c, vb = .slice ao y.body.len c := by obtain ⟨ao, c, _, _, e, _⟩ := hvb; exact ⟨ao, c, e⟩
                            have e3 : ∃ ao c, vf = .slice ao y.els.len c := by obtain ⟨ao, c, _, _, e, _⟩ := hvf; exact ⟨ao, c, e⟩
                            obtain ⟨t1, u1x, rfl⟩ := e1
                            obtain ⟨t2, u2x, rfl⟩ := e2
                            obtain ⟨t3, u3x, rfl⟩ := e3
                            have hao : s3 = some ⟨b3, o3, none⟩ := by rcases HL.out.2.2.2.1.2.1.lead with e | e; (omega); exact e
                            have hFL := FL.ofS (P := P) (w := W1) (x := y) (d := d + 1) (b := il) hve hvb hvf
                            have HN := hI.out.pushS hy (by have := HL.out.2.2.2.2.2; have := hI.out.le; omega)
                            obtain ⟨yk, yn, ykey, yval, ye, yb, yf⟩ := y
                            simp only at y1 y2 y3 y4 y5 y6 y7 hFL
                            have HNA : Aside0 (Inv s (L ++ [(Fp.ofS ⟨yk, yn, ykey, yval, ye, yb, yf⟩ (d + 1) il)]) (i + 1) (fun Q => allS Q (sf.drop (j + 1)) (d + 1) il ∧ True) ((sf.drop (j + 1)).cnt + 0)) := ⟨HN⟩
                            have HPP : Aside0 (PB W1 P p #[.int .i64 sk, .string sn, .string skey, .string sval, .slice s1 nn r1, .slice s2 nb r2, .slice s3 nf r3, .int .i64 xk, .int .i64 xn, .string xm, .string xp, .slice s4 na r4, .bool is, .int .i64 (d : Int), .bool bb] (.slice ao n c) L wr ∧ FL P W1 (Fp.ofS ⟨yk, yn, ykey, yval, ye, yb, yf⟩ (d + 1) il) (.slice t1 ye.len u1x) (.slice t2 yb.len u2x) (.slice t3 yf.len u3x) (.slice none 0 0) ∧ L.length = n ∧ i < n) := ⟨⟨xs, hP, hbox, hrp, hkp⟩, hFL, hLn, hin⟩
                            subst hao
                            clear hy hFL HN hB hI hP hbox hrp hkp hve hvb hvf z0 z4 z5 z11
                            have hwd : IntKind.i64.wrap ((d : Int) + 1) = (d : Int) + 1 := IntWalk.i64_in _ (by omega)
                            go_upto_region 26 with fail
                            refine wp_region_L (fun _ => True) (fun w' => w'.cell? ⟨p, 6, none⟩ = some (.slice (some ⟨b3, o3, none⟩) nf r3) ∧ w'.cell? ⟨p, 13, none⟩ = some (.int .i64 (d : Int)) ∧ w'.cell? ⟨p, 14, none⟩ = some (.bool bb) ∧ w'.cell? ⟨b3, o3 + j * 7, none⟩ = some (.int .i64 yk) ∧ w'.cell? ⟨b3, o3 + j * 7 + 1, none⟩ = some (.string yn) ∧ w'.cell? ⟨b3, o3 + j * 7 + 2, none⟩ = some (.string ykey) ∧ w'.cell? ⟨b3, o3 + j * 7 + 3, none⟩ = some (.string yval) ∧ w'.cell? ⟨b3, o3 + j * 7 + 4, none⟩ = some (.slice t1 ye.len u1x) ∧ w'.cell? ⟨b3, o3 + j * 7 + 5, none⟩ = some (.slice t2 yb.len u2x) ∧ w'.cell? ⟨b3, o3 + j * 7 + 6, none⟩ = some (.slice t3 yf.len u3x)) 13 (by kernel_rfl) trivial ⟨z6, z13, z14, y1, y2, y3, y4, y5, y6, y7⟩ (fun hsh hS => ?_)
                            have hPd := HPP.out.1.below (Below.refl _ _).drew
                            generalize wr.drew = w0 at *
                            obtain ⟨xs, hP, hbox, hrp, hkp⟩ := hPd
                            refine anyL_take1 20 (i := 0) (v := ?_) rfl (by kernel_rfl) (by kernel_rfl) (by kernel_rfl) (by decide) (by kernel_rfl) hsh (fun _ _ _ h => h) (Or.inl ⟨by rfl, ?_⟩) hS ?_
                            rotate_left 1
                            · (intro wS hSw; (try dsimp only at hSw); first | (go_simp; done) | (go_simp; with_reducible rfl))
                            intro hsh1 hS1; clear hsh hS; have hsh := hsh1; have hS := hS1; clear hsh1 hS1
                            simp only [Act.put, List.setIfInBounds_toArray, List.set_cons_zero, List.set_cons_succ]
                            refine anyL_take1 20 (i := 1) (v := ?_) rfl (by kernel_rfl) (by kernel_rfl) (by kernel_rfl) (by decide) (by kernel_rfl) hsh (fun _ _ _ h => h) (Or.inl ⟨by rfl, ?_⟩) hS ?_
                            rotate_left 1
                            · (intro wS hSw; (try dsimp only at hSw); first | (go_simp; done) | (go_simp; with_reducible rfl))
                            intro hsh1 hS1; clear hsh hS; have hsh := hsh1; have hS := hS1; clear hsh1 hS1
                            simp only [Act.put, List.setIfInBounds_toArray, List.set_cons_zero, List.set_cons_succ]
                            refine anyL_take1 20 (i := 2) (v := ?_) rfl (by kernel_rfl) (by kernel_rfl) (by kernel_rfl) (by decide) (by kernel_rfl) hsh (fun _ _ _ h => h) (Or.inl ⟨by rfl, ?_⟩) hS ?_
                            rotate_left 1
                            · (intro wS hSw; (try dsimp only at hSw); first | (go_simp; done) | (go_simp; with_reducible rfl))
                            intro hsh1 hS1; clear hsh hS; have hsh := hsh1; have hS := hS1; clear hsh1 hS1
                            simp only [Act.put, List.setIfInBounds_toArray, List.set_cons_zero, List.set_cons_succ]
                            refine anyL_take1 20 (i := 3) (v := ?_) rfl (by kernel_rfl) (by kernel_rfl) (by kernel_rfl) (by decide) (by kernel_rfl) hsh (fun _ _ _ h => h) (Or.inl ⟨by rfl, ?_⟩) hS ?_
                            rotate_left 1
                            · (intro wS hSw; (try dsimp only at hSw); first | (go_simp; done) | (go_simp; with_reducible rfl))
                            intro hsh1 hS1; clear hsh hS; have hsh := hsh1; have hS := hS1; clear hsh1 hS1
                            simp only [Act.put, List.setIfInBounds_toArray, List.set_cons_zero, List.set_cons_succ]
                            refine anyL_take1 20 (i := 4) (v := ?_) rfl (by kernel_rfl) (by kernel_rfl) (by kernel_rfl) (by decide) (by kernel_rfl) hsh (fun _ _ _ h => h) (Or.inl ⟨by rfl, ?_⟩) hS ?_
                            rotate_left 1
                            · (intro wS hSw; (try dsimp only at hSw); first | (go_simp; done) | (go_simp; with_reducible rfl))
                            intro hsh1 hS1; clear hsh hS; have hsh := hsh1; have hS := hS1; clear hsh1 hS1
                            simp only [Act.put, List.setIfInBounds_toArray, List.set_cons_zero, List.set_cons_succ]
                            refine anyL_take1 20 (i := 5) (v := ?_) rfl (by kernel_rfl) (by kernel_rfl) (by kernel_rfl) (by decide) (by kernel_rfl) hsh (fun _ _ _ h => h) (Or.inl ⟨by rfl, ?_⟩) hS ?_
                            rotate_left 1
                            · (intro wS hSw; (try dsimp only at hSw); first | (go_simp; done) | (go_simp; with_reducible rfl))
                            intro hsh1 hS1; clear hsh hS; have hsh := hsh1; have hS := hS1; clear hsh1 hS1
                            simp only [Act.put, List.setIfInBounds_toArray, List.set_cons_zero, List.set_cons_succ]
                            refine anyL_take1 20 (i := 6) (v := ?_) rfl (by kernel_rfl) (by kernel_rfl) (by kernel_rfl) (by decide) (by kernel_rfl) hsh (fun _ _ _ h => h) (Or.inl ⟨by rfl, ?_⟩) hS ?_
                            rotate_left 1
                            · (intro wS hSw; (try dsimp only at hSw); first | (go_simp; done) | (go_simp; with_reducible rfl))
                            intro hsh1 hS1; clear hsh hS; have hsh := hsh1; have hS := hS1; clear hsh1 hS1
                            simp only [Act.put, List.setIfInBounds_toArray, List.set_cons_zero, List.set_cons_succ]
                            refine anyL_take1 20 (i := 7) (v := ?_) rfl (by kernel_rfl) (by kernel_rfl) (by kernel_rfl) (by decide) (by kernel_rfl) hsh (fun _ _ _ h => h) (Or.inl ⟨by rfl, ?_⟩) hS ?_
                            rotate_left 1
                            · (intro wS hSw; (try dsimp only at hSw); first | (go_simp; done) | (go_simp; with_reducible rfl))
                            intro hsh1 hS1; clear hsh hS; have hsh := hsh1; have hS := hS1; clear hsh1 hS1
                            simp only [Act.put, List.setIfInBounds_toArray, List.set_cons_zero, List.set_cons_succ]
                            refine anyL_take1 20 (i := 8) (v := ?_) rfl (by kernel_rfl) (by kernel_rfl) (by kernel_rfl) (by decide) (by kernel_rfl) hsh (fun _ _ _ h => h) (Or.inl ⟨by rfl, ?_⟩) hS ?_
                            rotate_left 1
                            · (intro wS hSw; (try dsimp only at hSw); first | (go_simp; done) | (go_simp; with_reducible rfl))
                            intro hsh1 hS1; clear hsh hS; have hsh := hsh1; have hS := hS1; clear hsh1 hS1
                            simp only [Act.put, List.setIfInBounds_toArray, List.set_cons_zero, List.set_cons_succ]
                            refine anyL_take1 20 (i := 9) (v := ?_) rfl (by kernel_rfl) (by kernel_rfl) (by kernel_rfl) (by decide) (by kernel_rfl) hsh (fun _ _ _ h => h) (Or.inl ⟨by rfl, ?_⟩) hS ?_
                            rotate_left 1
                            · (intro wS hSw; (try dsimp only at hSw); first | (go_simp; done) | (go_simp; with_reducible rfl))
                            intro hsh1 hS1; clear hsh hS; have hsh := hsh1; have hS := hS1; clear hsh1 hS1
                            simp only [Act.put, List.setIfInBounds_toArray, List.set_cons_zero, List.set_cons_succ]
                            refine anyL_take1 20 (i := 10) (v := ?_) rfl (by kernel_rfl) (by kernel_rfl) (by kernel_rfl) (by decide) (by kernel_rfl) hsh (fun _ _ _ h => h) (Or.inl ⟨by rfl, ?_⟩) hS ?_
                            rotate_left 1
                            · (intro wS hSw; (try dsimp only at hSw); first | (go_simp; done) | (go_simp; with_reducible rfl))
                            intro hsh1 hS1; clear hsh hS; have hsh := hsh1; have hS := hS1; clear hsh1 hS1
                            simp only [Act.put, List.setIfInBounds_toArray, List.set_cons_zero, List.set_cons_succ]
                            refine anyL_take1 20 (i := 11) (v := ?_) rfl (by kernel_rfl) (by kernel_rfl) (by kernel_rfl) (by decide) (by kernel_rfl) hsh (fun _ _ _ h => h) (Or.inl ⟨by rfl, ?_⟩) hS ?_
                            rotate_left 1
                            · (intro wS hSw; (try dsimp only at hSw); first | (go_simp; done) | (go_simp; with_reducible rfl))
                            intro hsh1 hS1; clear hsh hS; have hsh := hsh1; have hS := hS1; clear hsh1 hS1
                            simp only [Act.put, List.setIfInBounds_toArray, List.set_cons_zero, List.set_cons_succ]
                            refine anyL_one (i := 12) (by kernel_rfl) rfl hsh (fun K hK => ?_)
                            go_simp
                            have hSc := hS.2 (by decide)
                            refine hK.out _ _ ⟨trivial, fun _ => ⟨cell_alloc _ hSc.1, cell_alloc _ hSc.2.1, cell_alloc _ hSc.2.2.1, cell_alloc _ hSc.2.2.2.1, cell_alloc _ hSc.2.2.2.2.1, cell_alloc _ hSc.2.2.2.2.2.1, cell_alloc _ hSc.2.2.2.2.2.2.1, cell_alloc _ hSc.2.2.2.2.2.2.2.1, cell_alloc _ hSc.2.2.2.2.2.2.2.2.1, cell_alloc _ hSc.2.2.2.2.2.2.2.2.2⟩⟩ (fun hsh1 hS1 => ?_)
                            clear hsh hS hK K; have hsh := hsh1; have hS := hS1; clear hsh1 hS1
                            refine anyL_one (i := 13) (by kernel_rfl) rfl hsh (fun K hK => ?_)
                            refine step_append_sv (by rfl) (.tmp 128) (.tmp 140) (by rfl) Tryd.underlying67 info71 rfl (by decide) W1.heap.size n (Value.slice ao n c) xs (by rfl) ((hLn ▸ hP.own).alloc _) (Value.slice (some ⟨w0.heap.size, 0, none⟩) 1 1) 1 [.int .i64 yk, .string yn, .string ykey, .string yval, .slice t1 ye.len u1x, .slice t2 yb.len u2x, .slice t3 yf.len u3x, .int .i64 0, .int .i64 0, .string ⟨#[]⟩, .string ⟨#[]⟩, .slice none 0 0, .bool true, .int .i64 ((d : Int) + 1), .bool il] (by rfl) ⟨_, _, w0.heap.size, 0, rfl, rfl, .inr rfl, (fun e => by cases e), Nat.le_refl _, fun j u hj => by rw [Nat.zero_add, cell_new]; simpa using hj⟩ (by intro u hu; simp only [List.mem_cons, List.not_mem_nil, or_false] at hu; rcases hu with rfl | rfl | rfl | rfl | rfl | rfl | rfl | rfl | rfl | rfl | rfl | rfl | rfl | rfl | rfl <;> rfl) (by unfold maxLen; omega) (by omega) (by have := hP.bel.size; simp; omega) ?_
                            intro v7 w7 own7 gr7 att7
                            obtain ⟨a7, c7, rfl⟩ := own7.slice
                            refine hK.out _ _ ⟨trivial, fun h => absurd h (by decide)⟩ (fun hsh1 hS1 => ?_)
                            clear hsh hS hK K; have hsh := hsh1; have hS := hS1; clear hsh1 hS1
                            refine anyL_one (i := 14) (by kernel_rfl) rfl hsh (fun K hK => ?_)
                            go_simp
                            refine hK.out _ _ ⟨trivial, fun h => absurd h (by decide)⟩ (fun hsh1 hS1 => ?_)
                            clear hsh hS hK K; have hsh := hsh1; have hS := hS1; clear hsh1 hS1
                            refine anyL_done (by kernel_rfl) ?_ _
                            have hce : Fp.cells (Fp.ofS ⟨yk, yn, ykey, yval, ye, yb, yf⟩ (d + 1) il) (.slice t1 ye.len u1x) (.slice t2 yb.len u2x) (.slice t3 yf.len u3x) (.slice none 0 0) = [.int .i64 yk, .string yn, .string ykey, .string yval, .slice t1 ye.len u1x, .slice t2 yb.len u2x, .slice t3 yf.len u3x, .int .i64 0, .int .i64 0, .string ⟨#[]⟩, .string ⟨#[]⟩, .slice none 0 0, .bool true, .int .i64 ((d : Int) + 1), .bool il] := by simp [Fp.cells, Fp.ofE, Fp.ofS, zeroS, zeroX]
                            have HF : Aside0 ((L ++ [(Fp.ofS ⟨yk, yn, ykey, yval, ye, yb, yf⟩ (d + 1) il)]).length = n + 1 ∧ i < n + 1 ∧ PB W1 P p #[.int .i64 sk, .string sn, .string skey, .string sval, .slice s1 nn r1, .slice s2 nb r2, .slice (some ⟨b3, o3, none⟩) nf r3, .int .i64 xk, .int .i64 xn, .string xm, .string xp, .slice s4 na r4, .bool is, .int .i64 (d : Int), .bool bb] (.slice a7 (n + 1) c7) (L ++ [(Fp.ofS ⟨yk, yn, ykey, yval, ye, yb, yf⟩ (d + 1) il)]) w7) := ⟨by rw [List.length_append, hLn]; rfl, by omega, PB.app hP hbox hrp hkp HPP.out.2.1 (by rw [hce, hLn]; exact own7) (by rw [hce]; exact gr7) (by rw [hce]; exact att7)⟩
                            clear own7 gr7 att7 hS hsh hce hP hbox hrp hkp
                            go_wp2
                            go_roundg q2
                            case measure => omega
                            case rel => exact ⟨j + 1, _, a7, c7, n + 1, by go_num, rfl, by omega, HF, HNA⟩
                          · have hjn : nf ≤ j := by omega
                            have hltj : ¬ (j : Int) < (nf : Int) := by omega
                            have HFI : Aside0 ((L.length = n ∧ ∃ xs, PJ W1 P (.slice ao n c) L xs wr) ∧ Inv s L (i + 1) (fun _ => True) 0) := ⟨⟨hLn, xs, hP⟩, hI.out.endS (by have := HL.out.2.2.2.1.2.2; omega)⟩
                            clear hB hI hP hbox hrp hkp z13 z0 z14 z4 z5 z11
                            go_wp2
                            go_roundg q
                            case measure => omega
                            case rel => exact ⟨i + 1, L, ao, c, n, by go_num, rfl, by have := HQI.out.2; omega, ⟨HFI.out.1⟩, ⟨HFI.out.2⟩⟩
        · obtain rfl : i = n := by omega
          have hlt : ¬ (i : Int) < (i : Int) := by omega
          have HF : Aside0 (Q (.returned (.slice ao i c)) wr) := ⟨by
            have hB := hP.bel
            refine HQ.out _ L xs _ ?_ (fun j f hf => ?_) (HB1.out.1.trans (hB.mono (by have := HB1.out.2.1; have := HB1.out.2.2.1; omega))) (by have := hI.out.len; omega) hI.out.deep (fun Q => ?_)
            · rw [hLn]
              have := hP.own
              rw [hLn] at this
              exact this.mono (by have := HB1.out.2.1; have := HB1.out.2.2.1; omega)
            · obtain ⟨ve, vb, vf, va, h1, h2⟩ := hP.fc j f hf
              exact ⟨ve, vb, vf, va, ⟨(h1.1.below hB (Nat.le_refl _)).to (fun _ _ => rfl) (fun _ _ => trivial), (h1.2.1.below hB (Nat.le_refl _)).to (fun _ _ => rfl) (fun _ _ => trivial), (h1.2.2.1.below hB (Nat.le_refl _)).to (fun _ _ => rfl) (fun _ _ => trivial), (h1.2.2.2.below hB (Nat.le_refl _)).to (fun _ _ => rfl) (fun _ _ => trivial)⟩, h2⟩
            · have := hI.out
              rw [← hLn] at this
              exact this.done (fun _ => trivial) Q⟩
          clear hP hJ hI
          go_wp2
          exact HF.out
end Go.Proofs.YthkmdmobeadigaaDoor.lg
