/- What has been seen of a program: statements, walked. -/
import Derived.Test.YthkmdmobeadigaaDoorWg
import Derived.Test.YthkmdmobeadigaaDoorWf
import Derived.IntWalk
namespace Go.Proofs.YthkmdmobeadigaaDoor.lg
open Go.RowKit
set_option linter.unusedVariables false
set_option linter.unusedSimpArgs false
theorem ret_num {a b : Int} (h : a = b) : Ending.returned (.int .i64 a) = .returned (.int .i64 b) := by rw [h]
/-- What the look at one statement leaves; at statements. -/
def LkS (n : Nat) : Prop := ∀ (x : St) (ve vb vf : Value) (w : World) (B0 lb mb : Nat) (l : List Nv) (u q il : Bool), x.wt ≤ n → x.wt ≤ 3000000 → HE (fun b => b < B0) w ve x.exprs → HS (fun b => b < B0) w vb x.body → HS (fun b => b < B0) w vf x.els → LK w lb mb l u q → B0 ≤ lb → B0 ≤ w.heap.size →
  Calls Tryd.prog 52 #[.pointer (some ⟨lb, 0, none⟩), x.v ve vb vf, .bool il] w (LkP w lb mb l (.int .i64 (x.dep : Int)) (u || x.use (keysL l)) (q || x.loop il))
def LkL (n : Nat) : Prop := ∀ (s : Sts) (v : Value) (w : World) (B0 lb mb : Nat) (l : List Nv) (u q il : Bool), s.wt ≤ n → s.wt ≤ 3000000 → HS (fun b => b < B0) w v s → LK w lb mb l u q → B0 ≤ lb → B0 ≤ w.heap.size →
  Calls Tryd.prog 26 #[.pointer (some ⟨lb, 0, none⟩), v, .bool il] w (LkP w lb mb l (.int .i64 (depS s : Int)) (u || useS (keysL l) s) (q || loopS s il))
set_option maxHeartbeats 4000000 in
set_option maxRecDepth 100000 in
theorem lkL_of (n : Nat) (ih : LkS n) : LkL n := by
  intro s v w B0 lb mb l u q il hn hm hA hK hBl hBw
  obtain ⟨ao, c, b, o, rfl, hd, hL⟩ := hA
  have hlen := s.len_wt
  have hdw := depS_wt s
  obtain ⟨U, hU⟩ : ∃ U, (u || useS (keysL l) s) = U := ⟨_, rfl⟩
  obtain ⟨Z, hZ⟩ : ∃ U, (q || loopS s il) = U := ⟨_, rfl⟩
  obtain ⟨D, hD⟩ : ∃ D, depS s = D := ⟨_, rfl⟩
  rw [hU, hD, hZ]
  rw [hD] at hdw
  have HU : Aside0 (U = (u || useS (keysL l) s) ∧ Z = (q || loopS s il) ∧ depS s = D) := ⟨hU.symm, hZ.symm, hD⟩
  obtain ⟨na, hna⟩ : ∃ p, s.len = p := ⟨_, rfl⟩
  have HLE : Aside0 (LSs (fun b => b < B0) w b o s ∧ Hd ao s.len c b o ∧ s.len = na) := ⟨hL, hd, hna⟩
  have HSZ : Aside0 (s.wt ≤ 3000000 ∧ s.wt ≤ n) := ⟨by omega, by omega⟩
  have HIH : Aside0 (LkS n) := ⟨ih⟩
  have hna3 : na ≤ 3000000 := by omega
  have hD3 : D ≤ 3000000 := by omega
  rw [hna]
  have hkl := hK.lt
  have hG0 : w.grownBy w (some lb) := World.grownBy.refl _ _
  clear hU hD hZ hL hd hna hdw hlen hn hm ih
  go_enter Tryd.func26, Tryd.ntmps26
  go_wp2
  go_loopg [7, 12] na (fun g vd vi wr => ∃ (i d : Nat) (ui qi : Bool), vi = .int .i64 (i : Int) ∧ vd = .int .i64 (d : Int) ∧ i + g = na ∧ d ≤ D ∧ w.grownBy wr (some lb) ∧ LK wr lb mb l ui qi ∧ Aside0 (U = (ui || useS (keysL l) (s.drop i)) ∧ Z = (qi || loopS (s.drop i) il) ∧ D = max d (depS (s.drop i))))
  case atStart => exact ⟨0, 0, _, _, rfl, rfl, by omega, by omega, hG0, hK, ⟨by rw [drop_zeroS]; exact HU.out.1, by rw [drop_zeroS]; exact HU.out.2.1, by rw [drop_zeroS, HU.out.2.2]; omega⟩⟩
  case round =>
    obtain ⟨i, d, ui, qi, rfl, rfl, hig, hdD, hGr, hKr, hF⟩ := hrel
    have hBs := hGr.size
    clear hK hG0
    by_cases hi : i < na
    · have hlt : (i : Int) < (na : Int) := by omega
      obtain ⟨p, rfl⟩ : ∃ p, gk = p + 1 := ⟨gk - 1, by omega⟩
      obtain ⟨y, hy⟩ := Sts.get_lt (l := s) (j := i) (by rw [HLE.out.2.2]; exact hi)
      have hyw := Sts.get_wt hy
      have hbel : Below B0 w wr := below_grown hGr hBl hBw
      obtain ⟨y0, y1, y2, y3, y4, y5, y6, y7⟩ := (HLE.out.1.lt hbel).at hy
      obtain ⟨ve, y5, hve⟩ := y5
      obtain ⟨vb, y6, hvb⟩ := y6
      obtain ⟨vf, y7, hvf⟩ := y7
      have hve' : ∃ ao c, ve = .slice ao y.exprs.len c := by obtain ⟨ao, c, _, _, e, _⟩ := hve; exact ⟨ao, c, e⟩
      have hvb' : ∃ ao c, vb = .slice ao y.body.len c := by obtain ⟨ao, c, _, _, e, _⟩ := hvb; exact ⟨ao, c, e⟩
      have hvf' : ∃ ao c, vf = .slice ao y.els.len c := by obtain ⟨ao, c, _, _, e, _⟩ := hvf; exact ⟨ao, c, e⟩
      obtain ⟨a1, p1, rfl⟩ := hve'
      obtain ⟨a2, p2, rfl⟩ := hvb'
      obtain ⟨a3, p3, rfl⟩ := hvf'
      have hao : ao = some ⟨b, o, none⟩ := by rcases HLE.out.2.1.lead with e | e; (have := HLE.out.2.2; omega); exact e
      have cy : ∀ W, Below wr.heap.size wr W → Calls Tryd.prog 52 #[.pointer (some ⟨lb, 0, none⟩), y.v (.slice a1 y.exprs.len p1) (.slice a2 y.body.len p2) (.slice a3 y.els.len p3), .bool il] W (LkP W lb mb l (.int .i64 (y.dep : Int)) (ui || y.use (keysL l)) (qi || y.loop il)) := fun W hW => HIH.out y _ _ _ W B0 lb mb l ui qi il (by have := HSZ.out.2; omega) (by have := HSZ.out.1; omega) (hve.lt (hW.mono (by omega))) (hvb.lt (hW.mono (by omega))) (hvf.lt (hW.mono (by omega))) (hKr.below hW) hBl (by have := hW.size; omega)
      have HST : Aside0 (U = ((ui || y.use (keysL l)) || useS (keysL l) (s.drop (i + 1))) ∧ Z = ((qi || y.loop il) || loopS (s.drop (i + 1)) il) ∧ D = max (max d y.dep) (depS (s.drop (i + 1)))) := ⟨by rw [hF.out.1, Sts.drop_get hy, useS_on, Bool.or_assoc], by rw [hF.out.2.1, Sts.drop_get hy, loopS_on, Bool.or_assoc], by rw [hF.out.2.2, Sts.drop_get hy, depS_on]; omega⟩
      have hyd : y.dep ≤ D := by rw [HST.out.2.2]; omega
      obtain ⟨yk, yn, ykey, yval, ye, yb, yf⟩ := y
      simp only [St.v] at cy y1 y2 y3 y4 y5 y6 y7
      subst hao
      obtain ⟨dy, hdy⟩ : ∃ x, St.dep ⟨yk, yn, ykey, yval, ye, yb, yf⟩ = x := ⟨_, rfl⟩
      obtain ⟨uy, huy⟩ : ∃ x, St.use (keysL l) ⟨yk, yn, ykey, yval, ye, yb, yf⟩ = x := ⟨_, rfl⟩
      obtain ⟨qy, hqy⟩ : ∃ x, St.loop ⟨yk, yn, ykey, yval, ye, yb, yf⟩ il = x := ⟨_, rfl⟩
      rw [hdy, huy, hqy] at cy HST
      rw [hdy] at hyd
      have HG : Aside0 (w.grownBy wr (some lb)) := ⟨hGr⟩
      clear hF hyw hy hve hvb hvf y0 hdy huy hqy hbel hKr hGr
      go_wp2_with (go_at_call 52; (with_reducible refine (cy _ (by repeat (first | with_reducible assumption | with_reducible refine below_set ?_ (by omega) _ | with_reducible refine Below.alloc ?_ (by first | omega | (simp; done) | (simp; omega)) _ | with_reducible refine Below.drew ?_ | with_reducible exact Below.refl _ _ | with_reducible refine below_two ?_ (by with_reducible assumption)))).mono ?_); rintro e w1 ⟨rfl, hG1, hK1⟩)
      · rename_i h
        have HM : Aside0 (D = max dy (depS (s.drop (i + 1)))) := ⟨by rw [HST.out.2.2, Nat.max_eq_right (a := d) (b := dy) (by omega)]⟩
        go_roundg p
        case measure => omega
        case rel => exact ⟨i + 1, dy, _, _, by go_num, rfl, by omega, hyd, HG.out.trans ((World.grownBy_alloc wr _ (some lb)).trans hG1), hK1, ⟨HST.out.1, HST.out.2.1, HM.out⟩⟩
      · rename_i h
        have HM : Aside0 (D = max d (depS (s.drop (i + 1)))) := ⟨by rw [HST.out.2.2, Nat.max_eq_left (a := d) (b := dy) (by omega)]⟩
        go_roundg p
        case measure => omega
        case rel => exact ⟨i + 1, d, _, _, by go_num, rfl, by omega, hdD, HG.out.trans ((World.grownBy_alloc wr _ (some lb)).trans hG1), hK1, ⟨HST.out.1, HST.out.2.1, HM.out⟩⟩
    · obtain rfl : i = na := by omega
      have hlt : ¬ (i : Int) < (i : Int) := by omega
      have A : Aside0 (U = ui ∧ Z = qi ∧ D = d) := ⟨by rw [hF.out.1, ← HLE.out.2.2, Sts.drop_len]; simp [useS], by rw [hF.out.2.1, ← HLE.out.2.2, Sts.drop_len]; simp [loopS], by rw [hF.out.2.2, ← HLE.out.2.2, Sts.drop_len]; simp [depS]⟩
      go_wp2
      go_ret
      exact ⟨by rw [A.out.2.2]; rfl, hGr, by rw [A.out.1, A.out.2.1]; exact hKr⟩
set_option maxHeartbeats 8000000 in
set_option maxRecDepth 100000 in
theorem lkS_of (n : Nat) (ih : LkL n) : LkS (n + 1) := by
  intro x ve vb vf w B0 lb mb l u q il hn hm hE hS1 hS2 hK hBl hBw
  obtain ⟨kind, name, key, val, exprs, body, els⟩ := x
  unfold St.wt at hn hm
  simp only at hn hm hE hS1 hS2
  have hlen1 := exprs.len_wt
  have hlen2 := body.len_wt
  have hlen3 := els.len_wt
  have hdw1 := depE_wt exprs
  have hdw2 := depS_wt body
  have hdw3 := depS_wt els
  obtain ⟨il', hil'⟩ : ∃ x, inner kind il = x := ⟨_, rfl⟩
  obtain ⟨byy, hbyy⟩ : ∃ x, badY (keysL l) kind name.data.toList key.data.toList val.data.toList = x := ⟨_, rfl⟩
  obtain ⟨ql, hql⟩ : ∃ x, ((decide (kind = 9) || decide (kind = 10)) && !il) = x := ⟨_, rfl⟩
  obtain ⟨U, hU⟩ : ∃ U, (u || St.use (keysL l) ⟨kind, name, key, val, exprs, body, els⟩) = U := ⟨_, rfl⟩
  obtain ⟨Z, hZ⟩ : ∃ Z, (q || St.loop ⟨kind, name, key, val, exprs, body, els⟩ il) = Z := ⟨_, rfl⟩
  obtain ⟨D, hD⟩ : ∃ D, max (depE exprs) (max (depS body) (depS els)) = D := ⟨_, rfl⟩
  have e1 : St.dep ⟨kind, name, key, val, exprs, body, els⟩ = 1 + D := by rw [← hD]; rfl
  rw [hU, hZ, e1]
  obtain ⟨db, hdb⟩ : ∃ x, depS body = x := ⟨_, rfl⟩
  obtain ⟨df, hdf⟩ : ∃ x, depS els = x := ⟨_, rfl⟩
  obtain ⟨ub, hub⟩ : ∃ x, useS (keysL l) body = x := ⟨_, rfl⟩
  obtain ⟨uf, huf⟩ : ∃ x, useS (keysL l) els = x := ⟨_, rfl⟩
  obtain ⟨qb, hqb⟩ : ∃ x, loopS body il' = x := ⟨_, rfl⟩
  obtain ⟨qf, hqf⟩ : ∃ x, loopS els il' = x := ⟨_, rfl⟩
  have HU : Aside0 (U = (((u || byy) || useE (keysL l) exprs) || ub || uf) ∧ Z = (((q || ql) || qb) || qf) ∧ D = max (depE exprs) (max db df)) := ⟨by rw [← hU, ← hub, ← huf, ← hbyy]; simp only [St.use, Bool.or_assoc], by rw [← hZ, ← hqb, ← hqf, ← hil', ← hql]; simp only [St.loop, Bool.or_assoc], by rw [← hD, hdb, hdf]⟩
  have HBY : Aside0 (badY (keysL l) kind name.data.toList key.data.toList val.data.toList = byy ∧ ((decide (kind = 9) || decide (kind = 10)) && !il) = ql ∧ inner kind il = il') := ⟨hbyy, hql, hil'⟩
  have cb : ∀ (W : World) (u q : Bool), Below B0 w W → LK W lb mb l u q → Calls Tryd.prog 26 #[.pointer (some ⟨lb, 0, none⟩), vb, .bool il'] W (LkP W lb mb l (.int .i64 (db : Int)) (u || ub) (q || qb)) := fun W u q hW hKW => by rw [← hdb, ← hub, ← hqb]; exact ih body vb W B0 lb mb l u q il' (by omega) (by omega) (hS1.lt hW) hKW hBl (by have := hW.size; omega)
  have cf : ∀ (W : World) (u q : Bool), Below B0 w W → LK W lb mb l u q → Calls Tryd.prog 26 #[.pointer (some ⟨lb, 0, none⟩), vf, .bool il'] W (LkP W lb mb l (.int .i64 (df : Int)) (u || uf) (q || qf)) := fun W u q hW hKW => by rw [← hdf, ← huf, ← hqf]; exact ih els vf W B0 lb mb l u q il' (by omega) (by omega) (hS2.lt hW) hKW hBl (by have := hW.size; omega)
  obtain ⟨ao, c, b, o, rfl, hd, hL⟩ := hE
  have hvb' : ∃ ao c, vb = .slice ao body.len c := by obtain ⟨ao, c, _, _, e, _⟩ := hS1; exact ⟨ao, c, e⟩
  have hvf' : ∃ ao c, vf = .slice ao els.len c := by obtain ⟨ao, c, _, _, e, _⟩ := hS2; exact ⟨ao, c, e⟩
  obtain ⟨a2, p2, rfl⟩ := hvb'
  obtain ⟨a3, p3, rfl⟩ := hvf'
  obtain ⟨na, hna⟩ : ∃ p, exprs.len = p := ⟨_, rfl⟩
  obtain ⟨nb, hnb⟩ : ∃ p, body.len = p := ⟨_, rfl⟩
  obtain ⟨nf, hnf⟩ : ∃ p, els.len = p := ⟨_, rfl⟩
  have HLE : Aside0 (LEs (fun b => b < B0) w b o exprs ∧ Hd ao exprs.len c b o ∧ exprs.len = na) := ⟨hL, hd, hna⟩
  have HSZ : Aside0 (exprs.wt ≤ 3000000) := ⟨by omega⟩
  have hna3 : na ≤ 3000000 := by omega
  have hD3 : D ≤ 3000000 ∧ db ≤ 3000000 ∧ df ≤ 3000000 := by omega
  simp only [St.v]
  rw [hna, hnb, hnf]
  rw [hnb] at cb
  rw [hnf] at cf
  have co : ∀ (W : World) (s : ByteArray) (b u : Bool), s.size ≤ 3000000 → LK W lb mb l u q → Calls Tryd.prog 79 #[.pointer (some ⟨lb, 0, none⟩), .string s, .bool b] W (LkP W lb mb l (.tuple #[]) (u || (hasK l s != b)) q) := fun W s b u hs h => of_walk W lb mb l u q h s b (by omega)
  have hs1 : name.size ≤ 3000000 := by omega
  have hs2 : key.size ≤ 3000000 := by omega
  have hs3 : val.size ≤ 3000000 := by omega
  have hkl := hK.lt
  obtain ⟨W1, hW1⟩ : ∃ W, w.alloc (.cells #[.int .i64 kind, .string name, .string key, .string val, .slice ao na c, .slice a2 nb p2, .slice a3 nf p3] 52) = W := ⟨_, rfl⟩
  have hK1 : LK W1 lb mb l u q := by rw [← hW1]; exact hK.below ((Below.refl _ _).alloc (Nat.le_refl _) _)
  have HW1 : Aside0 (w.alloc (.cells #[.int .i64 kind, .string name, .string key, .string val, .slice ao na c, .slice a2 nb p2, .slice a3 nf p3] 52) = W1) := ⟨hW1⟩
  clear hU hD hZ e1 hbyy hql hil' hL hd hna hnb hnf hdw1 hdw2 hdw3 hlen1 hlen2 hlen3 hn hm ih hK hS1 hS2 hdb hdf hub huf hqb hqf
  have t0 : W1.cell? ⟨w.heap.size, 0, none⟩ = some (.int .i64 kind) := by rw [← HW1.out]; simp
  have t1 : W1.cell? ⟨w.heap.size, 1, none⟩ = some (.string name) := by rw [← HW1.out]; simp
  have t2 : W1.cell? ⟨w.heap.size, 2, none⟩ = some (.string key) := by rw [← HW1.out]; simp
  have t3 : W1.cell? ⟨w.heap.size, 3, none⟩ = some (.string val) := by rw [← HW1.out]; simp
  have t4 : W1.cell? ⟨w.heap.size, 4, none⟩ = some (.slice ao na c) := by rw [← HW1.out]; simp
  have t5 : W1.cell? ⟨w.heap.size, 5, none⟩ = some (.slice a2 nb p2) := by rw [← HW1.out]; simp
  have t6 : W1.cell? ⟨w.heap.size, 6, none⟩ = some (.slice a3 nf p3) := by rw [← HW1.out]; simp
  have hG1 : w.grownBy W1 (some lb) := by rw [← HW1.out]; exact World.grownBy_alloc w _ (some lb)
  go_enter Tryd.func52, Tryd.ntmps52
  go_upto_block 0 with fail
  clear hW1
  go_cut [4] (fun v4 wx => v4 = .pointer (some ⟨w.heap.size, 0, none⟩) ∧ W1.grownBy wx (some lb) ∧ LK wx lb mb l (u || byy) (q || ql))
  case first =>
    have HQ : kind ≠ 9 → kind ≠ 10 → Aside0 (ql = false) := fun h9 h10 => ⟨by rw [← HBY.out.2.1]; simp [h9, h10]⟩
    by_cases h1 : kind = 1
    · subst h1
      have HB : Aside0 (byy = (hasK l name != false)) := ⟨by rw [← HBY.out.1, hasK_keys]; simp [badY]⟩
      have HQ2 := HQ (by omega) (by omega)
      clear HQ
      go_wp2_with (go_at_call 79; (with_reducible refine (co _ _ _ _ (by assumption) (by with_reducible assumption)).mono ?_); rintro e w1 ⟨rfl, hG2, hK2⟩)
      go_meet
      exact ⟨rfl, hG2, by rw [HB.out, HQ2.out, Bool.or_false]; exact hK2⟩
    have h1' : (kind == 1) = false := beq_eq_false_iff_ne.2 h1
    by_cases h8 : kind = 8
    · subst h8
      have HB : Aside0 (byy = ((hasK l key != false) || (hasK l val != false) || (hasK l name != true))) := ⟨by rw [← HBY.out.1, hasK_keys, hasK_keys, hasK_keys]; simp [badY]⟩
      have HQ2 := HQ (by omega) (by omega)
      clear HQ
      go_wp2_with (first
        | (go_at_call 79; (with_reducible refine (co _ key false _ hs2 hK1).mono ?_); rintro e wx ⟨rfl, hGx, hKx⟩; have tx1 := hGx.cell t1 (by simp; omega); have tx3 := hGx.cell t3 (by simp; omega))
        | (go_at_call 79; (with_reducible refine (co _ val false _ hs3 hKx).mono ?_); rintro e wy ⟨rfl, hGy, hKy⟩; have ty1 := hGy.cell tx1 (by simp; omega))
        | (go_at_call 79; (with_reducible refine (co _ name true _ hs1 hKy).mono ?_); rintro e wz ⟨rfl, hGz, hKz⟩))
      go_meet
      exact ⟨rfl, (hGx.trans hGy).trans hGz, by rw [HB.out, HQ2.out, Bool.or_false, ← Bool.or_assoc, ← Bool.or_assoc]; exact hKz⟩
    have h8' : (kind == 8) = false := beq_eq_false_iff_ne.2 h8
    by_cases h2 : kind = 2
    · subst h2
      have HB : Aside0 (byy = (hasK l name != true)) := ⟨by rw [← HBY.out.1, hasK_keys]; simp [badY]⟩
      have HQ2 := HQ (by omega) (by omega)
      clear HQ
      go_wp2_with (go_at_call 79; (with_reducible refine (co _ _ _ _ (by assumption) (by with_reducible assumption)).mono ?_); rintro e w1 ⟨rfl, hG2, hK2⟩)
      go_meet
      exact ⟨rfl, hG2, by rw [HB.out, HQ2.out, Bool.or_false]; exact hK2⟩
    have h2' : (kind == 2) = false := beq_eq_false_iff_ne.2 h2
    by_cases h3 : kind = 3
    · subst h3
      have HB : Aside0 (byy = (hasK l name != true)) := ⟨by rw [← HBY.out.1, hasK_keys]; simp [badY]⟩
      have HQ2 := HQ (by omega) (by omega)
      clear HQ
      go_wp2_with (go_at_call 79; (with_reducible refine (co _ _ _ _ (by assumption) (by with_reducible assumption)).mono ?_); rintro e w1 ⟨rfl, hG2, hK2⟩)
      go_meet
      exact ⟨rfl, hG2, by rw [HB.out, HQ2.out, Bool.or_false]; exact hK2⟩
    have h3' : (kind == 3) = false := beq_eq_false_iff_ne.2 h3
    by_cases h4 : kind = 4
    · subst h4
      have HB : Aside0 (byy = (hasK l name != true)) := ⟨by rw [← HBY.out.1, hasK_keys]; simp [badY]⟩
      have HQ2 := HQ (by omega) (by omega)
      clear HQ
      go_wp2_with (go_at_call 79; (with_reducible refine (co _ _ _ _ (by assumption) (by with_reducible assumption)).mono ?_); rintro e w1 ⟨rfl, hG2, hK2⟩)
      go_meet
      exact ⟨rfl, hG2, by rw [HB.out, HQ2.out, Bool.or_false]; exact hK2⟩
    have h4' : (kind == 4) = false := beq_eq_false_iff_ne.2 h4
    have HB : Aside0 (byy = false) := ⟨by rw [← HBY.out.1]; simp [badY, h1, h2, h3, h4, h8]⟩
    obtain ⟨k0, k1, k2, k3, k4⟩ := hK1.cells
    by_cases h9 : kind = 9
    · subst h9
      have HQ2 : Aside0 (ql = !il) := ⟨by rw [← HBY.out.2.1]; simp⟩
      clear HQ k0 k1 k3
      cases q <;> cases il
      all_goals
        go_wp2
        go_meet
        exact ⟨rfl, grown_set _ _ _ _, by rw [HB.out, HQ2.out, Bool.or_false]; exact hK1.set2 _⟩
    have h9' : (kind == 9) = false := beq_eq_false_iff_ne.2 h9
    by_cases h10 : kind = 10
    · subst h10
      have HQ2 : Aside0 (ql = !il) := ⟨by rw [← HBY.out.2.1]; simp⟩
      clear HQ k0 k1 k3
      cases q <;> cases il
      all_goals
        go_wp2
        go_meet
        exact ⟨rfl, grown_set _ _ _ _, by rw [HB.out, HQ2.out, Bool.or_false]; exact hK1.set2 _⟩
    have h10' : (kind == 10) = false := beq_eq_false_iff_ne.2 h10
    have HQ2 := HQ h9 h10
    clear HQ k0 k1 k2 k3 k4
    go_wp2
    go_meet
    exact ⟨rfl, World.grownBy.refl _ _, by rw [HB.out, HQ2.out, Bool.or_false, Bool.or_false]; exact hK1⟩
  case rest =>
    obtain ⟨rfl, hGw, hKw⟩ := hcut
    obtain ⟨u1, hu1⟩ : ∃ x, (u || byy) = x := ⟨_, rfl⟩
    obtain ⟨q1, hq1⟩ : ∃ x, (q || ql) = x := ⟨_, rfl⟩
    obtain ⟨UE, hUE⟩ : ∃ x, (u1 || useE (keysL l) exprs) = x := ⟨_, rfl⟩
    obtain ⟨DE, hDE⟩ : ∃ x, depE exprs = x := ⟨_, rfl⟩
    have HU2 : Aside0 (U = ((UE || ub) || uf) ∧ Z = ((q1 || qb) || qf) ∧ D = max DE (max db df) ∧ DE = depE exprs ∧ UE = (u1 || useE (keysL l) exprs)) := ⟨by rw [HU.out.1, hu1, hUE], by rw [HU.out.2.1, hq1], by rw [HU.out.2.2, hDE], hDE.symm, hUE.symm⟩
    rw [hu1, hq1] at hKw
    have hDE3 : DE ≤ D := by rw [HU2.out.2.2.1]; omega
    have c4 := hGw.cell t4 (by simp; omega)
    have T5 : Aside0 (W1.cell? ⟨w.heap.size, 0, none⟩ = some (.int .i64 kind) ∧ W1.cell? ⟨w.heap.size, 5, none⟩ = some (.slice a2 nb p2) ∧ W1.cell? ⟨w.heap.size, 6, none⟩ = some (.slice a3 nf p3)) := ⟨t0, t5, t6⟩
    have HG1 : Aside0 (w.grownBy W1 (some lb)) := ⟨hG1⟩
    clear hu1 hq1 hUE hDE HU co hK1 t0 t1 t2 t3 t4 t5 t6 hG1 HW1 hs1 hs2 hs3
    go_wp2
    clear c4
    go_loopg [7, 53] na (fun g vd vi wr => ∃ (i d : Nat) (ui : Bool), vi = .int .i64 (i : Int) ∧ vd = .int .i64 (d : Int) ∧ i + g = na ∧ d ≤ DE ∧ W1.grownBy wr (some lb) ∧ LK wr lb mb l ui q1 ∧ Aside0 (UE = (ui || useE (keysL l) (exprs.drop i)) ∧ DE = max d (depE (exprs.drop i))))
    case atStart => exact ⟨0, 0, _, rfl, rfl, by omega, by omega, hGw, hKw, ⟨by rw [drop_zeroE]; exact HU2.out.2.2.2.2, by rw [drop_zeroE, HU2.out.2.2.2.1]; omega⟩⟩
    case round =>
      obtain ⟨i, d, ui, rfl, rfl, hig, hdD, hGr, hKr, hF⟩ := hrel
      have hW1s := HG1.out.size
      have hBs := hGr.size
      clear hGw hKw
      by_cases hi : i < na
      · have hlt : (i : Int) < (na : Int) := by omega
        obtain ⟨p, rfl⟩ : ∃ p, gk = p + 1 := ⟨gk - 1, by omega⟩
        obtain ⟨y, hy⟩ := Exs.get_lt (l := exprs) (j := i) (by rw [HLE.out.2.2]; exact hi)
        have hyw := Exs.get_wt hy
        have hbel : Below B0 w wr := below_grown (HG1.out.trans hGr) hBl hBw
        obtain ⟨y0, y1, y2, y3, y4, y5⟩ := (HLE.out.1.lt hbel).at hy
        obtain ⟨vy, y5, hvy⟩ := y5
        have hvs : ∃ ao c, vy = .slice ao y.args.len c := by obtain ⟨ao, c, _, _, e, _⟩ := hvy; exact ⟨ao, c, e⟩
        obtain ⟨aoy, cap, rfl⟩ := hvs
        have hao : ao = some ⟨b, o, none⟩ := by rcases HLE.out.2.1.lead with e | e; (have := HLE.out.2.2; omega); exact e
        have cy : ∀ W, Below wr.heap.size wr W → Calls Tryd.prog 80 #[.pointer (some ⟨lb, 0, none⟩), y.v (.slice aoy y.args.len cap)] W (LkP W lb mb l (.int .i64 (y.dep : Int)) (ui || y.use (keysL l)) q1) := fun W hW => lkE y.wt y _ W B0 lb mb l ui q1 (Nat.le_refl _) (by have := HSZ.out; omega) (hvy.lt (hW.mono (by omega))) (hKr.below hW) hBl (by have := hW.size; omega)
        have HST : Aside0 (UE = ((ui || y.use (keysL l)) || useE (keysL l) (exprs.drop (i + 1))) ∧ DE = max (max d y.dep) (depE (exprs.drop (i + 1)))) := ⟨by rw [hF.out.1, Exs.drop_get hy, useE_on, Bool.or_assoc], by rw [hF.out.2, Exs.drop_get hy, depE_on]; omega⟩
        have hyd : y.dep ≤ DE := by rw [HST.out.2]; omega
        obtain ⟨yk, yn, ym, yp, ya⟩ := y
        simp only [Ex.v] at cy y1 y2 y3 y4
        subst hao
        obtain ⟨dy, hdy⟩ : ∃ x, Ex.dep ⟨yk, yn, ym, yp, ya⟩ = x := ⟨_, rfl⟩
        obtain ⟨uy, huy⟩ : ∃ x, Ex.use (keysL l) ⟨yk, yn, ym, yp, ya⟩ = x := ⟨_, rfl⟩
        rw [hdy, huy] at cy HST
        rw [hdy] at hyd
        have HG : Aside0 (W1.grownBy wr (some lb)) := ⟨hGr⟩
        clear hF hyw hy hvy y0 hdy huy hbel hKr hGr cb cf
        go_wp2_with (go_at_call 80; (with_reducible refine (cy _ (by repeat (first | with_reducible assumption | with_reducible refine below_set ?_ (by omega) _ | with_reducible refine Below.alloc ?_ (by first | omega | (simp; done) | (simp; omega)) _ | with_reducible refine Below.drew ?_ | with_reducible exact Below.refl _ _ | with_reducible refine below_two ?_ (by with_reducible assumption)))).mono ?_); rintro e w1 ⟨rfl, hG1, hK1⟩)
        · rename_i h
          have HM : Aside0 (DE = max dy (depE (exprs.drop (i + 1)))) := ⟨by rw [HST.out.2, Nat.max_eq_right (a := d) (b := dy) (by omega)]⟩
          go_roundg p
          case measure => omega
          case rel => exact ⟨i + 1, dy, _, by go_num, rfl, by omega, hyd, HG.out.trans ((World.grownBy_alloc wr _ (some lb)).trans hG1), hK1, ⟨HST.out.1, HM.out⟩⟩
        · rename_i h
          have HM : Aside0 (DE = max d (depE (exprs.drop (i + 1)))) := ⟨by rw [HST.out.2, Nat.max_eq_left (a := d) (b := dy) (by omega)]⟩
          go_roundg p
          case measure => omega
          case rel => exact ⟨i + 1, d, _, by go_num, rfl, by omega, hdD, HG.out.trans ((World.grownBy_alloc wr _ (some lb)).trans hG1), hK1, ⟨HST.out.1, HM.out⟩⟩
      · obtain rfl : i = na := by omega
        have hlt : ¬ (i : Int) < (i : Int) := by omega
        have A : Aside0 (UE = ui ∧ DE = d) := ⟨by rw [hF.out.1, ← HLE.out.2.2, Exs.drop_len]; simp [useE], by rw [hF.out.2, ← HLE.out.2.2, Exs.drop_len]; simp [depE]⟩
        have z0 := hGr.cell T5.out.1 (by simp; omega)
        have z5 := hGr.cell T5.out.2.1 (by simp; omega)
        have z6 := hGr.cell T5.out.2.2 (by simp; omega)
        have hbel : Below B0 w wr := below_grown (HG1.out.trans hGr) hBl hBw
        have hIL : Aside0 (inner kind il = il') := ⟨HBY.out.2.2⟩
        go_upto_region 20 with fail
        go_cut [2] (fun v2 wx => v2 = .bool il' ∧ wr = wx)
        case first =>
          have hil : il' = (il || decide (kind = 7) || decide (kind = 8)) := hIL.out.symm
          by_cases h7 : kind = 7
          · subst h7
            have HI : Aside0 (il' = true) := ⟨by rw [hil]; simp⟩
            clear hil
            cases il
            all_goals
              go_wp2
              go_meet
              exact ⟨by rw [HI.out], rfl⟩
          have h7' : (kind == 7) = false := beq_eq_false_iff_ne.2 h7
          by_cases h8 : kind = 8
          · subst h8
            have HI : Aside0 (il' = true) := ⟨by rw [hil]; simp⟩
            clear hil
            cases il
            all_goals
              go_wp2
              go_meet
              exact ⟨by rw [HI.out], rfl⟩
          have h8' : (kind == 8) = false := beq_eq_false_iff_ne.2 h8
          have HI : Aside0 (il' = il) := ⟨by rw [hil]; simp [h7, h8]⟩
          clear hil
          cases il
          all_goals
            go_wp2
            go_meet
            exact ⟨by rw [HI.out], rfl⟩
        case rest =>
          obtain ⟨rfl, rfl⟩ := hcut
          have HDm : Aside0 (d ≤ D ∧ db ≤ D ∧ df ≤ D ∧ (D = d ∨ D = db ∨ D = df)) := ⟨by
            have e1 := HU2.out.2.2.1
            have e2 := A.out.2
            rw [e2] at e1
            rw [e1]
            rcases Nat.le_total db df with h1 | h1
            · rw [Nat.max_eq_right h1]
              rcases Nat.le_total d df with h2 | h2
              · rw [Nat.max_eq_right h2]; omega
              · rw [Nat.max_eq_left h2]; omega
            · rw [Nat.max_eq_left h1]
              rcases Nat.le_total d db with h2 | h2
              · rw [Nat.max_eq_right h2]; omega
              · rw [Nat.max_eq_left h2]; omega⟩
          have HF : Aside0 (∀ w', LK w' lb mb l ((ui || ub) || uf) ((q1 || qb) || qf) → LK w' lb mb l U Z) := ⟨fun w' h => by rw [HU2.out.1, HU2.out.2.1, A.out.1]; exact h⟩
          go_upto_region 21 with fail
          have hKd : LK wr.drew lb mb l ui q1 := hKr.below (Below.refl _ _).drew
          have hGd : W1.grownBy wr.drew (some lb) := hGr.trans (grown_below (Below.refl _ _).drew)
          have hBd : Below B0 w wr.drew := hbel.drew
          have zd5 : wr.drew.cell? ⟨w.heap.size, 5, none⟩ = some (.slice a2 nb p2) := z5
          have zd6 : wr.drew.cell? ⟨w.heap.size, 6, none⟩ = some (.slice a3 nf p3) := z6
          by_cases hdb : d < db
          all_goals
            refine wp_region_L (fun w' => w'.cell? ⟨w.heap.size, 5, none⟩ = some (.slice a2 nb p2) ∧ w'.cell? ⟨w.heap.size, 6, none⟩ = some (.slice a3 nf p3)) (fun _ => True) 13 (by kernel_rfl) ⟨zd5, zd6⟩ trivial (fun hsh hS => ?_)
            generalize wr.drew = w0 at *
            refine anyL_take (i := 0) (v := ?_) rfl (by kernel_rfl) (by kernel_rfl) (by kernel_rfl) (by decide) hsh (fun _ _ _ h => h) (Or.inl ⟨by rfl, ?_⟩) hS ?_
            rotate_left 1
            · (intro wS hSw; (try dsimp only at hSw); first | (go_simp; done) | (go_simp; with_reducible rfl))
            intro hsh1 hS1; clear hsh hS; have hsh := hsh1; have hS := hS1; clear hsh1 hS1
            simp only [Act.put, List.setIfInBounds_toArray, List.set_cons_zero, List.set_cons_succ]
            refine anyL_take (i := 1) (v := ?_) rfl (by kernel_rfl) (by kernel_rfl) (by kernel_rfl) (by decide) hsh (fun _ _ _ h => h) (Or.inl ⟨by rfl, ?_⟩) hS ?_
            rotate_left 1
            · (intro wS hSw; (try dsimp only at hSw); first | (go_simp; done) | (go_simp; with_reducible rfl))
            intro hsh1 hS1; clear hsh hS; have hsh := hsh1; have hS := hS1; clear hsh1 hS1
            simp only [Act.put, List.setIfInBounds_toArray, List.set_cons_zero, List.set_cons_succ]
            refine anyL_take (i := 2) (v := ?_) rfl (by kernel_rfl) (by kernel_rfl) (by kernel_rfl) (by decide) hsh (fun _ _ _ h => h) (Or.inl ⟨by rfl, ?_⟩) hS ?_
            rotate_left 1
            · (intro wS hSw; (try dsimp only at hSw); first | (go_simp; done) | (go_simp; with_reducible rfl))
            intro hsh1 hS1; clear hsh hS; have hsh := hsh1; have hS := hS1; clear hsh1 hS1
            simp only [Act.put, List.setIfInBounds_toArray, List.set_cons_zero, List.set_cons_succ]
            refine anyL_take (i := 3) (v := ?_) rfl (by kernel_rfl) (by kernel_rfl) (by kernel_rfl) (by decide) hsh (fun _ _ _ h => h) (Or.inl ⟨by rfl, ?_⟩) hS ?_
            rotate_left 1
            · (intro wS hSw; (try dsimp only at hSw); first | (go_simp; done) | (go_simp; with_reducible rfl))
            intro hsh1 hS1; clear hsh hS; have hsh := hsh1; have hS := hS1; clear hsh1 hS1
            simp only [Act.put, List.setIfInBounds_toArray, List.set_cons_zero, List.set_cons_succ]
            refine anyL_take (i := 4) (v := ?_) rfl (by kernel_rfl) (by kernel_rfl) (by kernel_rfl) (by decide) hsh (fun _ _ _ h => h) (Or.inl ⟨by rfl, ?_⟩) hS ?_
            rotate_left 1
            · (intro wS hSw; (try dsimp only at hSw); first | (go_simp; done) | (go_simp; with_reducible rfl))
            intro hsh1 hS1; clear hsh hS; have hsh := hsh1; have hS := hS1; clear hsh1 hS1
            simp only [Act.put, List.setIfInBounds_toArray, List.set_cons_zero, List.set_cons_succ]
            refine anyL_take (i := 6) (v := ?_) rfl (by kernel_rfl) (by kernel_rfl) (by kernel_rfl) (by decide) hsh (fun _ _ _ h => h) (Or.inl ⟨by rfl, ?_⟩) hS ?_
            rotate_left 1
            · (intro wS hSw; (try dsimp only at hSw); first | (go_simp; done) | (go_simp; with_reducible rfl))
            intro hsh1 hS1; clear hsh hS; have hsh := hsh1; have hS := hS1; clear hsh1 hS1
            simp only [Act.put, List.setIfInBounds_toArray, List.set_cons_zero, List.set_cons_succ]
            refine anyL_take (i := 7) (v := ?_) rfl (by kernel_rfl) (by kernel_rfl) (by kernel_rfl) (by decide) hsh (fun _ _ _ h => h) (Or.inl ⟨by rfl, ?_⟩) hS ?_
            rotate_left 1
            · (intro wS hSw; (try dsimp only at hSw); first | (go_simp; done) | (go_simp; with_reducible rfl))
            intro hsh1 hS1; clear hsh hS; have hsh := hsh1; have hS := hS1; clear hsh1 hS1
            simp only [Act.put, List.setIfInBounds_toArray, List.set_cons_zero, List.set_cons_succ]
            refine anyL_take (i := 8) (v := ?_) rfl (by kernel_rfl) (by kernel_rfl) (by kernel_rfl) (by decide) hsh (fun _ _ _ h => h) (Or.inl ⟨by rfl, ?_⟩) hS ?_
            rotate_left 1
            · (intro wS hSw; (try dsimp only at hSw); first | (go_simp; done) | (go_simp; with_reducible rfl))
            intro hsh1 hS1; clear hsh hS; have hsh := hsh1; have hS := hS1; clear hsh1 hS1
            simp only [Act.put, List.setIfInBounds_toArray, List.set_cons_zero, List.set_cons_succ]
            refine anyL_take (i := 9) (v := ?_) rfl (by kernel_rfl) (by kernel_rfl) (by kernel_rfl) (by decide) hsh (fun _ _ _ h => h) (Or.inl ⟨by rfl, ?_⟩) hS ?_
            rotate_left 1
            · (intro wS hSw; (try dsimp only at hSw); first | (go_simp; done) | (go_simp; with_reducible rfl))
            intro hsh1 hS1; clear hsh hS; have hsh := hsh1; have hS := hS1; clear hsh1 hS1
            simp only [Act.put, List.setIfInBounds_toArray, List.set_cons_zero, List.set_cons_succ]
            refine anyL_one (i := 5) (by kernel_rfl) rfl hsh (fun K hK => ?_)
            go_simp
            go_at_call 26
            (with_reducible refine (cb _ _ _ hBd hKd).mono ?_)
            rintro e w5 ⟨rfl, hG5, hK5⟩
            have ze5 := hG5.cell zd5 (by simp; omega)
            have ze6 := hG5.cell zd6 (by simp; omega)
            have hGe := hGd.trans hG5
            have hBe : Below B0 w w5 := below_grown (HG1.out.trans hGe) hBl hBw
            refine hK.out _ _ ⟨⟨ze5, ze6⟩, fun _ => trivial⟩ (fun hsh1 hS1 => ?_)
            clear hsh hS hK K; have hsh := hsh1; have hS := hS1; clear hsh1 hS1
            refine anyL_one (i := 10) (by kernel_rfl) rfl hsh (fun K hK => ?_)
            go_simp
            go_at_call 26
            (with_reducible refine (cf _ _ _ hBe hK5).mono ?_)
            rintro e w10 ⟨rfl, hG10, hK10⟩
            have zf5 := hG10.cell ze5 (by simp; omega)
            have zf6 := hG10.cell ze6 (by simp; omega)
            have hGf := hGe.trans hG10
            refine hK.out _ _ ⟨⟨zf5, zf6⟩, fun _ => trivial⟩ (fun hsh1 hS1 => ?_)
            clear hsh hS hK K; have hsh := hsh1; have hS := hS1; clear hsh1 hS1
            refine anyL_one (i := 11) (by kernel_rfl) rfl hsh (fun K hK => ?_)
            go_simp
            refine hK.out _ _ ⟨⟨zf5, zf6⟩, fun _ => trivial⟩ (fun hsh1 hS1 => ?_)
            clear hsh hS hK K; have hsh := hsh1; have hS := hS1; clear hsh1 hS1
            refine anyL_one (i := 12) (by kernel_rfl) rfl hsh (fun K hK => ?_)
            go_simp
            refine hK.out _ _ ⟨⟨zf5, zf6⟩, fun _ => trivial⟩ (fun hsh1 hS1 => ?_)
            clear hsh hS hK K; have hsh := hsh1; have hS := hS1; clear hsh1 hS1
            refine anyL_one (i := 13) (by kernel_rfl) rfl hsh (fun K hK => ?_)
            go_simp
            refine hK.out _ _ ⟨⟨zf5, zf6⟩, fun _ => trivial⟩ (fun hsh1 hS1 => ?_)
            clear hsh hS hK K; have hsh := hsh1; have hS := hS1; clear hsh1 hS1
            refine anyL_done (by kernel_rfl) ?_ _
            go_wp2
            all_goals
              go_ret
              refine ⟨?_, HG1.out.trans hGf, HF.out _ hK10⟩
              have hm := HDm.out
              first
                | exact ret_num (a := IntKind.i64.wrap (1 + (db : Int))) (by rw [IntWalk.i64_in _ (by omega)]; omega)
                | exact ret_num (a := IntKind.i64.wrap (1 + (df : Int))) (by rw [IntWalk.i64_in _ (by omega)]; omega)
                | exact ret_num (a := IntKind.i64.wrap (1 + (d : Int))) (by rw [IntWalk.i64_in _ (by omega)]; omega)
theorem lk_walk : ∀ n, LkS n ∧ LkL n
  | 0 => by
    have hA : LkS 0 := fun x ve vb vf w B0 lb mb l u q il h => by unfold St.wt at h; omega
    exact ⟨hA, lkL_of 0 hA⟩
  | n + 1 => by
    have hA := lkS_of n (lk_walk n).2
    exact ⟨hA, lkL_of (n + 1) hA⟩
theorem lookStmts_walk (s : Sts) (v : Value) (w : World) (B0 lb mb : Nat) (l : List Nv) (u q il : Bool) (hm : s.wt ≤ 3000000) (h : HS (fun b => b < B0) w v s) (hK : LK w lb mb l u q) (h1 : B0 ≤ lb) (h2 : B0 ≤ w.heap.size) :
    Calls Tryd.prog 26 #[.pointer (some ⟨lb, 0, none⟩), v, .bool il] w (LkP w lb mb l (.int .i64 (depS s : Int)) (u || useS (keysL l) s) (q || loopS s il)) := (lk_walk s.wt).2 s v w B0 lb mb l u q il (Nat.le_refl _) hm h hK h1 h2
end Go.Proofs.YthkmdmobeadigaaDoor.lg
