/- What has been seen of a program: names; expressions, walked. -/
import Derived.Test.YthkmdmobeadigaaDoorWe
import Derived.Test.YthkmdmobeadigaaDoorLm
import Derived.Deep.DeepCutAuto
import Derived.Deep.CutBlock
namespace Go.Proofs.YthkmdmobeadigaaDoor.lg
open Go.RowKit
set_option linter.unusedVariables false
set_option linter.unusedSimpArgs false
/-- Block lb holds a look: its map lies in block mb. -/
structure LK (w : World) (lb mb : Nat) (l : List Nv) (u q : Bool) : Prop where
  blk : w.heap[lb]? = some (.cells #[.map (some mb), .bool u, .bool q] 63 (0, 0))
  map : Om w mb l
theorem LK.ne {w : World} {lb mb : Nat} {l : List Nv} {u q : Bool} (h : LK w lb mb l u q) : mb ≠ lb := by
  rintro rfl
  obtain ⟨es, clock, h1, _⟩ := h.map
  rw [h.blk] at h1
  cases h1
theorem LK.lt {w : World} {lb mb : Nat} {l : List Nv} {u q : Bool} (h : LK w lb mb l u q) : lb < w.heap.size := (Array.getElem?_eq_some_iff.1 h.blk).1
theorem LK.below {w w' : World} {lb mb : Nat} {l : List Nv} {u q : Bool} (h : LK w lb mb l u q) (k : Below w.heap.size w w') : LK w' lb mb l u q :=
  ⟨(k.block lb h.lt).trans h.blk, h.map.below k (Nat.le_refl _)⟩
theorem LK.cells {w : World} {lb mb : Nat} {l : List Nv} {u q : Bool} (h : LK w lb mb l u q) : w.cell? ⟨lb, 0, none⟩ = some (.map (some mb)) ∧ w.cell? ⟨lb, 1, none⟩ = some (.bool u) ∧ w.cell? ⟨lb, 2, none⟩ = some (.bool q) ∧ w.frozen? ⟨lb, 1, none⟩ = false ∧ w.frozen? ⟨lb, 2, none⟩ = false := by
  refine ⟨?_, ?_, ?_, ?_, ?_⟩
  · unfold World.cell?; rw [h.blk]; rfl
  · unfold World.cell?; rw [h.blk]; rfl
  · unfold World.cell?; rw [h.blk]; rfl
  · unfold World.frozen?; rw [h.blk]; rfl
  · unfold World.frozen?; rw [h.blk]; rfl
theorem LK.set1 {w : World} {lb mb : Nat} {l : List Nv} {u q : Bool} (h : LK w lb mb l u q) (b : Bool) : LK (w.setCell ⟨lb, 1, none⟩ (.bool b)) lb mb l b q :=
  ⟨heap_setCell_same w lb 1 _ _ _ h.blk, h.map.of (heap_setCell_other w ⟨lb, 1, none⟩ mb _ h.ne)⟩
theorem LK.set2 {w : World} {lb mb : Nat} {l : List Nv} {u q : Bool} (h : LK w lb mb l u q) (b : Bool) : LK (w.setCell ⟨lb, 2, none⟩ (.bool b)) lb mb l u b :=
  ⟨heap_setCell_same w lb 2 _ _ _ h.blk, h.map.of (heap_setCell_other w ⟨lb, 2, none⟩ mb _ h.ne)⟩
theorem grown_set (w : World) (p i : Nat) (u : Value) : w.grownBy (w.setCell ⟨p, i, none⟩ u) (some p) :=
  ⟨rfl, rfl, rfl, by simp, fun k _ hk => heap_setCell_other w ⟨p, i, none⟩ k u (fun e => hk (by rw [e]))⟩
theorem grown_below {w w' : World} {p : Nat} (h : Below w.heap.size w w') : w.grownBy w' (some p) := ⟨h.os, h.tape, h.output, h.size, fun k hk _ => h.block k hk⟩
theorem below_grown {B p : Nat} {w w' : World} (h : w.grownBy w' (some p)) (hp : B ≤ p) (hB : B ≤ w.heap.size) : Below B w w' := ⟨h.os, h.tape, h.output, h.size, fun k hk => h.block k (by omega) (by simp; omega)⟩
/-- What a function of the look leaves. -/
def LkP (w : World) (lb mb : Nat) (l : List Nv) (v : Value) (u q : Bool) (e : Ending) (w' : World) : Prop := e = .returned v ∧ w.grownBy w' (some lb) ∧ LK w' lb mb l u q
set_option maxHeartbeats 1000000 in
theorem of_walk (w : World) (lb mb : Nat) (l : List Nv) (u q : Bool) (h : LK w lb mb l u q) (s : ByteArray) (b : Bool) (hs : s.size ≤ 100000000) :
    Calls Tryd.prog 79 #[.pointer (some ⟨lb, 0, none⟩), .string s, .bool b] w (LkP w lb mb l (.tuple #[]) (u || (hasK l s != b)) q) := by
  obtain ⟨c0, c1, c2, f1, f2⟩ := h.cells
  obtain ⟨c, hl⟩ := h.map.look s (by unfold maxLen; omega)
  obtain ⟨bb, hbb⟩ : ∃ x, hasK l s = x := ⟨_, rfl⟩
  rw [hbb] at hl ⊢
  have HL : Aside0 (LK w lb mb l u q) := ⟨h⟩
  clear hbb h c2 f2
  by_cases hb : bb = b
  · subst hb
    have hR : Aside0 ((u || (bb != bb)) = u) := ⟨by simp⟩
    obtain ⟨R, hr⟩ : ∃ R, (u || (bb != bb)) = R := ⟨_, rfl⟩
    rw [hr] at hR ⊢
    clear hr
    go_enter Tryd.func79, Tryd.ntmps79
    go_wp2
    cases bb
    all_goals
      go_wp2
      go_end0
      exact ⟨rfl, World.grownBy.refl _ _, by rw [hR.out]; exact HL.out⟩
  · have hR : Aside0 ((u || (bb != b)) = true) := ⟨by cases bb <;> cases b <;> simp at hb ⊢⟩
    obtain ⟨R, hr⟩ : ∃ R, (u || (bb != b)) = R := ⟨_, rfl⟩
    rw [hr] at hR ⊢
    clear hr
    go_enter Tryd.func79, Tryd.ntmps79
    cases bb <;> cases b
    · exact absurd rfl hb
    · go_wp2
      go_end0
      exact ⟨rfl, grown_set _ _ _ _, by rw [hR.out]; exact HL.out.set1 true⟩
    · go_wp2
      go_end0
      exact ⟨rfl, grown_set _ _ _ _, by rw [hR.out]; exact HL.out.set1 true⟩
    · exact absurd rfl hb
theorem HE.lt {B0 : Nat} {w w' : World} {v : Value} {l : Exs} (h : HE (fun b => b < B0) w v l) (k : Below B0 w w') : HE (fun b => b < B0) w' v l := h.to (fun b hb => k.block b hb) (fun _ hb => hb)
theorem HS.lt {B0 : Nat} {w w' : World} {v : Value} {l : Sts} (h : HS (fun b => b < B0) w v l) (k : Below B0 w w') : HS (fun b => b < B0) w' v l := h.to (fun b hb => k.block b hb) (fun _ hb => hb)
theorem LEs.lt {B0 : Nat} {w w' : World} {b o : Nat} {l : Exs} (h : LEs (fun b => b < B0) w b o l) (k : Below B0 w w') : LEs (fun b => b < B0) w' b o l := h.to (fun b hb => k.block b hb) (fun _ hb => hb)
theorem LSs.lt {B0 : Nat} {w w' : World} {b o : Nat} {l : Sts} (h : LSs (fun b => b < B0) w b o l) (k : Below B0 w w') : LSs (fun b => b < B0) w' b o l := h.to (fun b hb => k.block b hb) (fun _ hb => hb)
theorem drop_zeroE' (l : Exs) : l.drop 0 = l := by cases l <;> rfl
theorem depE_wt : ∀ l : Exs, depE l ≤ l.wt
  | .nil => Nat.le_refl _
  | .cons k n m o a r => by
    have := depE_wt a
    have := depE_wt r
    simp only [depE, Exs.wt]; omega
theorem depS_wt : ∀ l : Sts, depS l ≤ l.wt
  | .nil => Nat.le_refl _
  | .cons k n x v e b f r => by
    have := depE_wt e
    have := depS_wt b
    have := depS_wt f
    have := depS_wt r
    simp only [depS, Sts.wt]; omega
/-- What the look at one expression leaves. -/
def LkE (n : Nat) : Prop := ∀ (x : Ex) (va : Value) (w : World) (B0 lb mb : Nat) (l : List Nv) (u q : Bool), x.wt ≤ n → x.wt ≤ 3000000 → HE (fun b => b < B0) w va x.args → LK w lb mb l u q → B0 ≤ lb → B0 ≤ w.heap.size →
  Calls Tryd.prog 80 #[.pointer (some ⟨lb, 0, none⟩), x.v va] w (LkP w lb mb l (.int .i64 (x.dep : Int)) (u || x.use (keysL l)) q)
set_option maxHeartbeats 4000000 in
set_option maxRecDepth 100000 in
theorem lkE_of (n : Nat) (ih : LkE n) : LkE (n + 1) := by
  intro x va w B0 lb mb l u q hn hm hA hK hBl hBw
  obtain ⟨kind, num, name, op, args⟩ := x
  obtain ⟨ao, c, b, o, rfl, hd, hL⟩ := hA
  simp only [Ex.v] at hL hd ⊢
  unfold Ex.wt at hn hm
  simp only at hn hm
  have hlen := args.len_wt
  have hdw := depE_wt args
  obtain ⟨U, hU⟩ : ∃ U, (u || Ex.use (keysL l) ⟨kind, num, name, op, args⟩) = U := ⟨_, rfl⟩
  obtain ⟨D, hD⟩ : ∃ D, depE args = D := ⟨_, rfl⟩
  have e1 : Ex.dep ⟨kind, num, name, op, args⟩ = D + 1 := by rw [← hD]; rfl
  rw [hU, e1]
  rw [hD] at hdw
  obtain ⟨bx, hbx⟩ : ∃ x, badX (keysL l) kind name.data.toList = x := ⟨_, rfl⟩
  have HU : Aside0 (U = ((u || bx) || useE (keysL l) args) ∧ depE args = D) := ⟨by rw [← hU, ← hbx]; cases u <;> rfl, hD⟩
  have HBX : Aside0 (badX (keysL l) kind name.data.toList = bx) := ⟨hbx⟩
  obtain ⟨na, hna⟩ : ∃ p, args.len = p := ⟨_, rfl⟩
  have HLE : Aside0 (LEs (fun b => b < B0) w b o args ∧ Hd ao args.len c b o ∧ args.len = na) := ⟨hL, hd, hna⟩
  have HSZ : Aside0 (args.wt ≤ 3000000 ∧ args.wt ≤ n) := ⟨by omega, by omega⟩
  have HIH : Aside0 (LkE n) := ⟨ih⟩
  have hna3 : na ≤ 3000000 := by omega
  have hD3 : D ≤ 3000000 := by omega
  rw [hna]
  have co : ∀ (W : World) (b : Bool), Below w.heap.size w W → Calls Tryd.prog 79 #[.pointer (some ⟨lb, 0, none⟩), .string name, .bool b] W (LkP W lb mb l (.tuple #[]) (u || (hasK l name != b)) q) := fun W b h => of_walk W lb mb l u q (hK.below h) name b (by omega)
  have hkl := hK.lt
  have HK : Aside0 (LK w lb mb l u q) := ⟨hK⟩
  obtain ⟨W1, hW1⟩ : ∃ W, w.alloc (.cells #[.int .i64 kind, .int .i64 num, .string name, .string op, .slice ao na c] 45) = W := ⟨_, rfl⟩
  have HW1 : Aside0 (w.alloc (.cells #[.int .i64 kind, .int .i64 num, .string name, .string op, .slice ao na c] 45) = W1) := ⟨hW1⟩
  clear hU hD e1 hbx hL hd hna hdw hlen hn hm ih hK hW1
  go_enter Tryd.func80, Tryd.ntmps80
  go_upto_block 0 with fail
  go_cut [3] (fun v3 wx => v3 = .pointer (some ⟨w.heap.size, 0, none⟩) ∧ W1.grownBy wx (some lb) ∧ LK wx lb mb l (u || bx) q)
  case first =>
    by_cases h2 : kind = 2
    · subst h2
      have HB : Aside0 (bx = (hasK l name != false)) := ⟨by rw [← HBX.out, hasK_keys]; simp [badX]⟩
      go_wp2_with (go_at_call 79; (with_reducible refine (co _ _ (by repeat (first | with_reducible assumption | with_reducible refine below_set ?_ (by omega) _ | with_reducible refine Below.alloc ?_ (by first | omega | (simp; done) | (simp; omega)) _ | with_reducible refine Below.drew ?_ | with_reducible exact Below.refl _ _ | with_reducible refine below_two ?_ (by with_reducible assumption)))).mono ?_); rintro e w1 ⟨rfl, hG, hK1⟩)
      go_meet
      exact ⟨rfl, by rw [← HW1.out]; exact hG, by rw [HB.out]; exact hK1⟩
    have h2' : (kind == 2) = false := beq_eq_false_iff_ne.2 h2
    by_cases h3 : kind = 3
    · subst h3
      have HB : Aside0 (bx = (hasK l name != true)) := ⟨by rw [← HBX.out, hasK_keys]; simp [badX]⟩
      go_wp2_with (go_at_call 79; (with_reducible refine (co _ _ (by repeat (first | with_reducible assumption | with_reducible refine below_set ?_ (by omega) _ | with_reducible refine Below.alloc ?_ (by first | omega | (simp; done) | (simp; omega)) _ | with_reducible refine Below.drew ?_ | with_reducible exact Below.refl _ _ | with_reducible refine below_two ?_ (by with_reducible assumption)))).mono ?_); rintro e w1 ⟨rfl, hG, hK1⟩)
      go_meet
      exact ⟨rfl, by rw [← HW1.out]; exact hG, by rw [HB.out]; exact hK1⟩
    have h3' : (kind == 3) = false := beq_eq_false_iff_ne.2 h3
    by_cases h4 : kind = 4
    · subst h4
      have HB : Aside0 (bx = (hasK l name != true)) := ⟨by rw [← HBX.out, hasK_keys]; simp [badX]⟩
      go_wp2_with (go_at_call 79; (with_reducible refine (co _ _ (by repeat (first | with_reducible assumption | with_reducible refine below_set ?_ (by omega) _ | with_reducible refine Below.alloc ?_ (by first | omega | (simp; done) | (simp; omega)) _ | with_reducible refine Below.drew ?_ | with_reducible exact Below.refl _ _ | with_reducible refine below_two ?_ (by with_reducible assumption)))).mono ?_); rintro e w1 ⟨rfl, hG, hK1⟩)
      go_meet
      exact ⟨rfl, by rw [← HW1.out]; exact hG, by rw [HB.out]; exact hK1⟩
    have h4' : (kind == 4) = false := beq_eq_false_iff_ne.2 h4
    by_cases h5 : kind = 5
    · subst h5
      have HB : Aside0 (bx = (hasK l name != true)) := ⟨by rw [← HBX.out, hasK_keys]; simp [badX]⟩
      go_wp2_with (go_at_call 79; (with_reducible refine (co _ _ (by repeat (first | with_reducible assumption | with_reducible refine below_set ?_ (by omega) _ | with_reducible refine Below.alloc ?_ (by first | omega | (simp; done) | (simp; omega)) _ | with_reducible refine Below.drew ?_ | with_reducible exact Below.refl _ _ | with_reducible refine below_two ?_ (by with_reducible assumption)))).mono ?_); rintro e w1 ⟨rfl, hG, hK1⟩)
      go_meet
      exact ⟨rfl, by rw [← HW1.out]; exact hG, by rw [HB.out]; exact hK1⟩
    have h5' : (kind == 5) = false := beq_eq_false_iff_ne.2 h5
    have HB : Aside0 (bx = false) := ⟨by rw [← HBX.out]; simp [badX, h2, h3, h4, h5]⟩
    have HK1 : Aside0 (LK W1 lb mb l u q) := ⟨by rw [← HW1.out]; exact HK.out.below ((Below.refl _ _).alloc (Nat.le_refl _) _)⟩
    go_wp2
    go_meet
    exact ⟨rfl, by rw [← HW1.out]; exact World.grownBy.refl _ _, by rw [HB.out, Bool.or_false, HW1.out]; exact HK1.out⟩
  case rest =>
    obtain ⟨rfl, hG, hK1⟩ := hcut
    have hG0 : w.grownBy wc (some lb) := (World.grownBy_alloc w _ (some lb)).trans (by rw [HW1.out]; exact hG)
    have cb : wc.cell? ⟨w.heap.size, 4, none⟩ = some (.slice ao na c) := hG.cell (by rw [← HW1.out]; simp) (by simp; omega)
    clear co HK HBX
    go_wp2
    clear cb
    go_loopg [5, 27] na (fun g vd vi wr => ∃ (i d : Nat) (ui : Bool), vi = .int .i64 (i : Int) ∧ vd = .int .i64 (d : Int) ∧ i + g = na ∧ d ≤ D ∧ w.grownBy wr (some lb) ∧ LK wr lb mb l ui q ∧ Aside0 (U = (ui || useE (keysL l) (args.drop i)) ∧ D = max d (depE (args.drop i))))
    case atStart => exact ⟨0, 0, _, rfl, rfl, by omega, by omega, hG0, hK1, ⟨by rw [drop_zeroE']; exact HU.out.1, by rw [drop_zeroE', HU.out.2]; omega⟩⟩
    case round =>
      obtain ⟨i, d, ui, rfl, rfl, hig, hdD, hGr, hKr, hF⟩ := hrel
      have hBs := hGr.size
      by_cases hi : i < na
      · have hlt : (i : Int) < (na : Int) := by omega
        obtain ⟨p, rfl⟩ : ∃ p, gk = p + 1 := ⟨gk - 1, by omega⟩
        obtain ⟨y, hy⟩ := Exs.get_lt (l := args) (j := i) (by rw [HLE.out.2.2]; exact hi)
        have hyw := Exs.get_wt hy
        have hbel : Below B0 w wr := below_grown hGr hBl hBw
        obtain ⟨y0, y1, y2, y3, y4, y5⟩ := (HLE.out.1.lt hbel).at hy
        obtain ⟨vy, y5, hvy⟩ := y5
        have hvs : ∃ ao c, vy = .slice ao y.args.len c := by obtain ⟨ao, c, _, _, e, _⟩ := hvy; exact ⟨ao, c, e⟩
        obtain ⟨aoy, cap, rfl⟩ := hvs
        have hao : ao = some ⟨b, o, none⟩ := by rcases HLE.out.2.1.lead with e | e; (have := HLE.out.2.2; omega); exact e
        have cy : ∀ W, Below wr.heap.size wr W → Calls Tryd.prog 80 #[.pointer (some ⟨lb, 0, none⟩), y.v (.slice aoy y.args.len cap)] W (LkP W lb mb l (.int .i64 (y.dep : Int)) (ui || y.use (keysL l)) q) := fun W hW => HIH.out y _ W B0 lb mb l ui q (by have := HSZ.out.2; omega) (by have := HSZ.out.1; omega) (hvy.lt (hW.mono (by omega))) (hKr.below hW) hBl (by have := hW.size; omega)
        have HST : Aside0 (U = ((ui || y.use (keysL l)) || useE (keysL l) (args.drop (i + 1))) ∧ D = max (max d y.dep) (depE (args.drop (i + 1)))) := ⟨by rw [hF.out.1, Exs.drop_get hy, useE_on, Bool.or_assoc], by rw [hF.out.2, Exs.drop_get hy, depE_on]; omega⟩
        have hyd : y.dep ≤ D := by rw [HST.out.2]; omega
        obtain ⟨yk, yn, ym, yp, ya⟩ := y
        simp only [Ex.v] at cy y1 y2 y3 y4
        subst hao
        obtain ⟨dy, hdy⟩ : ∃ x, Ex.dep ⟨yk, yn, ym, yp, ya⟩ = x := ⟨_, rfl⟩
        obtain ⟨uy, huy⟩ : ∃ x, Ex.use (keysL l) ⟨yk, yn, ym, yp, ya⟩ = x := ⟨_, rfl⟩
        rw [hdy, huy] at cy HST
        rw [hdy] at hyd
        have HG : Aside0 (w.grownBy wr (some lb)) := ⟨hGr⟩
        clear hF hyw hy hvy y0 hdy huy hbel hKr hGr
        go_wp2_with (go_at_call 80; (with_reducible refine (cy _ (by repeat (first | with_reducible assumption | with_reducible refine below_set ?_ (by omega) _ | with_reducible refine Below.alloc ?_ (by first | omega | (simp; done) | (simp; omega)) _ | with_reducible refine Below.drew ?_ | with_reducible exact Below.refl _ _ | with_reducible refine below_two ?_ (by with_reducible assumption)))).mono ?_); rintro e w1 ⟨rfl, hG1, hK1⟩)
        · rename_i h
          have HM : Aside0 (D = max dy (depE (args.drop (i + 1)))) := ⟨by rw [HST.out.2, Nat.max_eq_right (a := d) (b := dy) (by omega)]⟩
          go_roundg p
          case measure => omega
          case rel => exact ⟨i + 1, dy, _, by go_num, rfl, by omega, hyd, HG.out.trans ((World.grownBy_alloc wr _ (some lb)).trans hG1), hK1, ⟨HST.out.1, HM.out⟩⟩
        · rename_i h
          have HM : Aside0 (D = max d (depE (args.drop (i + 1)))) := ⟨by rw [HST.out.2, Nat.max_eq_left (a := d) (b := dy) (by omega)]⟩
          go_roundg p
          case measure => omega
          case rel => exact ⟨i + 1, d, _, by go_num, rfl, by omega, hdD, HG.out.trans ((World.grownBy_alloc wr _ (some lb)).trans hG1), hK1, ⟨HST.out.1, HM.out⟩⟩
      · obtain rfl : i = na := by omega
        have hlt : ¬ (i : Int) < (i : Int) := by omega
        have A : Aside0 (U = ui ∧ D = d) := ⟨by rw [hF.out.1, ← HLE.out.2.2, Exs.drop_len]; simp [useE], by rw [hF.out.2, ← HLE.out.2.2, Exs.drop_len]; simp [depE]⟩
        go_wp2
        go_ret
        exact ⟨by rw [A.out.2]; rfl, hGr, by rw [A.out.1]; exact hKr⟩
theorem lkE : ∀ n, LkE n
  | 0 => fun x va w B0 lb mb l u q h => by unfold Ex.wt at h; omega
  | n + 1 => lkE_of n (lkE n)
end Go.Proofs.YthkmdmobeadigaaDoor.lg
