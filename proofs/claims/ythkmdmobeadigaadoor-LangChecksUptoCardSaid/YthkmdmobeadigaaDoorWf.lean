/- Formed or not: statements, the program's, walked. -/
import Derived.Test.YthkmdmobeadigaaDoorWe
import Derived.Deep.DeepCutAuto
import Derived.Deep.CutBlock
namespace Go.Proofs.YthkmdmobeadigaaDoor.lg
open Go.RowKit
set_option linter.unusedVariables false
set_option linter.unusedSimpArgs false
def partsS (k : Nat) : Int := if k = 5 then -1 else if k = 1 ∨ k = 3 ∨ k = 6 ∨ k = 7 then 1 else if k = 2 then 2 else 0
def nameS (k : Nat) : Bool := k == 1 || k == 2 || k == 3 || k == 4 || k == 8
def bodyS (k : Nat) : Bool := k == 6 || k == 7 || k == 8
def bothS (k : Nat) : Bool := k == 8
theorem locS_prog (k : Nat) (h1 : 1 ≤ k) (h10 : k ≤ 10) (name key val : List UInt8) (ne nb nf : Nat) : locS (k : Int) name key val ne nb nf = ((decide (partsS k < 0) || decide ((ne : Int) = partsS k)) && namedB name (nameS k) && namedB key (bothS k) && namedB val (bothS k) && ((nb == 0) || bodyS k) && ((nf == 0) || (k == 6))) := by
  have hk : k = 1 ∨ k = 2 ∨ k = 3 ∨ k = 4 ∨ k = 5 ∨ k = 6 ∨ k = 7 ∨ k = 8 ∨ k = 9 ∨ k = 10 := by omega
  have e1 : decide ((ne : Int) = 1) = (ne == 1) := by rw [Bool.eq_iff_iff]; simp; omega
  have e2 : decide ((ne : Int) = 2) = (ne == 2) := by rw [Bool.eq_iff_iff]; simp; omega
  have e0 : decide ((ne : Int) = 0) = (ne == 0) := by rw [Bool.eq_iff_iff]; simp
  rcases hk with rfl | rfl | rfl | rfl | rfl | rfl | rfl | rfl | rfl | rfl <;> simp [locS, partsS, nameS, bodyS, bothS, namedB, e1, e2, e0] <;> grind
theorem locS_out (k : Int) (h : k < 1 ∨ 10 < k) (name key val : List UInt8) (ne nb nf : Nat) : locS k name key val ne nb nf = false := by
  unfold locS
  rw [if_neg (by omega), if_neg (by omega), if_neg (by omega), if_neg (by omega), if_neg (by omega), if_neg (by omega), if_neg (by omega), if_neg (by omega)]
def St.v (x : St) (ve vb vf : Value) : Value := .agg #[.int .i64 x.kind, .string x.name, .string x.key, .string x.val, ve, vb, vf]
theorem fSs_step {l : Sts} {i : Nat} {x : St} {R : Bool} (h : fSs (l.drop i) = R) (hx : l.get i = some x) : (x.ok = false → R = false) ∧ (x.ok = true → fSs (l.drop (i + 1)) = R) := by
  rw [Sts.drop_get hx, fSs_on] at h
  exact ⟨fun e => by rw [e] at h; exact h.symm, fun e => by rw [e] at h; exact h⟩
/-- formedStmt, of statements of this weight; formedStmts. -/
def FsA (n : Nat) : Prop := ∀ (x : St) (ve vb vf : Value) (P : Nat → Prop) (w : World), x.wt ≤ n → x.wt ≤ 3000000 → HE P w ve x.exprs → HS P w vb x.body → HS P w vf x.els → Tabs w → Calls Tryd.prog 78 #[x.v ve vb vf] w (IsY x.ok w)
def FsB (n : Nat) : Prop := ∀ (l : Sts) (v : Value) (P : Nat → Prop) (w : World), l.wt ≤ n → l.wt ≤ 3000000 → HS P w v l → Tabs w → Calls Tryd.prog 51 #[v] w (IsY (fSs l) w)
theorem drop_zeroS (l : Sts) : l.drop 0 = l := by cases l <;> rfl
theorem drop_zeroE (l : Exs) : l.drop 0 = l := by cases l <;> rfl
set_option maxHeartbeats 2000000 in
set_option maxRecDepth 100000 in
theorem fsB_of (n : Nat) (hA : FsA n) : FsB n := by
  intro l v P w hn hm hL hT
  obtain ⟨ao, c, b, o, rfl, hd, hL⟩ := hL
  obtain ⟨R, hR⟩ : ∃ R, fSs l = R := ⟨_, rfl⟩
  rw [hR]
  have HRL : Aside0 (fSs l = R) := ⟨hR⟩
  have HW : Aside0 (Tabs w) := ⟨hT⟩
  have HLE : Aside0 (LSs P w b o l ∧ Hd ao l.len c b o) := ⟨hL, hd⟩
  have HSZ : Aside0 (l.wt ≤ 3000000 ∧ l.wt ≤ n) := ⟨hm, hn⟩
  have HIH : Aside0 (FsA n) := ⟨hA⟩
  have hlen := l.len_wt
  obtain ⟨na, hna⟩ : ∃ p, l.len = p := ⟨_, rfl⟩
  have HNA : Aside0 (l.len = na) := ⟨hna⟩
  have hna3 : na ≤ 3000000 := by omega
  rw [hna] at HLE ⊢
  clear hR hT hL hd hA hna hlen hm hn
  go_enter Tryd.func51, Tryd.ntmps51
  go_wp2
  go_loopg [7] na (fun g v wr => Below w.heap.size w wr ∧ ∃ i : Nat, v = .int .i64 i ∧ i + g = na ∧ Aside0 (fSs (l.drop i) = R))
  case atStart => exact ⟨Below.refl _ _, 0, rfl, by omega, ⟨by rw [drop_zeroS]; exact HRL.out⟩⟩
  case round =>
    obtain ⟨hB, i, rfl, hig, hF⟩ := hrel
    have hBs := hB.size
    by_cases hi : i < na
    · have hlt : (i : Int) < (na : Int) := by omega
      obtain ⟨q, rfl⟩ : ∃ q, gk = q + 1 := ⟨gk - 1, by omega⟩
      obtain ⟨y, hy⟩ := Sts.get_lt (l := l) (j := i) (by rw [HNA.out]; exact hi)
      have hyw := Sts.get_wt hy
      have hst := fSs_step hF.out hy
      obtain ⟨y0, y1, y2, y3, y4, y5, y6, y7⟩ := (HLE.out.1.below hB (Nat.le_refl _)).at hy
      obtain ⟨ve, y5, hve⟩ := y5
      obtain ⟨vb, y6, hvb⟩ := y6
      obtain ⟨vf, y7, hvf⟩ := y7
      have hao : ao = some ⟨b, o, none⟩ := by rcases HLE.out.2.lead with e | e; (omega); exact e
      have cy : ∀ W, Below wr.heap.size wr W → Calls Tryd.prog 78 #[y.v ve vb vf] W (IsY y.ok W) := fun W hW => HIH.out y _ _ _ P W (by have := HSZ.out.2; omega) (by have := HSZ.out.1; omega) (hve.below hW (Nat.le_refl _)) (hvb.below hW (Nat.le_refl _)) (hvf.below hW (Nat.le_refl _)) ((HW.out.below hB).below hW)
      have hve' : ∃ ao c, ve = .slice ao y.exprs.len c := by obtain ⟨ao, c, _, _, e, _⟩ := hve; exact ⟨ao, c, e⟩
      have hvb' : ∃ ao c, vb = .slice ao y.body.len c := by obtain ⟨ao, c, _, _, e, _⟩ := hvb; exact ⟨ao, c, e⟩
      have hvf' : ∃ ao c, vf = .slice ao y.els.len c := by obtain ⟨ao, c, _, _, e, _⟩ := hvf; exact ⟨ao, c, e⟩
      obtain ⟨a1, p1, rfl⟩ := hve'
      obtain ⟨a2, p2, rfl⟩ := hvb'
      obtain ⟨a3, p3, rfl⟩ := hvf'
      have HST : Aside0 ((y.ok = false → R = false) ∧ (y.ok = true → fSs (l.drop (i + 1)) = R)) := ⟨hst⟩
      obtain ⟨yk, yn, ykey, yval, ye, yb, yf⟩ := y
      simp only [St.v] at cy y1 y2 y3 y4 y5 y6 y7
      subst hao
      obtain ⟨bk, hbk⟩ : ∃ p, St.ok ⟨yk, yn, ykey, yval, ye, yb, yf⟩ = p := ⟨_, rfl⟩
      rw [hbk] at cy HST
      clear hst hyw hy hve hvb hvf hbk y0
      cases bk with
      | false =>
        have A : Aside0 (R = false) := ⟨HST.out.1 rfl⟩
        clear HST
        go_wp2_with (go_at_call 78; (with_reducible refine (cy _ (by repeat (first | with_reducible assumption | with_reducible refine below_set ?_ (by omega) _ | with_reducible refine Below.alloc ?_ (by first | omega | (simp; done) | (simp; omega)) _ | with_reducible refine Below.drew ?_ | with_reducible exact Below.refl _ _ | with_reducible refine below_two ?_ (by with_reducible assumption)))).mono ?_); rintro e w1 ⟨rfl, hB1⟩)
        go_ret
        exact ⟨ret_bool A.out.symm, by repeat (first | with_reducible assumption | with_reducible refine below_set ?_ (by omega) _ | with_reducible refine Below.alloc ?_ (by first | omega | (simp; done) | (simp; omega)) _ | with_reducible refine Below.drew ?_ | with_reducible exact Below.refl _ _ | with_reducible refine below_two ?_ (by with_reducible assumption))⟩
      | true =>
        have A : Aside0 (fSs (l.drop (i + 1)) = R) := ⟨HST.out.2 rfl⟩
        clear HST
        go_wp2_with (go_at_call 78; (with_reducible refine (cy _ (by repeat (first | with_reducible assumption | with_reducible refine below_set ?_ (by omega) _ | with_reducible refine Below.alloc ?_ (by first | omega | (simp; done) | (simp; omega)) _ | with_reducible refine Below.drew ?_ | with_reducible exact Below.refl _ _ | with_reducible refine below_two ?_ (by with_reducible assumption)))).mono ?_); rintro e w1 ⟨rfl, hB1⟩)
        go_roundg q
        case measure => omega
        case rel => exact ⟨by repeat (first | with_reducible assumption | with_reducible refine below_set ?_ (by omega) _ | with_reducible refine Below.alloc ?_ (by first | omega | (simp; done) | (simp; omega)) _ | with_reducible refine Below.drew ?_ | with_reducible exact Below.refl _ _ | with_reducible refine below_two ?_ (by with_reducible assumption)), i + 1, by go_num, by omega, A⟩
    · obtain rfl : i = na := by omega
      have hlt : ¬ (i : Int) < (i : Int) := by omega
      have HRR : Aside0 (R = true) := ⟨by rw [← hF.out, ← HNA.out, Sts.drop_len]; rfl⟩
      go_wp2
      go_ret
      exact ⟨ret_bool HRR.out.symm, hB⟩
set_option maxHeartbeats 4000000 in
set_option maxRecDepth 100000 in
theorem fsA_of (n : Nat) (hBn : FsB n) : FsA (n + 1) := by
  intro x ve vb vf P w hn hm hE hS1 hS2 hT
  obtain ⟨kind, name, key, val, exprs, body, els⟩ := x
  obtain ⟨R, hR⟩ : ∃ R, St.ok ⟨kind, name, key, val, exprs, body, els⟩ = R := ⟨_, rfl⟩
  rw [hR]
  obtain ⟨B0, hB0⟩ : ∃ x, locS kind name.data.toList key.data.toList val.data.toList exprs.len body.len els.len = x := ⟨_, rfl⟩
  have HR : Aside0 (R = (B0 && fEs exprs && fSs body && fSs els)) := ⟨by rw [← hR, ← hB0]; rfl⟩
  have HB : Aside0 (locS kind name.data.toList key.data.toList val.data.toList exprs.len body.len els.len = B0) := ⟨hB0⟩
  have HW : Aside0 (Tabs w) := ⟨hT⟩
  clear hR hB0
  unfold St.wt at hn hm
  simp only at hn hm hE hS1 hS2
  have hlen1 := exprs.len_wt
  have hlen2 := body.len_wt
  have hlen3 := els.len_wt
  have cb : ∀ W, Below w.heap.size w W → Calls Tryd.prog 51 #[vb] W (IsY (fSs body) W) := fun W hW => hBn body vb P W (by omega) (by omega) (hS1.below hW (Nat.le_refl _)) (hT.below hW)
  have cf : ∀ W, Below w.heap.size w W → Calls Tryd.prog 51 #[vf] W (IsY (fSs els) W) := fun W hW => hBn els vf P W (by omega) (by omega) (hS2.below hW (Nat.le_refl _)) (hT.below hW)
  obtain ⟨ao, c, b, o, rfl, hd, hL⟩ := hE
  have hvb' : ∃ ao c, vb = .slice ao body.len c := by obtain ⟨ao, c, _, _, e, _⟩ := hS1; exact ⟨ao, c, e⟩
  have hvf' : ∃ ao c, vf = .slice ao els.len c := by obtain ⟨ao, c, _, _, e, _⟩ := hS2; exact ⟨ao, c, e⟩
  obtain ⟨a2, p2, rfl⟩ := hvb'
  obtain ⟨a3, p3, rfl⟩ := hvf'
  simp only [St.v]
  clear hS1 hS2
  by_cases hk : kind < 1 ∨ 10 < kind
  · have HRR : Aside0 (R = false) := ⟨by rw [HR.out, ← HB.out, locS_out kind hk]; rfl⟩
    clear hT cb cf
    rcases hk with hk | hk
    · go_enter Tryd.func78, Tryd.ntmps78
      go_wp2
      go_ret
      exact ⟨ret_bool HRR.out.symm, (Below.refl _ _).alloc (Nat.le_refl _) _⟩
    · have hk' : ¬ kind < 1 := by omega
      go_enter Tryd.func78, Tryd.ntmps78
      go_wp2
      go_ret
      exact ⟨ret_bool HRR.out.symm, (Below.refl _ _).alloc (Nat.le_refl _) _⟩
  obtain ⟨k, rfl⟩ : ∃ k : Nat, kind = (k : Int) := ⟨kind.toNat, by omega⟩
  have hk1 : 1 ≤ k := by omega
  have hk7 : k ≤ 10 := by omega
  have hki1 : ¬ (k : Int) < 1 := by omega
  have hki7 : ¬ (10 : Int) < (k : Int) := by omega
  obtain ⟨c0, c1, c2, c3⟩ := hT.st k (by omega)
  have hlp := locS_prog k hk1 hk7 name.data.toList key.data.toList val.data.toList exprs.len body.len els.len
  rw [HB.out] at hlp
  obtain ⟨pk, hpk⟩ : ∃ p, partsS k = p := ⟨_, rfl⟩
  obtain ⟨mk, hmk⟩ : ∃ p, nameS k = p := ⟨_, rfl⟩
  obtain ⟨bk, hbk⟩ : ∃ p, bodyS k = p := ⟨_, rfl⟩
  obtain ⟨tk, htk⟩ : ∃ p, bothS k = p := ⟨_, rfl⟩
  obtain ⟨b1, hb1⟩ : ∃ p, namedB name.data.toList mk = p := ⟨_, rfl⟩
  obtain ⟨b2, hb2⟩ : ∃ p, namedB key.data.toList tk = p := ⟨_, rfl⟩
  obtain ⟨b3, hb3⟩ : ∃ p, namedB val.data.toList tk = p := ⟨_, rfl⟩
  have cn1 : ∀ W, Below w.heap.size w W → Calls Tryd.prog 105 #[.string name, .bool mk] W (IsB b1 W) := fun W hW => hb1 ▸ named_walk W name mk (by omega) (HW.out.words.below hW)
  have cn2 : ∀ W, Below w.heap.size w W → Calls Tryd.prog 105 #[.string key, .bool tk] W (IsB b2 W) := fun W hW => hb2 ▸ named_walk W key tk (by omega) (HW.out.words.below hW)
  have cn3 : ∀ W, Below w.heap.size w W → Calls Tryd.prog 105 #[.string val, .bool tk] W (IsB b3 W) := fun W hW => hb3 ▸ named_walk W val tk (by omega) (HW.out.words.below hW)
  have e0 : (if k = 5 then (-1 : Int) else if k = 1 ∨ k = 3 ∨ k = 6 ∨ k = 7 then 1 else if k = 2 then 2 else 0) = pk := hpk
  have e1 : (k == 1 || k == 2 || k == 3 || k == 4 || k == 8) = mk := hmk
  have e2 : (k == 6 || k == 7 || k == 8) = bk := hbk
  have e3 : (k == 8) = tk := htk
  rw [e0] at c0
  rw [e1] at c1
  rw [e2] at c2
  rw [e3] at c3
  rw [hpk, hmk, hbk, htk, hb1, hb2, hb3] at hlp
  have d0 := fun ob => cell_alloc ob c0
  have d1 := fun ob => cell_alloc ob c1
  have d2 := fun ob => cell_alloc ob c2
  have d3 := fun ob => cell_alloc ob c3
  have hpkr : -1 ≤ pk ∧ pk ≤ 2 := by rw [← e0]; split <;> (try split) <;> (try split) <;> omega
  clear c0 c1 c2 c3 e0 e1 e2 e3
  have HL : Aside0 (B0 = ((decide (pk < 0) || decide ((exprs.len : Int) = pk)) && b1 && b2 && b3 && ((body.len == 0) || bk) && ((els.len == 0) || (k == 6)))) := ⟨hlp⟩
  have HLE : Aside0 (LEs P w b o exprs ∧ Hd ao exprs.len c b o) := ⟨hL, hd⟩
  have HSZ : Aside0 (exprs.wt ≤ 3000000) := ⟨by omega⟩
  obtain ⟨ne, hne⟩ : ∃ p, exprs.len = p := ⟨_, rfl⟩
  obtain ⟨nb, hnb⟩ : ∃ p, body.len = p := ⟨_, rfl⟩
  obtain ⟨nf, hnf⟩ : ∃ p, els.len = p := ⟨_, rfl⟩
  have HNA : Aside0 (exprs.len = ne) := ⟨hne⟩
  have hne3 : ne ≤ 3000000 := by omega
  have hnb3 : nb ≤ 3000000 := by omega
  have hnf3 : nf ≤ 3000000 := by omega
  rw [hne] at HL HLE ⊢
  rw [hnb] at HL cb ⊢
  rw [hnf] at HL cf ⊢
  obtain ⟨fb, hfb⟩ : ∃ p, fSs body = p := ⟨_, rfl⟩
  obtain ⟨ff, hff⟩ : ∃ p, fSs els = p := ⟨_, rfl⟩
  rw [hfb] at HR cb
  rw [hff] at HR cf
  clear hlp hpk hmk hbk htk hb1 hb2 hb3 hk hT hL hd hne hnb hnf hfb hff hlen1 hlen2 hlen3 hm hn
  by_cases h1 : 0 ≤ pk ∧ ¬ (ne : Int) = pk
  · obtain ⟨h1a, h1b⟩ := h1
    have h1c : ¬ pk < 0 := by omega
    have HRR : Aside0 (R = false) := ⟨by rw [HR.out, HL.out]; simp [h1b, h1c]⟩
    go_enter Tryd.func78, Tryd.ntmps78
    go_wp2_with (first | (go_at_call 105; (with_reducible refine (cn1 _ (by repeat (first | with_reducible assumption | with_reducible refine below_set ?_ (by omega) _ | with_reducible refine Below.alloc ?_ (by first | omega | (simp; done) | (simp; omega)) _ | with_reducible refine Below.drew ?_ | with_reducible exact Below.refl _ _ | with_reducible refine below_two ?_ (by with_reducible assumption)))).mono ?_); rintro e w' ⟨rfl, rfl⟩) | (go_at_call 105; (with_reducible refine (cn2 _ (by repeat (first | with_reducible assumption | with_reducible refine below_set ?_ (by omega) _ | with_reducible refine Below.alloc ?_ (by first | omega | (simp; done) | (simp; omega)) _ | with_reducible refine Below.drew ?_ | with_reducible exact Below.refl _ _ | with_reducible refine below_two ?_ (by with_reducible assumption)))).mono ?_); rintro e w' ⟨rfl, rfl⟩) | (go_at_call 105; (with_reducible refine (cn3 _ (by repeat (first | with_reducible assumption | with_reducible refine below_set ?_ (by omega) _ | with_reducible refine Below.alloc ?_ (by first | omega | (simp; done) | (simp; omega)) _ | with_reducible refine Below.drew ?_ | with_reducible exact Below.refl _ _ | with_reducible refine below_two ?_ (by with_reducible assumption)))).mono ?_); rintro e w' ⟨rfl, rfl⟩))
    all_goals first
      | (exfalso; omega; done)
      | (go_ret; exact ⟨ret_bool HRR.out.symm, by repeat (first | with_reducible assumption | with_reducible refine below_set ?_ (by omega) _ | with_reducible refine Below.alloc ?_ (by first | omega | (simp; done) | (simp; omega)) _ | with_reducible refine Below.drew ?_ | with_reducible exact Below.refl _ _ | with_reducible refine below_two ?_ (by with_reducible assumption))⟩)
  have HP : Aside0 (pk < 0 ∨ (ne : Int) = pk) := ⟨by omega⟩
  clear h1
  cases b1 with
  | false =>
    have HRR : Aside0 (R = false) := ⟨by rw [HR.out, HL.out]; simp []⟩
    go_enter Tryd.func78, Tryd.ntmps78
    go_wp2_with (first | (go_at_call 105; (with_reducible refine (cn1 _ (by repeat (first | with_reducible assumption | with_reducible refine below_set ?_ (by omega) _ | with_reducible refine Below.alloc ?_ (by first | omega | (simp; done) | (simp; omega)) _ | with_reducible refine Below.drew ?_ | with_reducible exact Below.refl _ _ | with_reducible refine below_two ?_ (by with_reducible assumption)))).mono ?_); rintro e w' ⟨rfl, rfl⟩) | (go_at_call 105; (with_reducible refine (cn2 _ (by repeat (first | with_reducible assumption | with_reducible refine below_set ?_ (by omega) _ | with_reducible refine Below.alloc ?_ (by first | omega | (simp; done) | (simp; omega)) _ | with_reducible refine Below.drew ?_ | with_reducible exact Below.refl _ _ | with_reducible refine below_two ?_ (by with_reducible assumption)))).mono ?_); rintro e w' ⟨rfl, rfl⟩) | (go_at_call 105; (with_reducible refine (cn3 _ (by repeat (first | with_reducible assumption | with_reducible refine below_set ?_ (by omega) _ | with_reducible refine Below.alloc ?_ (by first | omega | (simp; done) | (simp; omega)) _ | with_reducible refine Below.drew ?_ | with_reducible exact Below.refl _ _ | with_reducible refine below_two ?_ (by with_reducible assumption)))).mono ?_); rintro e w' ⟨rfl, rfl⟩))
    all_goals first
      | (exfalso; (rcases HP.out with hh | hh <;> first | omega | simp_all); done)
      | (go_ret; exact ⟨ret_bool HRR.out.symm, by repeat (first | with_reducible assumption | with_reducible refine below_set ?_ (by omega) _ | with_reducible refine Below.alloc ?_ (by first | omega | (simp; done) | (simp; omega)) _ | with_reducible refine Below.drew ?_ | with_reducible exact Below.refl _ _ | with_reducible refine below_two ?_ (by with_reducible assumption))⟩)
  | true =>
  cases b2 with
  | false =>
    have HRR : Aside0 (R = false) := ⟨by rw [HR.out, HL.out]; simp []⟩
    go_enter Tryd.func78, Tryd.ntmps78
    go_wp2_with (first | (go_at_call 105; (with_reducible refine (cn1 _ (by repeat (first | with_reducible assumption | with_reducible refine below_set ?_ (by omega) _ | with_reducible refine Below.alloc ?_ (by first | omega | (simp; done) | (simp; omega)) _ | with_reducible refine Below.drew ?_ | with_reducible exact Below.refl _ _ | with_reducible refine below_two ?_ (by with_reducible assumption)))).mono ?_); rintro e w' ⟨rfl, rfl⟩) | (go_at_call 105; (with_reducible refine (cn2 _ (by repeat (first | with_reducible assumption | with_reducible refine below_set ?_ (by omega) _ | with_reducible refine Below.alloc ?_ (by first | omega | (simp; done) | (simp; omega)) _ | with_reducible refine Below.drew ?_ | with_reducible exact Below.refl _ _ | with_reducible refine below_two ?_ (by with_reducible assumption)))).mono ?_); rintro e w' ⟨rfl, rfl⟩) | (go_at_call 105; (with_reducible refine (cn3 _ (by repeat (first | with_reducible assumption | with_reducible refine below_set ?_ (by omega) _ | with_reducible refine Below.alloc ?_ (by first | omega | (simp; done) | (simp; omega)) _ | with_reducible refine Below.drew ?_ | with_reducible exact Below.refl _ _ | with_reducible refine below_two ?_ (by with_reducible assumption)))).mono ?_); rintro e w' ⟨rfl, rfl⟩))
    all_goals first
      | (exfalso; (rcases HP.out with hh | hh <;> first | omega | simp_all); done)
      | (go_ret; exact ⟨ret_bool HRR.out.symm, by repeat (first | with_reducible assumption | with_reducible refine below_set ?_ (by omega) _ | with_reducible refine Below.alloc ?_ (by first | omega | (simp; done) | (simp; omega)) _ | with_reducible refine Below.drew ?_ | with_reducible exact Below.refl _ _ | with_reducible refine below_two ?_ (by with_reducible assumption))⟩)
  | true =>
  cases b3 with
  | false =>
    have HRR : Aside0 (R = false) := ⟨by rw [HR.out, HL.out]; simp []⟩
    go_enter Tryd.func78, Tryd.ntmps78
    go_wp2_with (first | (go_at_call 105; (with_reducible refine (cn1 _ (by repeat (first | with_reducible assumption | with_reducible refine below_set ?_ (by omega) _ | with_reducible refine Below.alloc ?_ (by first | omega | (simp; done) | (simp; omega)) _ | with_reducible refine Below.drew ?_ | with_reducible exact Below.refl _ _ | with_reducible refine below_two ?_ (by with_reducible assumption)))).mono ?_); rintro e w' ⟨rfl, rfl⟩) | (go_at_call 105; (with_reducible refine (cn2 _ (by repeat (first | with_reducible assumption | with_reducible refine below_set ?_ (by omega) _ | with_reducible refine Below.alloc ?_ (by first | omega | (simp; done) | (simp; omega)) _ | with_reducible refine Below.drew ?_ | with_reducible exact Below.refl _ _ | with_reducible refine below_two ?_ (by with_reducible assumption)))).mono ?_); rintro e w' ⟨rfl, rfl⟩) | (go_at_call 105; (with_reducible refine (cn3 _ (by repeat (first | with_reducible assumption | with_reducible refine below_set ?_ (by omega) _ | with_reducible refine Below.alloc ?_ (by first | omega | (simp; done) | (simp; omega)) _ | with_reducible refine Below.drew ?_ | with_reducible exact Below.refl _ _ | with_reducible refine below_two ?_ (by with_reducible assumption)))).mono ?_); rintro e w' ⟨rfl, rfl⟩))
    all_goals first
      | (exfalso; (rcases HP.out with hh | hh <;> first | omega | simp_all); done)
      | (go_ret; exact ⟨ret_bool HRR.out.symm, by repeat (first | with_reducible assumption | with_reducible refine below_set ?_ (by omega) _ | with_reducible refine Below.alloc ?_ (by first | omega | (simp; done) | (simp; omega)) _ | with_reducible refine Below.drew ?_ | with_reducible exact Below.refl _ _ | with_reducible refine below_two ?_ (by with_reducible assumption))⟩)
  | true =>
  by_cases h5 : 0 < nb ∧ bk = false
  · obtain ⟨h5a, rfl⟩ := h5
    have h5b : (nb == 0) = false := beq_eq_false_iff_ne.2 (by omega)
    have h5c : (0 : Int) < (nb : Int) := by omega
    have HRR : Aside0 (R = false) := ⟨by rw [HR.out, HL.out]; simp [h5b]⟩
    go_enter Tryd.func78, Tryd.ntmps78
    go_wp2_with (first | (go_at_call 105; (with_reducible refine (cn1 _ (by repeat (first | with_reducible assumption | with_reducible refine below_set ?_ (by omega) _ | with_reducible refine Below.alloc ?_ (by first | omega | (simp; done) | (simp; omega)) _ | with_reducible refine Below.drew ?_ | with_reducible exact Below.refl _ _ | with_reducible refine below_two ?_ (by with_reducible assumption)))).mono ?_); rintro e w' ⟨rfl, rfl⟩) | (go_at_call 105; (with_reducible refine (cn2 _ (by repeat (first | with_reducible assumption | with_reducible refine below_set ?_ (by omega) _ | with_reducible refine Below.alloc ?_ (by first | omega | (simp; done) | (simp; omega)) _ | with_reducible refine Below.drew ?_ | with_reducible exact Below.refl _ _ | with_reducible refine below_two ?_ (by with_reducible assumption)))).mono ?_); rintro e w' ⟨rfl, rfl⟩) | (go_at_call 105; (with_reducible refine (cn3 _ (by repeat (first | with_reducible assumption | with_reducible refine below_set ?_ (by omega) _ | with_reducible refine Below.alloc ?_ (by first | omega | (simp; done) | (simp; omega)) _ | with_reducible refine Below.drew ?_ | with_reducible exact Below.refl _ _ | with_reducible refine below_two ?_ (by with_reducible assumption)))).mono ?_); rintro e w' ⟨rfl, rfl⟩))
    all_goals first
      | (exfalso; (rcases HP.out with hh | hh <;> first | omega | simp_all); done)
      | (go_ret; exact ⟨ret_bool HRR.out.symm, by repeat (first | with_reducible assumption | with_reducible refine below_set ?_ (by omega) _ | with_reducible refine Below.alloc ?_ (by first | omega | (simp; done) | (simp; omega)) _ | with_reducible refine Below.drew ?_ | with_reducible exact Below.refl _ _ | with_reducible refine below_two ?_ (by with_reducible assumption))⟩)
  have H5 : Aside0 (nb = 0 ∨ bk = true) := ⟨by cases bk <;> simp at h5 ⊢; omega⟩
  clear h5
  by_cases h6 : 0 < nf ∧ ¬ k = 6
  · obtain ⟨h6a, h6b⟩ := h6
    have h6c : (nf == 0) = false := beq_eq_false_iff_ne.2 (by omega)
    have h6d : (k == 6) = false := beq_eq_false_iff_ne.2 h6b
    have h6e : (0 : Int) < (nf : Int) := by omega
    have h6f : ¬ (k : Int) = 6 := by omega
    have h6g : ((k : Int) != 6) = true := by simpa using h6f
    have HRR : Aside0 (R = false) := ⟨by rw [HR.out, HL.out]; simp [h6c, h6d]⟩
    go_enter Tryd.func78, Tryd.ntmps78
    go_wp2_with (first | (go_at_call 105; (with_reducible refine (cn1 _ (by repeat (first | with_reducible assumption | with_reducible refine below_set ?_ (by omega) _ | with_reducible refine Below.alloc ?_ (by first | omega | (simp; done) | (simp; omega)) _ | with_reducible refine Below.drew ?_ | with_reducible exact Below.refl _ _ | with_reducible refine below_two ?_ (by with_reducible assumption)))).mono ?_); rintro e w' ⟨rfl, rfl⟩) | (go_at_call 105; (with_reducible refine (cn2 _ (by repeat (first | with_reducible assumption | with_reducible refine below_set ?_ (by omega) _ | with_reducible refine Below.alloc ?_ (by first | omega | (simp; done) | (simp; omega)) _ | with_reducible refine Below.drew ?_ | with_reducible exact Below.refl _ _ | with_reducible refine below_two ?_ (by with_reducible assumption)))).mono ?_); rintro e w' ⟨rfl, rfl⟩) | (go_at_call 105; (with_reducible refine (cn3 _ (by repeat (first | with_reducible assumption | with_reducible refine below_set ?_ (by omega) _ | with_reducible refine Below.alloc ?_ (by first | omega | (simp; done) | (simp; omega)) _ | with_reducible refine Below.drew ?_ | with_reducible exact Below.refl _ _ | with_reducible refine below_two ?_ (by with_reducible assumption)))).mono ?_); rintro e w' ⟨rfl, rfl⟩))
    all_goals first
      | (exfalso; (rcases HP.out with hh | hh <;> first | omega | simp_all); done)
      | (go_ret; exact ⟨ret_bool HRR.out.symm, by repeat (first | with_reducible assumption | with_reducible refine below_set ?_ (by omega) _ | with_reducible refine Below.alloc ?_ (by first | omega | (simp; done) | (simp; omega)) _ | with_reducible refine Below.drew ?_ | with_reducible exact Below.refl _ _ | with_reducible refine below_two ?_ (by with_reducible assumption))⟩)
  have H6 : Aside0 (nf = 0 ∨ k = 6) := ⟨by omega⟩
  clear h6
  have HRL : Aside0 (R = (fEs exprs && fb && ff)) := ⟨by
    rw [HR.out, HL.out]
    have q1 : (decide (pk < 0) || decide ((ne : Int) = pk)) = true := by rcases HP.out with h | h <;> simp [h]
    have q2 : ((nb == 0) || bk) = true := by rcases H5.out with h | h <;> simp [h]
    have q3 : ((nf == 0) || (k == 6)) = true := by rcases H6.out with h | h <;> simp [h]
    rw [q1, q2, q3]; simp⟩
  obtain ⟨W4, hW4⟩ : ∃ W, (w.alloc (.cells #[.int .i64 (k : Int), .string name, .string key, .string val, .slice ao ne c, .slice a2 nb p2, .slice a3 nf p3] 52)).alloc (.cells #[.int .i64 pk, .bool mk, .bool bk, .bool tk] 150) = W := ⟨_, rfl⟩
  have HW4 : Aside0 ((w.alloc (.cells #[.int .i64 (k : Int), .string name, .string key, .string val, .slice ao ne c, .slice a2 nb p2, .slice a3 nf p3] 52)).alloc (.cells #[.int .i64 pk, .bool mk, .bool bk, .bool tk] 150) = W4) := ⟨hW4⟩
  clear hW4
  go_enter Tryd.func78, Tryd.ntmps78
  go_upto_region 4 with fail
  go_cut [52] (fun v wx => v = .bool false ∧ W4 = wx)
  case first =>
    go_wp2_with (first | (go_at_call 105; (with_reducible refine (cn1 _ (by repeat (first | with_reducible assumption | with_reducible refine below_set ?_ (by omega) _ | with_reducible refine Below.alloc ?_ (by first | omega | (simp; done) | (simp; omega)) _ | with_reducible refine Below.drew ?_ | with_reducible exact Below.refl _ _ | with_reducible refine below_two ?_ (by with_reducible assumption)))).mono ?_); rintro e w' ⟨rfl, rfl⟩) | (go_at_call 105; (with_reducible refine (cn2 _ (by repeat (first | with_reducible assumption | with_reducible refine below_set ?_ (by omega) _ | with_reducible refine Below.alloc ?_ (by first | omega | (simp; done) | (simp; omega)) _ | with_reducible refine Below.drew ?_ | with_reducible exact Below.refl _ _ | with_reducible refine below_two ?_ (by with_reducible assumption)))).mono ?_); rintro e w' ⟨rfl, rfl⟩) | (go_at_call 105; (with_reducible refine (cn3 _ (by repeat (first | with_reducible assumption | with_reducible refine below_set ?_ (by omega) _ | with_reducible refine Below.alloc ?_ (by first | omega | (simp; done) | (simp; omega)) _ | with_reducible refine Below.drew ?_ | with_reducible exact Below.refl _ _ | with_reducible refine below_two ?_ (by with_reducible assumption)))).mono ?_); rintro e w' ⟨rfl, rfl⟩))
    all_goals first
      | (exfalso; rcases HP.out with hh | hh <;> omega; done)
      | (go_meet; exact ⟨rfl, HW4.out.symm⟩)
  case rest =>
    obtain ⟨rfl, rfl⟩ := hcut
    have cu0 : W4.cell? ⟨w.heap.size, 0, none⟩ = some (.int .i64 (k : Int)) := by rw [← HW4.out]; simp
    have cu4 : W4.cell? ⟨w.heap.size, 4, none⟩ = some (.slice ao ne c) := by rw [← HW4.out]; simp
    have cu5 : W4.cell? ⟨w.heap.size, 5, none⟩ = some (.slice a2 nb p2) := by rw [← HW4.out]; simp
    have cu6 : W4.cell? ⟨w.heap.size, 6, none⟩ = some (.slice a3 nf p3) := by rw [← HW4.out]; simp
    have cv2 : W4.cell? ⟨w.heap.size + 1, 2, none⟩ = some (.bool bk) := by rw [← HW4.out]; simp
    have hBW : Below w.heap.size w W4 := by rw [← HW4.out]; exact ((Below.refl _ _).alloc (Nat.le_refl _) _).alloc (by simp) _
    have hWs : w.heap.size + 2 = W4.heap.size := by rw [← HW4.out]; simp
    clear cn1 cn2 cn3 d0 d1 d2 d3
    go_upto_region 6 with fail
    go_cut [72] (fun v wx => v = .bool false ∧ W4 = wx)
    case first =>
      go_wp2
      all_goals (go_meet; first
        | exact ⟨rfl, rfl⟩
        | exact ⟨congrArg Value.bool (bne_eq_false_iff_eq.2 (by have := H6.out; omega)), rfl⟩
        | exact absurd (H5.out.resolve_left (by omega)) ‹¬ bk = true›)
    case rest =>
      obtain ⟨rfl, rfl⟩ := hcut
      have HBW : Aside0 (Below w.heap.size w W4) := ⟨hBW⟩
      have HU : Aside0 (W4.cell? ⟨w.heap.size, 5, none⟩ = some (.slice a2 nb p2) ∧ W4.cell? ⟨w.heap.size, 6, none⟩ = some (.slice a3 nf p3) ∧ w.heap.size + 2 = W4.heap.size) := ⟨cu5, cu6, hWs⟩
      clear cv2 hBW cu0 cu5 cu6 hWs
      go_wp2
      clear cu4
      go_loopg [76] ne (fun g v wr => Below W4.heap.size W4 wr ∧ ∃ i : Nat, v = .int .i64 i ∧ i + g = ne ∧ Aside0 (R = (fEs (exprs.drop i) && fb && ff)))
      case atStart => exact ⟨Below.refl _ _, 0, rfl, by omega, ⟨by rw [drop_zeroE]; exact HRL.out⟩⟩
      case round =>
        obtain ⟨hB, i, rfl, hig, hF⟩ := hrel
        have hBs := hB.size
        by_cases hi : i < ne
        · have hlt : (i : Int) < (ne : Int) := by omega
          obtain ⟨q, rfl⟩ : ∃ q, gk = q + 1 := ⟨gk - 1, by omega⟩
          obtain ⟨y, hy⟩ := Exs.get_lt (l := exprs) (j := i) (by rw [HNA.out]; exact hi)
          have hyw := Exs.get_wt hy
          have hst : R = (y.ok && fEs (exprs.drop (i + 1)) && fb && ff) := by rw [hF.out, Exs.drop_get hy, fEs_on]
          obtain ⟨y0, y1, y2, y3, y4, y5⟩ := ((HLE.out.1.below HBW.out (Nat.le_refl _)).below hB (Nat.le_refl _)).at hy
          obtain ⟨vy, y5, hvy⟩ := y5
          have hvs : ∃ ao c, vy = .slice ao y.args.len c := by obtain ⟨ao, c, _, _, e, _⟩ := hvy; exact ⟨ao, c, e⟩
          obtain ⟨aoy, cap, rfl⟩ := hvs
          have hao : ao = some ⟨b, o, none⟩ := by rcases HLE.out.2.lead with e | e; (omega); exact e
          have cy : ∀ W, Below wr.heap.size wr W → Calls Tryd.prog 106 #[y.v (.slice aoy y.args.len cap)] W (IsY y.ok W) := fun W hW => fe_walk y.wt y _ P W (Nat.le_refl _) (by have := HSZ.out; omega) (hvy.below hW (Nat.le_refl _)) (((HW.out.below HBW.out).below hB).below hW)
          obtain ⟨yk, yn, ym, yp, ya⟩ := y
          simp only [Ex.v] at cy y1 y2 y3 y4
          subst hao
          obtain ⟨by1, hbk⟩ : ∃ p, Ex.ok ⟨yk, yn, ym, yp, ya⟩ = p := ⟨_, rfl⟩
          rw [hbk] at cy hst
          have HST : Aside0 (R = (by1 && fEs (exprs.drop (i + 1)) && fb && ff)) := ⟨hst⟩
          clear hst hyw hy hvy hbk y0 cb cf
          cases by1 with
          | false =>
            have A : Aside0 (R = false) := ⟨by rw [HST.out]; rfl⟩
            clear HST
            go_wp2_with (go_at_call 106; (with_reducible refine (cy _ (by repeat (first | with_reducible assumption | with_reducible refine below_set ?_ (by omega) _ | with_reducible refine Below.alloc ?_ (by first | omega | (simp; done) | (simp; omega)) _ | with_reducible refine Below.drew ?_ | with_reducible exact Below.refl _ _ | with_reducible refine below_two ?_ (by with_reducible assumption)))).mono ?_); rintro e w1 ⟨rfl, hB1⟩)
            go_ret
            exact ⟨ret_bool A.out.symm, HBW.out.trans (Below.mono (by repeat (first | with_reducible assumption | with_reducible refine below_set ?_ (by omega) _ | with_reducible refine Below.alloc ?_ (by first | omega | (simp; done) | (simp; omega)) _ | with_reducible refine Below.drew ?_ | with_reducible exact Below.refl _ _ | with_reducible refine below_two ?_ (by with_reducible assumption)) : Below W4.heap.size W4 _) HBW.out.size)⟩
          | true =>
            have A : Aside0 (R = (fEs (exprs.drop (i + 1)) && fb && ff)) := ⟨by rw [HST.out, Bool.true_and]⟩
            clear HST
            go_wp2_with (go_at_call 106; (with_reducible refine (cy _ (by repeat (first | with_reducible assumption | with_reducible refine below_set ?_ (by omega) _ | with_reducible refine Below.alloc ?_ (by first | omega | (simp; done) | (simp; omega)) _ | with_reducible refine Below.drew ?_ | with_reducible exact Below.refl _ _ | with_reducible refine below_two ?_ (by with_reducible assumption)))).mono ?_); rintro e w1 ⟨rfl, hB1⟩)
            go_roundg q
            case measure => omega
            case rel => exact ⟨by repeat (first | with_reducible assumption | with_reducible refine below_set ?_ (by omega) _ | with_reducible refine Below.alloc ?_ (by first | omega | (simp; done) | (simp; omega)) _ | with_reducible refine Below.drew ?_ | with_reducible exact Below.refl _ _ | with_reducible refine below_two ?_ (by with_reducible assumption)), i + 1, by go_num, by omega, A⟩
        · obtain rfl : i = ne := by omega
          have hlt : ¬ (i : Int) < (i : Int) := by omega
          have A : Aside0 (R = (fb && ff)) := ⟨by rw [hF.out, ← HNA.out, Exs.drop_len]; rfl⟩
          have z5 : wr.cell? ⟨w.heap.size, 5, none⟩ = some (.slice a2 nb p2) := cell_below HU.out.1 hB (Nat.le_refl _)
          have z6 : wr.cell? ⟨w.heap.size, 6, none⟩ = some (.slice a3 nf p3) := cell_below HU.out.2.1 hB (Nat.le_refl _)
          have hBB : Below w.heap.size w wr := HBW.out.trans (hB.mono HBW.out.size)
          have hz := World.block_lt_of_cell? _ _ z6
          cases fb with
          | false =>
            have A2 : Aside0 (R = false) := ⟨A.out⟩
            go_wp2_with (go_at_call 51; (with_reducible refine (cb _ (by repeat (first | with_reducible assumption | with_reducible refine below_set ?_ (by omega) _ | with_reducible refine Below.alloc ?_ (by first | omega | (simp; done) | (simp; omega)) _ | with_reducible refine Below.drew ?_ | with_reducible exact Below.refl _ _ | with_reducible refine below_two ?_ (by with_reducible assumption)))).mono ?_); rintro e w1 ⟨rfl, hB1⟩)
            go_ret
            exact ⟨ret_bool A2.out.symm, by repeat (first | with_reducible assumption | with_reducible refine below_set ?_ (by omega) _ | with_reducible refine Below.alloc ?_ (by first | omega | (simp; done) | (simp; omega)) _ | with_reducible refine Below.drew ?_ | with_reducible exact Below.refl _ _ | with_reducible refine below_two ?_ (by with_reducible assumption))⟩
          | true =>
            have A2 : Aside0 (R = ff) := ⟨by rw [A.out, Bool.true_and]⟩
            go_wp2_with (first | (go_at_call 51; (with_reducible refine (cb _ (by repeat (first | with_reducible assumption | with_reducible refine below_set ?_ (by omega) _ | with_reducible refine Below.alloc ?_ (by first | omega | (simp; done) | (simp; omega)) _ | with_reducible refine Below.drew ?_ | with_reducible exact Below.refl _ _ | with_reducible refine below_two ?_ (by with_reducible assumption)))).mono ?_); rintro e w1 ⟨rfl, hB1⟩; obtain ⟨hc1, hf1⟩ := bcell hB1) | (go_at_call 51; (with_reducible refine (cf _ (by repeat (first | with_reducible assumption | with_reducible refine below_set ?_ (by omega) _ | with_reducible refine Below.alloc ?_ (by first | omega | (simp; done) | (simp; omega)) _ | with_reducible refine Below.drew ?_ | with_reducible exact Below.refl _ _ | with_reducible refine below_two ?_ (by with_reducible assumption)))).mono ?_); rintro e w2 ⟨rfl, hB2⟩))
            go_ret
            exact ⟨ret_bool A2.out.symm, by repeat (first | with_reducible assumption | with_reducible refine below_set ?_ (by omega) _ | with_reducible refine Below.alloc ?_ (by first | omega | (simp; done) | (simp; omega)) _ | with_reducible refine Below.drew ?_ | with_reducible exact Below.refl _ _ | with_reducible refine below_two ?_ (by with_reducible assumption))⟩
theorem fs_walk : ∀ n, FsA n ∧ FsB n
  | 0 => by
    have hA : FsA 0 := fun x ve vb vf P w h => by unfold St.wt at h; omega
    exact ⟨hA, fsB_of 0 hA⟩
  | n + 1 => by
    have hA := fsA_of n (fs_walk n).2
    exact ⟨hA, fsB_of (n + 1) hA⟩
theorem formedStmts_walk (l : Sts) (v : Value) (P : Nat → Prop) (w : World) (hm : l.wt ≤ 3000000) (h : HS P w v l) (hT : Tabs w) : Calls Tryd.prog 51 #[v] w (IsY (fSs l) w) := (fs_walk l.wt).2 l v P w (Nat.le_refl _) hm h hT
end Go.Proofs.YthkmdmobeadigaaDoor.lg
