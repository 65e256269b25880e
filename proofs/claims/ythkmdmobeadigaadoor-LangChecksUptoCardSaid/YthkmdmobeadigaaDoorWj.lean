/- Alike: the law's words, where they are: walked. -/
import Derived.Test.YthkmdmobeadigaaDoorWi
namespace Go.Proofs.YthkmdmobeadigaaDoor.lg
open Go.RowKit
set_option linter.unusedVariables false
set_option linter.unusedSimpArgs false
set_option maxHeartbeats 2000000 in
set_option maxRecDepth 100000 in
theorem names_walk (w : World) (l : List ByteArray) (v1 v2 : Value) (hl : l.length ≤ 3000000) (h1 : SV w 1 v1 l.length (nsC l)) (h2 : SV w 1 v2 l.length (nsC l)) : Calls Tryd.prog 32 #[v1, v2] w (IsY true w) := by
  obtain ⟨a1, c1, g1, o1, rfl, p1⟩ := h1
  obtain ⟨a2, c2, g2, o2, rfl, p2⟩ := h2
  obtain ⟨n, hn⟩ : ∃ n, l.length = n := ⟨_, rfl⟩
  rw [hn] at hl p1 p2 ⊢
  have HP : Aside0 (SW w 1 a1 n c1 g1 o1 (nsC l) ∧ SW w 1 a2 n c2 g2 o2 (nsC l) ∧ l.length = n) := ⟨p1, p2, hn⟩
  clear hn p1 p2
  go_enter Tryd.func32, Tryd.ntmps32
  go_wp2
  go_loopg [13] n (fun g v wr => Below w.heap.size w wr ∧ ∃ i : Nat, v = .int .i64 i ∧ i + g = n)
  case atStart => exact ⟨Below.refl _ _, 0, rfl, by omega⟩
  case round =>
    obtain ⟨hB, i, rfl, hig⟩ := hrel
    by_cases hi : i < n
    · have hlt : (i : Int) < (n : Int) := by omega
      obtain ⟨q, rfl⟩ : ∃ q, gk = q + 1 := ⟨gk - 1, by omega⟩
      obtain ⟨x, hx⟩ : ∃ x, l[i]? = some x := ⟨_, List.getElem?_eq_getElem (by rw [HP.out.2.2]; exact hi)⟩
      have e1 := (HP.out.1.below hB (Nat.le_refl _)).cells i _ (nsC_at hx)
      have e2 := (HP.out.2.1.below hB (Nat.le_refl _)).cells i _ (nsC_at hx)
      have f1 : a1 = some ⟨g1, o1, none⟩ := by rcases HP.out.1.lead with e | e; (omega); exact e
      have f2 : a2 = some ⟨g2, o2, none⟩ := by rcases HP.out.2.1.lead with e | e; (omega); exact e
      subst f1 f2
      clear hx
      go_wp2
      go_quiet (fail)
      go_wp2
      go_roundg q
      case measure => omega
      case rel => exact ⟨below_drewN hB _, i + 1, by go_num, by omega⟩
    · obtain rfl : i = n := by omega
      have hlt : ¬ (i : Int) < (i : Int) := by omega
      go_wp2
      go_ret
      exact ⟨rfl, hB⟩
def ExY (n : Nat) : Prop := ∀ (l : Exs) (v1 v2 : Value) (P1 P2 : Nat → Prop) (w : World), l.wt < n → l.wt ≤ 3000000 → HE P1 w v1 l → HE P2 w v2 l → Calls Tryd.prog 58 #[v1, v2] w (IsY true w)
set_option maxHeartbeats 4000000 in
set_option maxRecDepth 100000 in
theorem exY_of (n : Nat) (ih : ExY n) : ExY (n + 1) := by
  intro l v1 v2 P1 P2 w hn hm h1 h2
  obtain ⟨a1, c1, g1, o1, rfl, p1, q1⟩ := h1
  obtain ⟨a2, c2, g2, o2, rfl, p2, q2⟩ := h2
  have hlen := l.len_wt
  obtain ⟨na, hna⟩ : ∃ n, l.len = n := ⟨_, rfl⟩
  have hna3 : na ≤ 3000000 := by omega
  have HP : Aside0 ((Hd a1 na c1 g1 o1 ∧ LEs P1 w g1 o1 l) ∧ (Hd a2 na c2 g2 o2 ∧ LEs P2 w g2 o2 l) ∧ l.len = na) := ⟨⟨hna ▸ p1, q1⟩, ⟨hna ▸ p2, q2⟩, hna⟩
  have HIH : Aside0 (ExY n) := ⟨ih⟩
  have HSZ : Aside0 (l.wt < n + 1 ∧ l.wt ≤ 3000000) := ⟨hn, hm⟩
  rw [hna]
  clear hna p1 p2 q1 q2 ih hn hm hlen
  go_enter Tryd.func58, Tryd.ntmps58
  go_wp2
  go_loopg [15] na (fun g v wr => Below w.heap.size w wr ∧ ∃ i : Nat, v = .int .i64 i ∧ i + g = na)
  case atStart => exact ⟨Below.refl _ _, 0, rfl, by omega⟩
  case round =>
    obtain ⟨hB, i, rfl, hig⟩ := hrel
    have hBs := hB.size
    by_cases hi : i < na
    · have hlt : (i : Int) < (na : Int) := by omega
      obtain ⟨q, rfl⟩ : ∃ q, gk = q + 1 := ⟨gk - 1, by omega⟩
      obtain ⟨y, hy⟩ := Exs.get_lt (l := l) (j := i) (by rw [HP.out.2.2]; exact hi)
      have hyw := Exs.get_wt hy
      obtain ⟨-, y1, y2, y3, y4, y5⟩ := (HP.out.1.2.below hB (Nat.le_refl _)).at hy
      obtain ⟨-, z1, z2, z3, z4, z5⟩ := (HP.out.2.1.2.below hB (Nat.le_refl _)).at hy
      obtain ⟨vy, y5, hvy⟩ := y5
      obtain ⟨vz, z5, hvz⟩ := z5
      have hy' : ∃ ao c, vy = .slice ao y.args.len c := by obtain ⟨ao, c, _, _, e, _⟩ := hvy; exact ⟨ao, c, e⟩
      have hz' : ∃ ao c, vz = .slice ao y.args.len c := by obtain ⟨ao, c, _, _, e, _⟩ := hvz; exact ⟨ao, c, e⟩
      obtain ⟨aoy, capy, rfl⟩ := hy'
      obtain ⟨aoz, capz, rfl⟩ := hz'
      have f1 : a1 = some ⟨g1, o1, none⟩ := by rcases HP.out.1.1.lead with e | e; (omega); exact e
      have f2 : a2 = some ⟨g2, o2, none⟩ := by rcases HP.out.2.1.1.lead with e | e; (omega); exact e
      have cy : ∀ W, Below wr.heap.size wr W → Calls Tryd.prog 58 #[.slice aoy y.args.len capy, .slice aoz y.args.len capz] W (IsY true W) := fun W hW => HIH.out y.args _ _ P1 P2 W (by have := HSZ.out.1; unfold Ex.wt at hyw; omega) (by have := HSZ.out.2; unfold Ex.wt at hyw; omega) (hvy.below hW (Nat.le_refl _)) (hvz.below hW (Nat.le_refl _))
      obtain ⟨yk, yn, ym, yp, ya⟩ := y
      simp only at cy y1 y2 y3 y4 y5 z1 z2 z3 z4 z5
      subst f1 f2
      clear hyw hy hvy hvz
      have zz1 := fun ob => cell_alloc ob z1
      have zz2 := fun ob => cell_alloc ob z2
      have zz3 := fun ob => cell_alloc ob z3
      have zz4 := fun ob => cell_alloc ob z4
      have zz5 := fun ob => cell_alloc ob z5
      clear z1 z2 z3 z4 z5
      go_wp2_with (go_at_call 58; (with_reducible refine (cy _ (by repeat (first | with_reducible assumption | with_reducible refine below_set ?_ (by omega) _ | with_reducible refine Below.alloc ?_ (by first | omega | (simp; done) | (simp; omega)) _ | with_reducible refine Below.drew ?_ | with_reducible exact Below.refl _ _ | with_reducible refine below_two ?_ (by with_reducible assumption)))).mono ?_); rintro e w1 ⟨rfl, hB1⟩)
      go_roundg q
      case measure => omega
      case rel => exact ⟨by repeat (first | with_reducible assumption | with_reducible refine below_set ?_ (by omega) _ | with_reducible refine Below.alloc ?_ (by first | omega | (simp; done) | (simp; omega)) _ | with_reducible refine Below.drew ?_ | with_reducible exact Below.refl _ _ | with_reducible refine below_two ?_ (by with_reducible assumption)), i + 1, by go_num, by omega⟩
    · obtain rfl : i = na := by omega
      have hlt : ¬ (i : Int) < (i : Int) := by omega
      go_wp2
      go_ret
      exact ⟨rfl, hB⟩
theorem exY : ∀ n, ExY n
  | 0 => fun l v1 v2 P1 P2 w hn => by omega
  | n + 1 => exY_of n (exY n)
theorem exprs_walk (l : Exs) (v1 v2 : Value) (P1 P2 : Nat → Prop) (w : World) (hm : l.wt ≤ 3000000) (h1 : HE P1 w v1 l) (h2 : HE P2 w v2 l) : Calls Tryd.prog 58 #[v1, v2] w (IsY true w) := exY (l.wt + 1) l v1 v2 P1 P2 w (Nat.lt_succ_self _) hm h1 h2
def StY (n : Nat) : Prop := ∀ (l : Sts) (v1 v2 : Value) (P1 P2 : Nat → Prop) (w : World), l.wt < n → l.wt ≤ 3000000 → HS P1 w v1 l → HS P2 w v2 l → Calls Tryd.prog 33 #[v1, v2] w (IsY true w)
set_option maxHeartbeats 4000000 in
set_option maxRecDepth 100000 in
theorem stY_of (n : Nat) (ih : StY n) : StY (n + 1) := by
  intro l v1 v2 P1 P2 w hn hm h1 h2
  obtain ⟨a1, c1, g1, o1, rfl, p1, q1⟩ := h1
  obtain ⟨a2, c2, g2, o2, rfl, p2, q2⟩ := h2
  have hlen := l.len_wt
  obtain ⟨na, hna⟩ : ∃ n, l.len = n := ⟨_, rfl⟩
  have hna3 : na ≤ 3000000 := by omega
  have HP : Aside0 ((Hd a1 na c1 g1 o1 ∧ LSs P1 w g1 o1 l) ∧ (Hd a2 na c2 g2 o2 ∧ LSs P2 w g2 o2 l) ∧ l.len = na) := ⟨⟨hna ▸ p1, q1⟩, ⟨hna ▸ p2, q2⟩, hna⟩
  have HIH : Aside0 (StY n) := ⟨ih⟩
  have HSZ : Aside0 (l.wt < n + 1 ∧ l.wt ≤ 3000000) := ⟨hn, hm⟩
  rw [hna]
  clear hna p1 p2 q1 q2 ih hn hm hlen
  go_enter Tryd.func33, Tryd.ntmps33
  go_wp2
  go_loopg [15] na (fun g v wr => Below w.heap.size w wr ∧ ∃ i : Nat, v = .int .i64 i ∧ i + g = na)
  case atStart => exact ⟨Below.refl _ _, 0, rfl, by omega⟩
  case round =>
    obtain ⟨hB, i, rfl, hig⟩ := hrel
    have hBs := hB.size
    by_cases hi : i < na
    · have hlt : (i : Int) < (na : Int) := by omega
      obtain ⟨q, rfl⟩ : ∃ q, gk = q + 1 := ⟨gk - 1, by omega⟩
      obtain ⟨y, hy⟩ := Sts.get_lt (l := l) (j := i) (by rw [HP.out.2.2]; exact hi)
      have hyw := Sts.get_wt hy
      unfold St.wt at hyw
      obtain ⟨-, y1, y2, y3, y4, y5, y6, y7⟩ := (HP.out.1.2.below hB (Nat.le_refl _)).at hy
      obtain ⟨-, z1, z2, z3, z4, z5, z6, z7⟩ := (HP.out.2.1.2.below hB (Nat.le_refl _)).at hy
      obtain ⟨ve, y5, hve⟩ := y5
      obtain ⟨vb, y6, hvb⟩ := y6
      obtain ⟨vf, y7, hvf⟩ := y7
      obtain ⟨ue, z5, hue⟩ := z5
      obtain ⟨ub, z6, hub⟩ := z6
      obtain ⟨uf, z7, huf⟩ := z7
      have e1 : ∃ ao c, ve = .slice ao y.exprs.len c := by obtain ⟨ao, c, _, _, e, _⟩ := hve; exact ⟨ao, c, e⟩
      have e2 : ∃ ao c, vb = .slice ao y.body.len c := by obtain ⟨ao, c, _, _, e, _⟩ := hvb; exact ⟨ao, c, e⟩
      have e3 : ∃ ao c, vf = .slice ao y.els.len c := by obtain ⟨ao, c, _, _, e, _⟩ := hvf; exact ⟨ao, c, e⟩
      have e4 : ∃ ao c, ue = .slice ao y.exprs.len c := by obtain ⟨ao, c, _, _, e, _⟩ := hue; exact ⟨ao, c, e⟩
      have e5 : ∃ ao c, ub = .slice ao y.body.len c := by obtain ⟨ao, c, _, _, e, _⟩ := hub; exact ⟨ao, c, e⟩
      have e6 : ∃ ao c, uf = .slice ao y.els.len c := by obtain ⟨ao, c, _, _, e, _⟩ := huf; exact ⟨ao, c, e⟩
      obtain ⟨s1, r1, rfl⟩ := e1
      obtain ⟨s2, r2, rfl⟩ := e2
      obtain ⟨s3, r3, rfl⟩ := e3
      obtain ⟨s4, r4, rfl⟩ := e4
      obtain ⟨s5, r5, rfl⟩ := e5
      obtain ⟨s6, r6, rfl⟩ := e6
      have f1 : a1 = some ⟨g1, o1, none⟩ := by rcases HP.out.1.1.lead with e | e; (omega); exact e
      have f2 : a2 = some ⟨g2, o2, none⟩ := by rcases HP.out.2.1.1.lead with e | e; (omega); exact e
      have ce : ∀ W, Below wr.heap.size wr W → Calls Tryd.prog 58 #[.slice s1 y.exprs.len r1, .slice s4 y.exprs.len r4] W (IsY true W) := fun W hW => exprs_walk y.exprs _ _ P1 P2 W (by have := HSZ.out.2; omega) (hve.below hW (Nat.le_refl _)) (hue.below hW (Nat.le_refl _))
      have cb : ∀ W, Below wr.heap.size wr W → Calls Tryd.prog 33 #[.slice s2 y.body.len r2, .slice s5 y.body.len r5] W (IsY true W) := fun W hW => HIH.out y.body _ _ P1 P2 W (by have := HSZ.out.1; omega) (by have := HSZ.out.2; omega) (hvb.below hW (Nat.le_refl _)) (hub.below hW (Nat.le_refl _))
      have cf : ∀ W, Below wr.heap.size wr W → Calls Tryd.prog 33 #[.slice s3 y.els.len r3, .slice s6 y.els.len r6] W (IsY true W) := fun W hW => HIH.out y.els _ _ P1 P2 W (by have := HSZ.out.1; omega) (by have := HSZ.out.2; omega) (hvf.below hW (Nat.le_refl _)) (huf.below hW (Nat.le_refl _))
      obtain ⟨yk, yn, ykey, yval, ye, yb, yf⟩ := y
      simp only at ce cb cf y1 y2 y3 y4 y5 y6 y7 z1 z2 z3 z4 z5 z6 z7
      subst f1 f2
      clear hyw hy hve hvb hvf hue hub huf
      have zz1 := fun ob => cell_alloc ob z1
      have zz2 := fun ob => cell_alloc ob z2
      have zz3 := fun ob => cell_alloc ob z3
      have zz4 := fun ob => cell_alloc ob z4
      have zz5 := fun ob => cell_alloc ob z5
      have zz6 := fun ob => cell_alloc ob z6
      have zz7 := fun ob => cell_alloc ob z7
      clear z1 z2 z3 z4 z5 z6 z7
      obtain ⟨k, hk⟩ : ∃ k, wr.heap.size = k := ⟨_, rfl⟩
      obtain ⟨W2, hW2⟩ : ∃ W, (wr.alloc (.cells #[.int .i64 yk, .string yn, .string ykey, .string yval, .slice s1 ye.len r1, .slice s2 yb.len r2, .slice s3 yf.len r3] 52)).alloc (.cells #[.int .i64 yk, .string yn, .string ykey, .string yval, .slice s4 ye.len r4, .slice s5 yb.len r5, .slice s6 yf.len r6] 52) = W := ⟨_, rfl⟩
      have hB2 : Below wr.heap.size wr W2 := by rw [← hW2]; exact ((Below.refl _ _).alloc (Nat.le_refl _) _).alloc (by simp) _
      have hz2 : W2.heap.size = k + 2 := by rw [← hW2, ← hk]; simp
      have x0 : W2.cell? ⟨k, 0, none⟩ = some (.int .i64 yk) := by rw [← hW2, ← hk]; simp
      have x1 : W2.cell? ⟨k, 1, none⟩ = some (.string yn) := by rw [← hW2, ← hk]; simp
      have x2 : W2.cell? ⟨k, 2, none⟩ = some (.string ykey) := by rw [← hW2, ← hk]; simp
      have x3 : W2.cell? ⟨k, 3, none⟩ = some (.string yval) := by rw [← hW2, ← hk]; simp
      have x4 : W2.cell? ⟨k, 4, none⟩ = some (.slice s1 ye.len r1) := by rw [← hW2, ← hk]; simp
      have x5 : W2.cell? ⟨k, 5, none⟩ = some (.slice s2 yb.len r2) := by rw [← hW2, ← hk]; simp
      have x6 : W2.cell? ⟨k, 6, none⟩ = some (.slice s3 yf.len r3) := by rw [← hW2, ← hk]; simp
      have v0 : W2.cell? ⟨k + 1, 0, none⟩ = some (.int .i64 yk) := by rw [← hW2, ← hk]; simp
      have vq1 : W2.cell? ⟨k + 1, 1, none⟩ = some (.string yn) := by rw [← hW2, ← hk]; simp
      have vq2 : W2.cell? ⟨k + 1, 2, none⟩ = some (.string ykey) := by rw [← hW2, ← hk]; simp
      have v3 : W2.cell? ⟨k + 1, 3, none⟩ = some (.string yval) := by rw [← hW2, ← hk]; simp
      have v4 : W2.cell? ⟨k + 1, 4, none⟩ = some (.slice s4 ye.len r4) := by rw [← hW2, ← hk]; simp
      have v5 : W2.cell? ⟨k + 1, 5, none⟩ = some (.slice s5 yb.len r5) := by rw [← hW2, ← hk]; simp
      have v6 : W2.cell? ⟨k + 1, 6, none⟩ = some (.slice s6 yf.len r6) := by rw [← hW2, ← hk]; simp
      have hk1 : k < W2.heap.size := by omega
      have hk2 : k + 1 < W2.heap.size := by omega
      have hBW : Below w.heap.size w W2 := hB.trans (hB2.mono hBs)
      rw [hk] at hB2 ce cb cf hBs
      clear hz2
      go_wp2_with (first
        | (go_at_call 58; (with_reducible refine (ce _ hB2).mono ?_); rintro e w1 ⟨rfl, hB3⟩; obtain ⟨hc1, hf1⟩ := bcell hB3; have hk3 : k < w1.heap.size := (by have := hB3.size; omega); have hk4 : k + 1 < w1.heap.size := (by have := hB3.size; omega); have hB4 : Below k wr w1 := hB2.trans (hB3.mono (by omega)))
        | (go_at_call 33; (with_reducible refine (cb _ hB4).mono ?_); rintro e w2 ⟨rfl, hB5⟩; obtain ⟨hc2, hf2⟩ := bcell hB5; have hB6 : Below k wr w2 := hB4.trans (hB5.mono (by omega)))
        | (go_at_call 33; (with_reducible refine (cf _ hB6).mono ?_); rintro e w3 ⟨rfl, hB7⟩))
      go_roundg q
      case measure => omega
      case rel => exact ⟨hB.trans ((hB6.trans (hB7.mono (by have := hB6.size; omega))).mono hBs), i + 1, by go_num, by omega⟩
    · obtain rfl : i = na := by omega
      have hlt : ¬ (i : Int) < (i : Int) := by omega
      go_wp2
      go_ret
      exact ⟨rfl, hB⟩
theorem stY : ∀ n, StY n
  | 0 => fun l v1 v2 P1 P2 w hn => by omega
  | n + 1 => stY_of n (stY n)
theorem stmts_walk (l : Sts) (v1 v2 : Value) (P1 P2 : Nat → Prop) (w : World) (hm : l.wt ≤ 3000000) (h1 : HS P1 w v1 l) (h2 : HS P2 w v2 l) : Calls Tryd.prog 33 #[v1, v2] w (IsY true w) := stY (l.wt + 1) l v1 v2 P1 P2 w (Nat.lt_succ_self _) hm h1 h2
set_option maxHeartbeats 2000000 in
set_option maxRecDepth 100000 in
theorem same_walk (ms : List ByteArray) (s : Sts) (m1 m2 v1 v2 : Value) (P1 P2 : Nat → Prop) (w : World) (hml : ms.length ≤ 3000000) (hm : s.wt ≤ 3000000) (hM1 : SV w 1 m1 ms.length (nsC ms)) (hM2 : SV w 1 m2 ms.length (nsC ms)) (h1 : HS P1 w v1 s) (h2 : HS P2 w v2 s) :
    Calls Tryd.prog 11 #[.agg #[m1, v1], .agg #[m2, v2]] w (IsY true w) := by
  have cn : ∀ W, Below w.heap.size w W → Calls Tryd.prog 32 #[m1, m2] W (IsY true W) := fun W hW => names_walk W ms m1 m2 hml (hM1.below hW (Nat.le_refl _)) (hM2.below hW (Nat.le_refl _))
  have cs : ∀ W, Below w.heap.size w W → Calls Tryd.prog 33 #[v1, v2] W (IsY true W) := fun W hW => stmts_walk s v1 v2 P1 P2 W hm (h1.below hW (Nat.le_refl _)) (h2.below hW (Nat.le_refl _))
  obtain ⟨a1, c1, g1, o1, rfl, _⟩ := hM1
  obtain ⟨a2, c2, g2, o2, rfl, _⟩ := hM2
  obtain ⟨a3, c3, g3, o3, rfl, _⟩ := h1
  obtain ⟨a4, c4, g4, o4, rfl, _⟩ := h2
  obtain ⟨n, hn⟩ : ∃ n, ms.length = n := ⟨_, rfl⟩
  obtain ⟨ns, hns⟩ : ∃ n, s.len = n := ⟨_, rfl⟩
  rw [hn] at cn ⊢
  rw [hns] at cs ⊢
  clear hn hns
  obtain ⟨k, hk⟩ : ∃ k, w.heap.size = k := ⟨_, rfl⟩
  obtain ⟨W2, hW2⟩ : ∃ W, (w.alloc (.cells #[.slice a1 n c1, .slice a3 ns c3] 25)).alloc (.cells #[.slice a2 n c2, .slice a4 ns c4] 25) = W := ⟨_, rfl⟩
  have hB2 : Below w.heap.size w W2 := by rw [← hW2]; exact ((Below.refl _ _).alloc (Nat.le_refl _) _).alloc (by simp) _
  have hz2 : W2.heap.size = k + 2 := by rw [← hW2, ← hk]; simp
  have x0 : W2.cell? ⟨k, 0, none⟩ = some (.slice a1 n c1) := by rw [← hW2, ← hk]; simp
  have x1 : W2.cell? ⟨k, 1, none⟩ = some (.slice a3 ns c3) := by rw [← hW2, ← hk]; simp
  have v0 : W2.cell? ⟨k + 1, 0, none⟩ = some (.slice a2 n c2) := by rw [← hW2, ← hk]; simp
  have vq1 : W2.cell? ⟨k + 1, 1, none⟩ = some (.slice a4 ns c4) := by rw [← hW2, ← hk]; simp
  have hk1 : k < W2.heap.size := by omega
  have hk2 : k + 1 < W2.heap.size := by omega
  rw [hk] at hB2 cn cs
  have hwk : Aside0 (w.heap.size = k) := ⟨hk⟩
  clear hz2
  go_enter Tryd.func11, Tryd.ntmps11
  go_wp2_with (first
    | (go_at_call 32; (with_reducible refine (cn _ hB2).mono ?_); rintro e w1 ⟨rfl, hB3⟩; obtain ⟨hc1, hf1⟩ := bcell hB3; have hB4 : Below k w w1 := hB2.trans (hB3.mono (by omega)))
    | (go_at_call 33; (with_reducible refine (cs _ hB4).mono ?_); rintro e w2 ⟨rfl, hB5⟩))
  go_ret
  exact ⟨rfl, by rw [hwk.out]; exact hB4.trans (hB5.mono (by have := hB4.size; omega))⟩
end Go.Proofs.YthkmdmobeadigaaDoor.lg
