/- The law's words: are two lists, two commands, two scripts alike. Walked where they are. -/
import Derived.Test.YtigaacbaaopfmaaDoorFr
import Derived.Laws.StructEq
set_option linter.unusedSimpArgs false
namespace Go.Proofs.YtigaacbaaopfmaaDoor.sh
open Go.RowKit
set_option linter.unusedVariables false
/-- A slice of n elements of so many cells leads to these cells. -/
structure SW (w : World) (size : Nat) (ao : Option Addr) (n c g o : Nat) (xs : List Value) : Prop where
  len : xs.length = n * size
  lead : n = 0 ∨ ao = some ⟨g, o, none⟩
  bare : ao = none → c = 0
  cap : n ≤ c
  cells : ∀ (j : Nat) (u : Value), xs[j]? = some u → w.cell? ⟨g, o + j, none⟩ = some u
def SV (w : World) (size : Nat) (v : Value) (n : Nat) (xs : List Value) : Prop := ∃ ao c g o, v = .slice ao n c ∧ SW w size ao n c g o xs
theorem SW.below {w w' : World} {size n c g o k : Nat} {ao : Option Addr} {xs : List Value} (h : SW w size ao n c g o xs) (hb : Below k w w') (hk : w.heap.size ≤ k) : SW w' size ao n c g o xs :=
  ⟨h.len, h.lead, h.bare, h.cap, fun j u hu => cell_below (h.cells j u hu) hb hk⟩
theorem SV.below {w w' : World} {size n k : Nat} {v : Value} {xs : List Value} (h : SV w size v n xs) (hb : Below k w w') (hk : w.heap.size ≤ k) : SV w' size v n xs := by
  obtain ⟨ao, c, g, o, h1, h2⟩ := h
  exact ⟨ao, c, g, o, h1, h2.below hb hk⟩
theorem SL.sv {w : World} {E base : Nat} {v : Value} {xs : List Value} (h : SL w E base v xs) : SV w 1 v xs.length xs := by
  obtain ⟨ao, c, h1, h2, ⟨rfl, rfl, rfl⟩ | ⟨g, o, rfl, h3, h4, h5⟩⟩ := h.split
  · exact ⟨none, 0, 0, 0, h1, by simp, .inl rfl, fun _ => rfl, h2, fun j u hu => by simp at hu⟩
  · exact ⟨_, c, g, o, h1, by simp, .inr rfl, (fun e => by cases e), h2, h5⟩
theorem own_sv {w : World} {base E size n : Nat} {v : Value} {xs : List Value} (h : w.ownsRow base E size v n xs) : SV w size v n xs := by
  rcases h.2 with ⟨h1, h2⟩ | ⟨g, cap, cur, h1, h2, h3, h4, h5, h6, h7⟩
  · subst h2
    have hx : xs = [] := List.eq_nil_of_length_eq_zero (by have := h.1; omega)
    subst hx
    exact ⟨none, 0, 0, 0, h1, by simp, .inl rfl, fun _ => rfl, Nat.le_refl _, fun j u hu => by simp at hu⟩
  · refine ⟨_, cap, g, 0, h1, h.1, .inr rfl, (fun e => by cases e), h4, fun j u hu => ?_⟩
    rw [← h7, List.getElem?_take] at hu
    split at hu
    · rw [Nat.zero_add]
      unfold World.cell?
      rw [h3]
      simpa using hu
    · cases hu
/-- The commands, one behind the other. -/
def CmV (w : World) (cs : List Value) (cmds : List Cm) : Prop := ∀ (i : Nat) (c : Cm), cmds[i]? = some c → ∃ vf vh, SV w 1 vf c.fields.length (iv c.fields) ∧ SV w 1 vh c.hs.length (iv c.hs) ∧ ∀ t, t < 9 → cs[i * 9 + t]? = (cmC c vf vh)[t]?
theorem CmV.below {w w' : World} {k : Nat} {cs : List Value} {cmds : List Cm} (h : CmV w cs cmds) (hb : Below k w w') (hk : w.heap.size ≤ k) : CmV w' cs cmds := fun i c hc => by
  obtain ⟨vf, vh, h1, h2, h3⟩ := h i c hc
  exact ⟨vf, vh, h1.below hb hk, h2.below hb hk, h3⟩
theorem CmA.cmv {w : World} {base : Nat} {cs : List Cm} {xs : List Value} (h : CmA w base xs cs) : CmV w xs cs := fun i c hc => by
  obtain ⟨vf, vh, h1, h2, h3⟩ := h.at hc
  have e1 := h1.sv
  have e2 := h2.sv
  rw [iv_len] at e1 e2
  exact ⟨vf, vh, e1, e2, h3⟩
/-- A script lies there. -/
def ScV (w : World) (v : Value) (s : Sc) : Prop := ∃ vo vc cs, v = .agg #[.int .i64 s.limit, vo, vc] ∧ SV w 2 vo s.over.length (ovC s.over) ∧ SV w 9 vc s.cmds.length cs ∧ CmV w cs s.cmds
theorem ScV.below {w w' : World} {k : Nat} {v : Value} {s : Sc} (h : ScV w v s) (hb : Below k w w') (hk : w.heap.size ≤ k) : ScV w' v s := by
  obtain ⟨vo, vc, cs, h1, h2, h3, h4⟩ := h
  exact ⟨vo, vc, cs, h1, h2.below hb hk, h3.below hb hk, h4.below hb hk⟩
def YesP (w : World) (e : Ending) (w' : World) : Prop := e = .returned (.bool true) ∧ Below w.heap.size w w'
theorem iv_at {l : List Int} {j : Nat} {x : Int} (h : l[j]? = some x) : (iv l)[j]? = some (.int .i64 x) := by rw [iv, List.getElem?_map, h]; rfl
set_option maxHeartbeats 4000000 in
set_option maxRecDepth 100000 in
theorem ints_walk (w : World) (l : List Int) (hl : l.length ≤ 1000000000000) (a1 a2 : Option Addr) (c1 c2 g1 g2 o1 o2 : Nat) (h1 : SW w 1 a1 l.length c1 g1 o1 (iv l)) (h2 : SW w 1 a2 l.length c2 g2 o2 (iv l)) :
    Calls Tryd.prog 62 #[.slice a1 l.length c1, .slice a2 l.length c2] w (YesP w) := by
  obtain ⟨n, hn⟩ : ∃ n, l.length = n := ⟨_, rfl⟩
  rw [hn] at h1 h2 hl ⊢
  have HN : Aside0 (l.length = n) := ⟨hn⟩
  have HS : Aside0 (SW w 1 a1 n c1 g1 o1 (iv l) ∧ SW w 1 a2 n c2 g2 o2 (iv l)) := ⟨h1, h2⟩
  clear hn h1 h2
  go_enter Tryd.func62, Tryd.ntmps62
  go_wp2
  go_loopg [13] n (fun q v13 wr => ∃ i : Nat, v13 = .int .i64 i ∧ i + q = n ∧ Below w.heap.size w wr)
  case atStart => exact ⟨0, rfl, by omega, Below.refl _ _⟩
  case round =>
    obtain ⟨i, rfl, hiq, hB⟩ := hrel
    by_cases hi : i < n
    · obtain ⟨q, rfl⟩ : ∃ q, gk = q + 1 := ⟨gk - 1, by omega⟩
      have hil : (i : Int) < (n : Int) := by omega
      obtain ⟨h1, h2⟩ := HS.out
      obtain ⟨x, hx⟩ : ∃ x, l[i]? = some x := ⟨_, List.getElem?_eq_getElem (by rw [HN.out]; exact hi)⟩
      have k1 := (h1.below hB (Nat.le_refl _)).cells i _ (iv_at hx)
      have k2 := (h2.below hB (Nat.le_refl _)).cells i _ (iv_at hx)
      obtain rfl : a1 = some ⟨g1, o1, none⟩ := by rcases h1.lead with h | h; omega; exact h
      obtain rfl : a2 = some ⟨g2, o2, none⟩ := by rcases h2.lead with h | h; omega; exact h
      clear h1 h2 hx
      go_wp2_with fail
      go_quiet (fail)
      go_wp2
      go_roundg q
      case measure => omega
      case rel => exact ⟨i + 1, by go_num, by omega, below_drewN hB _⟩
    · obtain rfl : i = n := by omega
      have hil : ¬ (i : Int) < (i : Int) := by omega
      go_wp2
      go_ret
      exact ⟨rfl, hB⟩
def cmV (c : Cm) (vf vh : Value) : Value := .agg #[.int .i64 c.op, .int .i64 c.h, vf, vh, .int .u64 (c.u : Int), .int .u64 (c.v : Int), .int .i64 c.n, .string (B c.key), .string (B c.elem)]
set_option maxHeartbeats 4000000 in
set_option maxRecDepth 100000 in
theorem alike_walk (w : World) (c : Cm) (hf : c.fields.length ≤ 1000000000000) (hh : c.hs.length ≤ 1000000000000) (f1 k1 f2 k2 : Value) (s1 : SV w 1 f1 c.fields.length (iv c.fields)) (s2 : SV w 1 k1 c.hs.length (iv c.hs)) (s3 : SV w 1 f2 c.fields.length (iv c.fields)) (s4 : SV w 1 k2 c.hs.length (iv c.hs)) :
    Calls Tryd.prog 41 #[cmV c f1 k1, cmV c f2 k2] w (YesP w) := by
  obtain ⟨a1, c1, g1, o1, rfl, s1⟩ := s1
  obtain ⟨a2, c2, g2, o2, rfl, s2⟩ := s2
  obtain ⟨a3, c3, g3, o3, rfl, s3⟩ := s3
  obtain ⟨a4, c4, g4, o4, rfl, s4⟩ := s4
  obtain ⟨op, h, fields, hs, u, v, n, key, elem⟩ := c
  simp only at hf hh s1 s2 s3 s4
  have d1 := fun wq (h : Below w.heap.size w wq) => ints_walk wq fields hf a1 a3 c1 c3 g1 g3 o1 o3 (s1.below h (Nat.le_refl _)) (s3.below h (Nat.le_refl _))
  have d2 := fun wq (h : Below w.heap.size w wq) => ints_walk wq hs hh a2 a4 c2 c4 g2 g4 o2 o4 (s2.below h (Nat.le_refl _)) (s4.below h (Nat.le_refl _))
  unfold cmV
  dsimp only
  generalize fields.length = n1 at d1
  generalize hs.length = n2 at d2
  generalize B key = kb
  generalize B elem = eb
  clear s1 s2 s3 s4 hf hh
  have hB0 : ∀ x y, Below w.heap.size w ((w.alloc x).alloc y) := fun x y => ((Below.refl _ w).alloc (Nat.le_refl _) _).alloc (by simp) _
  go_enter Tryd.func41, Tryd.ntmps41
  go_wp2_with fail
  refine (d1 _ (hB0 _ _)).mono ?_
  rintro e w1 ⟨rfl, hB1⟩
  obtain ⟨hc1, hz1⟩ := bcell hB1
  have hB2 := (hB0 _ _).trans (hB1.mono (by simp; omega))
  go_wp2_with (go_at_call 62; (with_reducible refine (d2 _ hB2).mono ?_); rintro e w2 ⟨rfl, hB3⟩)
  go_ret
  exact ⟨rfl, below_next hB2 hB3⟩
theorem fields34 : Tryd.prog.underlying 34 = some (.struct (Tryd.prog.fieldsOf 34)) := by kernel_rfl
theorem held34 : Tryd.prog.stoodInHeld 34 = false := by kernel_rfl
theorem eqi {d t : Nat} {k : IntKind} (x y : Int) (W : World) (ht : Tryd.prog.underlying t = some (.int k)) : (Op.equalIn (d + 1) t (.int k x) (.int k y)).run Tryd.prog W = .ok (x == y) W := by
  simp [Op.equalIn, run_underlying ht]
theorem eqs {d t : Nat} (x y : ByteArray) (W : World) (ht : Tryd.prog.underlying t = some .string) : (Op.equalIn (d + 1) t (.string x) (.string y)).run Tryd.prog W = .ok (x == y) W := by
  simp [Op.equalIn, run_underlying ht]
theorem eqf1 {d : Nat} {xs ys : Array Value} {f : Field} {fs : List Field} {a b : Value} {r s : Bool} {w : World} (hn : f.name ≠ "_") (ha : (part f.type xs f.offset).run Tryd.prog w = .ok a w) (hb : (part f.type ys f.offset).run Tryd.prog w = .ok b w) (he : (Op.equalIn d f.type a b).run Tryd.prog w = .ok r w) (hr : (Op.eqFields d xs ys fs).run Tryd.prog w = .ok s w) :
    (Op.eqFields d xs ys (f :: fs)).run Tryd.prog w = .ok (r && s) w := by
  rw [Op.eqFields]
  simp only [if_pos hn, Sem.run_bind, ha, hb, he, Result.andThen_ok]
  cases r
  · simp
  · simpa using hr
theorem eqf0 {d : Nat} {xs ys : Array Value} {w : World} : (Op.eqFields d xs ys []).run Tryd.prog w = .ok true w := by simp [Op.eqFields]
theorem eqIn34 (s : ByteArray) (n : Int) (d : Nat) (W : World) : (Op.equalIn (d + 2) 34 (.agg #[.string s, .int .u64 n]) (.agg #[.string s, .int .u64 n])).run Tryd.prog W = .ok ((s == s) && ((n == n) && true)) W := by
  rw [run_equalIn_struct W (d + 1) 34 _ _ fields34 held34]
  simp only [Program.fieldsOf, Tryd.underlying34]
  refine eqf1 (by decide) ?_ ?_ (eqs s s W Tryd.underlying9) (eqf1 (by decide) ?_ ?_ (eqi (k := .u64) n n W Tryd.underlying32) eqf0)
  all_goals simp [part, go_sem]
theorem bself (s : ByteArray) : (s == s) = true := by rw [beq_toListBytes]; simp
theorem neq34 (s : ByteArray) (n : Int) (W : World) : (binOp .neq 34 (.agg #[.string s, .int .u64 n]) (.agg #[.string s, .int .u64 n])).run Tryd.prog W = .ok (.bool false) W := by
  simp only [binOp]
  simp [Op.equal, Op.maxDepth, eqIn34 s n 9998 W, bself]
/-- The lists of a script are not endless. -/
structure Sc.Fin (s : Sc) : Prop where
  o : s.over.length ≤ 1000000000
  c : s.cmds.length ≤ 1000000000
  f : ∀ c ∈ s.cmds, c.fields.length ≤ 1000000000000 ∧ c.hs.length ≤ 1000000000000
set_option maxHeartbeats 8000000 in
set_option maxRecDepth 100000 in
theorem same_walk (w : World) (v1 v2 : Value) (s : Sc) (hs : s.Fin) (h1 : ScV w v1 s) (h2 : ScV w v2 s) : Calls Tryd.prog 19 #[v1, v2] w (YesP w) := by
  obtain ⟨_, _, cs1, rfl, ⟨a1, c1, g1, o1, rfl, p1⟩, ⟨b1, d1, k1, q1, rfl, r1⟩, m1⟩ := h1
  obtain ⟨_, _, cs2, rfl, ⟨a2, c2, g2, o2, rfl, p2⟩, ⟨b2, d2, k2, q2, rfl, r2⟩, m2⟩ := h2
  have HO : Aside0 (SW w 2 a1 s.over.length c1 g1 o1 (ovC s.over) ∧ SW w 2 a2 s.over.length c2 g2 o2 (ovC s.over)) := ⟨p1, p2⟩
  have HC : Aside0 (SW w 9 b1 s.cmds.length d1 k1 q1 cs1 ∧ SW w 9 b2 s.cmds.length d2 k2 q2 cs2 ∧ CmV w cs1 s.cmds ∧ CmV w cs2 s.cmds) := ⟨r1, r2, m1, m2⟩
  clear p1 p2 r1 r2 m1 m2
  obtain ⟨limit, over, cmds⟩ := s
  have HFN : Aside0 (∀ c ∈ cmds, c.fields.length ≤ 1000000000000 ∧ c.hs.length ≤ 1000000000000) := ⟨hs.f⟩
  have n1 := hs.o
  have n2 := hs.c
  simp only at HO HC n1 n2 ⊢
  clear hs
  obtain ⟨no, hno⟩ : ∃ n, over.length = n := ⟨_, rfl⟩
  obtain ⟨nc, hnc⟩ : ∃ n, cmds.length = n := ⟨_, rfl⟩
  rw [hno] at HO n1 ⊢
  rw [hnc] at HC n2 ⊢
  have HN : Aside0 (over.length = no ∧ cmds.length = nc) := ⟨hno, hnc⟩
  clear hno hnc
  have hB0 : ∀ x y, Below w.heap.size w ((w.alloc x).alloc y) := fun x y => ((Below.refl _ w).alloc (Nat.le_refl _) _).alloc (by simp) _
  obtain ⟨m, hm⟩ : ∃ m, w.heap.size = m := ⟨_, rfl⟩
  have hBW : Below w.heap.size w ((w.alloc (.cells #[.int .i64 limit, .slice a1 no c1, .slice b1 nc d1] 30)).alloc (.cells #[.int .i64 limit, .slice a2 no c2, .slice b2 nc d2] 30)) := hB0 _ _
  have hsz : ((w.alloc (.cells #[.int .i64 limit, .slice a1 no c1, .slice b1 nc d1] 30)).alloc (.cells #[.int .i64 limit, .slice a2 no c2, .slice b2 nc d2] 30)).heap.size = m + 2 := by rw [alsize, alsize, hm]
  have old := fun (o : Nat) => ((Below.refl (w.alloc (.cells #[.int .i64 limit, .slice a1 no c1, .slice b1 nc d1] 30)).heap.size (w.alloc (.cells #[.int .i64 limit, .slice a1 no c1, .slice b1 nc d1] 30))).alloc (Nat.le_refl _) (.cells #[.int .i64 limit, .slice a2 no c2, .slice b2 nc d2] 30)).cell (p := ⟨w.heap.size, o, none⟩) (by simp)
  have x1 := (old 1).trans (by simp : _ = some (.slice a1 no c1))
  have x2 := (old 2).trans (by simp : _ = some (.slice b1 nc d1))
  have y1 : ((w.alloc (.cells #[.int .i64 limit, .slice a1 no c1, .slice b1 nc d1] 30)).alloc (.cells #[.int .i64 limit, .slice a2 no c2, .slice b2 nc d2] 30)).cell? ⟨w.heap.size + 1, 1, none⟩ = some (.slice a2 no c2) := by
    have := heap_alloc2_new w (.cells #[.int .i64 limit, .slice a1 no c1, .slice b1 nc d1] 30) (.cells #[.int .i64 limit, .slice a2 no c2, .slice b2 nc d2] 30)
    unfold World.cell?; rw [this]; rfl
  have y2 : ((w.alloc (.cells #[.int .i64 limit, .slice a1 no c1, .slice b1 nc d1] 30)).alloc (.cells #[.int .i64 limit, .slice a2 no c2, .slice b2 nc d2] 30)).cell? ⟨w.heap.size + 1, 2, none⟩ = some (.slice b2 nc d2) := by
    have := heap_alloc2_new w (.cells #[.int .i64 limit, .slice a1 no c1, .slice b1 nc d1] 30) (.cells #[.int .i64 limit, .slice a2 no c2, .slice b2 nc d2] 30)
    unfold World.cell?; rw [this]; rfl
  rw [hm] at x1 x2 y1 y2
  have HB : Aside0 (∀ w', Below (m + 2) ((w.alloc (.cells #[.int .i64 limit, .slice a1 no c1, .slice b1 nc d1] 30)).alloc (.cells #[.int .i64 limit, .slice a2 no c2, .slice b2 nc d2] 30)) w' → Below w.heap.size w w') := ⟨fun w' h => hBW.trans (h.mono (by omega))⟩
  have HQ : Aside0 (∀ w', Below w.heap.size w w' → YesP w (.returned (.bool true)) w') := ⟨fun w' h => ⟨rfl, h⟩⟩
  obtain ⟨Q, hQ⟩ : ∃ Q, YesP w = Q := ⟨_, rfl⟩
  rw [hQ] at HQ ⊢
  clear hQ old hBW hB0
  go_enter Tryd.func19, Tryd.ntmps19
  go_wp2
  generalize hW : (w.alloc (.cells #[.int .i64 limit, .slice a1 no c1, .slice b1 nc d1] 30)).alloc (.cells #[.int .i64 limit, .slice a2 no c2, .slice b2 nc d2] 30) = W at *
  have HW : Aside0 (W.heap.size = m + 2 ∧ Below w.heap.size w W) := ⟨hsz, HB.out W (Below.refl _ _)⟩
  clear hW hsz
  have HX : Aside0 (W.cell? ⟨m, 2, none⟩ = some (.slice b1 nc d1) ∧ W.cell? ⟨m + 1, 2, none⟩ = some (.slice b2 nc d2)) := ⟨x2, y2⟩
  go_loopg [33] no (fun q v33 wr => ∃ i : Nat, v33 = .int .i64 i ∧ i + q = no ∧ Below (m + 2) W wr)
  case atStart => exact ⟨0, rfl, by omega, Below.refl _ _⟩
  case round =>
    obtain ⟨i, rfl, hiq, hB⟩ := hrel
    have x1' := (hB.cell (p := ⟨m, 1, none⟩) (by show m < m + 2; omega)).trans x1
    have x2' := (hB.cell (p := ⟨m, 2, none⟩) (by show m < m + 2; omega)).trans x2
    have y1' := (hB.cell (p := ⟨m + 1, 1, none⟩) (by show m + 1 < m + 2; omega)).trans y1
    have y2' := (hB.cell (p := ⟨m + 1, 2, none⟩) (by show m + 1 < m + 2; omega)).trans y2
    clear x1 x2 y1 y2
    by_cases hi : i < no
    · obtain ⟨q, rfl⟩ : ∃ q, gk = q + 1 := ⟨gk - 1, by omega⟩
      have hil : (i : Int) < (no : Int) := by omega
      obtain ⟨h1, h2⟩ := HO.out
      have hBw := HB.out _ hB
      obtain ⟨x, hx⟩ : ∃ x, over[i]? = some x := ⟨_, List.getElem?_eq_getElem (by rw [HN.out.1]; exact hi)⟩
      obtain ⟨e1, e2⟩ := ovC_at over i x hx
      have z1 := (h1.below hBw (Nat.le_refl _)).cells _ _ e1
      have z2 := (h1.below hBw (Nat.le_refl _)).cells _ _ e2
      have z3 := (h2.below hBw (Nat.le_refl _)).cells _ _ e1
      have z4 := (h2.below hBw (Nat.le_refl _)).cells _ _ e2
      obtain rfl : a1 = some ⟨g1, o1, none⟩ := by rcases h1.lead with h | h; omega; exact h
      obtain rfl : a2 = some ⟨g2, o2, none⟩ := by rcases h2.lead with h | h; omega; exact h
      have hneq := fun W => neq34 (B x.1) (x.2 : Int) W
      clear h1 h2 hx e1 e2 hBw
      generalize B x.1 = xs at *
      generalize x.2 = xn at *
      rw [← Nat.add_assoc] at z2 z4
      go_wp2_with fail
      go_quiet (fail)
      go_wp2
      go_roundg q
      case measure => omega
      case rel => exact ⟨i + 1, by go_num, by omega, below_drewN hB _⟩
    · obtain rfl : i = no := by omega
      have hil : ¬ (i : Int) < (i : Int) := by omega
      go_wp2
      go_loopg [51] nc (fun q v51 w2 => ∃ i : Nat, v51 = .int .i64 i ∧ i + q = nc ∧ Below (m + 2) W w2)
      case atStart => exact ⟨0, rfl, by omega, hB⟩
      case round =>
        clear x1' x2' y1' y2' hB hiq hil
        obtain ⟨i, rfl, hiq, hB⟩ := hrel
        have x2' := (hB.cell (p := ⟨m, 2, none⟩) (by show m < m + 2; omega)).trans HX.out.1
        have y2' := (hB.cell (p := ⟨m + 1, 2, none⟩) (by show m + 1 < m + 2; omega)).trans HX.out.2
        by_cases hi : i < nc
        · obtain ⟨q, rfl⟩ : ∃ q, gk = q + 1 := ⟨gk - 1, by omega⟩
          have hil : (i : Int) < (nc : Int) := by omega
          obtain ⟨h1, h2, m1, m2⟩ := HC.out
          have hBw := HB.out _ hB
          obtain ⟨x, hx⟩ : ∃ x, cmds[i]? = some x := ⟨_, List.getElem?_eq_getElem (by rw [HN.out.2]; exact hi)⟩
          obtain ⟨vf1, vh1, u1, u2, e1⟩ := m1 i x hx
          obtain ⟨vf2, vh2, u3, u4, e2⟩ := m2 i x hx
          have hfin := HFN.out x (List.mem_of_getElem? hx)
          have s1 := (h1.below hBw (Nat.le_refl _)).cells
          have s2 := (h2.below hBw (Nat.le_refl _)).cells
          have ca := fun wq (h : Below w.heap.size w wq) => alike_walk wq x hfin.1 hfin.2 vf1 vh1 vf2 vh2 (u1.below h (Nat.le_refl _)) (u2.below h (Nat.le_refl _)) (u3.below h (Nat.le_refl _)) (u4.below h (Nat.le_refl _))
          obtain rfl : b1 = some ⟨k1, q1, none⟩ := by rcases h1.lead with h | h; omega; exact h
          obtain rfl : b2 = some ⟨k2, q2, none⟩ := by rcases h2.lead with h | h; omega; exact h
          have hd := hBw.drew
          obtain ⟨a1', b1', rfl, _⟩ : ∃ a c, vf1 = .slice a x.fields.length c ∧ True := by obtain ⟨a, c, _, _, e, _⟩ := u1; exact ⟨a, c, e, trivial⟩
          obtain ⟨a2', b2', rfl, _⟩ : ∃ a c, vh1 = .slice a x.hs.length c ∧ True := by obtain ⟨a, c, _, _, e, _⟩ := u2; exact ⟨a, c, e, trivial⟩
          obtain ⟨a3', b3', rfl, _⟩ : ∃ a c, vf2 = .slice a x.fields.length c ∧ True := by obtain ⟨a, c, _, _, e, _⟩ := u3; exact ⟨a, c, e, trivial⟩
          obtain ⟨a4', b4', rfl, _⟩ : ∃ a c, vh2 = .slice a x.hs.length c ∧ True := by obtain ⟨a, c, _, _, e, _⟩ := u4; exact ⟨a, c, e, trivial⟩
          clear h1 h2 hx m1 m2 u1 u2 u3 u4 hfin hBw
          obtain ⟨op, hh, fields, hs, u, v, n, key, elem⟩ := x
          simp only [cmV] at ca s1 s2 e1 e2
          have z0 := s1 _ _ ((e1 0 (by omega)).trans rfl)
          have y0 := s2 _ _ ((e2 0 (by omega)).trans rfl)
          have z1 := s1 _ _ ((e1 1 (by omega)).trans rfl)
          have y1 := s2 _ _ ((e2 1 (by omega)).trans rfl)
          have z2 := s1 _ _ ((e1 2 (by omega)).trans rfl)
          have y2 := s2 _ _ ((e2 2 (by omega)).trans rfl)
          have z3 := s1 _ _ ((e1 3 (by omega)).trans rfl)
          have y3 := s2 _ _ ((e2 3 (by omega)).trans rfl)
          have z4 := s1 _ _ ((e1 4 (by omega)).trans rfl)
          have y4 := s2 _ _ ((e2 4 (by omega)).trans rfl)
          have z5 := s1 _ _ ((e1 5 (by omega)).trans rfl)
          have y5 := s2 _ _ ((e2 5 (by omega)).trans rfl)
          have z6 := s1 _ _ ((e1 6 (by omega)).trans rfl)
          have y6 := s2 _ _ ((e2 6 (by omega)).trans rfl)
          have z7 := s1 _ _ ((e1 7 (by omega)).trans rfl)
          have y7 := s2 _ _ ((e2 7 (by omega)).trans rfl)
          have z8 := s1 _ _ ((e1 8 (by omega)).trans rfl)
          have y8 := s2 _ _ ((e2 8 (by omega)).trans rfl)
          simp only [← Nat.add_assoc, Nat.add_zero] at z0 y0 z1 y1 z2 y2 z3 y3 z4 y4 z5 y5 z6 y6 z7 y7 z8 y8
          clear s1 s2 e1 e2
          generalize fields.length = n1 at *
          generalize hs.length = n2 at *
          generalize B key = kb at *
          generalize B elem = eb at *
          go_wp2_with fail
          go_region_with (go_at_call 41; (with_reducible refine (ca _ hd).mono ?_); rintro e w3 ⟨rfl, hB3⟩)
          all_goals
            clear ca hd z0 y0 z1 y1 z2 y2 z3 y3 z4 y4 z5 y5 z6 y6 z7 y7 z8 y8
            have hB4 : Below (m + 2) W w3 := hB.drew.trans (hB3.mono (by have := hB.size; have := HW.out.1; show m + 2 ≤ wr.heap.size; omega))
            go_wp2
            go_roundg q
            case measure => omega
            case rel => exact ⟨i + 1, by go_num, by omega, hB4⟩
        · obtain rfl : i = nc := by omega
          have hil : ¬ (i : Int) < (i : Int) := by omega
          have hQ2 := HQ.out _ (HB.out _ hB)
          go_wp2
          exact hQ2
end Go.Proofs.YtigaacbaaopfmaaDoor.sh
