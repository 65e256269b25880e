/- Is Parse's answer the document's: the law's reads, walked; and ScriptParses' own function. -/
import Derived.Test.YtigaacbaaopfmaaDoorPp
import Derived.Test.YtigaacbaaopfmaaDoorPq
namespace Go.Proofs.YtigaacbaaopfmaaDoor.sh
open Go.RowKit
set_option linter.unusedVariables false
set_option linter.unusedSimpArgs false
theorem fieldsG_n (form : List UInt8) : ∀ (ws : List (List UInt8)) (i : Nat) (f : Fld), (fieldsG form i f ws).1.n.length ≤ f.n.length + ws.length
  | [], i, f => by simp [fieldsG]
  | s :: r, i, f => by
    have ht : (takeF (form.getD i 110) s f).n.length ≤ f.n.length + 1 := by
      unfold takeF
      split
      · simp
      · split <;> simp
    rw [fieldsG]
    split
    · have := fieldsG_n form r (i + 1) (takeF (form.getD i 110) s f)
      simp only [List.length_cons]; omega
    · simp only [List.length_cons]; omega
theorem readF_n (k : Nat) (ws : List (List UInt8)) : (readF k ws).1.n.length ≤ ws.length := by
  unfold readF
  split
  · have := fieldsG_n (forms.getD k []) ws 0 F0
    simpa [F0] using this
  · simp [F0]
theorem cmdF_fin (op : Int) (f : Fld) : (cmdF op f).fields.length ≤ f.n.length ∧ (cmdF op f).hs.length ≤ f.n.length := by
  unfold cmdF
  split
  · simp
  · split <;> simp
def FinC (l : List Cm) : Prop := ∀ c ∈ l, c.fields.length ≤ 1000000000000 ∧ c.hs.length ≤ 1000000000000
theorem parseG_fin : ∀ (ls : List (List UInt8)) (i : Nat) (begun : Bool) (sc : Sc), sc.over.length + ls.length ≤ 1000000000 → sc.cmds.length + ls.length ≤ 1000000000 → FinC sc.cmds → (∀ l ∈ ls, l.length ≤ 1000000000) → (parseG i begun sc ls).1.Fin
  | [], i, begun, sc, h1, h2, h3, h4 => by
    rw [parseG]
    split
    · exact ⟨by simpa using h1, by simpa using h2, h3⟩
    · exact ⟨by simp [S0], by simp [S0], by simp [S0]⟩
  | l :: r, i, begun, sc, h1, h2, h3, h4 => by
    have z : S0.Fin := ⟨by simp [S0], by simp [S0], by simp [S0]⟩
    have h5 : ∀ l ∈ r, l.length ≤ 1000000000 := fun x hx => h4 x (List.mem_cons_of_mem _ hx)
    simp only [List.length_cons] at h1 h2
    rw [parseG]
    cases hw : wordsL l with
    | nil => exact parseG_fin r (i + 1) begun sc (by omega) (by omega) h3 h5
    | cons x ws =>
      simp only
      split
      · exact z
      · split
        · split
          · exact parseG_fin r _ _ _ (by simp only; omega) (by simp only; omega) h3 h5
          · split
            · exact parseG_fin r _ _ _ (by simp; omega) (by simp only; omega) h3 h5
            · refine parseG_fin r _ _ _ (by simp only; omega) (by simp; omega) (fun c hc => ?_) h5
              rcases List.mem_append.1 hc with h | h
              · exact h3 c h
              · simp at h
                subst h
                have e1 := cmdF_fin (findP x) (readF (findP x).toNat ws).1
                have e2 := readF_n (findP x).toNat ws
                have e3 := (wordsL_len l).1
                rw [hw] at e3
                simp only [List.length_cons] at e3
                have e4 := h4 l (List.mem_cons_self ..)
                omega
        · exact z
theorem parseP_fin (t : List UInt8) : (parseP t).1.Fin := by
  unfold parseP
  split
  · exact ⟨by simp [S0], by simp [S0], by simp [S0]⟩
  · next h =>
    obtain ⟨h1, h2⟩ := linesL_len t
    exact parseG_fin _ _ _ _ (by simp [S0]; omega) (by simp [S0]; omega) (by simp [FinC, S0]) (fun l hl => by have := h2 l hl; omega)
theorem Bs.pos {w : World} (h : Bs w) : 0 < w.heap.size := by
  obtain ⟨m, hm⟩ := h.mx
  have := World.block_lt_of_cell? w _ hm
  simp at this
  omega
set_option maxHeartbeats 4000000 in
set_option maxRecDepth 100000 in
theorem reads20 (w : World) (hb : Bs w) (hr : Rowz w) (s : ByteArray) : Calls Tryd.prog 20 #[.string s] w (YesP w) := by
  have c1 := parse_walk w hb hr s
  have c2 := fun wq (h : Below w.heap.size w wq) => rparse_walk wq (hb.below h).pos s
  have hfin := parseP_fin s.data.toList
  generalize parseP s.data.toList = r at c1 c2 hfin
  obtain ⟨sc, m, er⟩ := r
  simp only at hfin
  unfold ParseP at c1 c2
  simp only at c1 c2
  have cs := fun wq v1 v2 => same_walk wq v1 v2 sc hfin
  go_enter Tryd.func20, Tryd.ntmps20
  go_wp2_with fail
  refine c1.mono ?_
  rintro e w1 ⟨v1, rfl, hs1, hB1⟩
  obtain ⟨vo1, vc1, cs1, rfl, ho1, hc1, hm1⟩ := hs1
  obtain ⟨ao1, co1, rfl⟩ := own_slice ho1
  obtain ⟨ac1, cc1, rfl⟩ := own_slice hc1
  have hs1 : ScV w1 (.agg #[.int .i64 sc.limit, .slice ao1 sc.over.length co1, .slice ac1 sc.cmds.length cc1]) sc := ⟨_, _, cs1, rfl, own_sv ho1, own_sv hc1, hm1.cmv⟩
  have hB1' : ∀ o, Below w.heap.size w (w1.alloc o) := fun o => hB1.alloc hB1.size _
  clear ho1 hc1 hm1 c1
  go_wp2_with fail
  refine (c2 _ (hB1' _)).mono ?_
  rintro e w2 ⟨v2, rfl, hs2, hB2⟩
  obtain ⟨vo2, vc2, cs2, rfl, ho2, hc2, hm2⟩ := hs2
  obtain ⟨ao2, co2, rfl⟩ := own_slice ho2
  obtain ⟨ac2, cc2, rfl⟩ := own_slice hc2
  have hs2 : ScV w2 (.agg #[.int .i64 sc.limit, .slice ao2 sc.over.length co2, .slice ac2 sc.cmds.length cc2]) sc := ⟨_, _, cs2, rfl, own_sv ho2, own_sv hc2, hm2.cmv⟩
  have hs1' := (hs1.below ((Below.refl _ w1).alloc (Nat.le_refl _) _) (Nat.le_refl _)).below hB2 (Nat.le_refl _)
  have hBw := (hB1' _).trans (hB2.mono (by have := (hB1' (.cells #[.int .i64 sc.limit, .slice ao1 sc.over.length co1, .slice ac1 sc.cmds.length cc1] 30)).size; simpa using this))
  have hz2 : w1.heap.size < w2.heap.size := by have := hB2.size; simp at this; omega
  obtain ⟨hcc, hff⟩ := bcell hB2
  clear ho2 hc2 hm2 hs1 hB2 c2
  have hBo : ∀ o, Below w2.heap.size w2 (w2.alloc o) := fun o => (Below.refl _ w2).alloc (Nat.le_refl _) _
  have cs2' := fun o => cs (w2.alloc o) _ _ (hs1'.below (hBo o) (Nat.le_refl _)) (hs2.below (hBo o) (Nat.le_refl _))
  have hBw2 : ∀ o, Below w.heap.size w (w2.alloc o) := fun o => hBw.alloc hBw.size _
  have hz4 : ∀ o, w.heap.size ≤ (w2.alloc o).heap.size := fun o => (hBw2 o).size
  clear hs1' hs2 cs hBo
  go_wp2_with (go_at_call 19; (with_reducible refine (cs2' _).mono ?_); rintro e w3 ⟨rfl, hB3⟩)
  go_ret
  exact ⟨rfl, (hBw2 _).trans (hB3.mono (hz4 _))⟩
set_option maxHeartbeats 4000000 in
set_option maxRecDepth 100000 in
theorem parses5 (w : World) (hb : Bs w) (hr : Rowz w) (s : ByteArray) (ao : Option Addr) (l : List Int) (c g o : Nat) (h : SW w 1 ao l.length c g o (iv l)) (hl : l.length ≤ 1000000000000000) :
    Calls Tryd.prog 5 #[.string s, .slice ao l.length c] w (YesP w) := by
  have cr := fun wq (h : Below w.heap.size w wq) u => reads20 wq (hb.below h) (hr.below h) u
  obtain ⟨n, hn⟩ : ∃ n, l.length = n := ⟨_, rfl⟩
  rw [hn] at h hl ⊢
  have HN : Aside0 (l.length = n ∧ SW w 1 ao n c g o (iv l)) := ⟨hn, h⟩
  clear hn h hb hr
  go_enter Tryd.func5, Tryd.ntmps5
  go_wp2_with fail
  refine (cr _ (Below.refl _ _) s).mono ?_
  rintro e w1 ⟨rfl, hB1⟩
  go_wp2_with fail
  refine (cr _ hB1 _).mono ?_
  rintro e w2 ⟨rfl, hB2⟩
  have hB3 := hB1.trans (hB2.mono hB1.size)
  clear hB1 hB2
  go_wp2
  go_loopg [16] n (fun q v16 wr => ∃ i : Nat, v16 = .int .i64 i ∧ i + q = n ∧ Below w.heap.size w wr)
  case atStart => exact ⟨0, rfl, by omega, hB3⟩
  case round =>
    clear hB3
    obtain ⟨i, rfl, hiq, hB⟩ := hrel
    by_cases hi : i < n
    · obtain ⟨q, rfl⟩ : ∃ q, gk = q + 1 := ⟨gk - 1, by omega⟩
      have hil : (i : Int) < (n : Int) := by omega
      obtain ⟨hn, hsw⟩ := HN.out
      obtain ⟨x, hx⟩ : ∃ x, l[i]? = some x := ⟨_, List.getElem?_eq_getElem (by omega)⟩
      have hc := (hsw.below hB (Nat.le_refl _)).cells i _ (iv_at hx)
      obtain rfl : ao = some ⟨g, o, none⟩ := by rcases hsw.lead with h | h; omega; exact h
      clear hsw hx hn
      by_cases h0 : 0 ≤ x
      · have h0' : x ≥ 0 := h0
        by_cases h1 : x ≤ s.size
        · have hsl : ∀ W, (Instr.slice 9 (.string s) none (some (.int .i64 x)) none).run Tryd.prog W = .ok (.string (s.extract 0 x.toNat)) W := fun W => by
            rw [run_slice_string_h (ht := Tryd.underlying9) (h0 := h0) (h2 := h1)]
          generalize s.extract 0 x.toNat = u at hsl
          go_wp2_with (go_at_call 20; (with_reducible refine (cr _ hB u).mono ?_); rintro e w3 ⟨rfl, hB3⟩)
          go_roundg q
          case measure => omega
          case rel => exact ⟨i + 1, by go_num, by omega, below_next hB hB3⟩
        · go_wp2
          go_roundg q
          case measure => omega
          case rel => exact ⟨i + 1, by go_num, by omega, hB⟩
      · have h0' : ¬ x ≥ 0 := h0
        go_wp2
        go_roundg q
        case measure => omega
        case rel => exact ⟨i + 1, by go_num, by omega, hB⟩
    · obtain rfl : i = n := by omega
      have hil : ¬ (i : Int) < (i : Int) := by omega
      go_wp2
      go_ret
      exact ⟨rfl, hB⟩
end Go.Proofs.YtigaacbaaopfmaaDoor.sh
