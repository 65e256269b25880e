/- The document's New, walked: whichever overrides, its error, and what it keeps. -/
import Derived.Test.YtabdkfmfenpkjaaDoorOvHash
import Derived.Test.YtabdkfmfenpkjaaDoorRefMix
import Derived.Deep.RegionLaw
namespace Go.Proofs.YtabdkfmfenpkjaaDoor.ov
open Go.RowKit Go.Maps Go.Proofs.YtabdkfmfenpkjaaDoorW.PrintWords
set_option linter.unusedVariables false
/-- An append as a step of a region that draws its order. -/
theorem step_append {w : World} {ops : Array Oper} {o' : Oper} {a : Act} {K : Act → World → Prop} {Q : Exit → Act → World → Prop} {E : Prop} (hgd : o'.guard = none) (s x : Operand)
    (ho : o'.op = .call { callee := .builtin .append, args := #[s, x], argTypes := #[28, 28] })
    (base n : Nat) (v : Value) (xs : List Value) (ao : Option Addr) (l : List Ov) (c b o : Nat) (hsv : a.eval s = v) (hx : a.eval x = .slice ao l.length c)
    (hown : w.ownsRow base 44 2 v n xs) (hs : Sov w ao l c b o) (h63 : n + l.length ≤ maxLen) (hbytes : (n + l.length) * 24 ≤ 140737488355328) (hbase : base ≤ w.heap.size)
    (h : ∀ v' w', w'.ownsRow base 44 2 v' (n + l.length) (xs ++ cellsL l) → w.grownBy w' v.ownBlock → K (a.put o'.dst v') w') :
    if Region.wanted o' (yielded ops a.tmps) = true then Oper.wp Tryd.prog o' a w K Q else E := by
  have hw : Region.wanted o' (yielded ops a.tmps) = true := by simp [Region.wanted, hgd]
  rw [if_pos hw]
  obtain ⟨v', w', hr, h2, h3, h4⟩ := append_run w base o'.type n v xs ao l c b o hown hs h63 hbytes hbase
  unfold Oper.wp execOp
  simp only [ho, resolve, invoke, builtin, Sem.run_bind, Sem.run_pure, Result.andThen_ok, List.map_toArray, List.map_cons, List.map_nil, hsv, hx, hr]
  exact h v' w' h2 h3
/-- p points to the document's oracle of these overrides. -/
def Rfo (w : World) (p : Nat) (l : List Ov) : Prop := ∃ ao c b, w.cell? ⟨p, 0, none⟩ = some (.slice ao l.length c) ∧ Sov w ao l c b 0
theorem Rfo.below {w w' : World} {p B : Nat} {l : List Ov} (h : Rfo w p l) (k : Below B w w') (hB : w.heap.size ≤ B) : Rfo w' p l := by
  obtain ⟨ao, c, b, h1, h2⟩ := h
  exact ⟨ao, c, b, (k.cell (p := ⟨p, 0, none⟩) (Nat.lt_of_lt_of_le (World.block_lt_of_cell? _ _ h1) hB)).trans h1, h2.below k hB⟩
/-- What the document's New leaves. -/
def RefPost (w : World) (l : List Ov) (e : Ending) (w' : World) : Prop :=
  ∃ v, e = .returned (.tuple #[v, .int .i64 (ncode l)]) ∧ Below w.heap.size w w' ∧ (ncode l ≠ 0 → v = .pointer none) ∧ (ncode l = 0 → ∃ p, v = .pointer (some ⟨p, 0, none⟩) ∧ Rfo w' p l)
theorem refErr {w w' : World} {l : List Ov} {e : Ending} {k : Int} (he : e = .returned (.tuple #[.pointer none, .int .i64 k])) (hn : ncode l = k) (hk : k ≠ 0) (hb : Below w.heap.size w w') : RefPost w l e w' :=
  ⟨_, by rw [hn]; exact he, hb, fun _ => rfl, fun h => absurd (hn ▸ h) hk⟩
theorem one_sov (w : World) (s : ByteArray) (h : Int) : Sov (w.alloc (.cells #[.string s, .int .u64 h] 44)) (some ⟨w.heap.size, 0, none⟩) [(s, h)] 1 w.heap.size 0 :=
  ⟨fun e => (by cases e), .inr rfl, fun j x hj => by
    match j, hj with
    | 0, hj => simp at hj; subst hj; simp
    | j + 1, hj => simp at hj, fun j x hj => by
    match j, hj with
    | 0, hj => simp at hj; subst hj; simp
    | j + 1, hj => simp at hj, by simp⟩
/-- Behind the append of one override. -/
theorem rn_step {w wz w1 : World} {l : List Ov} {s : ByteArray} {h : Int} {k B : Nat} {v v' : Value} (hBw : B = w.heap.size) (hB : Below B w wz) (hv : wz.cell? ⟨B, 0, none⟩ = some v) (hf : wz.frozen? ⟨B, 0, none⟩ = false)
    (hown : wz.ownsRow (B + 1) 44 2 v k (cellsL l)) (own1 : w1.ownsRow (B + 1) 44 2 v' (k + [(s, h)].length) (cellsL l ++ cellsL [(s, h)])) (gr1 : (wz.drew.alloc (.cells #[.string s, .int .u64 h] 44)).grownBy w1 v.ownBlock) :
    ∃ ao c, v' = .slice ao (k + 1) c ∧ w1.cell? ⟨B, 0, none⟩ = some v ∧ w1.frozen? ⟨B, 0, none⟩ = false ∧ Below B w w1 ∧ w1.ownsRow (B + 1) 44 2 v' (k + 1) (cellsL (l ++ [(s, h)])) := by
  rw [← cellsL_append] at own1
  obtain ⟨hn, ao, c, b, hve, _, _, _⟩ := own_any own1
  have hlt : B < wz.heap.size := World.block_lt_of_cell? _ _ hv
  have hne : ∀ g, v.ownBlock = some g → B ≠ g := fun g hg => by
    have : B + 1 ≤ g := (hown.lt g hg).1
    omega
  have hblk : w1.heap[B]? = wz.heap[B]? := (gr1.block B (by simp; omega) (fun e => hne B e.symm rfl)).trans (Below.heap_alloc _ _ _ hlt)
  refine ⟨ao, c, ?_, (World.cell?_of_block (a := ⟨B, 0, none⟩) hblk).trans hv, (World.frozen?_of_block (a := ⟨B, 0, none⟩) hblk).trans hf, ?_, own1⟩
  · rw [hve, ← hn]; rfl
  · refine Below.grown ((hB.drew).alloc (by show B ≤ wz.heap.size; omega) _) gr1 (by simp; omega) (fun g hg => ?_)
    have : B + 1 ≤ g := (hown.lt g hg).1
    omega
set_option maxHeartbeats 8000000 in
set_option maxRecDepth 100000 in
theorem refnew_walk (w : World) (ao : Option Addr) (l : List Ov) (c b o : Nat) (hs : Sov w ao l c b o) (h63 : l.length < 1000000000000000) :
    Calls Tryd.prog 11 #[.slice ao l.length c] w fun e w' => RefPost w l e w' := by
  by_cases hmany : 64 < l.length
  · have hd : (64 : Int) < (l.length : Int) := by omega
    have hn : ncode l = 40 := by unfold ncode; rw [if_pos hmany]
    go_enter Tryd.func11, Tryd.ntmps11
    go_wp2
    go_ret2
    exact refErr rfl hn (by decide) (Below.refl _ _)
  · have hd : (l.length : Int) ≤ 64 := by omega
    have hN : Aside0 (ncode l = first [] l) := ⟨by unfold ncode; rw [if_neg hmany]⟩
    go_enter Tryd.func11, Tryd.ntmps11
    go_wp2
    have hB0 : Below w.heap.size w (w.alloc (.cells #[.slice none 0 0] 55)) := (Below.refl _ _).alloc (Nat.le_refl _) _
    have hO0 : (w.alloc (.cells #[.slice none 0 0] 55)).ownsRow (w.heap.size + 1) 44 2 (.slice none 0 0) 0 (cellsL (l.take 0)) := World.ownsRow_nil _ _ _ _
    have hc0 : (w.alloc (.cells #[.slice none 0 0] 55)).cell? ⟨w.heap.size, 0, none⟩ = some (.slice none 0 0) := by simp
    have hf0 : (w.alloc (.cells #[.slice none 0 0] 55)).frozen? ⟨w.heap.size, 0, none⟩ = false := by simp
    go_loopg [5] l.length (fun g s wr => ∃ k : Nat, s = .int .i64 k ∧ k + g = l.length ∧ Below w.heap.size w wr ∧ (∃ v, wr.cell? ⟨w.heap.size, 0, none⟩ = some v ∧ wr.ownsRow (w.heap.size + 1) 44 2 v k (cellsL (l.take k))) ∧ wr.frozen? ⟨w.heap.size, 0, none⟩ = false ∧ first [] l = first (l.take k) (l.drop k))
    case atStart => exact ⟨0, rfl, by omega, hB0, ⟨_, hc0, hO0⟩, hf0, rfl⟩
    case round =>
      obtain ⟨k, rfl, hkg, hB, ⟨v, hv, hown⟩, hf, hF⟩ := hrel
      clear hB0 hO0 hc0 hf0
      by_cases hk : k < l.length
      · have hlt : (k : Int) < (l.length : Int) := by omega
        obtain ⟨g, rfl⟩ : ∃ g, gk = g + 1 := ⟨gk - 1, by omega⟩
        obtain ⟨x, hx⟩ : ∃ x, l[k]? = some x := ⟨_, List.getElem?_eq_getElem hk⟩
        have ha : ao = some ⟨b, o, none⟩ := by rcases hs.to with e | e; (subst e; simp at hx); exact e
        subst ha
        have hsw := hs.below hB (Nat.le_refl _)
        have e1 := hsw.key k x hx
        have e2 := hsw.hash k x hx
        have hst := first_step (pre := []) hF hx
        obtain ⟨s, h⟩ := x
        have HST : Aside0 (first [] l = if fcode (l.take k) (s, h) = 0 then first (l.take (k + 1)) (l.drop (k + 1)) else fcode (l.take k) (s, h)) := ⟨hst⟩
        have htk : Aside0 (l.take (k + 1) = l.take k ++ [(s, h)]) := ⟨by rw [List.take_succ_eq_append_getElem hk, (List.getElem?_eq_some_iff.1 hx).2]⟩
        clear hst hF hx
        by_cases h0 : s.size = 0
        · have hbad : fcode (l.take k) (s, h) = 41 := by unfold fcode; rw [if_pos (.inl h0)]
          have h0' : (s.size : Int) < 1 := by omega
          go_wp2
          go_ret2
          exact refErr rfl (by rw [hN.out, HST.out, hbad]; rfl) (by decide) hB
        by_cases h1 : 128 < s.size
        · have h1' : (128 : Int) < (s.size : Int) := by omega
          have h0' : ¬ (s.size : Int) < 1 := by omega
          have hbad : fcode (l.take k) (s, h) = 41 := by unfold fcode; rw [if_pos (.inr h1)]
          go_wp2
          go_ret2
          exact refErr rfl (by rw [hN.out, HST.out, hbad]; rfl) (by decide) hB
        have h1' : (s.size : Int) ≤ 128 := by omega
        have h0' : ¬ (s.size : Int) < 1 := by omega
        have hfc : Aside0 (fcode (l.take k) (s, h) = if hasK (l.take k) s then 42 else 0) := ⟨by
          unfold fcode
          rw [if_neg]
          rintro (h' | h')
          · exact h0 h'
          · exact h1 h'⟩
        go_wp2
        go_loopg [6] k (fun g v6 wi => ∃ j : Nat, v6 = .int .i64 j ∧ j + g = k ∧ Drawn0 wr wi ∧ hasK (l.take j) s = false)
        case atStart => exact ⟨0, rfl, by omega, Drawn0.refl _, rfl⟩
        case round =>
          obtain ⟨j, rfl, hjg, ⟨nq0, rfl⟩, hno⟩ := hrel
          by_cases hj : j < k
          · have hltj : (j : Int) < (k : Int) := by omega
            have hjl : (j : Int) < (l.length : Int) := by omega
            obtain ⟨g2, rfl⟩ : ∃ g, gk = g + 1 := ⟨gk - 1, by omega⟩
            obtain ⟨y, hy⟩ : ∃ y, l[j]? = some y := ⟨_, List.getElem?_eq_getElem (by omega)⟩
            have e3 := hsw.key j y hy
            have hst := hasK_take l s j y hy
            have hup : hasK (l.take (j + 1)) s = true → hasK (l.take k) s = true := fun e => by
              unfold hasK at e ⊢
              rw [List.any_eq_true] at e ⊢
              obtain ⟨z, hz, hz'⟩ := e
              have hsub : (l.take (j + 1)) = (l.take k).take (j + 1) := by rw [List.take_take]; congr 1; omega
              rw [hsub] at hz
              exact ⟨z, List.mem_of_mem_take hz, hz'⟩
            rw [hno, Bool.false_or, ← bytes_eq] at hst
            have HUP : Aside0 (hasK (l.take (j + 1)) s = true → hasK (l.take k) s = true) := ⟨hup⟩
            have HTJ : Aside0 (hasK (l.take (j + 1)) s = (y.1.toList == s.toList)) := ⟨hst⟩
            clear hst hup hy hno
            obtain ⟨t, u⟩ := y
            simp only at e3 HTJ
            obtain ⟨bb, hbb⟩ : ∃ bb, (t.toList == s.toList) = bb := ⟨_, rfl⟩
            have HBB : Aside0 ((t.toList == s.toList) = bb) := ⟨hbb⟩
            go_wp2
            go_quiet (fail)
            clear hbb
            cases bb with
            | true =>
              go_wp2
              go_ret2
              exact refErr (k := 42) rfl (by rw [hN.out, HST.out, hfc.out, if_pos (HUP.out (by rw [HTJ.out, HBB.out]))]; rfl) (by decide) (below_drewN (below_drewN hB _) _)
            | false =>
              go_wp2
              go_roundg g2
              case measure => omega
              case rel => exact ⟨j + 1, by go_num, by omega, ⟨_, rfl⟩, by rw [HTJ.out, HBB.out]⟩
          · obtain rfl : j = k := by omega
            have hltj : ¬ (j : Int) < (j : Int) := by omega
            have HNO : Aside0 (hasK (l.take j) s = false) := ⟨hno⟩
            have hB1 := below_drewN hB nq0
            clear hno
            go_wp2
            have ez1 : (wr.drewN nq0).cell? ⟨b, o + j * 2, none⟩ = some (.string s) := e1
            have ez2 : (wr.drewN nq0).cell? ⟨b, o + j * 2 + 1, none⟩ = some (.int .u64 h) := e2
            have hvz : (wr.drewN nq0).cell? ⟨w.heap.size, 0, none⟩ = some v := hv
            have hfz : (wr.drewN nq0).frozen? ⟨w.heap.size, 0, none⟩ = false := hf
            have hoz : (wr.drewN nq0).ownsRow (w.heap.size + 1) 44 2 v j (cellsL (l.take j)) := hown
            clear e1 e2 hv hf hown hsw hB
            generalize wr.drewN nq0 = wz at ez1 ez2 hvz hfz hoz hB1 ⊢
            obtain ⟨hjj, ao1, c1, b1, hve, _, _, _⟩ := own_any hoz
            rw [← hjj] at hve
            clear hjj
            subst hve
            have hszz : w.heap.size < wz.heap.size := World.block_lt_of_cell? _ _ hvz
            go_region_law (refine step_append rfl (.tmp 54) (.tmp 59) rfl (w.heap.size + 1) j (.slice ao1 j c1) (cellsL (l.take j)) (some ⟨wz.heap.size, 0, none⟩) [(s, h)] 1 wz.heap.size 0 (by simp [Act.eval]) (by simp [Act.eval]) (hoz.drew.alloc _) (one_sov wz.drew s h) (by unfold maxLen; simp; omega) (by simp; omega) (by simp; omega) ?_; intro v' w1 own1 gr1; obtain ⟨ao2, c2, rfl, hv1, hf1, hB2, own2⟩ := rn_step rfl hB1 hvz hfz hoz own1 gr1)
            all_goals go_wp2
            all_goals go_roundg g
            all_goals first | omega | exact ⟨j + 1, by go_num, by omega, hB2.setCell (Nat.le_refl _) _, ⟨_, World.cell?_setCell_same _ _ _ hv1, by rw [htk.out]; exact ownsRow_setCell_below own2 (Nat.lt_succ_self _) _⟩, by rw [World.frozen?_setCell]; exact hf1, by rw [HST.out, hfc.out, HNO.out]; rfl⟩
      · obtain rfl : k = l.length := by omega
        have hlt : ¬ (l.length : Int) < (l.length : Int) := by omega
        have hN0 : ncode l = 0 := by rw [hN.out, hF, List.drop_length]; rfl
        rw [List.take_length] at hown
        obtain ⟨_, ao1, c1, b1, rfl, hs1, _, _⟩ := own_any hown
        clear hF
        go_wp2
        go_ret2
        exact ⟨_, by rw [hN0]; rfl, hB, fun h => absurd hN0 h, fun _ => ⟨_, rfl, ao1, c1, b1, hv, hs1⟩⟩
end Go.Proofs.YtabdkfmfenpkjaaDoor.ov
