/- oracle.New, walked: whichever overrides, its error, and what it lays. -/
import Derived.Test.YtabdkfmfenpkjaaDoorMapB
namespace Go.Proofs.YtabdkfmfenpkjaaDoor.ov
open Go.RowKit Go.Maps
set_option linter.unusedVariables false
/-- What New leaves. -/
def NewPost (w : World) (l : List Ov) (e : Ending) (w' : World) : Prop :=
  ∃ v, e = .returned (.tuple #[v, .int .i64 (ncode l)]) ∧ Below w.heap.size w w' ∧ (ncode l ≠ 0 → v = .pointer none) ∧
    (ncode l = 0 → ∃ p m, v = .pointer (some ⟨p, 0, none⟩) ∧ w.heap.size ≤ p ∧ w.heap.size ≤ m ∧ p < w'.heap.size ∧ Orc w' p m l)
theorem run_makeMap_hint (w : World) (n : Nat) : (Instr.makeMap 57 (some (.int .i64 n))).run Tryd.prog w = .ok (.map (some w.heap.size)) (w.alloc (.map #[] 0)) := by
  simp [Instr.makeMap, asInt, asIntOf, Result.andThen]
theorem below_drewN {B : Nat} {a w : World} (h : Below B a w) (n : Nat) : Below B a (w.drewN n) := ⟨h.os, h.tape, h.output, h.size, h.block⟩
structure Aside0 (p : Prop) : Prop where mk :: (out : p)
theorem toList_nil (s : ByteArray) : s.toList = [] ↔ s.size = 0 := by
  rw [ByteArray.toList_eq]
  constructor
  · intro h; have := congrArg List.length h; simpa using this
  · intro h; exact List.eq_nil_of_length_eq_zero (by simpa using h)
theorem first_step {l pre : List Ov} {x : Ov} {k : Nat} (h : first [] l = first (l.take k) (l.drop k)) (hx : l[k]? = some x) : first [] l = if fcode (l.take k) x = 0 then first (l.take (k + 1)) (l.drop (k + 1)) else fcode (l.take k) x := by
  have hk := (List.getElem?_eq_some_iff.1 hx).1
  have hd : l.drop k = x :: l.drop (k + 1) := by rw [List.drop_eq_getElem_cons hk, (List.getElem?_eq_some_iff.1 hx).2]
  have ht : l.take (k + 1) = l.take k ++ [x] := by rw [List.take_succ_eq_append_getElem hk, (List.getElem?_eq_some_iff.1 hx).2]
  rw [h, hd, first, ht]
theorem newErr {w w' : World} {l : List Ov} {e : Ending} {k : Int} (he : e = .returned (.tuple #[.pointer none, .int .i64 k])) (hn : ncode l = k) (hk : k ≠ 0) (hb : Below w.heap.size w w') : NewPost w l e w' :=
  ⟨_, by rw [hn]; exact he, hb, fun _ => rfl, fun h => absurd (hn ▸ h) hk⟩
set_option maxHeartbeats 8000000 in
set_option maxRecDepth 100000 in
theorem new_walk (w : World) (ao : Option Addr) (l : List Ov) (c b o : Nat) (hs : Sov w ao l c b o) (hwf : ∀ (j : Nat) (x : Ov), l[j]? = some x → (Lit.int .u64 x.2).wf = true) (h63 : l.length < 1000000000000000) :
    Calls Tryd.prog 14 #[.slice ao l.length c] w fun e w' => NewPost w l e w' := by
  by_cases hmany : 64 < l.length
  · have hd : (64 : Int) < (l.length : Int) := by omega
    have hn : ncode l = 40 := by unfold ncode; rw [if_pos hmany]
    go_enter Tryd.func14, Tryd.ntmps14
    go_wp2
    go_ret2
    exact ⟨_, by rw [hn]; rfl, Below.refl _ _, fun _ => rfl, fun h => by rw [hn] at h; cases h⟩
  · have hd : (l.length : Int) ≤ 64 := by omega
    have hn : ncode l = first [] l := by unfold ncode; rw [if_neg hmany]
    have hmm := fun w => run_makeMap_hint w l.length
    go_enter Tryd.func14, Tryd.ntmps14
    go_wp2
    have hO0 : Orc ((w.alloc (.map #[] 0)).alloc (.cells #[.map (some w.heap.size)] 59)) (w.heap.size + 1) w.heap.size (l.take 0) := by
      refine ⟨by simp, ?_, trivial⟩
      exact World.ownsMap.alloc (World.ownsMap_made w Tryd.prog 9 (plainElem Tryd.prog 22)) _
    have hB0 : Below w.heap.size w ((w.alloc (.map #[] 0)).alloc (.cells #[.map (some w.heap.size)] 59)) := ((Below.refl _ _).alloc (Nat.le_refl _) _).alloc (by simp) _
    have hfr0 : ((w.alloc (.map #[] 0)).alloc (.cells #[.map (some w.heap.size)] 59)).frozen? ⟨w.heap.size + 1, 0, none⟩ = false := by simp
    clear hmm
    go_loopg [19] l.length (fun g s wr => ∃ k : Nat, s = .int .i64 k ∧ k + g = l.length ∧ Below w.heap.size w wr ∧ Orc wr (w.heap.size + 1) w.heap.size (l.take k) ∧ first [] l = first (l.take k) (l.drop k))
    case atStart => exact ⟨0, rfl, by omega, hB0, hO0, rfl⟩
    case round =>
      obtain ⟨k, rfl, hkg, hB, hO, hF⟩ := hrel
      clear hO0 hB0 hfr0
      have hF' : Aside0 (first [] l = first (l.take k) (l.drop k)) := ⟨hF⟩
      have hN' : Aside0 (ncode l = first [] l) := ⟨hn⟩
      clear hF hn
      by_cases hk : k < l.length
      · have hlt : (k : Int) < (l.length : Int) := by omega
        obtain ⟨g, rfl⟩ : ∃ g, gk = g + 1 := ⟨gk - 1, by omega⟩
        obtain ⟨x, hx⟩ : ∃ x, l[k]? = some x := ⟨_, List.getElem?_eq_getElem hk⟩
        have ha : ao = some ⟨b, o, none⟩ := by rcases hs.to with e | e; (subst e; simp at hx); exact e
        subst ha
        have e1 := (hs.below hB (Nat.le_refl _)).key k x hx
        have e2 := (hs.below hB (Nat.le_refl _)).hash k x hx
        obtain ⟨s, h⟩ := x
        have hst := first_step (pre := []) hF'.out hx
        have HST : Aside0 (first [] l = if fcode (l.take k) (s, h) = 0 then first (l.take (k + 1)) (l.drop (k + 1)) else fcode (l.take k) (s, h)) := ⟨hst⟩
        have hwx : Aside0 ((Lit.int .u64 h).wf = true) := ⟨hwf k _ hx⟩
        have htk : Aside0 (l.take (k + 1) = l.take k ++ [(s, h)]) := ⟨by rw [List.take_succ_eq_append_getElem hk, (List.getElem?_eq_some_iff.1 hx).2]⟩
        clear hst hF' hx
        by_cases h0 : s.toList = []
        · have hbad : fcode (l.take k) (s, h) = 41 := by unfold fcode; rw [if_pos (.inl ((toList_nil s).1 h0))]
          go_wp2
          go_ret2
          exact newErr rfl (by rw [hN'.out, HST.out, hbad]; rfl) (by decide) (hB.alloc hB.size _)
        by_cases h1 : 128 < s.size
        · have h1' : (128 : Int) < (s.size : Int) := by omega
          have h0' : s.toList.isEmpty = false := by simpa using h0
          have hbad : fcode (l.take k) (s, h) = 41 := by unfold fcode; rw [if_pos (.inr h1)]
          go_wp2
          go_ret2
          exact newErr rfl (by rw [hN'.out, HST.out, hbad]; rfl) (by decide) (hB.alloc hB.size _)
        have h1' : (s.size : Int) ≤ 128 := by omega
        have h0' : s.toList.isEmpty = false := by simpa using h0
        have hsz : s.size ≤ maxLen := by unfold maxLen; omega
        have hOa : Om (wr.alloc (.cells #[.string s, .int .u64 h] 44)) w.heap.size (l.take k) := World.ownsMap.alloc hO.map _
        have hlook := fun n => (hOa.drewN n).look hO.distinct s hsz
        have hfc : fcode (l.take k) (s, h) = if hasK (l.take k) s then 42 else 0 := by
          unfold fcode
          rw [if_neg]
          rintro (h' | h')
          · exact h0 ((toList_nil s).2 h')
          · exact h1 h'
        have HFC : Aside0 (fcode (l.take k) (s, h) = if hasK (l.take k) s then 42 else 0) := ⟨hfc⟩
        have c0 : (wr.alloc (.cells #[.string s, .int .u64 h] 44)).cell? ⟨w.heap.size + 1, 0, none⟩ = some (.map (some w.heap.size)) := (World.cell?_of_block (a := ⟨w.heap.size + 1, 0, none⟩) (Below.heap_alloc _ _ _ (World.block_lt_of_cell? _ _ hO.cell))).trans hO.cell
        clear hfc
        obtain ⟨bb, hbb⟩ : ∃ bb, hasK (l.take k) s = bb := ⟨_, rfl⟩
        rw [hbb] at hlook HFC
        go_wp2
        go_quiet (fail)
        cases bb with
        | true =>
          go_wp2
          go_ret2
          exact newErr (k := 42) rfl (by rw [hN'.out, HST.out, HFC.out]; rfl) (by decide) (below_drewN (hB.alloc hB.size _) _)
        | false =>
          go_wp2
          have hBz : Below w.heap.size w ((wr.alloc (.cells #[.string s, .int .u64 h] 44)).drewN nq) := below_drewN (hB.alloc hB.size _) _
          have hOz : Om ((wr.alloc (.cells #[.string s, .int .u64 h] 44)).drewN nq).drew w.heap.size (l.take k) := hOa
          have k0 : ((wr.alloc (.cells #[.string s, .int .u64 h] 44)).drewN nq).cell? ⟨w.heap.size + 1, 0, none⟩ = some (.map (some w.heap.size)) := c0
          have k1 : ((wr.alloc (.cells #[.string s, .int .u64 h] 44)).drewN nq).cell? ⟨wr.heap.size, 0, none⟩ = some (.string s) := by simp
          have k2 : ((wr.alloc (.cells #[.string s, .int .u64 h] 44)).drewN nq).cell? ⟨wr.heap.size, 1, none⟩ = some (.int .u64 h) := by simp
          have hsz2 : w.heap.size + 1 < ((wr.alloc (.cells #[.string s, .int .u64 h] 44)).drewN nq).heap.size := World.block_lt_of_cell? _ _ k0
          generalize (wr.alloc (.cells #[.string s, .int .u64 h] 44)).drewN nq = wz at hBz hOz k0 k1 k2 hsz2 ⊢
          obtain ⟨w1, hrun, hO1, hg1⟩ := Om.update hOz (s, h) hsz hwx.out (by rw [List.length_take]; unfold maxLen; omega)
          have hB1 : Below w.heap.size w w1 := (hBz.drew).grown hg1 (Nat.le_of_lt (Nat.lt_of_le_of_lt (Nat.le_succ _) hsz2)) (fun k hk => by cases hk; exact Nat.le_refl _)
          have hc1 : w1.cell? ⟨w.heap.size + 1, 0, none⟩ = some (.map (some w.heap.size)) := hg1.cell k0 (by simp)
          have HM : Aside0 (Orc w1 (w.heap.size + 1) w.heap.size (l.take k ++ [(s, h)])) := ⟨⟨hc1, hO1, distinct_snoc hO.distinct hbb⟩⟩
          clear hO1 hc1 hOz hOa hlook hg1 hBz
          go_region
          go_wp2
          go_roundg g
          case measure => omega
          case rel => exact ⟨k + 1, by go_num, by omega, hB1, by rw [htk.out]; exact HM.out, by rw [HST.out, HFC.out]; rfl⟩
      · obtain rfl : k = l.length := by omega
        have hlt : ¬ (l.length : Int) < (l.length : Int) := by omega
        go_wp2
        go_ret2
        have hN0 : ncode l = 0 := by rw [hN'.out, hF'.out, List.drop_length]; rfl
        rw [List.take_length] at hO
        exact ⟨_, by rw [hN0]; rfl, hB, fun h => absurd hN0 h, fun _ => ⟨_, _, rfl, Nat.le_succ _, Nat.le_refl _, World.block_lt_of_cell? _ _ hO.cell, hO⟩⟩
end Go.Proofs.YtabdkfmfenpkjaaDoor.ov
