/- The law's handed, walked: New with a list of the caller's own, which the caller spoils behind the call. -/
import Derived.Test.YtabdkfmfenpkjaaDoorHsHash
namespace Go.Proofs.YtabdkfmfenpkjaaDoor.ov
open Go.RowKit Go.Maps Go.Proofs.YtabdkfmfenpkjaaDoorW.PrintWords
set_option linter.unusedVariables false
abbrev behindKey : ByteArray := { data := #[98, 101, 104, 105, 110, 100] }
/-- A row of the call's own. -/
structure Rw (w : World) (g : Nat) (l : List Ov) : Prop where
  key : ∀ (j : Nat) (x : Ov), l[j]? = some x → w.cell? ⟨g, j * 2, none⟩ = some (.string x.1)
  hash : ∀ (j : Nat) (x : Ov), l[j]? = some x → w.cell? ⟨g, j * 2 + 1, none⟩ = some (.int .u64 x.2)
  fr : ∀ j, w.frozen? ⟨g, j, none⟩ = false
  lt : g < w.heap.size
theorem Rw.of {w w' : World} {g : Nat} {l : List Ov} (h : Rw w g l) (k : w'.heap[g]? = w.heap[g]?) (hs : w.heap.size ≤ w'.heap.size) : Rw w' g l :=
  ⟨fun j x hj => (World.cell?_of_block (a := ⟨g, _, none⟩) k).trans (h.key j x hj), fun j x hj => (World.cell?_of_block (a := ⟨g, _, none⟩) k).trans (h.hash j x hj), fun j => (World.frozen?_of_block (a := ⟨g, j, none⟩) k).trans (h.fr j), Nat.lt_of_lt_of_le h.lt hs⟩
theorem Rw.below {w w' : World} {g : Nat} {l : List Ov} (h : Rw w g l) (k : Below w.heap.size w w') : Rw w' g l := h.of (k.block _ h.lt) k.size
theorem Rw.sov {w : World} {g c : Nat} {l r : List Ov} (h : Rw w g (l ++ r)) (hc : l.length ≤ c) : Sov w (some ⟨g, 0, none⟩) l c g 0 := by
  have hl : ∀ (j : Nat) (x : Ov), l[j]? = some x → (l ++ r)[j]? = some x := fun j x hj => by rw [List.getElem?_append_left (List.getElem?_eq_some_iff.1 hj).1]; exact hj
  exact ⟨fun e => (by cases e), .inr rfl, fun j x hj => by rw [Nat.zero_add]; exact h.key j x (hl j x hj), fun j x hj => by rw [Nat.zero_add]; exact h.hash j x (hl j x hj), hc⟩
/-- Behind the two appends. -/
theorem hd_phase {w w1 w2 : World} {l : List Ov} {v1 v2 : Value} {B : Nat} (hB : B ≤ w1.heap.size) (hb : Below B w w1) (hown1 : w1.ownsRow B 44 2 v1 (0 + l.length) ([] ++ cellsL l))
    (hown : w2.ownsRow B 44 2 v2 (0 + l.length + [((behindKey, 0) : Ov)].length) ([] ++ cellsL l ++ cellsL [(behindKey, 0)])) (hg : (w1.alloc (.cells #[.string behindKey, .int .u64 0] 44)).grownBy w2 v1.ownBlock)
    (hnil : v2 = .slice none 0 0 ↔ v1 = .slice none 0 0 ∧ [((behindKey, 0) : Ov)] = []) :
    ∃ g c, v2 = .slice (some ⟨g, 0, none⟩) (l.length + 1) c ∧ B ≤ g ∧ l.length + 1 ≤ c ∧ Rw w2 g (l ++ [(behindKey, 0)]) ∧ Below B w w2 := by
  rw [List.nil_append, ← cellsL_append] at hown
  obtain ⟨hn, ao, c, g, hve, hS, hBg, hset⟩ := own_any hown
  obtain ⟨hlt, rfl, hfr⟩ := hset (fun e => by have := (hnil.1 e).2; cases this)
  refine ⟨g, c, by rw [hve]; simp, hBg, by have := hS.cap; simpa using this, ⟨fun j x hj => by simpa using hS.key j x hj, fun j x hj => by simpa using hS.hash j x hj, hfr, hlt⟩, (hb.alloc hB _).grown hg (by simp; omega) (fun k hk => (hown1.lt k hk).1)⟩
/-- In the loop that spoils: at the k-th place; block g alone has turned. -/
structure Lq (w0 wr : World) (g : Nat) (l : List Ov) (k : Nat) : Prop where
  os : wr.os = w0.os
  tape : wr.tape = w0.tape
  output : wr.output = w0.output
  size : wr.heap.size = w0.heap.size
  keep : ∀ b, b ≠ g → wr.heap[b]? = w0.heap[b]?
  key : ∀ (j : Nat) (x : Ov), k ≤ j → l[j]? = some x → wr.cell? ⟨g, j * 2, none⟩ = some (.string x.1)
  hash : ∀ (j : Nat) (x : Ov), k ≤ j → l[j]? = some x → wr.cell? ⟨g, j * 2 + 1, none⟩ = some (.int .u64 x.2)
  fr : ∀ j, wr.frozen? ⟨g, j, none⟩ = false
theorem Lq.start {w : World} {g : Nat} {l r : List Ov} (h : Rw w g (l ++ r)) : Lq w w g l 0 := by
  have hl : ∀ (j : Nat) (x : Ov), l[j]? = some x → (l ++ r)[j]? = some x := fun j x hj => by rw [List.getElem?_append_left (List.getElem?_eq_some_iff.1 hj).1]; exact hj
  exact ⟨rfl, rfl, rfl, rfl, fun _ _ => rfl, fun j x _ hj => h.key j x (hl j x hj), fun j x _ hj => h.hash j x (hl j x hj), h.fr⟩
theorem Lq.drewN {w0 wr : World} {g k : Nat} {l : List Ov} (h : Lq w0 wr g l k) (n : Nat) : Lq w0 (wr.drewN n) g l k := ⟨h.os, h.tape, h.output, h.size, h.keep, h.key, h.hash, h.fr⟩
theorem Lq.step {w0 wr : World} {g k : Nat} {l : List Ov} (h : Lq w0 wr g l k) (u v : Value) : Lq w0 ((wr.setCell ⟨g, k * 2, none⟩ u).setCell ⟨g, k * 2 + 1, none⟩ v) g l (k + 1) :=
  ⟨h.os, h.tape, h.output, by rw [← h.size]; simp [World.setCell], fun b hb => ((Below.heap_setCell _ _ _ _ hb).trans (Below.heap_setCell _ _ _ _ hb)).trans (h.keep b hb),
    fun j x hj hx => (World.cell?_setCell_other _ _ _ _ (by intro e; injection e with _ e _; exact absurd e (by omega))).trans ((World.cell?_setCell_other _ _ _ _ (by intro e; injection e with _ e _; exact absurd e (by omega))).trans (h.key j x (by omega) hx)),
    fun j x hj hx => (World.cell?_setCell_other _ _ _ _ (by intro e; injection e with _ e _; exact absurd e (by omega))).trans ((World.cell?_setCell_other _ _ _ _ (by intro e; injection e with _ e _; exact absurd e (by omega))).trans (h.hash j x (by omega) hx)),
    fun j => by rw [World.frozen?_setCell, World.frozen?_setCell]; exact h.fr j⟩
theorem Lq.below {w w0 wr : World} {g k B : Nat} {l : List Ov} (h : Lq w0 wr g l k) (hb : Below B w w0) (hg : B ≤ g) : Below B w wr :=
  ⟨h.os.trans hb.os, h.tape.trans hb.tape, h.output.trans hb.output, by rw [h.size]; exact hb.size, fun b hlt => (h.keep b (by omega)).trans (hb.block b hlt)⟩
theorem Orc.of {w w' : World} {p m : Nat} {l : List Ov} (h : Orc w p m l) (kp : w'.heap[p]? = w.heap[p]?) (km : w'.heap[m]? = w.heap[m]?) : Orc w' p m l :=
  ⟨(World.cell?_of_block (a := ⟨p, 0, none⟩) kp).trans h.cell, h.map.of km, h.distinct⟩
/-- What handed leaves. -/
def HandPost (w : World) (l : List Ov) (e : Ending) (w' : World) : Prop :=
  ∃ v, e = .returned (.tuple #[v, .int .i64 (ncode l), .bool true]) ∧ Below w.heap.size w w' ∧ (ncode l ≠ 0 → v = .pointer none) ∧ (ncode l = 0 → ∃ p m, v = .pointer (some ⟨p, 0, none⟩) ∧ Orc w' p m l)
theorem own_nil (w : World) : (w.alloc (.cells #[] 44)).ownsRow w.heap.size 44 2 (.slice (some ⟨w.heap.size, 0, none⟩) 0 0) 0 [] := World.ownsRow_made w #[] 0 (Nat.le_refl _) (by unfold maxLen; omega) rfl
set_option maxHeartbeats 8000000 in
set_option maxRecDepth 100000 in
theorem handed_walk (w : World) (ao : Option Addr) (l : List Ov) (c b o : Nat) (hs : Sov w ao l c b o) (hwf : ∀ (j : Nat) (x : Ov), l[j]? = some x → (Lit.int .u64 x.2).wf = true) (h63 : l.length * 24 ≤ 140737488351232) :
    Calls Tryd.prog 10 #[.slice ao l.length c] w fun e w' => HandPost w l e w' := by
  obtain ⟨nc, hnc⟩ : ∃ nc, ncode l = nc := ⟨_, rfl⟩
  go_enter Tryd.func10, Tryd.ntmps10
  go_wp2_with (first
    | (at_builtin; (refine wpList_append rfl (.tmp 10) (.tmp 11) rfl w.heap.size 0 _ [] ao l c b o rfl rfl (own_nil w) (hs.below ((Below.refl _ _).alloc (Nat.le_refl _) _) (Nat.le_refl _)) (by unfold maxLen; omega) (by omega) (by simp) ?_; intro v1 w1 own1 gr1 nil1; have bel1 : Below w.heap.size w w1 := ((Below.refl _ _).alloc (Nat.le_refl _) (.cells #[] 44)).grown gr1 (by simp) (fun k hk => by cases hk; exact Nat.le_refl _)))
    | (at_builtin; (refine wpList_append rfl (.tmp 13) (.tmp 15) rfl w.heap.size (0 + l.length) v1 ([] ++ cellsL l) (some ⟨w1.heap.size, 0, none⟩) [(behindKey, 0)] 1 w1.heap.size 0 rfl rfl (own1.alloc _) (one_sov w1 _ _) (by unfold maxLen; simp; omega) (by simp; omega) (by have := bel1.size; simp; omega) ?_; intro v2 w2 own2 gr2 nil2; obtain ⟨g, cc, rfl, hg, hcc, row2, bel2⟩ := hd_phase bel1.size bel1 own1 own2 gr2 nil2; clear own1 own2 gr1 gr2 nil1 nil2))
    | (go_at_call 14; (with_reducible refine (new_walk w2 (some ⟨g, 0, none⟩) l cc g 0 (row2.sov (by omega)) hwf (by omega)).mono ?_); rintro e w3 ⟨v3, rfl, bel3, hbad, hgood⟩; have row3 := row2.below bel3; have cb : w3.cell? ⟨g, l.length * 2, none⟩ = some (.string behindKey) := row3.key l.length (behindKey, 0) (by simp)))
  rw [hnc] at hbad hgood
  have bel3w : Below w.heap.size w w3 := bel2.trans (bel3.mono bel2.size)
  have hglt := row2.lt
  clear cb row2
  go_loopg [37] l.length (fun gg v wr => ∃ k : Nat, v = .int .i64 k ∧ k + gg = l.length ∧ Lq w3 wr g l k)
  case atStart => exact ⟨0, rfl, by omega, Lq.start row3⟩
  case round =>
    obtain ⟨k, rfl, hkg, hL⟩ := hrel
    by_cases hk : k < l.length
    · have hlt : (k : Int) < (l.length : Int) := by omega
      obtain ⟨gg, rfl⟩ : ∃ g, gk = g + 1 := ⟨gk - 1, by omega⟩
      obtain ⟨x, hx⟩ : ∃ x, l[k]? = some x := ⟨_, List.getElem?_eq_getElem hk⟩
      have hsw := hs.below (hL.below bel3w hg) (Nat.le_refl _)
      have e1 := hsw.key k x hx
      have e2 := hsw.hash k x hx
      have f1 := hL.key k x (Nat.le_refl _) hx
      have f2 := hL.hash k x (Nat.le_refl _) hx
      have f3 := hL.fr (k * 2)
      have f4 := hL.fr (k * 2 + 1)
      have ha : ao = some ⟨b, o, none⟩ := by rcases hs.to with e | e; (subst e; simp at hx); exact e
      subst ha
      clear hx hsw
      obtain ⟨s, h⟩ := x
      go_wp2
      go_quiet (fail)
      go_wp2
      skip
      go_roundg gg
      case measure => omega
      case rel => exact ⟨k + 1, by go_num, by omega, Lq.step (hL.drewN _) _ _⟩
    · obtain rfl : k = l.length := by omega
      have hlt : ¬ (l.length : Int) < (l.length : Int) := by omega
      go_wp2
      go_returns
      have hb : Below w.heap.size w wr := hL.below bel3w hg
      refine ⟨_, by rw [hnc]; rfl, hb, fun h => hbad (hnc ▸ h), fun h => ?_⟩
      obtain ⟨p, m, rfl, hp, hm, hp', hO⟩ := hgood (hnc ▸ h)
      exact ⟨p, m, rfl, hO.of (hL.keep _ (by omega)) (hL.keep _ (by omega))⟩
end Go.Proofs.YtabdkfmfenpkjaaDoor.ov
