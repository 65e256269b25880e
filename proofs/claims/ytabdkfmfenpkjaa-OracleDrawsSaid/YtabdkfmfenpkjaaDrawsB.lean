/- OracleDraws' function, walked: whatever the three lists, it answers true; nothing that was there turns. -/
import Derived.Test.YtabdkfmfenpkjaaDrawsA
import Derived.Deep.LoopGhost
import Derived.Deep.Draws
import Derived.Deep.QuietTactic
import Derived.BigQuiet
namespace Go.Proofs.Ytabdkfmfenpkjaa.draws
open Go.RowKit
set_option linter.unusedVariables false
theorem Sli.below {B : Nat} {w w' : World} {ao : Option Addr} {l : List Int} {c b o : Nat} (h : Sli w ao l c b o) (k : Below B w w') (hB : w.heap.size ≤ B) : Sli w' ao l c b o :=
  ⟨h.nil, h.to, fun j v hv => (k.cell (p := ⟨b, o + j, none⟩) (Nat.lt_of_lt_of_le (World.block_lt_of_cell? _ _ (h.cell j v hv)) hB)).trans (h.cell j v hv), h.cap⟩
/-- A row of the call's own. -/
structure Row (w : World) (g : Nat) (l : List Int) : Prop where
  cell : ∀ j v, l[j]? = some v → w.cell? ⟨g, j, none⟩ = some (.int .u64 v)
  fr : ∀ j, w.frozen? ⟨g, j, none⟩ = false
  lt : g < w.heap.size
theorem Row.of {w w' : World} {g : Nat} {l : List Int} (h : Row w g l) (k : w'.heap[g]? = w.heap[g]?) (hs : w.heap.size ≤ w'.heap.size) : Row w' g l :=
  ⟨fun j v hv => (World.cell?_of_block (a := ⟨g, j, none⟩) k).trans (h.cell j v hv), fun j => (World.frozen?_of_block (a := ⟨g, j, none⟩) k).trans (h.fr j), Nat.lt_of_lt_of_le h.lt hs⟩
theorem Row.below {w w' : World} {g : Nat} {l : List Int} (h : Row w g l) (k : Below w.heap.size w w') : Row w' g l := h.of (k.block _ h.lt) k.size
theorem Row.sli {w : World} {g c : Nat} {l r : List Int} (h : Row w g (l ++ r)) (hc : l.length ≤ c) : Sli w (some ⟨g, 0, none⟩) l c g 0 :=
  ⟨fun e => (by cases e), .inr rfl, fun j v hv => by rw [Nat.zero_add]; exact h.cell j v (by rw [List.getElem?_append_left (by have := List.getElem?_eq_some_iff.1 hv; exact this.1)]; exact hv), hc⟩
theorem own_row {w : World} {base n : Nat} {v : Value} {l : List Int} (h : w.ownsRow base 24 1 v n (us l)) (hne : l ≠ [] ∨ v ≠ .slice none 0 0) :
    ∃ g c, v = .slice (some ⟨g, 0, none⟩) l.length c ∧ base ≤ g ∧ l.length ≤ c ∧ Row w g l := by
  have hn := (own_sli h).1
  have hs := (own_sli h).2
  subst hn
  rcases hs with ⟨rfl, rfl⟩ | ⟨g, c, rfl, hb, hlt, hsl⟩
  · rcases hne with h' | h' <;> exact absurd rfl h'
  · refine ⟨g, c, rfl, hb, hsl.cap, fun j v hv => by simpa using hsl.cell j v hv, fun j => ?_, hlt⟩
    rcases h.2 with ⟨h1, _⟩ | ⟨g', cap, cur, h1, _, h3, _⟩
    · cases h1
    · obtain rfl : g = g' := by simp at h1; exact h1.1
      simp [World.frozen?, h3]
/-- Behind the first two appends: 'full' is a row that holds the first list and the mark. -/
theorem phase2 {w w1 w2 : World} {l : List Int} {v1 v2 : Value} {B : Nat} (hB : B ≤ w1.heap.size) (hb : Below B w w1) (hown1 : w1.ownsRow B 24 1 v1 (0 + l.length) ([] ++ us l))
    (hown : w2.ownsRow B 24 1 v2 (0 + l.length + [(77 : Int)].length) ([] ++ us l ++ us [77])) (hg : (w1.alloc (.cells #[.int .u64 77] 24)).grownBy w2 v1.ownBlock) :
    ∃ g c, v2 = .slice (some ⟨g, 0, none⟩) (l.length + 1) c ∧ B ≤ g ∧ l.length + 1 ≤ c ∧ Row w2 g (l ++ [77]) ∧ Below B w w2 := by
  have e : ([] ++ us l ++ us [77] : List Value) = us (l ++ [77]) := by simp [us]
  rw [e] at hown
  obtain ⟨g, c, h1, h2, h3, h4⟩ := own_row hown (.inl (by simp))
  refine ⟨g, c, by simpa using h1, h2, by simpa using h3, h4, (hb.alloc hB _).grown hg (by simp; omega) (fun k hk => (hown1.lt k hk).1)⟩
theorem sli77 (w : World) : Sli (w.alloc (.cells #[.int .u64 77] 24)) (some ⟨w.heap.size, 0, none⟩) [77] 1 w.heap.size 0 :=
  ⟨fun e => (by cases e), .inr rfl, fun j v hv => by
    match j, hv with
    | 0, hv => simp at hv; subst hv; simp
    | j + 1, hv => simp at hv, by simp⟩
theorem phase3 {w w2 w3 : World} {l r : List Int} {v3 : Value} {B g : Nat} (hB : B ≤ w2.heap.size) (hb : Below B w w2) (hr : Row w2 g r)
    (hown : w3.ownsRow w2.heap.size 24 1 v3 (0 + l.length) ([] ++ us l)) (hg : (w2.alloc (.cells #[] 24)).grownBy w3 (Value.slice (some ⟨w2.heap.size, 0, none⟩) 0 0).ownBlock)
    (hnil : v3 = .slice none 0 0 ↔ Value.slice (some ⟨w2.heap.size, 0, none⟩) 0 0 = .slice none 0 0 ∧ l = []) :
    ∃ h c, v3 = .slice (some ⟨h, 0, none⟩) l.length c ∧ w2.heap.size ≤ h ∧ l.length ≤ c ∧ Row w3 h l ∧ Row w3 g r ∧ Below B w w3 := by
  rw [List.nil_append] at hown
  obtain ⟨h, c, h1, h2, h3, h4⟩ := own_row hown (.inr (fun e => by have := (hnil.1 e).1; cases this))
  have hb2 : Below w2.heap.size w2 w3 := ((Below.refl w2.heap.size w2).alloc (Nat.le_refl _) _).grown hg (by simp) (fun k hk => by simp [Value.ownBlock] at hk; omega)
  exact ⟨h, c, h1, h2, h3, h4, hr.below hb2, hb.trans (hb2.mono hB)⟩
/-- In the loops over the caller's copies: at the k-th place; block g alone has turned. -/
structure Lp (w0 wr : World) (g : Nat) (l : List Int) (k : Nat) : Prop where
  os : wr.os = w0.os
  tape : wr.tape = w0.tape
  output : wr.output = w0.output
  size : wr.heap.size = w0.heap.size
  keep : ∀ b, b ≠ g → wr.heap[b]? = w0.heap[b]?
  cell : ∀ j v, k ≤ j → l[j]? = some v → wr.cell? ⟨g, j, none⟩ = some (.int .u64 v)
  fr : ∀ j, wr.frozen? ⟨g, j, none⟩ = false
theorem Lp.start {w : World} {g : Nat} {l r : List Int} (h : Row w g (l ++ r)) : Lp w w g l 0 :=
  ⟨rfl, rfl, rfl, rfl, fun _ _ => rfl, fun j v _ hv => h.cell j v (by rw [List.getElem?_append_left (List.getElem?_eq_some_iff.1 hv).1]; exact hv), h.fr⟩
theorem Lp.drew {w0 wr : World} {g k : Nat} {l : List Int} (h : Lp w0 wr g l k) : Lp w0 wr.drew g l k := ⟨h.os, h.tape, h.output, h.size, h.keep, h.cell, h.fr⟩
theorem Lp.drewN {w0 wr : World} {g k : Nat} {l : List Int} (h : Lp w0 wr g l k) (n : Nat) : Lp w0 (wr.drewN n) g l k := ⟨h.os, h.tape, h.output, h.size, h.keep, h.cell, h.fr⟩
theorem Lp.step {w0 wr : World} {g k : Nat} {l : List Int} (h : Lp w0 wr g l k) (v : Value) : Lp w0 (wr.setCell ⟨g, k, none⟩ v) g l (k + 1) :=
  ⟨h.os, h.tape, h.output, by rw [← h.size]; simp [World.setCell], fun b hb => (Below.heap_setCell _ _ _ _ hb).trans (h.keep b hb),
    fun j u hj hu => (World.cell?_setCell_other _ _ _ _ (by intro e; injection e with _ e _; exact absurd e (by omega))).trans (h.cell j u (by omega) hu), fun j => by rw [World.frozen?_setCell]; exact h.fr j⟩
theorem Lp.below {w w0 wr : World} {g k B : Nat} {l : List Int} (h : Lp w0 wr g l k) (hb : Below B w w0) (hg : B ≤ g) : Below B w wr :=
  ⟨h.os.trans hb.os, h.tape.trans hb.tape, h.output.trans hb.output, by rw [h.size]; exact hb.size, fun b hlt => (h.keep b (by omega)).trans (hb.block b hlt)⟩
end Go.Proofs.Ytabdkfmfenpkjaa.draws
