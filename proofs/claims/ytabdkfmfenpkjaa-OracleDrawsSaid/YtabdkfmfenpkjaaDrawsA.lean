/- Rows of draws: an append to a slice of the call's own, of whatever slice of numbers; what is known of a Draws; NewDraws, Take and Left, walked. -/
import Derived.Test.YtabdkfmfenpkjaaProg
import Derived.WalkKit
import Derived.Handy
import Derived.Below
import Derived.Laws.AppendOwn
import Derived.Laws.OwnMore
import Derived.OwnWalk
namespace Go.Proofs.Ytabdkfmfenpkjaa.draws
open Go.RowKit
set_option linter.unusedVariables false
theorem info24 : (Try.prog.info? 24).map (fun i => (i.zero, i.size, i.bytes)) = some (some (.int .u64 0), 1, 8) := by kernel_rfl
def us (l : List Int) : List Value := l.map (Value.int .u64)
/-- A slice's elements: it leads to ⟨b, o⟩ where it has any. -/
structure Sli (w : World) (ao : Option Addr) (l : List Int) (c b o : Nat) : Prop where
  nil : ao = none → l = [] ∧ c = 0
  to : l = [] ∨ ao = some ⟨b, o, none⟩
  cell : ∀ j v, l[j]? = some v → w.cell? ⟨b, o + j, none⟩ = some (.int .u64 v)
  cap : l.length ≤ c
theorem append_run (w : World) (base ty n : Nat) (v : Value) (xs : List Value) (ao : Option Addr) (l : List Int) (c b o : Nat)
    (hown : w.ownsRow base 24 1 v n xs) (hs : Sli w ao l c b o) (h63 : n + l.length ≤ maxLen) (hbytes : (n + l.length) * 8 ≤ 140737488355328) (hbase : base ≤ w.heap.size) :
    ∃ v' w', (Builtin.append_ #[22, 22] ty #[v, .slice ao l.length c]).run Try.prog w = .ok v' w' ∧ w'.ownsRow base 24 1 v' (n + l.length) (xs ++ us l) ∧ w.grownBy w' v.ownBlock ∧ (v' = .slice none 0 0 ↔ v = .slice none 0 0 ∧ l = []) := by
  obtain ⟨i, hi, hz0, hz1, hz2⟩ := info_parts info24
  cases ao with
  | none =>
    obtain ⟨rfl, rfl⟩ := hs.nil rfl
    refine ⟨v, w, run_append_owned_none (P := Try.prog) (w := w) base 22 ty 24 i 1 Try.underlying22 hi v n xs hown, by simpa [us] using hown, ⟨rfl, rfl, rfl, Nat.le_refl _, fun _ _ _ => rfl⟩, by simp⟩
  | some a =>
    have hnews : ∀ j u, (us l)[j]? = some u → w.cell? (a.add j) = some u := by
      intro j u hu
      rw [us, List.getElem?_map] at hu
      cases hlj : l[j]? with
      | none => rw [hlj] at hu; simp at hu
      | some x =>
        rw [hlj] at hu
        simp only [Option.map_some, Option.some.injEq] at hu
        subst hu
        have ha : a = ⟨b, o, none⟩ := by
          rcases hs.to with h | h
          · subst h; simp at hlj
          · exact Option.some.inj h
        subst ha
        have := hs.cell j x hlj
        unfold Addr.add
        split
        · next h => subst h; simpa using this
        · exact this
    obtain ⟨v', w', h1, h2, h3, h4⟩ := run_append_own (P := Try.prog) w base 22 ty 24 i (.int .u64 0) 1 8 Try.underlying22 hi hz0 hz1 hz2 rfl (by decide) v n xs hown a l.length c (us l) (by simp [us]) hnews
      (by intro u hu; simp only [us, List.mem_map] at hu; obtain ⟨x, _, rfl⟩ := hu; rfl) h63 hbytes hbase
    exact ⟨v', w', h1, h2, h3, by rw [h4, List.length_eq_zero_iff]⟩
theorem wpList_append {w : World} {ops : Array Oper} {rest : List Oper} {o' : Oper} {a : Act} {Q : Exit → Act → World → Prop} (hgd : o'.guard = none) (s x : Operand)
    (ho : o'.op = .call { callee := .builtin .append, args := #[s, x], argTypes := #[22, 22] })
    (base n : Nat) (v : Value) (xs : List Value) (ao : Option Addr) (l : List Int) (c b o : Nat) (hsv : a.eval s = v) (hx : a.eval x = .slice ao l.length c)
    (hown : w.ownsRow base 24 1 v n xs) (hs : Sli w ao l c b o) (h63 : n + l.length ≤ maxLen) (hbytes : (n + l.length) * 8 ≤ 140737488355328) (hbase : base ≤ w.heap.size)
    (h : ∀ v' w', w'.ownsRow base 24 1 v' (n + l.length) (xs ++ us l) → w.grownBy w' v.ownBlock → (v' = .slice none 0 0 ↔ v = .slice none 0 0 ∧ l = []) → wpList Try.prog ops Q rest (a.put o'.dst v') w') : wpList Try.prog ops Q (o' :: rest) a w := by
  refine wpList_plain hgd fun K hK => ?_
  obtain ⟨v', w', hr, h2, h3, h4⟩ := append_run w base o'.type n v xs ao l c b o hown hs h63 hbytes hbase
  unfold Oper.wp execOp
  simp only [ho, resolve, invoke, builtin, Sem.run_bind, Sem.run_pure, Result.andThen_ok, List.map_toArray, List.map_cons, List.map_nil, hsv, hx, hr]
  exact hK _ _ (h v' w' h2 h3 h4)
/-- p is a Draws: what is left of it is l, which lies in block g. -/
structure Dr (w : World) (p g : Nat) (l : List Int) : Prop where
  ex : ∃ ao c o, w.cell? ⟨p, 0, none⟩ = some (.slice ao l.length c) ∧ Sli w ao l c g o
  fr : w.frozen? ⟨p, 0, none⟩ = false
  ne : p ≠ g
theorem Sli.of {w w' : World} {ao : Option Addr} {l : List Int} {c b o : Nat} (h : Sli w ao l c b o) (k : w'.heap[b]? = w.heap[b]?) : Sli w' ao l c b o :=
  ⟨h.nil, h.to, fun j v hv => (World.cell?_of_block (a := ⟨b, o + j, none⟩) k).trans (h.cell j v hv), h.cap⟩
theorem Dr.of {w w' : World} {p g : Nat} {l : List Int} (h : Dr w p g l) (hp : w'.heap[p]? = w.heap[p]?) (hg : l = [] ∨ w'.heap[g]? = w.heap[g]?) : Dr w' p g l := by
  obtain ⟨ao, c, o, h1, h2⟩ := h.ex
  have h2' : Sli w' ao l c g o := by
    rcases hg with rfl | hg
    · exact ⟨h2.nil, h2.to, fun j v hv => (by simp at hv), h2.cap⟩
    · exact h2.of hg
  exact ⟨⟨ao, c, o, (World.cell?_of_block (a := ⟨p, 0, none⟩) hp).trans h1, h2'⟩, (World.frozen?_of_block (a := ⟨p, 0, none⟩) hp).trans h.fr, h.ne⟩
set_option maxHeartbeats 2000000 in
theorem left_walk (w : World) (p g : Nat) (l : List Int) (h : Dr w p g l) :
    Calls Try.prog 8 #[.pointer (some ⟨p, 0, none⟩)] w fun e w' => e = .returned (.int .i64 l.length) ∧ w' = w := by
  obtain ⟨ao, c, o, h1, h2⟩ := h.ex
  go_enter Try.func8, Try.ntmps8
  go_wp2
  go_ret
  exact ⟨rfl, rfl⟩
set_option maxHeartbeats 2000000 in
theorem take_nil (w : World) (p g : Nat) (h : Dr w p g []) :
    Calls Try.prog 7 #[.pointer (some ⟨p, 0, none⟩)] w fun e w' => e = .returned (.int .u64 0) ∧ w' = w := by
  obtain ⟨ao, c, o, h1, h2⟩ := h.ex
  simp only [List.length_nil] at h1
  go_enter Try.func7, Try.ntmps7
  go_wp2
  go_ret
  exact ⟨rfl, rfl⟩
theorem took {w : World} {p g n c' o' : Nat} {l : List Int} {u : Value} {ao : Option Addr} (h1 : w.cell? ⟨p, 0, none⟩ = some u) (hf : w.frozen? ⟨p, 0, none⟩ = false) (hne : p ≠ g) (hs : Sli w ao l c' g o') (hn : n = l.length) :
    Dr (w.setCell ⟨p, 0, none⟩ (.slice ao n c')) p g l := by
  subst hn
  refine ⟨⟨ao, c', o', World.cell?_setCell_same _ _ _ h1, hs.of (Below.heap_setCell _ _ _ _ (fun e => hne e.symm))⟩, ?_, hne⟩
  rw [World.frozen?_setCell]; exact hf
set_option maxHeartbeats 2000000 in
theorem take_cons (w : World) (p g : Nat) (x : Int) (l : List Int) (h : Dr w p g (x :: l)) :
    Calls Try.prog 7 #[.pointer (some ⟨p, 0, none⟩)] w fun e w' => e = .returned (.int .u64 x) ∧ ∃ v, w' = w.setCell ⟨p, 0, none⟩ v ∧ Dr w' p g l := by
  obtain ⟨ao, c, o, h1, h2⟩ := h.ex
  have ha : ao = some ⟨g, o, none⟩ := by rcases h2.to with e | e; cases e; exact e
  subst ha
  have hx : w.cell? ⟨g, o, none⟩ = some (.int .u64 x) := by simpa using h2.cell 0 x rfl
  have hc := h2.cap
  have hfr := h.fr
  have hne := h.ne
  obtain ⟨n, hn⟩ : ∃ n, l.length = n := ⟨_, rfl⟩
  simp only [List.length_cons, hn] at h1 hc
  go_enter Try.func7, Try.ntmps7
  go_wp2
  all_goals go_ret
  · have hn0 : n = 0 := by omega
    subst hn0
    obtain rfl := List.eq_nil_of_length_eq_zero hn
    exact ⟨rfl, ⟨_, rfl⟩, took (c' := 0) (o' := o) h1 hfr hne ⟨fun e => (by cases e), .inl rfl, fun j v hv => (by simp at hv), by simp⟩ rfl⟩
  · exact ⟨rfl, ⟨_, rfl⟩, took (c' := c - 1) (o' := o + 1) h1 hfr hne ⟨fun e => (by cases e), .inr rfl, fun j v hv => by have := h2.cell (j + 1) v (by simpa using hv); rw [show o + 1 + j = o + (j + 1) by omega]; exact this, by omega⟩ (by rw [hn])⟩
/-- What a row of the call's own reads as. -/
theorem us_getElem {l : List Int} {j : Nat} {v : Int} (h : l[j]? = some v) : (us l)[j]? = some (.int .u64 v) := by simp [us, h]
theorem own_sli {w : World} {base n : Nat} {v : Value} {l : List Int} (h : w.ownsRow base 24 1 v n (us l)) :
    n = l.length ∧ ((v = .slice none 0 0 ∧ l = []) ∨ ∃ g c, v = .slice (some ⟨g, 0, none⟩) l.length c ∧ base ≤ g ∧ g < w.heap.size ∧ Sli w (some ⟨g, 0, none⟩) l c g 0) := by
  have hn : n = l.length := by have := h.1; simp [us] at this; omega
  subst hn
  refine ⟨rfl, ?_⟩
  rcases h.2 with ⟨h1, h2⟩ | ⟨g, cap, cur, h1, h2, h3, h4, h5, h6, h7⟩
  · exact .inl ⟨h1, List.eq_nil_of_length_eq_zero h2⟩
  · refine .inr ⟨g, cap, h1, h2, (Array.getElem?_eq_some_iff.1 h3).1, ⟨fun e => (by cases e), .inr rfl, fun j x hx => ?_, h4⟩⟩
    have := h.cells (g := g) (by rw [h1]; rfl) j _ (us_getElem hx)
    unfold Addr.add at this
    split at this
    · next e => subst e; simpa using this
    · simpa using this
theorem own_any {w : World} {base n : Nat} {v : Value} {l : List Int} (h : w.ownsRow base 24 1 v n (us l)) :
    ∃ ao c g, v = .slice ao l.length c ∧ Sli w ao l c g 0 ∧ base ≤ g ∧ (l = [] ∨ g < w.heap.size) ∧ n = l.length := by
  obtain ⟨hn, h⟩ := own_sli h
  rcases h with ⟨h1, rfl⟩ | ⟨g, c, h1, h2, h3, h4⟩
  · exact ⟨none, 0, base, h1, ⟨fun _ => ⟨rfl, rfl⟩, .inl rfl, fun j v hv => (by simp at hv), by simp⟩, Nat.le_refl _, .inl rfl, hn⟩
  · exact ⟨_, c, g, h1, h4, h2, .inr h3, hn⟩
theorem Below.of_grown {w w1 : World} {row : Option Nat} {B : Nat} (h : w.grownBy w1 row) (hB : B ≤ w.heap.size) (hr : ∀ k, row = some k → B ≤ k) : Below B w w1 := (Below.refl B w).grown h hB hr
/-- What NewDraws leaves: a new Draws of all the numbers. -/
def NewPost (w : World) (l : List Int) (e : Ending) (w' : World) : Prop := ∃ p g, e = .returned (.pointer (some ⟨p, 0, none⟩)) ∧ Below w.heap.size w w' ∧ w.heap.size ≤ p ∧ p < w'.heap.size ∧ w.heap.size ≤ g ∧ (l = [] ∨ g < w'.heap.size) ∧ Dr w' p g l
set_option maxHeartbeats 2000000 in
theorem new_walk (w : World) (ao : Option Addr) (l : List Int) (c b o : Nat) (hs : Sli w ao l c b o) (h63 : l.length ≤ maxLen) (hbytes : l.length * 8 ≤ 140737488355328) :
    Calls Try.prog 6 #[.slice ao l.length c] w fun e w' => NewPost w l e w' := by
  have hown := World.ownsRow_nil w w.heap.size 24 1
  go_enter Try.func6, Try.ntmps6
  go_wp2_with (at_builtin; refine wpList_append rfl _ _ rfl w.heap.size 0 (.slice none 0 0) [] ao l c b o rfl rfl hown hs (by omega) (by omega) (Nat.le_refl _) ?_; intro v' w1 hown1 hgrow _; obtain ⟨ao', c', g, rfl, hs', hg1, hg2, _⟩ := own_any hown1)
  go_ret
  have hb1 : Below w.heap.size w w1 := Below.of_grown hgrow (Nat.le_refl _) (fun k hk => by cases hk)
  have hne : w1.heap.size ≠ (if l = [] then w1.heap.size + 1 else g) := by
    split
    · omega
    · next h => exact hg2.elim (fun h' => absurd h' h) (fun h' => by omega)
  refine ⟨w1.heap.size, if l = [] then w1.heap.size + 1 else g, rfl, hb1.alloc hb1.size _, hb1.size, by simp, ?_, ?_, ⟨⟨ao', c', 0, by simp, ?_⟩, by simp, hne⟩⟩
  · split
    · have := hb1.size; omega
    · exact hg1
  · by_cases h : l = []
    · exact .inl h
    · rw [if_neg h]; exact hg2.elim (fun h' => absurd h' h) (fun h' => .inr (by simp; omega))
  · by_cases h : l = []
    · subst h; exact ⟨hs'.nil, .inl rfl, fun j v hv => (by simp at hv), hs'.cap⟩
    · rw [if_neg h]
      rcases hg2 with h' | h'
      · exact absurd h' h
      · exact hs'.of (Below.heap_alloc _ _ _ h')
end Go.Proofs.Ytabdkfmfenpkjaa.draws
