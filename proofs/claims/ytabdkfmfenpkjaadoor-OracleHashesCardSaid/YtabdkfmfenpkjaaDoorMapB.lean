/- Slices of overrides in memory; an append of such a slice to one of the call's own; an oracle in memory. -/
import Derived.Test.YtabdkfmfenpkjaaDoorMapA
import Derived.WalkKit
import Derived.Handy
import Derived.Laws.AppendOwn
import Derived.Laws.OwnMore
import Derived.OwnWalk
import Derived.StringKeys
import Derived.Deep.Draws
import Derived.Deep.LoopGhost
import Derived.Deep.QuietTactic
import Derived.BigQuiet
namespace Go.Proofs.YtabdkfmfenpkjaaDoor.ov
open Go.RowKit Go.Maps Go.WideMaps
set_option linter.unusedVariables false
theorem info44 : (Tryd.prog.info? 44).map (fun i => (i.zero, i.size, i.bytes)) = some (some (.agg #[.string ⟨#[]⟩, .int .u64 0]), 2, 24) := by kernel_rfl
def cellsL (l : List Ov) : List Value := l.flatMap fun x => [.string x.1, .int .u64 x.2]
theorem cellsL_length : ∀ l : List Ov, (cellsL l).length = l.length * 2
  | [] => rfl
  | x :: l => by
    show (cellsL l).length + 2 = _
    rw [cellsL_length l, List.length_cons]; omega
theorem cellsL_append (l r : List Ov) : cellsL (l ++ r) = cellsL l ++ cellsL r := by simp [cellsL]
theorem cellsL_key : ∀ {l : List Ov} {j : Nat} {x : Ov}, l[j]? = some x → (cellsL l)[j * 2]? = some (.string x.1)
  | y :: l, 0, x, h => by simp at h; subst h; rfl
  | y :: l, j + 1, x, h => by
    have := cellsL_key (l := l) (j := j) (x := x) (by simpa using h)
    rw [show (j + 1) * 2 = j * 2 + 1 + 1 by omega]
    exact this
theorem cellsL_hash : ∀ {l : List Ov} {j : Nat} {x : Ov}, l[j]? = some x → (cellsL l)[j * 2 + 1]? = some (.int .u64 x.2)
  | y :: l, 0, x, h => by simp at h; subst h; rfl
  | y :: l, j + 1, x, h => by
    have := cellsL_hash (l := l) (j := j) (x := x) (by simpa using h)
    rw [show (j + 1) * 2 + 1 = j * 2 + 1 + 1 + 1 by omega]
    exact this
theorem cellsL_inv : ∀ {l : List Ov} {j : Nat} {u : Value}, (cellsL l)[j]? = some u → ∃ x, l[j / 2]? = some x ∧ ((j % 2 = 0 ∧ u = .string x.1) ∨ (j % 2 = 1 ∧ u = .int .u64 x.2))
  | [], j, u, h => by simp [cellsL] at h
  | y :: l, 0, u, h => ⟨y, rfl, .inl ⟨rfl, by have : some (Value.string y.1) = some u := h; exact (Option.some.inj this).symm⟩⟩
  | y :: l, 1, u, h => ⟨y, rfl, .inr ⟨rfl, by have : some (Value.int .u64 y.2) = some u := h; exact (Option.some.inj this).symm⟩⟩
  | y :: l, j + 2, u, h => by
    obtain ⟨x, h1, h2⟩ := cellsL_inv (l := l) (j := j) (u := u) h
    refine ⟨x, ?_, ?_⟩
    · rw [show (j + 2) / 2 = j / 2 + 1 by omega]; simpa using h1
    · rw [show (j + 2) % 2 = j % 2 by omega]; exact h2
/-- A slice's elements. -/
structure Sov (w : World) (ao : Option Addr) (l : List Ov) (c b o : Nat) : Prop where
  nil : ao = none → l = [] ∧ c = 0
  to : l = [] ∨ ao = some ⟨b, o, none⟩
  key : ∀ j x, l[j]? = some x → w.cell? ⟨b, o + j * 2, none⟩ = some (.string x.1)
  hash : ∀ j x, l[j]? = some x → w.cell? ⟨b, o + j * 2 + 1, none⟩ = some (.int .u64 x.2)
  cap : l.length ≤ c
theorem Sov.of {w w' : World} {ao : Option Addr} {l : List Ov} {c b o : Nat} (h : Sov w ao l c b o) (k : l = [] ∨ w'.heap[b]? = w.heap[b]?) : Sov w' ao l c b o := by
  rcases k with rfl | k
  · exact ⟨h.nil, h.to, fun j x hj => (by simp at hj), fun j x hj => (by simp at hj), h.cap⟩
  · exact ⟨h.nil, h.to, fun j x hj => (World.cell?_of_block (a := ⟨b, _, none⟩) k).trans (h.key j x hj), fun j x hj => (World.cell?_of_block (a := ⟨b, _, none⟩) k).trans (h.hash j x hj), h.cap⟩
theorem Sov.lt {w : World} {ao : Option Addr} {l : List Ov} {c b o : Nat} (h : Sov w ao l c b o) : l = [] ∨ b < w.heap.size := by
  cases l with
  | nil => exact .inl rfl
  | cons x l => exact .inr (World.block_lt_of_cell? _ _ (h.key 0 x rfl))
theorem Sov.below {B : Nat} {w w' : World} {ao : Option Addr} {l : List Ov} {c b o : Nat} (h : Sov w ao l c b o) (k : Below B w w') (hB : w.heap.size ≤ B) : Sov w' ao l c b o :=
  h.of (h.lt.imp id fun hl => k.block _ (Nat.lt_of_lt_of_le hl hB))
theorem append_run (w : World) (base ty n : Nat) (v : Value) (xs : List Value) (ao : Option Addr) (l : List Ov) (c b o : Nat)
    (hown : w.ownsRow base 44 2 v n xs) (hs : Sov w ao l c b o) (h63 : n + l.length ≤ maxLen) (hbytes : (n + l.length) * 24 ≤ 140737488355328) (hbase : base ≤ w.heap.size) :
    ∃ v' w', (Builtin.append_ #[28, 28] ty #[v, .slice ao l.length c]).run Tryd.prog w = .ok v' w' ∧ w'.ownsRow base 44 2 v' (n + l.length) (xs ++ cellsL l) ∧ w.grownBy w' v.ownBlock ∧ (v' = .slice none 0 0 ↔ v = .slice none 0 0 ∧ l = []) := by
  obtain ⟨i, hi, hz0, hz1, hz2⟩ := info_parts info44
  cases ao with
  | none =>
    obtain ⟨rfl, rfl⟩ := hs.nil rfl
    refine ⟨v, w, run_append_owned_none (P := Tryd.prog) (w := w) base 28 ty 44 i 2 Tryd.underlying28 hi v n xs hown, by simpa [cellsL] using hown, ⟨rfl, rfl, rfl, Nat.le_refl _, fun _ _ _ => rfl⟩, by simp⟩
  | some a =>
    have hnews : ∀ j u, (cellsL l)[j]? = some u → w.cell? (a.add j) = some u := by
      intro j u hu
      obtain ⟨x, hx, hu'⟩ := cellsL_inv hu
      have ha : a = ⟨b, o, none⟩ := by
        rcases hs.to with h | h
        · subst h; simp at hx
        · exact Option.some.inj h
      subst ha
      have hadd : (⟨b, o, none⟩ : Addr).add j = ⟨b, o + j, none⟩ := by unfold Addr.add; split <;> simp_all
      rw [hadd]
      rcases hu' with ⟨hm, rfl⟩ | ⟨hm, rfl⟩
      · have := hs.key _ _ hx
        rwa [show o + j / 2 * 2 = o + j by omega] at this
      · have := hs.hash _ _ hx
        rwa [show o + j / 2 * 2 + 1 = o + j by omega] at this
    obtain ⟨v', w', h1, h2, h3, h4⟩ := run_append_own (P := Tryd.prog) w base 28 ty 44 i _ 2 24 Tryd.underlying28 hi hz0 hz1 hz2 rfl (by decide) v n xs hown a l.length c (cellsL l) (cellsL_length l) hnews
      (by
        intro u hu
        obtain ⟨j, hj⟩ := List.getElem?_of_mem hu
        obtain ⟨x, _, hx⟩ := cellsL_inv hj
        rcases hx with ⟨_, rfl⟩ | ⟨_, rfl⟩ <;> rfl) h63 hbytes hbase
    exact ⟨v', w', h1, h2, h3, by rw [h4, List.length_eq_zero_iff]⟩
theorem wpList_append {w : World} {ops : Array Oper} {rest : List Oper} {o' : Oper} {a : Act} {Q : Exit → Act → World → Prop} (hgd : o'.guard = none) (s x : Operand)
    (ho : o'.op = .call { callee := .builtin .append, args := #[s, x], argTypes := #[28, 28] })
    (base n : Nat) (v : Value) (xs : List Value) (ao : Option Addr) (l : List Ov) (c b o : Nat) (hsv : a.eval s = v) (hx : a.eval x = .slice ao l.length c)
    (hown : w.ownsRow base 44 2 v n xs) (hs : Sov w ao l c b o) (h63 : n + l.length ≤ maxLen) (hbytes : (n + l.length) * 24 ≤ 140737488355328) (hbase : base ≤ w.heap.size)
    (h : ∀ v' w', w'.ownsRow base 44 2 v' (n + l.length) (xs ++ cellsL l) → w.grownBy w' v.ownBlock → (v' = .slice none 0 0 ↔ v = .slice none 0 0 ∧ l = []) → wpList Tryd.prog ops Q rest (a.put o'.dst v') w') : wpList Tryd.prog ops Q (o' :: rest) a w := by
  refine wpList_plain hgd fun K hK => ?_
  obtain ⟨v', w', hr, h2, h3, h4⟩ := append_run w base o'.type n v xs ao l c b o hown hs h63 hbytes hbase
  unfold Oper.wp execOp
  simp only [ho, resolve, invoke, builtin, Sem.run_bind, Sem.run_pure, Result.andThen_ok, List.map_toArray, List.map_cons, List.map_nil, hsv, hx, hr]
  exact hK _ _ (h v' w' h2 h3 h4)
/-- What a row of the call's own holds. -/
theorem own_any {w : World} {base n : Nat} {v : Value} {l : List Ov} (h : w.ownsRow base 44 2 v n (cellsL l)) :
    n = l.length ∧ ∃ ao c g, v = .slice ao l.length c ∧ Sov w ao l c g 0 ∧ base ≤ g ∧ (v ≠ .slice none 0 0 → g < w.heap.size ∧ ao = some ⟨g, 0, none⟩ ∧ ∀ j, w.frozen? ⟨g, j, none⟩ = false) := by
  have hn : n = l.length := by have := h.1; rw [cellsL_length] at this; omega
  subst hn
  refine ⟨rfl, ?_⟩
  rcases h.2 with ⟨h1, h2⟩ | ⟨g, cap, cur, h1, h2, h3, h4, h5, h6, h7⟩
  · obtain rfl := List.eq_nil_of_length_eq_zero h2
    exact ⟨none, 0, base, h1, ⟨fun _ => ⟨rfl, rfl⟩, .inl rfl, fun j x hj => (by simp at hj), fun j x hj => (by simp at hj), Nat.le_refl _⟩, Nat.le_refl _, fun e => absurd h1 e⟩
  · have hc : ∀ j u, (cellsL l)[j]? = some u → w.cell? ⟨g, j, none⟩ = some u := fun j u hu => by
      have := h.cells (g := g) (by rw [h1]; rfl) j u hu
      have hadd : (⟨g, 0, none⟩ : Addr).add j = ⟨g, j, none⟩ := by unfold Addr.add; split <;> simp_all
      rwa [hadd] at this
    refine ⟨some ⟨g, 0, none⟩, cap, g, h1, ⟨fun e => (by cases e), .inr rfl, fun j x hj => ?_, fun j x hj => ?_, h4⟩, h2, fun _ => ⟨(Array.getElem?_eq_some_iff.1 h3).1, rfl, fun j => by simp [World.frozen?, h3]⟩⟩
    · rw [Nat.zero_add]; exact hc _ _ (cellsL_key hj)
    · rw [Nat.zero_add]; exact hc _ _ (cellsL_hash hj)
theorem law9 : Keyed Tryd.prog 9 := string_keyed Tryd.underlying9
theorem zero22 (w : World) : (zeroValue 22).run Tryd.prog w = .ok (.int .u64 0) w := by kernel_rfl
theorem hkey (s : ByteArray) (h : s.size ≤ maxLen) : keyOf Tryd.prog 9 (.string s) = some (kl s) := keyOf_string_mk Tryd.underlying9 h
/-- Block m is a map that holds the overrides l. -/
def Om (w : World) (m : Nat) (l : List Ov) : Prop := w.ownsMap (H := Unit) Tryd.prog 9 (plainElem Tryd.prog 22) m l.length (Dm l)
theorem Om.look {w : World} {m : Nat} {l : List Ov} (h : Om w m l) (hd : Distinct l) (s : ByteArray) (hs : s.size ≤ maxLen) :
    (Instr.lookup 57 (.map (some m)) (.string s) true).run Tryd.prog w = .ok (.tuple #[.int .u64 (valK l s), .bool (hasK l s)]) w := by
  obtain ⟨v, ps, hrun, hv⟩ := World.ownsMap.look_ok h law9 Tryd.underlying57 (zero22 w) (plainElem_int Tryd.underlying22 (by decide)) (hkey s hs)
  obtain ⟨c, rfl, hc, hwc⟩ := plainElem_int_inv Tryd.underlying22 hv
  simp only [Prod.mk.injEq] at hc
  rw [Dm_val l hd s] at hc
  have : valK l s = c := by simpa using hc.1
  rw [hrun, Dm_has, this]
theorem Om.drewN {w : World} {m : Nat} {l : List Ov} (h : Om w m l) (n : Nat) : Om (w.drewN n) m l := h
theorem Om.update {w : World} {m : Nat} {l : List Ov} (h : Om w m l) (x : Ov) (hs : x.1.size ≤ maxLen) (hw : (Lit.int .u64 x.2).wf = true) (hl : l.length < maxLen) :
    ∃ w', (Instr.mapUpdate 57 (.map (some m)) (.string x.1) (.int .u64 x.2)).run Tryd.prog w = .ok () w' ∧ Om w' m (l ++ [x]) ∧ w.grownBy w' (some m) := by
  obtain ⟨w', h1, h2, h3⟩ := World.ownsMap.update h law9 Tryd.underlying57 hl (hkey x.1 hs) (plainElem_int Tryd.underlying22 hw)
  refine ⟨w', h1, ?_, h3⟩
  unfold Om
  rw [Dm_snoc, List.length_append]
  exact h2
theorem Om.of {w w' : World} {m : Nat} {l : List Ov} (h : Om w m l) (hb : w'.heap[m]? = w.heap[m]?) : Om w' m l := by
  obtain ⟨es, clock, h1, h2, h3, h4⟩ := h
  exact ⟨es, clock, hb.trans h1, h2, h3, h4⟩
theorem Om.lt {w : World} {m : Nat} {l : List Ov} (h : Om w m l) : m < w.heap.size := World.ownsMap.lt h
/-- p points to an oracle of these overrides. -/
structure Orc (w : World) (p m : Nat) (l : List Ov) : Prop where
  cell : w.cell? ⟨p, 0, none⟩ = some (.map (some m))
  map : Om w m l
  distinct : Distinct l
theorem Orc.below {w w' : World} {p m B : Nat} {l : List Ov} (h : Orc w p m l) (k : Below B w w') (hB : w.heap.size ≤ B) : Orc w' p m l :=
  ⟨(k.cell (p := ⟨p, 0, none⟩) (Nat.lt_of_lt_of_le (World.block_lt_of_cell? _ _ h.cell) hB)).trans h.cell, h.map.of (k.block _ (Nat.lt_of_lt_of_le h.map.lt hB)), h.distinct⟩
end Go.Proofs.YtabdkfmfenpkjaaDoor.ov
