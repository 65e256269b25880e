/- A slice that owns its room, wherever in its block it begins, whatever else of the block is frozen; append to it. No walk here. -/
import Derived.Test.YtigaacbaaopfmaaDoorSm
import Derived.Lib.FrozenHead2
import Derived.Lib.ConvBytes
set_option linter.unusedSimpArgs false
namespace Go.Proofs.YtigaacbaaopfmaaDoor.sh
open Go.RowKit
set_option linter.unusedVariables false
/-- The slice v of n elements owns the cells xs and its spare room. -/
structure OwnB (w : World) (base : Nat) (e : TypeId) (size : Nat) (n : Nat) (xs : List Value) (g o cap : Nat) (cur : Array Value) (fz : Nat × Nat) : Prop where
  bs : base ≤ g
  blk : w.heap[g]? = some (.cells cur e fz)
  hn : n ≤ cap
  hc : cap ≤ maxLen
  fit : o + cap * size ≤ cur.size
  cells : ∀ (j : Nat) (u : Value), xs[j]? = some u → cur[o + j]? = some u
  free : ∀ j, o ≤ j → j < o + cap * size → ¬ (fz.1 ≤ j ∧ j < fz.2)
/-- A slice without room owns nothing. -/
def OwnA (w : World) (base : Nat) (e : TypeId) (size : Nat) (v : Value) (n : Nat) (xs : List Value) : Prop :=
  xs.length = n * size ∧ ((∃ ao, v = .slice ao 0 0 ∧ n = 0) ∨ ∃ g o cap cur fz, v = .slice (some ⟨g, o, none⟩) n cap ∧ 0 < cap ∧ OwnB w base e size n xs g o cap cur fz)
/-- The block in which a slice has room. -/
def rowOf : Value → Option Nat
  | .slice (some a) _ c => if c = 0 then none else some a.block
  | _ => none
theorem rowOf_zero (ao : Option Addr) (n : Nat) : rowOf (.slice ao n 0) = none := by cases ao <;> simp [rowOf]
theorem rowOf_pos (a : Addr) (n c : Nat) (h : 0 < c) : rowOf (.slice (some a) n c) = some a.block := by simp [rowOf]; omega
section
variable {w w' : World} {base : Nat} {e : TypeId} {size : Nat} {v : Value} {n : Nat} {xs : List Value}
theorem OwnA.of (h : w.ownsRow base e size v n xs) : OwnA w base e size v n xs := by
  refine ⟨h.1, ?_⟩
  rcases h.2 with h1 | ⟨g, cap, cur, h1, h2, h3, h4, h5, h6, h7⟩
  · exact .inl ⟨none, h1⟩
  · by_cases hc : cap = 0
    · subst hc
      obtain rfl : n = 0 := by omega
      exact .inl ⟨_, h1, rfl⟩
    · refine .inr ⟨g, 0, cap, cur, (0, 0), h1, by omega, h2, h3, h4, h5, by omega, fun j u hu => ?_, fun j _ _ => by simp⟩
      rw [← h7, List.getElem?_take] at hu
      split at hu
      · rw [Nat.zero_add]; simpa using hu
      · cases hu
theorem OwnA.bare (w : World) (base : Nat) (e : TypeId) (size : Nat) (ao : Option Addr) : OwnA w base e size (.slice ao 0 0) 0 [] := ⟨by simp, .inl ⟨ao, rfl, rfl⟩⟩
theorem OwnA.lt (h : OwnA w base e size v n xs) : ∀ k, rowOf v = some k → base ≤ k ∧ k < w.heap.size := by
  intro k hk
  rcases h.2 with ⟨ao, rfl, _⟩ | ⟨g, o, cap, cur, fz, rfl, hc, hb⟩
  · rw [rowOf_zero] at hk; cases hk
  · rw [rowOf_pos _ _ _ hc] at hk
    simp only [Option.some.injEq] at hk
    subst hk
    exact ⟨hb.bs, (Array.getElem?_eq_some_iff.1 hb.blk).1⟩
theorem OwnA.type (h : OwnA w base e size v n xs) : ∀ g, rowOf v = some g → ∃ cur fr, w.heap[g]? = some (.cells cur e fr) := by
  intro k hk
  rcases h.2 with ⟨ao, rfl, _⟩ | ⟨g, o, cap, cur, fz, rfl, hc, hb⟩
  · rw [rowOf_zero] at hk; cases hk
  · rw [rowOf_pos _ _ _ hc] at hk
    simp only [Option.some.injEq] at hk
    subst hk
    exact ⟨_, _, hb.blk⟩
theorem OwnA.slice (h : OwnA w base e size v n xs) : ∃ ao c, v = .slice ao n c := by
  rcases h.2 with ⟨ao, rfl, rfl⟩ | ⟨g', o, cap, cur, fz, rfl, _, hb⟩
  · exact ⟨ao, 0, rfl⟩
  · exact ⟨_, cap, rfl⟩
theorem OwnA.mono {b : Nat} (h : OwnA w base e size v n xs) (hb : b ≤ base) : OwnA w b e size v n xs := by
  refine ⟨h.1, ?_⟩
  rcases h.2 with h1 | ⟨g, o, cap, cur, fz, h1, hc, h2⟩
  · exact .inl h1
  · exact .inr ⟨g, o, cap, cur, fz, h1, hc, by have := h2.bs; omega, h2.blk, h2.hn, h2.hc, h2.fit, h2.cells, h2.free⟩
/-- Its block is as it was. -/
theorem OwnA.keep (h : OwnA w base e size v n xs) (hk : ∀ g, rowOf v = some g → w'.heap[g]? = w.heap[g]?) : OwnA w' base e size v n xs := by
  refine ⟨h.1, ?_⟩
  rcases h.2 with h1 | ⟨g, o, cap, cur, fz, rfl, hc, h2⟩
  · exact .inl h1
  · exact .inr ⟨g, o, cap, cur, fz, rfl, hc, h2.bs, (hk g (rowOf_pos _ _ _ hc)).trans h2.blk, h2.hn, h2.hc, h2.fit, h2.cells, h2.free⟩
theorem OwnA.below {k : Nat} (h : OwnA w base e size v n xs) (hb : Below k w w') (hk : w.heap.size ≤ k) : OwnA w' base e size v n xs :=
  h.keep fun g hg => hb.block g (by have := (h.lt g hg).2; omega)
theorem OwnA.kept {row : Option Nat} (h : OwnA w base e size v n xs) (hg : w.grownBy w' row) (hne : rowOf v = none ∨ rowOf v ≠ row) : OwnA w' base e size v n xs :=
  h.keep fun g hv => hg.block g (h.lt g hv).2 (fun e => by
    rcases hne with h0 | h0
    · rw [h0] at hv; cases hv
    · exact h0 (hv.trans e))
theorem OwnA.alloc (h : OwnA w base e size v n xs) (o : Obj) : OwnA (w.alloc o) base e size v n xs :=
  h.below ((Below.refl _ w).alloc (Nat.le_refl _) o) (Nat.le_refl _)
theorem OwnA.set {p i : Nat} {u : Value} (h : OwnA w base e size v n xs) (hp : rowOf v ≠ some p) : OwnA (w.setCell ⟨p, i, none⟩ u) base e size v n xs :=
  h.keep fun g hg => heap_setCell_other w ⟨p, i, none⟩ g u (fun e => hp (by rw [hg, e]))
theorem OwnA.other {E' base' n' size' : Nat} {v' : Value} {xs' : List Value} (h : OwnA w base e size v n xs) (h' : OwnA w base' E' size' v' n' xs') (hE : e ≠ E') : rowOf v = none ∨ rowOf v ≠ rowOf v' := by
  cases hv : rowOf v with
  | none => exact .inl rfl
  | some g =>
    refine .inr (fun q => ?_)
    obtain ⟨c1, f1, h1⟩ := h.type g hv
    obtain ⟨c2, f2, h2⟩ := h'.type g q.symm
    rw [h1] at h2
    simp only [Option.some.injEq, Obj.cells.injEq] at h2
    exact hE h2.2.1
theorem OwnA.sv (h : OwnA w base e size v n xs) : SV w size v n xs := by
  rcases h.2 with ⟨ao, rfl, rfl⟩ | ⟨g, o, cap, cur, fz, rfl, _, hb⟩
  · have hx : xs = [] := List.eq_nil_of_length_eq_zero (by have := h.1; omega)
    subst hx
    exact ⟨ao, 0, 0, 0, rfl, by simp, .inl rfl, fun _ => rfl, Nat.le_refl _, fun j u hu => by simp at hu⟩
  · refine ⟨_, cap, g, o, rfl, h.1, .inr rfl, (fun e => by cases e), hb.hn, fun j u hu => ?_⟩
    unfold World.cell?
    rw [hb.blk]
    exact hb.cells j u hu
end
/-- Cells stored one behind the other where nothing is frozen. -/
theorem run_storeCells_free (P : Program) (g o : Nat) (t : TypeId) (fz : Nat × Nat) : ∀ (vs : List Value) (i : Nat) (cur : Array Value) (w : World), w.heap[g]? = some (.cells cur t fz) → (∀ j, o + i ≤ j → j < o + i + vs.length → ¬ (fz.1 ≤ j ∧ j < fz.2)) → o + i + vs.length ≤ cur.size → (∀ v ∈ vs, v.oneCell' = true) →
    (storeCells ⟨g, o, none⟩ vs i).run P w = .ok () (w.setRow g (cur.toList.take (o + i) ++ vs ++ cur.toList.drop (o + i + vs.length)).toArray)
  | [], i, cur, w, hg, _, _, _ => by
    simp only [storeCells, List.append_nil, List.length_nil, Nat.add_zero, List.take_append_drop, Array.toArray_toList]
    rw [setRow_self w g cur t fz hg]
    rfl
  | v :: rest, i, cur, w, hg, hfz, hl, h1 => by
    have hi : o + i < cur.size := by simp at hl; omega
    have hadd : (⟨g, o, none⟩ : Addr).add i = ⟨g, o + i, none⟩ := by unfold Addr.add; split <;> simp_all
    have hcell : w.cell? ⟨g, o + i, none⟩ = some cur[o + i] := by simp [World.cell?, hg, hi]
    have hfro : w.frozen? ⟨g, o + i, none⟩ = false := by
      have := hfz (o + i) (Nat.le_refl _) (by simp)
      obtain ⟨lo, hi'⟩ := fz
      simp only [World.frozen?, hg, Bool.and_eq_false_iff, decide_eq_false_iff_not]
      simp only at this
      omega
    have hst : (store ((⟨g, o, none⟩ : Addr).add i) v).run P w = .ok () (w.setRow g (cur.setIfInBounds (o + i) v)) := by
      rw [hadd, run_store P w _ v _ (h1 v (by simp)), hcell]
      simp [hfro, setCell_eq_setRow w g (o + i) cur t fz v hg]
    have ih := run_storeCells_free P g o t fz rest (i + 1) (cur.setIfInBounds (o + i) v) (w.setRow g (cur.setIfInBounds (o + i) v)) (setRow_heap w g cur _ t _ hg) (fun j h1 h2 => hfz j (by omega) (by simp; omega)) (by simp at hl ⊢; omega) (fun x hx => h1 x (by simp [hx]))
    simp only [storeCells, Sem.run_bind, hst, Result.andThen_ok, ih, setRow_setRow]
    congr 3
    have e := list_seg_step cur.toList (o + i) v rest (by simp at hl ⊢; omega)
    simpa [Array.toList_setIfInBounds, Nat.add_assoc] using e
theorem seg_at_lt {l news : List Value} {k j : Nat} (hk : k + news.length ≤ l.length) (hj : j < k) : (l.take k ++ news ++ l.drop (k + news.length))[j]? = l[j]? := by
  rw [List.append_assoc, List.getElem?_append_left (by simp; omega), List.getElem?_take, if_pos hj]
theorem seg_at_new {l news : List Value} {k j : Nat} (hk : k + news.length ≤ l.length) (hj : j < news.length) : (l.take k ++ news ++ l.drop (k + news.length))[k + j]? = news[j]? := by
  have hl : (l.take k).length = k := by simp; omega
  rw [List.append_assoc, List.getElem?_append_right (by rw [hl]; omega), hl, Nat.add_sub_cancel_left, List.getElem?_append_left hj]
section
variable {P : Program} (w : World)
theorem run_append_roomA (t ty e : TypeId) (i : TypeInfo) (ht : P.underlying t = some (.slice e)) (hi : P.info? e = some i)
    (g o sLen sCap : Nat) (cur : Array Value) (fz : Nat × Nat) (hg : w.heap[g]? = some (.cells cur e fz))
    (a : Addr) (m c : Nat) (news : List Value) (hl : news.length = m * i.size) (hnews : ∀ j u, news[j]? = some u → w.cell? (a.add j) = some u) (h1 : ∀ u ∈ news, u.oneCell' = true)
    (hfz : ∀ j, o + sLen * i.size ≤ j → j < o + sLen * i.size + news.length → ¬ (fz.1 ≤ j ∧ j < fz.2))
    (hroom : sLen + m ≤ sCap) (hfit : o + sLen * i.size + news.length ≤ cur.size) :
    (Builtin.append_ #[t, t] ty #[.slice (some ⟨g, o, none⟩) sLen sCap, .slice (some a) m c]).run P w =
      .ok (.slice (some ⟨g, o, none⟩) (sLen + m) sCap) (w.setRow g (cur.toList.take (o + sLen * i.size) ++ news ++ cur.toList.drop (o + sLen * i.size + news.length)).toArray) := by
  have hf := run_firstCells_some (P := P) w i.size m a m c news hl hnews
  have hst := run_storeCells_free P g o e fz news (sLen * i.size) cur w hg hfz hfit h1
  have hst2 := run_storeCells_free P g (o + sLen * i.size) e fz news 0 cur w hg (by simpa using hfz) (by simpa using hfit) h1
  simp only [Nat.add_zero] at hst2
  have hadd : (⟨g, o, none⟩ : Addr).add (sLen * i.size) = ⟨g, o + sLen * i.size, none⟩ := by unfold Addr.add; split <;> simp_all
  simp [Builtin.append_, run_underlying ht, sizeOf, typeInfo, hi, Builtin.lenOf, hroom, hf, hadd, hst2]
theorem run_append_anyA (base : Nat) (t ty e : TypeId) (i : TypeInfo) (z : Value) (size bytes : Nat) (ht : P.underlying t = some (.slice e)) (hi : P.info? e = some i) (hz : i.zero = some z)
    (hsize : i.size = size) (hby : i.bytes = bytes) (hzs : z.cells.size = size) (hsz : 0 < size)
    (v : Value) (n : Nat) (xs : List Value) (hown : OwnA w base e size v n xs)
    (a : Addr) (m c : Nat) (news : List Value) (hl : news.length = m * size) (hnews : ∀ j u, news[j]? = some u → w.cell? (a.add j) = some u) (h1 : ∀ u ∈ news, u.oneCell' = true)
    (h63 : n + m ≤ maxLen) (hbytes : (n + m) * bytes ≤ 140737488355328) (hbase : base ≤ w.heap.size) :
    ∃ v' w', (Builtin.append_ #[t, t] ty #[v, .slice (some a) m c]).run P w = .ok v' w' ∧ OwnA w' base e size v' (n + m) (xs ++ news) ∧ w.grownBy w' (rowOf v) ∧ (rowOf v' = rowOf v ∨ rowOf v' = some w.heap.size) := by
  rcases hown.2 with ⟨ao, rfl, rfl⟩ | ⟨g, o, cap, cur, fz, rfl, hcp, hb⟩
  · have hxs : xs = [] := List.eq_nil_of_length_eq_zero (by have := hown.1; omega)
    subst hxs
    by_cases hm : m = 0
    · subst hm
      have hn : news = [] := List.eq_nil_of_length_eq_zero (by omega)
      subst hn
      refine ⟨.slice ao 0 0, w, ?_, by simpa using hown, ⟨rfl, rfl, rfl, Nat.le_refl _, fun _ _ _ => rfl⟩, .inl rfl⟩
      have hf := run_firstCells_some (P := P) w i.size 0 a 0 c [] (by simp) (by simp)
      have hf2 := run_firstCells_some (P := P) w size 0 a 0 c [] (by simp) (by simp)
      cases ao with
      | none => simp [Builtin.append_, run_underlying ht, sizeOf, typeInfo, hi, Builtin.lenOf, hf]
      | some b => simp [Builtin.append_, run_underlying ht, sizeOf, typeInfo, hi, Builtin.lenOf, hf, storeCells]
    · cases ao with
      | none =>
        obtain ⟨v', w', r1, r2, r3, _, r5⟩ := run_append_own_at (P := P) w base t ty e i z size bytes ht hi hz hsize hby hzs hsz (.slice none 0 0) 0 [] ⟨hown.1, .inl ⟨rfl, rfl⟩⟩ a m c news hl hnews h1 h63 hbytes hbase
        refine ⟨v', w', r1, .of r2, r3, ?_⟩
        rcases r2.2 with ⟨rfl, h0⟩ | ⟨g, cap, cur, rfl, q⟩
        · omega
        · right
          have hgc : 0 < cap := by have := q.2.2.1; omega
          rw [rowOf_pos _ _ _ hgc]
          rcases r5 with r5 | r5
          · simp [Value.ownBlock] at r5
          · simpa [Value.ownBlock] using r5
      | some b =>
        subst hsize
        subst hby
        have hsmall : 0 + m ≤ 9223372036854775807 := by simp only [maxLen] at h63; omega
        have hr := run_append_grow (P := P) w t ty e i z ht hi hz b 0 0 [] (by simp) (by simp) a m c news hl hnews (by omega) (by omega) (growslice_fits (by omega) hbytes)
        have hge := grownCap_ge w (0 + m) 0 e
        have hcm2 : grownCap w (0 + m) 0 e ≤ maxLen := grownCap_le_maxLen w (0 + m) 0 e h63
        refine ⟨_, _, hr, ⟨by rw [List.nil_append, hl, Nat.zero_add], .inr ⟨w.heap.size, 0, _, _, (0, 0), rfl, by omega, hbase, heap_alloc_new w.drew _, hge, hcm2, ?_, ?_, fun j _ _ => by simp⟩⟩, ⟨rfl, rfl, rfl, by simp, fun k hk _ => heap_alloc_old w.drew _ hk⟩, .inr (rowOf_pos _ _ _ (by omega))⟩
        · simp only [Array.size_append, List.size_toArray, size_zeroCells, hzs, hl, List.length_nil]
          have := Nat.mul_le_mul_right i.size hge
          simp only [Nat.zero_add] at this ⊢
          rw [Nat.sub_mul]
          omega
        · intro j u hu
          rw [List.nil_append] at hu
          rw [Nat.zero_add, Array.getElem?_append_left (by
            have := (List.getElem?_eq_some_iff.1 hu).1
            simpa using this)]
          simpa using hu
  · subst hsize
    subst hby
    have hsmall : n + m ≤ 9223372036854775807 := by simp only [maxLen] at h63; omega
    have hlen : (xs ++ news).length = (n + m) * i.size := by rw [List.length_append, hown.1, hl, Nat.add_mul]
    have hxl := hown.1
    by_cases hroom : n + m ≤ cap
    · have hmul : (n + m) * i.size ≤ cap * i.size := Nat.mul_le_mul_right _ hroom
      rw [Nat.add_mul] at hmul
      have hfit : o + n * i.size + news.length ≤ cur.size := by have := hb.fit; omega
      have hr := run_append_roomA (P := P) w t ty e i ht hi g o n cap cur fz hb.blk a m c news hl hnews h1 (fun j k1 k2 => hb.free j (by omega) (by omega)) hroom hfit
      refine ⟨_, _, hr, ⟨hlen, .inr ⟨g, o, cap, _, fz, rfl, hcp, hb.bs, setRow_heap w g cur _ e _ hb.blk, hroom, hb.hc, ?_, ?_, ?_⟩⟩, ⟨rfl, rfl, rfl, by simp, fun k _ hk => setRow_other w g k _ (fun e => hk (by rw [rowOf_pos _ _ _ hcp, e]))⟩, .inl (by rw [rowOf_pos _ _ _ hcp, rowOf_pos _ _ _ hcp])⟩
      · simp only [List.size_toArray, List.length_append, List.length_take, List.length_drop, Array.length_toList]
        have := hb.fit
        omega
      · intro j u hu
        rw [List.getElem?_toArray]
        by_cases hj : j < xs.length
        · rw [List.getElem?_append_left hj] at hu
          rw [seg_at_lt (by simpa using hfit) (by omega)]
          have := hb.cells j u hu
          simpa using this
        · rw [List.getElem?_append_right (by omega)] at hu
          have hjn : j - xs.length < news.length := (List.getElem?_eq_some_iff.1 hu).1
          rw [show o + j = o + n * i.size + (j - xs.length) by omega, seg_at_new (by simpa using hfit) hjn]
          exact hu
      · intro j k1 k2
        exact hb.free j k1 k2
    · have holds : ∀ j u, xs[j]? = some u → w.cell? ((⟨g, o, none⟩ : Addr).add j) = some u := fun j u hu => by
        have hadd : (⟨g, o, none⟩ : Addr).add j = ⟨g, o + j, none⟩ := by unfold Addr.add; split <;> simp_all
        rw [hadd]
        unfold World.cell?
        rw [hb.blk]
        exact hb.cells j u hu
      have hr := run_append_grow (P := P) w t ty e i z ht hi hz ⟨g, o, none⟩ n cap xs hown.1 holds a m c news hl hnews (by omega) (by omega) (growslice_fits (by omega) hbytes)
      have hge := grownCap_ge w (n + m) cap e
      have hcm2 : grownCap w (n + m) cap e ≤ maxLen := grownCap_le_maxLen w (n + m) cap e h63
      refine ⟨_, _, hr, ⟨hlen, .inr ⟨w.heap.size, 0, _, _, (0, 0), rfl, by omega, hbase, heap_alloc_new w.drew _, hge, hcm2, ?_, ?_, fun j _ _ => by simp⟩⟩, ⟨rfl, rfl, rfl, by simp, fun k hk _ => heap_alloc_old w.drew _ hk⟩, .inr (rowOf_pos _ _ _ (by omega))⟩
      · simp only [Array.size_append, List.size_toArray, size_zeroCells, hzs, hown.1, hl]
        have := Nat.mul_le_mul_right i.size hge
        rw [Nat.add_mul] at this
        rw [Nat.sub_mul, Nat.add_mul]
        omega
      · intro j u hu
        rw [Nat.zero_add, Array.getElem?_append_left (by
          have := (List.getElem?_eq_some_iff.1 hu).1
          simpa using this)]
        simpa using hu
/-- append of nothing that is nil. -/
theorem run_append_nilA (base : Nat) (t ty e : TypeId) (i : TypeInfo) (size : Nat) (ht : P.underlying t = some (.slice e)) (hi : P.info? e = some i)
    (v : Value) (n : Nat) (xs : List Value) (hown : OwnA w base e size v n xs) (c : Nat) : (Builtin.append_ #[t, t] ty #[v, .slice none 0 c]).run P w = .ok v w := by
  rcases hown.2 with ⟨ao, rfl, rfl⟩ | ⟨g, o, cap, cur, fz, rfl, _, hb⟩
  · cases ao <;> simp [Builtin.append_, run_underlying ht, sizeOf, typeInfo, hi, Builtin.lenOf, Builtin.firstCells, storeCells]
  · have := hb.hn
    simp [Builtin.append_, run_underlying ht, sizeOf, typeInfo, hi, Builtin.lenOf, Builtin.firstCells, this, storeCells]
/-- append of a slice that lies there. -/
theorem run_append_svA (base : Nat) (t ty e : TypeId) (i : TypeInfo) (z : Value) (size bytes : Nat) (ht : P.underlying t = some (.slice e)) (hi : P.info? e = some i) (hz : i.zero = some z)
    (hsize : i.size = size) (hby : i.bytes = bytes) (hzs : z.cells.size = size) (hsz : 0 < size)
    (v : Value) (n : Nat) (xs : List Value) (hown : OwnA w base e size v n xs)
    (x : Value) (m : Nat) (news : List Value) (hx : SV w size x m news) (h1 : ∀ u ∈ news, u.oneCell' = true)
    (h63 : n + m ≤ maxLen) (hbytes : (n + m) * bytes ≤ 140737488355328) (hbase : base ≤ w.heap.size) :
    ∃ v' w', (Builtin.append_ #[t, t] ty #[v, x]).run P w = .ok v' w' ∧ OwnA w' base e size v' (n + m) (xs ++ news) ∧ w.grownBy w' (rowOf v) ∧ (rowOf v' = rowOf v ∨ rowOf v' = some w.heap.size) := by
  obtain ⟨ao, c, g, o, rfl, hs⟩ := hx
  cases ao with
  | none =>
    have hc := hs.bare rfl
    subst hc
    have hm : m = 0 := by have := hs.cap; omega
    subst hm
    have hn : news = [] := List.eq_nil_of_length_eq_zero (by have := hs.len; omega)
    subst hn
    exact ⟨v, w, run_append_nilA w base t ty e i size ht hi v n xs hown 0, by simpa using hown, ⟨rfl, rfl, rfl, Nat.le_refl _, fun _ _ _ => rfl⟩, .inl rfl⟩
  | some ad =>
    refine run_append_anyA (P := P) w base t ty e i z size bytes ht hi hz hsize hby hzs hsz v n xs hown ad m c news hs.len (fun j u hu => ?_) h1 h63 hbytes hbase
    rcases hs.lead with rfl | h
    · have hn : news = [] := List.eq_nil_of_length_eq_zero (by have := hs.len; omega)
      subst hn
      simp at hu
    · simp only [Option.some.injEq] at h
      subst h
      have hadd : (⟨g, o, none⟩ : Addr).add j = ⟨g, o + j, none⟩ := by unfold Addr.add; split <;> simp_all
      rw [hadd]
      exact hs.cells j u hu
end
/-- The operation, for the walk. -/
theorem wpList_append_sv {ops : Array Oper} {rest : List Oper} {o : Oper} {a : Act} {w : World} {Q : Exit → Act → World → Prop} {T E size bytes : Nat} {z : Value} (hgd : o.guard = none) (s x : Operand)
    (ho : o.op = .call { callee := .builtin .append, args := #[s, x], argTypes := #[T, T] }) (hT : Tryd.prog.underlying T = some (.slice E))
    (hE : (Tryd.prog.info? E).map (fun i => (i.zero, i.size, i.bytes)) = some (some z, size, bytes)) (hzs : z.cells.size = size) (hsz : 0 < size)
    (base n : Nat) (v : Value) (xs : List Value) (hs : a.eval s = v) (hown : OwnA w base E size v n xs)
    (y : Value) (m : Nat) (news : List Value) (hx : a.eval x = y) (hy : SV w size y m news) (h1 : ∀ u ∈ news, u.oneCell' = true)
    (h63 : n + m ≤ maxLen) (hbytes : (n + m) * bytes ≤ 140737488355328) (hbase : base ≤ w.heap.size)
    (h : ∀ v' w', OwnA w' base E size v' (n + m) (xs ++ news) → w.grownBy w' (rowOf v) → (rowOf v' = rowOf v ∨ rowOf v' = some w.heap.size) → wpList Tryd.prog ops Q rest (a.put o.dst v') w') : wpList Tryd.prog ops Q (o :: rest) a w := by
  obtain ⟨i, hi, hz0, hz1, hz2⟩ := info_parts hE
  refine wpList_plain hgd fun K hK => ?_
  obtain ⟨v', w', hr, h2, h3, h4⟩ := run_append_svA (P := Tryd.prog) w base T o.type E i z size bytes hT hi hz0 hz1 hz2 hzs hsz v n xs hown y m news hy h1 h63 hbytes hbase
  unfold Oper.wp execOp
  simp only [ho, resolve, invoke, builtin, Sem.run_bind, Sem.run_pure, Result.andThen_ok, List.map_toArray, List.map_cons, List.map_nil, hs, hx, hr]
  exact hK _ _ (h v' w' h2 h3 h4)
/-- A step of a region that draws its order. -/
theorem step_append_sv {ops : Array Oper} {o : Oper} {a : Act} {w : World} {K : Act → World → Prop} {Q : Exit → Act → World → Prop} {E' : Prop} {T E size bytes : Nat} {z : Value} (hgd : o.guard = none) (s x : Operand)
    (ho : o.op = .call { callee := .builtin .append, args := #[s, x], argTypes := #[T, T] }) (hT : Tryd.prog.underlying T = some (.slice E))
    (hE : (Tryd.prog.info? E).map (fun i => (i.zero, i.size, i.bytes)) = some (some z, size, bytes)) (hzs : z.cells.size = size) (hsz : 0 < size)
    (base n : Nat) (v : Value) (xs : List Value) (hs : a.eval s = v) (hown : OwnA w base E size v n xs)
    (y : Value) (m : Nat) (news : List Value) (hx : a.eval x = y) (hy : SV w size y m news) (h1 : ∀ u ∈ news, u.oneCell' = true)
    (h63 : n + m ≤ maxLen) (hbytes : (n + m) * bytes ≤ 140737488355328) (hbase : base ≤ w.heap.size)
    (h : ∀ v' w', OwnA w' base E size v' (n + m) (xs ++ news) → w.grownBy w' (rowOf v) → (rowOf v' = rowOf v ∨ rowOf v' = some w.heap.size) → K (a.put o.dst v') w') :
    if Region.wanted o (yielded ops a.tmps) = true then Oper.wp Tryd.prog o a w K Q else E' := by
  have hw : Region.wanted o (yielded ops a.tmps) = true := by simp [Region.wanted, hgd]
  rw [if_pos hw]
  obtain ⟨i, hi, hz0, hz1, hz2⟩ := info_parts hE
  obtain ⟨v', w', hr, h2, h3, h4⟩ := run_append_svA (P := Tryd.prog) w base T o.type E i z size bytes hT hi hz0 hz1 hz2 hzs hsz v n xs hown y m news hy h1 h63 hbytes hbase
  unfold Oper.wp execOp
  simp only [ho, resolve, invoke, builtin, Sem.run_bind, Sem.run_pure, Result.andThen_ok, List.map_toArray, List.map_cons, List.map_nil, hs, hx, hr]
  exact h v' w' h2 h3 h4
/-- Bytes as cells. -/
def bv (l : List UInt8) : List Value := l.map fun b => Value.int .u8 b.toNat
theorem bv_append (a b : List UInt8) : bv (a ++ b) = bv a ++ bv b := by simp [bv]
theorem bv_len (a : List UInt8) : (bv a).length = a.length := by simp [bv]
theorem bv_one (l : List UInt8) : ∀ u ∈ bv l, u.oneCell' = true := by
  intro u hu
  obtain ⟨b, _, rfl⟩ := List.mem_map.1 hu
  rfl
/-- What '[]byte(s)' makes. -/
theorem conv_bytes (w : World) (s : ByteArray) (base : Nat) (hb : base ≤ w.heap.size) (hs : s.size ≤ 1000000000) :
    OwnA (Lib.bytesWorld w 5 s) base 5 1 (.slice (some ⟨w.heap.size, 0, none⟩) s.size (grownCap w s.size 0 5)) s.size (bv s.data.toList) ∧ Below w.heap.size w (Lib.bytesWorld w 5 s) := by
  have hsz : s.data.toList.length = s.size := by rw [Array.length_toList]; rfl
  have hge : s.size ≤ grownCap w s.size 0 5 := grownCap_ge w s.size 0 5
  have hcm : grownCap w s.size 0 5 ≤ maxLen := grownCap_le_maxLen w s.size 0 5 (by unfold maxLen; omega)
  have hcs : (Lib.bytesCells w 5 s).size = grownCap w s.size 0 5 := by
    unfold Lib.bytesCells
    simp only [Array.size_append, Array.size_map, Array.size_replicate]
    have : s.data.size = s.size := rfl
    omega
  by_cases h0 : grownCap w s.size 0 5 = 0
  · rw [h0]
    have hs0 : s.size = 0 := by omega
    refine ⟨⟨by rw [bv_len, hsz, Nat.mul_one], .inl ⟨_, by rw [hs0], hs0⟩⟩, ⟨rfl, rfl, rfl, by rw [Lib.bytesWorld_size]; omega, fun k hk => Lib.bytesWorld_at_old w 5 s k hk⟩⟩
  refine ⟨⟨by rw [bv_len, hsz, Nat.mul_one], .inr ⟨w.heap.size, 0, _, _, _, rfl, by omega, hb, Lib.bytesWorld_at_new w 5 s, hge, hcm, by rw [hcs]; omega, fun j u hu => ?_, fun j k1 k2 => by simp only [hcs]; omega⟩⟩, ?_⟩
  · rw [Nat.zero_add]
    unfold Lib.bytesCells
    have hj : j < s.data.size := by
      have := (List.getElem?_eq_some_iff.1 hu).1
      rw [bv_len] at this
      simpa using this
    rw [Array.getElem?_append_left (by simpa using hj), Array.getElem?_map]
    rw [bv, List.getElem?_map] at hu
    simpa using hu
  · exact ⟨rfl, rfl, rfl, by rw [Lib.bytesWorld_size]; omega, fun k hk => Lib.bytesWorld_at_old w 5 s k hk⟩
end Go.Proofs.YtigaacbaaopfmaaDoor.sh
