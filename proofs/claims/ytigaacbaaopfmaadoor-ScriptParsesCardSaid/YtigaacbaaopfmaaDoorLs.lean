/- The program's lines of a text: walked. -/
import Derived.Test.YtigaacbaaopfmaaDoorWo
import Derived.Test.YtigaacbaaopfmaaDoorPc
import Derived.Lib.OthersKept
namespace Go.Proofs.YtigaacbaaopfmaaDoor.sh
open Go.RowKit
set_option linter.unusedVariables false
/-- A rune that begins high is of high bytes alone. -/
theorem decode_span (s : ByteArray) (p : Nat) (hp : p < s.size) (ha : 128 ≤ (s.get! (p + 0)).toNat) :
    p + (Utf8.decode s p).2 ≤ s.size ∧ 1 ≤ (Utf8.decode s p).2 ∧ ∀ j, j < (Utf8.decode s p).2 → 128 ≤ (s.get! (p + j)).toNat := by
  have hn : ¬ (s.get! (p + 0)).toNat < 128 := by omega
  have one : p + 1 ≤ s.size ∧ 1 ≤ 1 ∧ ∀ j, j < 1 → 128 ≤ (s.get! (p + j)).toNat := by
    refine ⟨by omega, Nat.le_refl _, fun j hj => ?_⟩
    have : j = 0 := by omega
    subst this
    exact ha
  simp only [Utf8.decode, hn, if_false]
  split
  · next h1 =>
    simp only [Bool.and_eq_true, decide_eq_true_eq, beq_iff_eq] at h1
    split
    · refine ⟨by simp only; omega, by simp only; omega, fun j hj => ?_⟩
      simp only at hj
      match j, hj with
      | 0, _ => exact ha
      | 1, _ => omega
    · exact one
  · split
    · next h1 =>
      simp only [Bool.and_eq_true, decide_eq_true_eq, beq_iff_eq] at h1
      split
      · refine ⟨by simp only; omega, by simp only; omega, fun j hj => ?_⟩
        simp only at hj
        match j, hj with
        | 0, _ => exact ha
        | 1, _ => omega
        | 2, _ => omega
      · exact one
    · split
      · next h1 =>
        simp only [Bool.and_eq_true, decide_eq_true_eq, beq_iff_eq] at h1
        split
        · refine ⟨by simp only; omega, by simp only; omega, fun j hj => ?_⟩
          simp only at hj
          match j, hj with
          | 0, _ => exact ha
          | 1, _ => omega
          | 2, _ => omega
          | 3, _ => omega
        · exact one
      · exact one
/-- Lines: cut at byte 10; what is behind the last one is a line if it is not empty. -/
def linesG (cur : List UInt8) : List UInt8 → List (List UInt8)
  | [] => if cur = [] then [] else [cur]
  | c :: r => if c = 10 then cur :: linesG [] r else linesG (cur ++ [c]) r
def linesL (l : List UInt8) : List (List UInt8) := linesG [] l
theorem linesG_high : ∀ (k : Nat) (cur l : List UInt8), (∀ j, j < k → ∃ c, l[j]? = some c ∧ c ≠ 10) → linesG cur l = linesG (cur ++ l.take k) (l.drop k)
  | 0, cur, l, h => by simp
  | k + 1, cur, l, h => by
    obtain ⟨c, hc, h10⟩ := h 0 (by omega)
    cases l with
    | nil => simp at hc
    | cons x r =>
      simp at hc
      subst hc
      rw [linesG, if_neg h10, linesG_high k (cur ++ [x]) r (fun j hj => by simpa using h (j + 1) (by omega))]
      simp
theorem own_iterAt {w : World} {base k E size n p : Nat} {v : Value} {xs : List Value} {s : ByteArray} (h : w.ownsRow base E size v n xs) (hk : k < base) : (w.iterAt k s p).ownsRow base E size v n xs := by
  refine ⟨h.1, ?_⟩
  rcases h.2 with h1 | ⟨g, cap, cur, h1, h2, h3, h4⟩
  · exact .inl h1
  · exact .inr ⟨g, cap, cur, h1, h2, (Lib.iterAt_other w k g s p (by omega)).trans h3, h4⟩
theorem own_mono {w : World} {base b E size n : Nat} {v : Value} {xs : List Value} (h : w.ownsRow base E size v n xs) (hk : b ≤ base) : w.ownsRow b E size v n xs := by
  refine ⟨h.1, ?_⟩
  rcases h.2 with h1 | ⟨g, cap, cur, h1, h2, h3, h4⟩
  · exact .inl h1
  · exact .inr ⟨g, cap, cur, h1, by omega, h3, h4⟩
theorem own_ne {w : World} {base E size n k : Nat} {v : Value} {xs : List Value} (h : w.ownsRow base E size v n xs) (hk : k < base) : ¬ some k = v.ownBlock := by
  intro e
  have := (h.lt k e.symm).1
  omega
/-- The iterator, the list and what lay before: behind an append. -/
theorem iter_new {w w1 : World} {E size n k p : Nat} {v : Value} {xs news : List Value} {s : ByteArray} (hit : w.heap[k]? = some (.stringIter s p)) (h : w.ownsRow (k + 1) E size v n xs) (hg : (w.alloc (.cells news.toArray E)).grownBy w1 v.ownBlock) : w1.heap[k]? = some (.stringIter s p) := by
  have hlt : k < w.heap.size := (Array.getElem?_eq_some_iff.1 hit).1
  rw [hg.block k (by simp; omega) (own_ne h (by omega)), ← hit]
  exact heap_alloc_old w _ hlt
/-- The rune at p. -/
theorem rune_at (s : ByteArray) (p : Nat) (hp : p < s.size) : ∃ c R K, s.data.toList[p]? = some c ∧ Utf8.decode s p = (R, K) ∧ 1 ≤ K ∧ p + K ≤ s.size ∧
    ((c.toNat < 128 ∧ R = c.toNat ∧ K = 1) ∨ (128 ≤ R ∧ 128 ≤ c.toNat ∧ ∀ j, j < K → ∃ x, (s.data.toList.drop p)[j]? = some x ∧ 128 ≤ x.toNat)) := by
  have hc : s.data.toList[p]? = some (s[p]'hp) := by
    rw [List.getElem?_eq_getElem (by simpa using hp)]; rfl
  refine ⟨_, (Utf8.decode s p).1, (Utf8.decode s p).2, hc, rfl, ?_⟩
  by_cases ha : (s[p]'hp).toNat < 128
  · rw [decode_ascii s p hp ha]
    exact ⟨Nat.le_refl _, by simp only; omega, .inl ⟨ha, rfl, rfl⟩⟩
  · have hd := decode_high s p hp (by omega)
    have hsp := decode_span s p hp (by rw [get_at s p hp]; omega)
    refine ⟨hsp.2.1, hsp.1, .inr ⟨hd.1, by omega, fun j hj => ?_⟩⟩
    have h2 := hsp.2.2 j hj
    have hlt : p + j < s.size := by omega
    have e : s.get! (p + j) = s[p + j]'hlt := by
      have := get_at s (p + j) hlt
      simpa using this
    refine ⟨s[p + j]'hlt, ?_, by rw [← e]; exact h2⟩
    rw [List.getElem?_drop, List.getElem?_eq_getElem (by simpa using hlt)]; rfl
theorem cut_more {s : List UInt8} {f p K : Nat} (hf : f ≤ p) : (s.drop f).take (p - f) ++ (s.drop p).take K = (s.drop f).take (p + K - f) := by
  have e : s.drop p = (s.drop f).drop (p - f) := by rw [List.drop_drop]; congr 1; omega
  rw [e, ← List.take_add]
  congr 1; omega
theorem own_alloc_lt {w : World} {k : Nat} {s : ByteArray} : (w.iter s k).heap[w.heap.size]? = some (.stringIter s k) := World.iter_heap w s k
/-- What a function that gathers texts gives back. -/
def TextsP (ws : List (List UInt8)) (w : World) (e : Ending) (w' : World) : Prop := ∃ v, e = .returned v ∧ w'.ownsRow w.heap.size 9 1 v ws.length (ss ws) ∧ Below w.heap.size w w'
set_option maxHeartbeats 4000000 in
set_option maxRecDepth 100000 in
theorem lines_walk (w : World) (s : ByteArray) (hs : s.size ≤ 3000000) : Calls Tryd.prog 43 #[.string s] w (TextsP (linesL s.data.toList) w) := by
  have HL : Aside0 (s.data.toList.length = s.size) := ⟨by rw [Array.length_toList]; rfl⟩
  obtain ⟨k, hk⟩ : ∃ k, w.heap.size = k := ⟨_, rfl⟩
  have hit0 := own_alloc_lt (w := w) (k := 0) (s := s)
  have hb0 : Below k w (w.iter s 0) := by rw [← hk]; exact (Below.refl _ w).alloc (Nat.le_refl _) _
  have hnil := World.ownsRow_nil (w.iter s 0) (k + 1) 9 1
  have HF : Aside0 (∀ (e : Ending) (w' : World), (∃ v, e = .returned v ∧ w'.ownsRow (k + 1) 9 1 v (linesL s.data.toList).length (ss (linesL s.data.toList)) ∧ Below k w w') → TextsP (linesL s.data.toList) w e w') := ⟨fun e w' ⟨v, h1, h2, h3⟩ => by subst hk; exact ⟨v, h1, own_mono h2 (by omega), h3⟩⟩
  obtain ⟨Q, hQ⟩ : ∃ Q, TextsP (linesL s.data.toList) w = Q := ⟨_, rfl⟩
  rw [hQ] at HF ⊢
  obtain ⟨res, hres⟩ : ∃ r, linesL s.data.toList = r := ⟨_, rfl⟩
  rw [hres] at HF
  have HR : Aside0 (linesL s.data.toList = res) := ⟨hres⟩
  clear hQ hres
  rw [hk] at hit0
  go_enter Tryd.func43, Tryd.ntmps43
  go_wp2
  go_loopg [3, 4, 5, 6] s.size (fun g v3 v4 v5 v6 wr => ∃ (p f : Nat) (done : List (List UInt8)), v4 = .int .i64 f ∧ p + g = s.size ∧ f ≤ p ∧ done.length ≤ p ∧ wr.heap[k]? = some (.stringIter s p) ∧ wr.ownsRow (k + 1) 9 1 v3 done.length (ss done) ∧ Aside0 (res = done ++ linesG ((s.data.toList.drop f).take (p - f)) (s.data.toList.drop p)) ∧ Below k w wr)
  case atStart => exact ⟨0, 0, [], rfl, by omega, Nat.le_refl _, Nat.le_refl _, hit0, hnil, ⟨by rw [← HR.out]; simp [linesL]⟩, hb0⟩
  case round =>
    obtain ⟨p, f, done, rfl, hpg, hfp, hdp, hit, hown, hA, hB⟩ := hrel
    clear hnil hit0 hb0
    have hlen := HL.out
    by_cases hp : p < s.size
    · obtain ⟨c, R, K, hc, hdec, hK1, hK2, hcase⟩ := rune_at s p hp
      obtain ⟨g, rfl⟩ : ∃ g, gk = g + K := ⟨gk - K, by omega⟩
      have hnx : ∀ ty, (Instr.next (.pointer (some ⟨k, 0, none⟩)) true ty).run Tryd.prog wr = .ok (.tuple #[.bool true, .int .i64 p, .int .i32 (R : Int)]) (wr.iterAt k s (p + K)) := fun ty => by
        rw [Lib.run_next_any_at wr k s p ty hit hp, hdec]
      have hit2 := Lib.iterAt_heap wr k s p (p + K) hit
      have hB2 := Lib.below_iterAt hB (k := k) (Nat.le_refl _) s (p + K)
      have hown2 := own_iterAt (s := s) (p := p + K) hown (Nat.lt_succ_self k)
      have hsz : k < (wr.iterAt k s (p + K)).heap.size := (Array.getElem?_eq_some_iff.1 hit2).1
      generalize wr.iterAt k s (p + K) = W at hnx hit2 hB2 hown2 hsz
      have hp1 : p ≤ 3000000 := by omega
      by_cases h10 : c = 10
      · subst h10
        have hRK : R = 10 ∧ K = 1 := by
          rcases hcase with ⟨_, h1, h2⟩ | ⟨_, h1, _⟩
          · exact ⟨h1, h2⟩
          · exact absurd h1 (by decide)
        obtain ⟨rfl, rfl⟩ := hRK
        obtain ⟨u, hu⟩ : ∃ u, s.extract f p = u := ⟨_, rfl⟩
        have hsl : ∀ W, (Instr.slice 9 (.string s) (some (.int .i64 (f : Int))) (some (.int .i64 (p : Int))) none).run Tryd.prog W = .ok (.string u) W := fun W => by
          rw [run_slice_string (h := Tryd.underlying9) (h0 := by omega) (h1 := by omega) (h2 := by omega), ← hu, Int.toNat_natCast, Int.toNat_natCast]
        have hdr : s.data.toList.drop p = 10 :: s.data.toList.drop (p + 1) := by
          obtain ⟨h1, h2⟩ := List.getElem?_eq_some_iff.1 hc
          rw [List.drop_eq_getElem_cons h1, h2]
        have A1 : Aside0 (res = (done ++ [(s.data.toList.drop f).take (p - f)]) ++ linesG ((s.data.toList.drop (p + 1)).take (p + 1 - (p + 1))) (s.data.toList.drop (p + 1))) := ⟨by
          rw [hA.out, hdr, linesG, if_pos rfl, Nat.sub_self, List.take_zero]; simp⟩
        have HU : Aside0 (ss [(s.data.toList.drop f).take (p - f)] = [Value.string u]) := ⟨by rw [← hu, extract_B]; rfl⟩
        have HD : Aside0 ((done ++ [(s.data.toList.drop f).take (p - f)]).length = done.length + 1) := ⟨by simp⟩
        clear hA hc hlen hu hcase hdec hdr
        generalize (s.data.toList.drop f).take (p - f) = piece at A1 HU HD
        have hnx : ∀ ty, (Instr.next (.pointer (some ⟨k, 0, none⟩)) true ty).run Tryd.prog wr = .ok (.tuple #[.bool true, .int .i64 p, .int .i32 10]) W := hnx
        go_wp2_with (at_builtin; (refine wpList_new (T := 74) (E := 9) (size := 1) (bytes := 16) rfl (.tmp 15) (.tmp 20) rfl Tryd.underlying74 info9 rfl (by decide) (k + 1) done.length _ (ss done) 1 1 [.string u] rfl hown2 rfl rfl (by intro x hx; simp at hx; subst hx; rfl) (by unfold maxLen; omega) (by omega) hsz rfl ?_; intro v1 w3 own2 gr1; have it3 := iter_new hit2 hown2 gr1; have bel1 := Below.grown (hB2.alloc (by omega) _) gr1 (by simp; omega) (fun j hj => Nat.le_of_lt (hown2.lt j hj).1)))
        go_roundg g
        case measure => omega
        case rel => exact ⟨p + 1, p + 1, done ++ [piece], by go_num, by omega, Nat.le_refl _, by rw [HD.out]; omega, it3, by rw [HD.out, ss_append, HU.out]; exact own2, A1, bel1⟩
      · have hne : ((R : Int) == 10) = false := beq_eq_false_iff_ne.2 (fun e => by
          rcases hcase with ⟨_, h1, h2⟩ | ⟨h1, _, _⟩
          · exact h10 (UInt8.toNat_inj.1 (by have : (10 : UInt8).toNat = 10 := rfl
                                             omega))
          · omega)
        have A1 : Aside0 (res = done ++ linesG ((s.data.toList.drop f).take (p + K - f)) (s.data.toList.drop (p + K))) := ⟨by
          rw [hA.out, linesG_high K _ (s.data.toList.drop p) (fun j hj => ?_), cut_more hfp, List.drop_drop]
          rcases hcase with ⟨_, h1, h2⟩ | ⟨h1, _, h3⟩
          · have : j = 0 := by omega
            subst this
            exact ⟨c, by rw [List.getElem?_drop]; exact hc, h10⟩
          · obtain ⟨x, hx1, hx2⟩ := h3 j hj
            exact ⟨x, hx1, fun e => by subst e; exact absurd hx2 (by decide)⟩⟩
        clear hA hc hlen hcase hdec h10
        go_wp2
        go_roundg g
        case measure => omega
        case rel => exact ⟨p + K, f, done, rfl, by omega, by omega, by omega, hit2, hown2, A1, hB2⟩
    · have hps : p = s.size := by omega
      have hnx : ∀ ty, (Instr.next (.pointer (some ⟨k, 0, none⟩)) true ty).run Tryd.prog wr = .ok (.tuple #[.bool false]) wr := fun ty => Lib.run_next_end_at wr k s p ty hit hp
      have hsz : k < wr.heap.size := (Array.getElem?_eq_some_iff.1 hit).1
      have hA1 : res = done ++ linesG (s.data.toList.drop f) [] := by
        rw [hA.out, List.drop_eq_nil_of_le (by omega : s.data.toList.length ≤ p), List.take_of_length_le (by rw [List.length_drop]; omega)]
      clear hA
      by_cases hf : f < s.size
      · have hlt : (f : Int) < (s.size : Int) := by omega
        obtain ⟨u, hu⟩ : ∃ u, s.extract f s.size = u := ⟨_, rfl⟩
        have hsl : ∀ W, (Instr.slice 9 (.string s) (some (.int .i64 (f : Int))) none none).run Tryd.prog W = .ok (.string u) W := fun W => by
          rw [run_slice_string_l (ht := Tryd.underlying9) (h0 := by omega) (h1 := by omega), ← hu, Int.toNat_natCast]
        have hne : s.data.toList.drop f ≠ [] := fun e => by
          have := congrArg List.length e
          rw [List.length_drop, List.length_nil] at this; omega
        have A1 : Aside0 (res = done ++ [s.data.toList.drop f]) := ⟨by rw [hA1, linesG, if_neg hne]⟩
        have HU : Aside0 (ss [s.data.toList.drop f] = [Value.string u]) := ⟨by rw [← hu, extract_B, List.take_of_length_le (by rw [List.length_drop]; omega)]; rfl⟩
        clear hA1 hlen hu hne
        have hp1 : p ≤ 3000000 := by omega
        go_wp2_with (at_builtin; (refine wpList_new (T := 74) (E := 9) (size := 1) (bytes := 16) rfl (.tmp 28) (.tmp 32) rfl Tryd.underlying74 info9 rfl (by decide) (k + 1) done.length _ (ss done) 1 1 [.string u] rfl hown rfl rfl (by intro x hx; simp at hx; subst hx; rfl) (by unfold maxLen; omega) (by omega) hsz rfl ?_; intro v1 w3 own2 gr1; have bel1 := Below.grown (hB.alloc (by omega) _) gr1 (by simp; omega) (fun j hj => Nat.le_of_lt (hown.lt j hj).1)))
        rw [← HU.out, ← ss_append, ← A1.out] at own2
        have HD : res.length = done.length + 1 := by rw [A1.out]; simp
        exact HF.out _ _ ⟨_, rfl, by rw [HD]; exact own2, bel1⟩
      · have hlt : ¬ (f : Int) < (s.size : Int) := by omega
        have A1 : Aside0 (res = done) := ⟨by rw [hA1, List.drop_eq_nil_of_le (by omega)]; simp [linesG]⟩
        clear hA1
        go_wp2
        rw [← A1.out] at hown
        exact HF.out _ _ ⟨_, rfl, hown, hB⟩
end Go.Proofs.YtigaacbaaopfmaaDoor.sh
