/- The program's words of a line: walked. -/
import Derived.Test.YtigaacbaaopfmaaDoorLs
namespace Go.Proofs.YtigaacbaaopfmaaDoor.sh
open Go.RowKit
set_option linter.unusedVariables false
def blank (c : UInt8) : Bool := c == 32 || c == 9
/-- Words: up to one that would begin with a number sign. -/
def wordsG : Option (List UInt8) → List UInt8 → List (List UInt8)
  | none, [] => []
  | some x, [] => [x]
  | none, c :: r => if c = 35 then [] else if blank c then wordsG none r else wordsG (some [c]) r
  | some x, c :: r => if blank c then x :: wordsG none r else wordsG (some (x ++ [c])) r
def wordsL (l : List UInt8) : List (List UInt8) := wordsG none l
theorem wordsG_high : ∀ (k : Nat) (x l : List UInt8), (∀ j, j < k → ∃ c, l[j]? = some c ∧ blank c = false) → wordsG (some x) l = wordsG (some (x ++ l.take k)) (l.drop k)
  | 0, x, l, h => by simp
  | k + 1, x, l, h => by
    obtain ⟨c, hc, hb⟩ := h 0 (by omega)
    cases l with
    | nil => simp at hc
    | cons y r =>
      simp at hc
      subst hc
      rw [wordsG, hb, if_neg (by decide), wordsG_high k (x ++ [y]) r (fun j hj => by simpa using h (j + 1) (by omega))]
      simp
theorem wordsG_begin (k : Nat) (l : List UInt8) (hk : 1 ≤ k) (h : ∀ j, j < k → ∃ c, l[j]? = some c ∧ blank c = false) (h0 : l[0]? ≠ some 35) : wordsG none l = wordsG (some (l.take k)) (l.drop k) := by
  obtain ⟨k, rfl⟩ : ∃ m, k = m + 1 := ⟨k - 1, by omega⟩
  obtain ⟨c, hc, hb⟩ := h 0 (by omega)
  cases l with
  | nil => simp at hc
  | cons y r =>
    simp at hc h0
    subst hc
    rw [wordsG, if_neg h0, hb, if_neg (by decide), wordsG_high k [y] r (fun j hj => by simpa using h (j + 1) (by omega))]
    simp
/-- Where the walk of words stands: from f (-1: between words), at p. -/
def WAt (s : List UInt8) (res : List (List UInt8)) (done : List (List UInt8)) (p : Nat) : Option Nat → Prop
  | none => res = done ++ wordsG none (s.drop p)
  | some f => f ≤ p ∧ res = done ++ wordsG (some ((s.drop f).take (p - f))) (s.drop p)
def from' : Option Nat → Int
  | none => -1
  | some f => f

theorem rune_no' {s : List UInt8} {p R K : Nat} {c : UInt8} (hcase : (c.toNat < 128 ∧ R = c.toNat ∧ K = 1) ∨ (128 ≤ R ∧ 128 ≤ c.toNat ∧ ∀ j, j < K → ∃ x, (s.drop p)[j]? = some x ∧ 128 ≤ x.toNat)) (hb : ¬ (c = 32 ∨ c = 9)) :
    ((R : Int) == 32) = false ∧ ((R : Int) == 9) = false ∧ ∀ l, l.drop p = c :: l.drop (p + 1) → l = s → ∀ j, j < K → ∃ x, (l.drop p)[j]? = some x ∧ blank x = false := by
  have n (d : UInt8) (h : c ≠ d) (hd : d.toNat < 128) : ((R : Int) == (d.toNat : Int)) = false := beq_eq_false_iff_ne.2 (fun e => by
    rcases hcase with ⟨_, h1, _⟩ | ⟨h1, _, _⟩
    · exact h (UInt8.toNat_inj.1 (by omega))
    · omega)
  refine ⟨n 32 (fun e => hb (.inl e)) (by decide), n 9 (fun e => hb (.inr e)) (by decide), fun l hl e j hj => ?_⟩
  subst e
  rcases hcase with ⟨_, h1, h2⟩ | ⟨_, _, h3⟩
  · have : j = 0 := by omega
    subst this
    refine ⟨c, by rw [hl]; rfl, ?_⟩
    unfold blank
    simp only [Bool.or_eq_false_iff, beq_eq_false_iff_ne]
    exact ⟨fun e => hb (.inl e), fun e => hb (.inr e)⟩
  · obtain ⟨x, h4, h5⟩ := h3 j hj
    refine ⟨x, h4, ?_⟩
    unfold blank
    simp only [Bool.or_eq_false_iff, beq_eq_false_iff_ne]
    exact ⟨fun e => by subst e; exact absurd h5 (by decide), fun e => by subst e; exact absurd h5 (by decide)⟩
theorem rune_35 {s : List UInt8} {p R K : Nat} {c : UInt8} (hcase : (c.toNat < 128 ∧ R = c.toNat ∧ K = 1) ∨ (128 ≤ R ∧ 128 ≤ c.toNat ∧ ∀ j, j < K → ∃ x, (s.drop p)[j]? = some x ∧ 128 ≤ x.toNat)) (hb : ¬ c = 35) : ((R : Int) == 35) = false :=
  beq_eq_false_iff_ne.2 (fun e => by
    rcases hcase with ⟨_, h1, _⟩ | ⟨h1, _, _⟩
    · exact hb (UInt8.toNat_inj.1 (by have : (35 : UInt8).toNat = 35 := rfl
                                      omega))
    · omega)

set_option maxHeartbeats 4000000 in
set_option maxRecDepth 100000 in
theorem words_walk (w : World) (s : ByteArray) (hs : s.size ≤ 3000000) : Calls Tryd.prog 44 #[.string s] w (TextsP (wordsL s.data.toList) w) := by
  have HL : Aside0 (s.data.toList.length = s.size) := ⟨by rw [Array.length_toList]; rfl⟩
  obtain ⟨k, hk⟩ : ∃ k, w.heap.size = k := ⟨_, rfl⟩
  have hit0 := own_alloc_lt (w := w) (k := 0) (s := s)
  have hb0 : Below k w (w.iter s 0) := by rw [← hk]; exact (Below.refl _ w).alloc (Nat.le_refl _) _
  have hnil := World.ownsRow_nil (w.iter s 0) (k + 1) 9 1
  have HF : Aside0 (∀ (e : Ending) (w' : World), (∃ v, e = .returned v ∧ w'.ownsRow (k + 1) 9 1 v (wordsL s.data.toList).length (ss (wordsL s.data.toList)) ∧ Below k w w') → TextsP (wordsL s.data.toList) w e w') := ⟨fun e w' ⟨v, h1, h2, h3⟩ => by subst hk; exact ⟨v, h1, own_mono h2 (by omega), h3⟩⟩
  obtain ⟨Q, hQ⟩ : ∃ Q, TextsP (wordsL s.data.toList) w = Q := ⟨_, rfl⟩
  rw [hQ] at HF ⊢
  obtain ⟨res, hres⟩ : ∃ r, wordsL s.data.toList = r := ⟨_, rfl⟩
  rw [hres] at HF
  have HR : Aside0 (wordsL s.data.toList = res) := ⟨hres⟩
  clear hQ hres
  rw [hk] at hit0
  go_enter Tryd.func44, Tryd.ntmps44
  go_wp2
  go_loopg [3, 4, 5, 6, 7] s.size (fun g v3 v4 v5 v6 v7 wr => ∃ (p : Nat) (f : Option Nat) (done : List (List UInt8)), v4 = .int .i64 (from' f) ∧ p + g = s.size ∧ done.length ≤ p ∧ wr.heap[k]? = some (.stringIter s p) ∧ wr.ownsRow (k + 1) 9 1 v3 done.length (ss done) ∧ Aside0 (WAt s.data.toList res done p f) ∧ Below k w wr)
  case atStart => exact ⟨0, none, [], rfl, by omega, Nat.le_refl _, hit0, hnil, ⟨by rw [← HR.out]; simp [wordsL, WAt]⟩, hb0⟩
  case round =>
    obtain ⟨p, f, done, rfl, hpg, hdp, hit, hown, hA, hB⟩ := hrel
    clear hnil hit0 hb0
    have hlen := HL.out
    by_cases hp : p < s.size
    · obtain ⟨c, R, K, hc, hdec, hK1, hK2, hcase⟩ := rune_at s p hp
      obtain ⟨g, rfl⟩ : ∃ g, gk = g + K := ⟨gk - K, by omega⟩
      have hnx : ∀ ty, (Instr.next (.pointer (some ⟨k, 0, none⟩)) true ty).run Tryd.prog wr = .ok (.tuple #[.bool true, .int .i64 p, .int .i32 (R : Int)]) (wr.iterAt k s (p + K)) := fun ty => by
        rw [Lib.run_next_any_at wr k s p ty hit hp, hdec]
      have hit2 := Lib.iterAt_heap wr k s p (p + K) hit
      have hB2 := Lib.below_iterAt hB (k := k) (Nat.le_refl _) s (p + K)
      have hown2 := own_iterAt (s := s) (p := p + K) hown (Nat.lt_succ_self k)
      have hsz : k < (wr.iterAt k s (p + K)).heap.size := (Array.getElem?_eq_some_iff.1 hit2).1
      generalize wr.iterAt k s (p + K) = W at hnx hit2 hB2 hown2 hsz
      have hp1 : p ≤ 3000000 := by omega
      have hone : c.toNat < 128 → R = c.toNat ∧ K = 1 := fun h => by
        rcases hcase with ⟨_, h1, h2⟩ | ⟨_, h1, _⟩
        · exact ⟨h1, h2⟩
        · omega
      have hdr : s.data.toList.drop p = c :: s.data.toList.drop (p + 1) := by
        obtain ⟨h1, h2⟩ := List.getElem?_eq_some_iff.1 hc
        rw [List.drop_eq_getElem_cons h1, h2]
      cases f with
      | none =>
        have hA1 : res = done ++ wordsG none (s.data.toList.drop p) := hA.out
        clear hA
        by_cases h35 : c = 35
        · subst h35
          obtain ⟨rfl, rfl⟩ := hone (by decide)
          have A1 : Aside0 (res = done) := ⟨by rw [hA1, hdr, wordsG, if_pos rfl, List.append_nil]⟩
          clear hA1 hone hcase hdec hdr hc hlen
          have hnx : ∀ ty, (Instr.next (.pointer (some ⟨k, 0, none⟩)) true ty).run Tryd.prog wr = .ok (.tuple #[.bool true, .int .i64 p, .int .i32 35]) W := hnx
          unfold from'
          go_wp2
          rw [← A1.out] at hown2
          exact HF.out _ _ ⟨_, rfl, hown2, hB2⟩
        · by_cases hbl : blank c = true
          · have A1 : Aside0 (WAt s.data.toList res done (p + 1) none) := ⟨by
              show res = done ++ wordsG none (s.data.toList.drop (p + 1))
              rw [hA1, hdr, wordsG, if_neg h35, if_pos hbl]⟩
            have hc2 : c = 32 ∨ c = 9 := by simpa [blank] using hbl
            clear hA1 hdr hbl
            rcases hc2 with rfl | rfl
            · obtain ⟨rfl, rfl⟩ := hone (by decide)
              clear hone hcase hdec hc hlen h35
              have hnx : ∀ ty, (Instr.next (.pointer (some ⟨k, 0, none⟩)) true ty).run Tryd.prog wr = .ok (.tuple #[.bool true, .int .i64 p, .int .i32 32]) W := hnx
              unfold from'
              go_wp2
              go_roundg g
              case measure => omega
              case rel => exact ⟨p + 1, none, done, rfl, by omega, by omega, hit2, hown2, A1, hB2⟩
            · obtain ⟨rfl, rfl⟩ := hone (by decide)
              clear hone hcase hdec hc hlen h35
              have hnx : ∀ ty, (Instr.next (.pointer (some ⟨k, 0, none⟩)) true ty).run Tryd.prog wr = .ok (.tuple #[.bool true, .int .i64 p, .int .i32 9]) W := hnx
              unfold from'
              go_wp2
              go_roundg g
              case measure => omega
              case rel => exact ⟨p + 1, none, done, rfl, by omega, by omega, hit2, hown2, A1, hB2⟩
          · obtain ⟨r1, r2, hsp⟩ := rune_no' hcase (by simpa [blank] using hbl)
            have r3 := rune_35 hcase h35
            have A1 : Aside0 (WAt s.data.toList res done (p + K) (some p)) := ⟨by
              refine ⟨by omega, ?_⟩
              rw [hA1, wordsG_begin K (s.data.toList.drop p) hK1 (hsp s.data.toList hdr rfl) (by rw [hdr]; simpa using h35), List.drop_drop, show p + K - p = K by omega]⟩
            clear hA1 hdr hbl hsp hone hcase hdec hc hlen h35
            have hpz : ¬ (p : Int) < 0 := by omega
            have hpz2 : (0 : Int) ≤ p := by omega
            unfold from'
            go_wp2
            go_roundg g
            case measure => omega
            case rel => exact ⟨p + K, some p, done, rfl, by omega, by omega, hit2, hown2, A1, hB2⟩
      | some f =>
        obtain ⟨hfp, hA1⟩ := hA.out
        clear hA
        have hpz : ¬ (f : Int) < 0 := by omega
        have hpz2 : (0 : Int) ≤ f := by omega
        by_cases hbl : blank c = true
        · obtain ⟨u, hu⟩ : ∃ u, s.extract f p = u := ⟨_, rfl⟩
          have hsl : ∀ W, (Instr.slice 9 (.string s) (some (.int .i64 (f : Int))) (some (.int .i64 (p : Int))) none).run Tryd.prog W = .ok (.string u) W := fun W => by
            rw [run_slice_string (h := Tryd.underlying9) (h0 := by omega) (h1 := by omega) (h2 := by omega), ← hu, Int.toNat_natCast, Int.toNat_natCast]
          have A1 : Aside0 (WAt s.data.toList res (done ++ [(s.data.toList.drop f).take (p - f)]) (p + 1) none) := ⟨by
            show res = (done ++ [(s.data.toList.drop f).take (p - f)]) ++ wordsG none (s.data.toList.drop (p + 1))
            rw [hA1, hdr, wordsG, if_pos hbl]; simp⟩
          have HU : Aside0 (ss [(s.data.toList.drop f).take (p - f)] = [Value.string u]) := ⟨by rw [← hu, extract_B]; rfl⟩
          have HD : Aside0 ((done ++ [(s.data.toList.drop f).take (p - f)]).length = done.length + 1) := ⟨by simp⟩
          have hc2 : c = 32 ∨ c = 9 := by simpa [blank] using hbl
          clear hA1 hdr hbl hu hlen
          generalize (s.data.toList.drop f).take (p - f) = piece at A1 HU HD
          rcases hc2 with rfl | rfl
          · obtain ⟨rfl, rfl⟩ := hone (by decide)
            clear hone hcase hdec hc
            have hnx : ∀ ty, (Instr.next (.pointer (some ⟨k, 0, none⟩)) true ty).run Tryd.prog wr = .ok (.tuple #[.bool true, .int .i64 p, .int .i32 32]) W := hnx
            unfold from'
            go_wp2_with (at_builtin; (refine wpList_new (T := 74) (E := 9) (size := 1) (bytes := 16) rfl (.tmp 39) (.tmp 44) rfl Tryd.underlying74 info9 rfl (by decide) (k + 1) done.length _ (ss done) 1 1 [.string u] rfl hown2 rfl rfl (by intro x hx; simp at hx; subst hx; rfl) (by unfold maxLen; omega) (by omega) hsz rfl ?_; intro v1 w3 own2 gr1; have it3 := iter_new hit2 hown2 gr1; have bel1 := Below.grown (hB2.alloc (by omega) _) gr1 (by simp; omega) (fun j hj => Nat.le_of_lt (hown2.lt j hj).1)))
            go_roundg g
            case measure => omega
            case rel => exact ⟨p + 1, none, done ++ [piece], rfl, by omega, by rw [HD.out]; omega, it3, by rw [HD.out, ss_append, HU.out]; exact own2, A1, bel1⟩
          · obtain ⟨rfl, rfl⟩ := hone (by decide)
            clear hone hcase hdec hc
            have hnx : ∀ ty, (Instr.next (.pointer (some ⟨k, 0, none⟩)) true ty).run Tryd.prog wr = .ok (.tuple #[.bool true, .int .i64 p, .int .i32 9]) W := hnx
            unfold from'
            go_wp2_with (at_builtin; (refine wpList_new (T := 74) (E := 9) (size := 1) (bytes := 16) rfl (.tmp 39) (.tmp 44) rfl Tryd.underlying74 info9 rfl (by decide) (k + 1) done.length _ (ss done) 1 1 [.string u] rfl hown2 rfl rfl (by intro x hx; simp at hx; subst hx; rfl) (by unfold maxLen; omega) (by omega) hsz rfl ?_; intro v1 w3 own2 gr1; have it3 := iter_new hit2 hown2 gr1; have bel1 := Below.grown (hB2.alloc (by omega) _) gr1 (by simp; omega) (fun j hj => Nat.le_of_lt (hown2.lt j hj).1)))
            go_roundg g
            case measure => omega
            case rel => exact ⟨p + 1, none, done ++ [piece], rfl, by omega, by rw [HD.out]; omega, it3, by rw [HD.out, ss_append, HU.out]; exact own2, A1, bel1⟩
        · obtain ⟨r1, r2, hsp⟩ := rune_no' hcase (by simpa [blank] using hbl)
          have A1 : Aside0 (WAt s.data.toList res done (p + K) (some f)) := ⟨by
            refine ⟨by omega, ?_⟩
            rw [hA1, wordsG_high K _ (s.data.toList.drop p) (hsp s.data.toList hdr rfl), cut_more hfp, List.drop_drop]⟩
          clear hA1 hdr hbl hsp hone hcase hdec hc hlen
          unfold from'
          go_wp2
          go_roundg g
          case measure => omega
          case rel => exact ⟨p + K, some f, done, rfl, by omega, by omega, hit2, hown2, A1, hB2⟩
    · have hnx : ∀ ty, (Instr.next (.pointer (some ⟨k, 0, none⟩)) true ty).run Tryd.prog wr = .ok (.tuple #[.bool false]) wr := fun ty => Lib.run_next_end_at wr k s p ty hit hp
      have hsz : k < wr.heap.size := (Array.getElem?_eq_some_iff.1 hit).1
      have hp1 : p ≤ 3000000 := by omega
      cases f with
      | none =>
        have A1 : Aside0 (res = done) := ⟨by
          have := hA.out
          unfold WAt at this
          rw [this, List.drop_eq_nil_of_le (by omega), wordsG, List.append_nil]⟩
        clear hA
        unfold from'
        go_wp2
        rw [← A1.out] at hown
        exact HF.out _ _ ⟨_, rfl, hown, hB⟩
      | some f =>
        obtain ⟨hfp, hA1⟩ := hA.out
        clear hA
        have hpz2 : (0 : Int) ≤ f := by omega
        obtain ⟨u, hu⟩ : ∃ u, s.extract f s.size = u := ⟨_, rfl⟩
        have hsl : ∀ W, (Instr.slice 9 (.string s) (some (.int .i64 (f : Int))) none none).run Tryd.prog W = .ok (.string u) W := fun W => by
          rw [run_slice_string_l (ht := Tryd.underlying9) (h0 := by omega) (h1 := by omega), ← hu, Int.toNat_natCast]
        have A1 : Aside0 (res = done ++ [s.data.toList.drop f]) := ⟨by
          rw [hA1, List.drop_eq_nil_of_le (by omega : s.data.toList.length ≤ p), wordsG, List.take_of_length_le (by rw [List.length_drop]; omega)]⟩
        have HU : Aside0 (ss [s.data.toList.drop f] = [Value.string u]) := ⟨by rw [← hu, extract_B, List.take_of_length_le (by rw [List.length_drop]; omega)]; rfl⟩
        clear hA1 hlen hu
        unfold from'
        go_wp2_with (at_builtin; (refine wpList_new (T := 74) (E := 9) (size := 1) (bytes := 16) rfl (.tmp 48) (.tmp 52) rfl Tryd.underlying74 info9 rfl (by decide) (k + 1) done.length _ (ss done) 1 1 [.string u] rfl hown rfl rfl (by intro x hx; simp at hx; subst hx; rfl) (by unfold maxLen; omega) (by omega) hsz rfl ?_; intro v1 w3 own2 gr1; have bel1 := Below.grown (hB.alloc (by omega) _) gr1 (by simp; omega) (fun j hj => Nat.le_of_lt (hown.lt j hj).1)))
        rw [← HU.out, ← ss_append, ← A1.out] at own2
        have HD : res.length = done.length + 1 := by rw [A1.out]; simp
        exact HF.out _ _ ⟨_, rfl, by rw [HD]; exact own2, bel1⟩
end Go.Proofs.YtigaacbaaopfmaaDoor.sh
