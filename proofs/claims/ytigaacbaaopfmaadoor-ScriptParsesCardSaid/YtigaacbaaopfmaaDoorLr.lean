/- The document's Lines and Words: walked. -/
import Derived.Test.YtigaacbaaopfmaaDoorWs
import Derived.Deep.LoopGhost
namespace Go.Proofs.YtigaacbaaopfmaaDoor.sh
open Go.RowKit
set_option linter.unusedVariables false
theorem neB {c d : UInt8} (h : ¬ c = d) : ((c.toNat : Int) == (d.toNat : Int)) = false := beq_eq_false_iff_ne.2 (fun e => h (UInt8.toNat_inj.1 (by omega)))
theorem below_app9 {w wr w1 : World} {E size : Nat} {news : List Value} {v : Value} {n : Nat} {xs : List Value} (hB : Below w.heap.size w wr) (hown : wr.ownsRow w.heap.size E size v n xs) (hg : (wr.alloc (.cells news.toArray E)).grownBy w1 v.ownBlock) : Below w.heap.size w w1 := below_new rfl hB hown hg
set_option maxHeartbeats 4000000 in
set_option maxRecDepth 100000 in
theorem rlines_walk (w : World) (s : ByteArray) (hs : s.size ≤ 3000000) : Calls Tryd.prog 63 #[.string s] w (TextsP (linesL s.data.toList) w) := by
  have HL : Aside0 (s.data.toList.length = s.size) := ⟨by rw [Array.length_toList]; rfl⟩
  have hnil := World.ownsRow_nil w w.heap.size 9 1
  have HF : Aside0 (∀ (e : Ending) (w' : World), (∃ v, e = .returned v ∧ w'.ownsRow w.heap.size 9 1 v (linesL s.data.toList).length (ss (linesL s.data.toList)) ∧ Below w.heap.size w w') → TextsP (linesL s.data.toList) w e w') := ⟨fun e w' ⟨v, h1, h2, h3⟩ => ⟨v, h1, h2, h3⟩⟩
  obtain ⟨Q, hQ⟩ : ∃ Q, TextsP (linesL s.data.toList) w = Q := ⟨_, rfl⟩
  rw [hQ] at HF ⊢
  obtain ⟨res, hres⟩ : ∃ r, linesL s.data.toList = r := ⟨_, rfl⟩
  rw [hres] at HF
  have HR : Aside0 (linesL s.data.toList = res) := ⟨hres⟩
  clear hQ hres
  go_enter Tryd.func63, Tryd.ntmps63
  go_wp2
  go_loopg [3, 4, 5] s.size (fun g v3 v4 v5 wr => ∃ (k f : Nat) (done : List (List UInt8)), v5 = .int .i64 k ∧ v4 = .int .i64 f ∧ k + g = s.size ∧ f ≤ k ∧ done.length ≤ k ∧ wr.ownsRow w.heap.size 9 1 v3 done.length (ss done) ∧ Aside0 (res = done ++ linesG ((s.data.toList.drop f).take (k - f)) (s.data.toList.drop k)) ∧ Below w.heap.size w wr)
  case atStart => exact ⟨0, 0, [], rfl, rfl, by omega, Nat.le_refl _, Nat.le_refl _, hnil, ⟨by rw [← HR.out]; simp [linesL]⟩, Below.refl _ _⟩
  case round =>
    obtain ⟨k, f, done, rfl, rfl, hkg, hfk, hdk, hown, hA, hB⟩ := hrel
    clear hnil
    have hlen := HL.out
    by_cases hk : k < s.size
    · obtain ⟨g, rfl⟩ : ∃ g, gk = g + 1 := ⟨gk - 1, by omega⟩
      have hlt : (k : Int) < (s.size : Int) := by omega
      obtain ⟨c, hc⟩ : ∃ c, s.data.toList[k]? = some c := ⟨_, List.getElem?_eq_getElem (by omega)⟩
      have hi := index_at s k c hc
      have hk1 : k ≤ 3000000 := by omega
      have hdr : s.data.toList.drop k = c :: s.data.toList.drop (k + 1) := by
        obtain ⟨h1, h2⟩ := List.getElem?_eq_some_iff.1 hc
        rw [List.drop_eq_getElem_cons h1, h2]
      by_cases h10 : c = 10
      · subst h10
        obtain ⟨u, hu⟩ : ∃ u, s.extract f k = u := ⟨_, rfl⟩
        have hsl : ∀ W, (Instr.slice 9 (.string s) (some (.int .i64 (f : Int))) (some (.int .i64 (k : Int))) none).run Tryd.prog W = .ok (.string u) W := fun W => by
          rw [run_slice_string (h := Tryd.underlying9) (h0 := by omega) (h1 := by omega) (h2 := by omega), ← hu, Int.toNat_natCast, Int.toNat_natCast]
        have A1 : Aside0 (res = (done ++ [(s.data.toList.drop f).take (k - f)]) ++ linesG ((s.data.toList.drop (k + 1)).take (k + 1 - (k + 1))) (s.data.toList.drop (k + 1))) := ⟨by
          rw [hA.out, hdr, linesG, if_pos rfl, Nat.sub_self, List.take_zero]; simp⟩
        have HU : Aside0 (ss [(s.data.toList.drop f).take (k - f)] = [Value.string u]) := ⟨by rw [← hu, extract_B]; rfl⟩
        have HD : Aside0 ((done ++ [(s.data.toList.drop f).take (k - f)]).length = done.length + 1) := ⟨by simp⟩
        clear hA hc hlen hu hdr
        generalize (s.data.toList.drop f).take (k - f) = piece at A1 HU HD
        have hi : ∀ W, (Instr.index 9 (.string s) (.int .i64 (k : Int))).run Tryd.prog W = .ok (.int .u8 10) W := hi
        go_wp2_with (at_builtin; (refine wpList_new (T := 74) (E := 9) (size := 1) (bytes := 16) rfl (.tmp 16) (.tmp 21) rfl Tryd.underlying74 info9 rfl (by decide) w.heap.size done.length _ (ss done) 1 1 [.string u] rfl hown rfl rfl (by intro x hx; simp at hx; subst hx; rfl) (by unfold maxLen; omega) (by omega) hB.size rfl ?_; intro v1 w3 own2 gr1; have bel1 := below_app9 hB hown gr1))
        go_roundg g
        case measure => omega
        case rel => exact ⟨k + 1, k + 1, done ++ [piece], by go_num, by go_num, by omega, Nat.le_refl _, by rw [HD.out]; omega, by rw [HD.out, ss_append, HU.out]; exact own2, A1, bel1⟩
      · have hne : ((c.toNat : Int) == 10) = false := neB h10
        have A1 : Aside0 (res = done ++ linesG ((s.data.toList.drop f).take (k + 1 - f)) (s.data.toList.drop (k + 1))) := ⟨by
          rw [hA.out, hdr, linesG, if_neg h10, show [c] = (s.data.toList.drop k).take 1 by rw [hdr]; rfl, cut_more hfk]⟩
        clear hA hc hlen h10 hdr
        generalize c.toNat = cc at hi hne
        go_wp2
        go_roundg g
        case measure => omega
        case rel => exact ⟨k + 1, f, done, by go_num, rfl, by omega, by omega, by omega, hown, A1, hB⟩
    · obtain rfl : k = s.size := by omega
      have hlt : ¬ (s.size : Int) < (s.size : Int) := by omega
      have hA1 : res = done ++ linesG (s.data.toList.drop f) [] := by
        rw [hA.out, List.drop_eq_nil_of_le (by omega : s.data.toList.length ≤ s.size), List.take_of_length_le (by rw [List.length_drop]; omega)]
      clear hA
      by_cases hf : f < s.size
      · have hlt2 : (f : Int) < (s.size : Int) := by omega
        obtain ⟨u, hu⟩ : ∃ u, s.extract f s.size = u := ⟨_, rfl⟩
        have hsl : ∀ W, (Instr.slice 9 (.string s) (some (.int .i64 (f : Int))) none none).run Tryd.prog W = .ok (.string u) W := fun W => by
          rw [run_slice_string_l (ht := Tryd.underlying9) (h0 := by omega) (h1 := by omega), ← hu, Int.toNat_natCast]
        have hne : s.data.toList.drop f ≠ [] := fun e => by
          have := congrArg List.length e
          rw [List.length_drop, List.length_nil] at this; omega
        have A1 : Aside0 (res = done ++ [s.data.toList.drop f]) := ⟨by rw [hA1, linesG, if_neg hne]⟩
        have HU : Aside0 (ss [s.data.toList.drop f] = [Value.string u]) := ⟨by rw [← hu, extract_B, List.take_of_length_le (by rw [List.length_drop]; omega)]; rfl⟩
        clear hA1 hlen hu hne
        go_wp2_with (at_builtin; (refine wpList_new (T := 74) (E := 9) (size := 1) (bytes := 16) rfl (.tmp 29) (.tmp 33) rfl Tryd.underlying74 info9 rfl (by decide) w.heap.size done.length _ (ss done) 1 1 [.string u] rfl hown rfl rfl (by intro x hx; simp at hx; subst hx; rfl) (by unfold maxLen; omega) (by omega) hB.size rfl ?_; intro v1 w3 own2 gr1; have bel1 := below_app9 hB hown gr1))
        rw [← HU.out, ← ss_append, ← A1.out] at own2
        have HD : res.length = done.length + 1 := by rw [A1.out]; simp
        exact HF.out _ _ ⟨_, rfl, by rw [HD]; exact own2, bel1⟩
      · have hlt2 : ¬ (f : Int) < (s.size : Int) := by omega
        have A1 : Aside0 (res = done) := ⟨by rw [hA1, List.drop_eq_nil_of_le (by omega)]; simp [linesG]⟩
        clear hA1
        go_wp2
        rw [← A1.out] at hown
        exact HF.out _ _ ⟨_, rfl, hown, hB⟩
set_option maxHeartbeats 4000000 in
set_option maxRecDepth 100000 in
theorem rwords_walk (w : World) (s : ByteArray) (hs : s.size ≤ 3000000) : Calls Tryd.prog 64 #[.string s] w (TextsP (wordsL s.data.toList) w) := by
  have HL : Aside0 (s.data.toList.length = s.size) := ⟨by rw [Array.length_toList]; rfl⟩
  have hnil := World.ownsRow_nil w w.heap.size 9 1
  have HF : Aside0 (∀ (e : Ending) (w' : World), (∃ v, e = .returned v ∧ w'.ownsRow w.heap.size 9 1 v (wordsL s.data.toList).length (ss (wordsL s.data.toList)) ∧ Below w.heap.size w w') → TextsP (wordsL s.data.toList) w e w') := ⟨fun e w' ⟨v, h1, h2, h3⟩ => ⟨v, h1, h2, h3⟩⟩
  obtain ⟨Q, hQ⟩ : ∃ Q, TextsP (wordsL s.data.toList) w = Q := ⟨_, rfl⟩
  rw [hQ] at HF ⊢
  obtain ⟨res, hres⟩ : ∃ r, wordsL s.data.toList = r := ⟨_, rfl⟩
  rw [hres] at HF
  have HR : Aside0 (wordsL s.data.toList = res) := ⟨hres⟩
  clear hQ hres
  go_enter Tryd.func64, Tryd.ntmps64
  go_wp2
  go_loopg [3, 4] s.size (fun g v3 v4 wr => ∃ (p : Nat) (done : List (List UInt8)), v4 = .int .i64 p ∧ p + g = s.size ∧ done.length ≤ p ∧ wr.ownsRow w.heap.size 9 1 v3 done.length (ss done) ∧ Aside0 (res = done ++ wordsG none (s.data.toList.drop p)) ∧ Below w.heap.size w wr)
  case atStart => exact ⟨0, [], rfl, by omega, Nat.le_refl _, hnil, ⟨by rw [← HR.out]; simp [wordsL]⟩, Below.refl _ _⟩
  case round =>
    obtain ⟨p, done, rfl, hpg, hdp, hown, hA, hB⟩ := hrel
    clear hnil
    have hlen := HL.out
    by_cases hp : p < s.size
    · have hlt : (p : Int) < (s.size : Int) := by omega
      obtain ⟨c, hc⟩ : ∃ c, s.data.toList[p]? = some c := ⟨_, List.getElem?_eq_getElem (by omega)⟩
      have hi := index_at s p c hc
      have hp1 : p ≤ 3000000 := by omega
      have hdr : s.data.toList.drop p = c :: s.data.toList.drop (p + 1) := by
        obtain ⟨h1, h2⟩ := List.getElem?_eq_some_iff.1 hc
        rw [List.drop_eq_getElem_cons h1, h2]
      have hA1 := hA.out
      clear hA
      by_cases hbl : blank c = true
      · obtain ⟨g, rfl⟩ : ∃ g, gk = g + 1 := ⟨gk - 1, by omega⟩
        have hc2 : c = 32 ∨ c = 9 := by simpa [blank] using hbl
        have h35 : ¬ c = 35 := by rintro rfl; rcases hc2 with h | h <;> exact absurd h (by decide)
        have A1 : Aside0 (res = done ++ wordsG none (s.data.toList.drop (p + 1))) := ⟨by rw [hA1, hdr, wordsG, if_neg h35, if_pos hbl]⟩
        clear hA1 hdr hbl hc hlen h35
        rcases hc2 with rfl | rfl
        · have hi : ∀ W, (Instr.index 9 (.string s) (.int .i64 (p : Int))).run Tryd.prog W = .ok (.int .u8 32) W := hi
          go_wp2
          go_roundg g
          case measure => omega
          case rel => exact ⟨p + 1, done, by go_num, by omega, by omega, hown, A1, hB⟩
        · have hi : ∀ W, (Instr.index 9 (.string s) (.int .i64 (p : Int))).run Tryd.prog W = .ok (.int .u8 9) W := hi
          go_wp2
          go_roundg g
          case measure => omega
          case rel => exact ⟨p + 1, done, by go_num, by omega, by omega, hown, A1, hB⟩
      · by_cases h35 : c = 35
        · subst h35
          have A1 : Aside0 (res = done) := ⟨by rw [hA1, hdr, wordsG, if_pos rfl, List.append_nil]⟩
          clear hA1 hdr hbl hc hlen
          have hi : ∀ W, (Instr.index 9 (.string s) (.int .i64 (p : Int))).run Tryd.prog W = .ok (.int .u8 35) W := hi
          go_wp2
          rw [← A1.out] at hown
          exact HF.out _ _ ⟨_, rfl, hown, hB⟩
        · have n32 : ((c.toNat : Int) == 32) = false := neB (d := 32) (fun e => hbl (by rw [e]; rfl))
          have n9 : ((c.toNat : Int) == 9) = false := neB (d := 9) (fun e => hbl (by rw [e]; rfl))
          have n35 : ((c.toNat : Int) == 35) = false := neB (d := 35) h35
          have hdrop : ∀ (j : Nat) (d : UInt8), s.data.toList[j]? = some d → s.data.toList.drop j = d :: s.data.toList.drop (j + 1) := fun j d h => by
            obtain ⟨h1, h2⟩ := List.getElem?_eq_some_iff.1 h
            rw [List.drop_eq_getElem_cons h1, h2]
          have hA0 : res = done ++ wordsG (some ((s.data.toList.drop p).take 1)) (s.data.toList.drop (p + 1)) := by
            rw [hA1, wordsG_begin 1 _ (Nat.le_refl _) (fun j hj => ⟨c, by have : j = 0 := by omega
                                                                          subst this; rw [hdr]; rfl, by simpa using hbl⟩) (by rw [hdr]; simpa using h35), List.drop_drop]
          have HST : Aside0 (s.data.toList.length = s.size ∧ blank c = false ∧ s.data.toList[p]? = some c ∧ res = done ++ wordsG (some ((s.data.toList.drop p).take 1)) (s.data.toList.drop (p + 1)) ∧ ∀ (j : Nat) (d : UInt8), s.data.toList[j]? = some d → s.data.toList.drop j = d :: s.data.toList.drop (j + 1)) := ⟨hlen, by simpa using hbl, hc, hA0, hdrop⟩
          clear hA1 hdr hbl hc hlen h35 hA0 hdrop
          generalize hcc : c.toNat = cc at hi n32 n9 n35
          clear hcc
          go_wp2
          go_loopg [4] (s.size - p) (fun g v4 w2 => ∃ (j : Nat), v4 = .int .i64 j ∧ p ≤ j ∧ j + g = s.size ∧ Aside0 (j = p ∨ (p < j ∧ res = done ++ wordsG (some ((s.data.toList.drop p).take (j - p))) (s.data.toList.drop j))) ∧ w2 = wr)
          case atStart => exact ⟨p, rfl, Nat.le_refl _, by omega, ⟨.inl rfl⟩, rfl⟩
          case round =>
            obtain ⟨j, rfl, hpj, hjg, hJ, rfl⟩ := hrel
            clear hi n32 n9 n35
            obtain ⟨hlen, hbc, hcp, hA0, hdrop⟩ := HST.out
            by_cases hj : j < s.size
            · have hlj : (j : Int) < (s.size : Int) := by omega
              obtain ⟨d, hd⟩ : ∃ d, s.data.toList[j]? = some d := ⟨_, List.getElem?_eq_getElem (by omega)⟩
              have hij := index_at s j d hd
              by_cases hbd : blank d = true
              · have hd2 : d = 32 ∨ d = 9 := by simpa [blank] using hbd
                have hlt2 : p < j ∧ res = done ++ wordsG (some ((s.data.toList.drop p).take (j - p))) (s.data.toList.drop j) := by
                  rcases hJ.out with h | h
                  · subst h
                    rw [hcp] at hd
                    cases hd
                    rw [hbc] at hbd
                    cases hbd
                  · exact h
                obtain ⟨hpj2, hA2⟩ := hlt2
                obtain ⟨q, hq⟩ : ∃ q, q + j = s.size := ⟨s.size - j, by omega⟩
                have h35 : ¬ d = 35 := by rintro rfl; rcases hd2 with h | h <;> exact absurd h (by decide)
                have A1 : Aside0 (res = (done ++ [(s.data.toList.drop p).take (j - p)]) ++ wordsG none (s.data.toList.drop j)) := ⟨by
                  rw [hA2, hdrop j d hd, wordsG, if_pos hbd, wordsG, if_neg h35, if_pos hbd]; simp⟩
                clear hA2 hJ hbd hd h35 hdrop hA0 hcp hbc hlen
                rcases hd2 with rfl | rfl
                · have hij : ∀ W, (Instr.index 9 (.string s) (.int .i64 (j : Int))).run Tryd.prog W = .ok (.int .u8 32) W := hij
                  obtain ⟨u, hu⟩ : ∃ u, s.extract p j = u := ⟨_, rfl⟩
                  have hsl : ∀ W, (Instr.slice 9 (.string s) (some (.int .i64 (p : Int))) (some (.int .i64 (j : Int))) none).run Tryd.prog W = .ok (.string u) W := fun W => by
                    rw [run_slice_string (h := Tryd.underlying9) (h0 := by omega) (h1 := by omega) (h2 := by omega), ← hu, Int.toNat_natCast, Int.toNat_natCast]
                  have HU : Aside0 (ss [(s.data.toList.drop p).take (j - p)] = [Value.string u]) := ⟨by rw [← hu, extract_B]; rfl⟩
                  have HD : Aside0 ((done ++ [(s.data.toList.drop p).take (j - p)]).length = done.length + 1) := ⟨by simp⟩
                  clear hu
                  generalize (s.data.toList.drop p).take (j - p) = piece at A1 HU HD
                  go_wp2_with (at_builtin; (refine wpList_new (T := 74) (E := 9) (size := 1) (bytes := 16) rfl (.tmp 46) (.tmp 51) rfl Tryd.underlying74 info9 rfl (by decide) w.heap.size done.length _ (ss done) 1 1 [.string u] rfl hown rfl rfl (by intro x hx; simp at hx; subst hx; rfl) (by unfold maxLen; omega) (by omega) hB.size rfl ?_; intro v1 w3 own2 gr1; have bel1 := below_app9 hB hown gr1))
                  go_roundg q
                  case measure => omega
                  case rel => exact ⟨j, done ++ [piece], by go_num, by omega, by rw [HD.out]; omega, by rw [HD.out, ss_append, HU.out]; exact own2, A1, bel1⟩
                · have hij : ∀ W, (Instr.index 9 (.string s) (.int .i64 (j : Int))).run Tryd.prog W = .ok (.int .u8 9) W := hij
                  obtain ⟨u, hu⟩ : ∃ u, s.extract p j = u := ⟨_, rfl⟩
                  have hsl : ∀ W, (Instr.slice 9 (.string s) (some (.int .i64 (p : Int))) (some (.int .i64 (j : Int))) none).run Tryd.prog W = .ok (.string u) W := fun W => by
                    rw [run_slice_string (h := Tryd.underlying9) (h0 := by omega) (h1 := by omega) (h2 := by omega), ← hu, Int.toNat_natCast, Int.toNat_natCast]
                  have HU : Aside0 (ss [(s.data.toList.drop p).take (j - p)] = [Value.string u]) := ⟨by rw [← hu, extract_B]; rfl⟩
                  have HD : Aside0 ((done ++ [(s.data.toList.drop p).take (j - p)]).length = done.length + 1) := ⟨by simp⟩
                  clear hu
                  generalize (s.data.toList.drop p).take (j - p) = piece at A1 HU HD
                  go_wp2_with (at_builtin; (refine wpList_new (T := 74) (E := 9) (size := 1) (bytes := 16) rfl (.tmp 46) (.tmp 51) rfl Tryd.underlying74 info9 rfl (by decide) w.heap.size done.length _ (ss done) 1 1 [.string u] rfl hown rfl rfl (by intro x hx; simp at hx; subst hx; rfl) (by unfold maxLen; omega) (by omega) hB.size rfl ?_; intro v1 w3 own2 gr1; have bel1 := below_app9 hB hown gr1))
                  go_roundg q
                  case measure => omega
                  case rel => exact ⟨j, done ++ [piece], by go_num, by omega, by rw [HD.out]; omega, by rw [HD.out, ss_append, HU.out]; exact own2, A1, bel1⟩
              · obtain ⟨g2, rfl⟩ : ∃ g2, gk = g2 + 1 := ⟨gk - 1, by omega⟩
                have m32 : ((d.toNat : Int) == 32) = false := neB (d := 32) (fun e => hbd (by rw [e]; rfl))
                have m9 : ((d.toNat : Int) == 9) = false := neB (d := 9) (fun e => hbd (by rw [e]; rfl))
                have m32' : ((d.toNat : Int) != 32) = true := by rw [bne, m32]; rfl
                have m9' : ((d.toNat : Int) != 9) = true := by rw [bne, m9]; rfl
                have A1 : Aside0 (j + 1 = p ∨ (p < j + 1 ∧ res = done ++ wordsG (some ((s.data.toList.drop p).take (j + 1 - p))) (s.data.toList.drop (j + 1)))) := ⟨by
                  refine .inr ⟨by omega, ?_⟩
                  rcases hJ.out with h | ⟨h1, h2⟩
                  · subst h
                    rw [show j + 1 - j = 1 by omega]
                    exact hA0
                  · rw [h2, hdrop j d hd, wordsG, if_neg hbd, show [d] = (s.data.toList.drop j).take 1 by rw [hdrop j d hd]; rfl, cut_more hpj]⟩
                clear hJ hbd hd hdrop hA0 hcp hbc hlen
                generalize d.toNat = dd at hij m32 m9 m32' m9'
                go_wp2
                go_roundg g2
                case measure => omega
                case rel => exact ⟨j + 1, by go_num, by omega, by omega, A1, rfl⟩
            · obtain rfl : j = s.size := by omega
              have hlj : ¬ (s.size : Int) < (s.size : Int) := by omega
              have hlt2 : p < s.size ∧ res = done ++ wordsG (some ((s.data.toList.drop p).take (s.size - p))) (s.data.toList.drop s.size) := by
                rcases hJ.out with h | h
                · omega
                · exact h
              obtain ⟨hpj2, hA2⟩ := hlt2
              obtain ⟨q, hq⟩ : ∃ q, q + s.size = s.size := ⟨0, by omega⟩
              have A1 : Aside0 (res = (done ++ [(s.data.toList.drop p).take (s.size - p)]) ++ wordsG none (s.data.toList.drop s.size)) := ⟨by
                rw [hA2, List.drop_eq_nil_of_le (by omega : s.data.toList.length ≤ s.size), wordsG, wordsG]; simp⟩
              clear hA2 hJ hdrop hA0 hcp hbc hlen
              obtain ⟨u, hu⟩ : ∃ u, s.extract p s.size = u := ⟨_, rfl⟩
              have hsl : ∀ W, (Instr.slice 9 (.string s) (some (.int .i64 (p : Int))) (some (.int .i64 (s.size : Int))) none).run Tryd.prog W = .ok (.string u) W := fun W => by
                rw [run_slice_string (h := Tryd.underlying9) (h0 := by omega) (h1 := by omega) (h2 := by omega), ← hu, Int.toNat_natCast, Int.toNat_natCast]
              have HU : Aside0 (ss [(s.data.toList.drop p).take (s.size - p)] = [Value.string u]) := ⟨by rw [← hu, extract_B]; rfl⟩
              have HD : Aside0 ((done ++ [(s.data.toList.drop p).take (s.size - p)]).length = done.length + 1) := ⟨by simp⟩
              clear hu
              generalize (s.data.toList.drop p).take (s.size - p) = piece at A1 HU HD
              go_wp2_with (at_builtin; (refine wpList_new (T := 74) (E := 9) (size := 1) (bytes := 16) rfl (.tmp 46) (.tmp 51) rfl Tryd.underlying74 info9 rfl (by decide) w.heap.size done.length _ (ss done) 1 1 [.string u] rfl hown rfl rfl (by intro x hx; simp at hx; subst hx; rfl) (by unfold maxLen; omega) (by omega) hB.size rfl ?_; intro v1 w3 own2 gr1; have bel1 := below_app9 hB hown gr1))
              go_roundg q
              case measure => omega
              case rel => exact ⟨s.size, done ++ [piece], by go_num, by omega, by rw [HD.out]; omega, by rw [HD.out, ss_append, HU.out]; exact own2, A1, bel1⟩
    · obtain rfl : p = s.size := by omega
      have hlt : ¬ (s.size : Int) < (s.size : Int) := by omega
      have A1 : Aside0 (res = done) := ⟨by
        rw [hA.out, List.drop_eq_nil_of_le (by omega), wordsG, List.append_nil]⟩
      clear hA
      go_wp2
      rw [← A1.out] at hown
      exact HF.out _ _ ⟨_, rfl, hown, hB⟩
end Go.Proofs.YtigaacbaaopfmaaDoor.sh
