/- The document's words, names, ranks, walked. -/
import Derived.Test.YthkmdmobeadigaaDoorWc
namespace Go.Proofs.YthkmdmobeadigaaDoor.lg
open Go.RowKit
set_option linter.unusedVariables false
set_option linter.unusedSimpArgs false
/-- What a function of one answer leaves that may make something. -/
def IsY (b : Bool) (w : World) (e : Ending) (w' : World) : Prop := e = .returned (.bool b) ∧ Below w.heap.size w w'
theorem cell_new (w : World) (cs : Array Value) (t : TypeId) (k : Nat) : (w.alloc (.cells cs t)).cell? ⟨w.heap.size, k, none⟩ = cs[k]? := by
  unfold World.cell?
  rw [heap_alloc_new]
  rfl
set_option maxHeartbeats 1000000 in
theorem word_walk (w : World) (s : ByteArray) : Calls Tryd.prog 54 #[.string s] w (IsY (wordB s.data.toList) w) := by
  have ht := toList_data
  obtain ⟨r, hr⟩ : ∃ r, wordB s.data.toList = r := ⟨_, rfl⟩
  rw [hr]
  have HR : Aside0 (wordB s.data.toList = r) := ⟨hr⟩
  have HT : Aside0 (∀ s : ByteArray, s.toList = s.data.toList) := ⟨ht⟩
  clear hr ht
  go_enter Tryd.func54, Tryd.ntmps54
  go_wp2
  go_loopg [4] 13 (fun g v wr => (Below w.heap.size w wr ∧ ∀ k, k < 13 → wr.cell? ⟨w.heap.size, k, none⟩ = some (.string (wordAt k))) ∧ ∃ k : Nat, v = .int .i64 k ∧ k + g = 13 ∧ Aside0 (∀ j, j < k → (wordsL.getD j []) ≠ s.data.toList))
  case atStart =>
    refine ⟨⟨(Below.refl _ _).alloc (Nat.le_refl _) _, fun k hk => ?_⟩, 0, rfl, by omega, ⟨fun j hj => by omega⟩⟩
    rw [cell_new]
    match k, hk with
    | 0, _ => rfl
    | 1, _ => rfl
    | 2, _ => rfl
    | 3, _ => rfl
    | 4, _ => rfl
    | 5, _ => rfl
    | 6, _ => rfl
    | 7, _ => rfl
    | 8, _ => rfl
    | 9, _ => rfl
    | 10, _ => rfl
    | 11, _ => rfl
    | 12, _ => rfl
    | k + 13, h => omega
  case round =>
    obtain ⟨⟨hB, hC⟩, k, rfl, hkg, hF⟩ := hrel
    by_cases hk : k < 13
    · have hlt : (k : Int) < 13 := by omega
      obtain ⟨q, rfl⟩ : ∃ q, gk = q + 1 := ⟨gk - 1, by omega⟩
      have hik := hC k hk
      have HC : Aside0 (∀ k, k < 13 → wr.cell? ⟨w.heap.size, k, none⟩ = some (.string (wordAt k))) := ⟨hC⟩
      clear hC
      by_cases he : (wordsL.getD k []) = s.data.toList
      · have hb : ((wordAt k).toList == s.toList) = true := by rw [HT.out, HT.out, wordAt]; simpa [B] using he
        have hr : r = true := by rw [← HR.out]; exact wordB_true hk he
        have HRR : Aside0 (r = true) := ⟨hr⟩
        clear hr he
        go_wp2
        go_ret
        exact ⟨ret_bool HRR.out.symm, hB⟩
      · have hb : ((wordAt k).toList == s.toList) = false := by rw [HT.out, HT.out, wordAt]; simpa [B] using he
        have HE : Aside0 (¬ (wordsL.getD k []) = s.data.toList) := ⟨he⟩
        clear he
        go_wp2
        go_roundg q
        case measure => omega
        case rel => exact ⟨⟨hB, HC.out⟩, k + 1, by go_num, by omega, ⟨fun j hj => by
          by_cases e : j = k
          · subst e; exact HE.out
          · exact hF.out j (by omega)⟩⟩
    · obtain rfl : k = 13 := by omega
      have hr : r = false := by rw [← HR.out]; exact wordB_false hF.out
      have HRR : Aside0 (r = false) := ⟨hr⟩
      clear hr hC
      go_wp2
      go_ret
      exact ⟨ret_bool HRR.out.symm, hB⟩
theorem nameB_word {s : List UInt8} (h : wordB s = true) : nameB s = false := by
  cases s with
  | nil => rfl
  | cons x r => simp [nameB, h]
set_option maxHeartbeats 1000000 in
theorem name_walk (w : World) (s : ByteArray) (hs : s.size ≤ 100000000) : Calls Tryd.prog 27 #[.string s] w (IsY (nameB s.data.toList) w) := by
  obtain ⟨r, hr⟩ : ∃ r, nameB s.data.toList = r := ⟨_, rfl⟩
  rw [hr]
  have HR : Aside0 (nameB s.data.toList = r) := ⟨hr⟩
  clear hr
  by_cases h0 : s.size = 0
  · have h1 : s.toList = [] := by rw [toList_data]; exact List.eq_nil_of_length_eq_zero (by simpa using h0)
    have HRR : Aside0 (r = false) := ⟨by rw [← HR.out, ← toList_data, h1]; rfl⟩
    go_enter Tryd.func27, Tryd.ntmps27
    go_wp2
    go_ret
    exact ⟨ret_bool HRR.out.symm, Below.refl _ _⟩
  have h1 : ¬ s.toList = [] := by
    rw [toList_data]; intro e; exact h0 (by have := congrArg List.length e; simpa using this)
  have h2 : s.toList.isEmpty = false := by simpa using h1
  have h0' : 0 < s.size := by omega
  have hidx0 : ∀ W, (Instr.index 9 (.string s) (.int .i64 0)).run Tryd.prog W = .ok (.int .u8 (s.data.toList[0]'h0').toNat) W := by
    intro W
    rw [run_index_string (h := Tryd.underlying9), dif_pos (by omega)]
    rfl
  have HE0 : Aside0 (s.data.toList[0]? = some (s.data.toList[0]'h0')) := ⟨List.getElem?_eq_getElem _⟩
  generalize (s.data.toList[0]'h0') = c0 at hidx0 HE0
  have cl0 := rdigit_walk w c0
  have cw := word_walk w s
  obtain ⟨bl, hbl⟩ : ∃ b, digB c0 = b := ⟨_, rfl⟩
  rw [hbl] at cl0
  have HL : Aside0 (digB c0 = bl) := ⟨hbl⟩
  clear hbl
  obtain ⟨bw, hbw⟩ : ∃ b, wordB s.data.toList = b := ⟨_, rfl⟩
  rw [hbw] at cw
  have HW : Aside0 (wordB s.data.toList = bw) := ⟨hbw⟩
  clear hbw
  cases bl with
  | true =>
    have HRR : Aside0 (r = false) := ⟨by rw [← HR.out]; exact nameB_first HE0.out (digit_no_letter _ HL.out)⟩
    clear cw
    go_enter Tryd.func27, Tryd.ntmps27
    go_wp2_with (go_at_call 53; (with_reducible refine cl0.mono ?_); rintro e w' ⟨rfl, rfl⟩)
    go_ret
    exact ⟨ret_bool HRR.out.symm, Below.refl _ _⟩
  | false =>
    cases bw with
    | true =>
      have HRR : Aside0 (r = false) := ⟨by rw [← HR.out]; exact nameB_word HW.out⟩
      go_enter Tryd.func27, Tryd.ntmps27
      go_wp2_with (first | (go_at_call 53; (with_reducible refine cl0.mono ?_); rintro e w' ⟨rfl, rfl⟩) | (go_at_call 54; (with_reducible refine cw.mono ?_); rintro e w1 ⟨rfl, hb1⟩))
      go_ret
      exact ⟨ret_bool HRR.out.symm, hb1⟩
    | false =>
      go_enter Tryd.func27, Tryd.ntmps27
      go_wp2_with (first | (go_at_call 53; (with_reducible refine cl0.mono ?_); rintro e w' ⟨rfl, rfl⟩) | (go_at_call 54; (with_reducible refine cw.mono ?_); rintro e w1 ⟨rfl, hb1⟩))
      clear cl0 hidx0 cw
      go_loopg [3] s.size (fun g v wr => w1 = wr ∧ ∃ k : Nat, v = .int .i64 k ∧ k + g = s.size ∧ Aside0 (∀ (j : Nat) (x : UInt8), j < k → s.data.toList[j]? = some x → okB x = true))
      case atStart => exact ⟨rfl, 0, rfl, by omega, ⟨fun j x hj => by omega⟩⟩
      case round =>
        obtain ⟨rfl, k, rfl, hkg, hF⟩ := hrel
        by_cases hk : k < s.size
        · have hlt : (k : Int) < (s.size : Int) := by omega
          obtain ⟨q, rfl⟩ : ∃ q, gk = q + 1 := ⟨gk - 1, by omega⟩
          have hidx : ∀ W, (Instr.index 9 (.string s) (.int .i64 k)).run Tryd.prog W = .ok (.int .u8 (s.data.toList[k]'hk).toNat) W := by
            intro W
            rw [run_index_string (h := Tryd.underlying9), dif_pos (by omega)]
            rfl
          have HEK : Aside0 (s.data.toList[k]? = some (s.data.toList[k]'hk)) := ⟨List.getElem?_eq_getElem _⟩
          generalize (s.data.toList[k]'hk) = c at hidx HEK
          have cl := rletter_walk w1 c
          have cd := rdigit_walk w1 c
          obtain ⟨bl, hbl⟩ : ∃ b, letB c = b := ⟨_, rfl⟩
          obtain ⟨bd, hbd⟩ : ∃ b, digB c = b := ⟨_, rfl⟩
          rw [hbl] at cl
          rw [hbd] at cd
          have HB : Aside0 (letB c = bl ∧ digB c = bd) := ⟨hbl, hbd⟩
          clear hbl hbd
          have next : okB c = true → Aside0 (∀ (j : Nat) (x : UInt8), j < k + 1 → s.data.toList[j]? = some x → okB x = true) := fun ho => ⟨fun j x hj hx => by
            by_cases e : j = k
            · subst e; obtain rfl := Option.some.inj (hx.symm.trans HEK.out); exact ho
            · exact hF.out j x (by omega) hx⟩
          have stop : okB c = false → Aside0 (r = false) := fun ho => ⟨by rw [← HR.out]; exact nameB_bad HEK.out ho⟩
          have N : (bl = true ∨ bd = true) → Aside0 (∀ (j : Nat) (x : UInt8), j < k + 1 → s.data.toList[j]? = some x → okB x = true) := fun h => next (by unfold okB; rw [HB.out.1, HB.out.2]; rcases h with h | h <;> simp [h])
          have S : (bl = false ∧ bd = false) → Aside0 (r = false) := fun h => stop (by unfold okB; rw [HB.out.1, HB.out.2, h.1, h.2]; rfl)
          clear next stop
          cases bl with
          | true =>
            have A := N (.inl rfl)
            clear N S cd
            go_wp2_with (go_at_call 55; (with_reducible refine cl.mono ?_); rintro e w' ⟨rfl, rfl⟩)
            go_roundg q
            case measure => omega
            case rel => exact ⟨rfl, k + 1, by go_num, by omega, A⟩
          | false =>
            cases bd with
            | true =>
              have A := N (.inr rfl)
              clear N S
              go_wp2_with (first | (go_at_call 55; (with_reducible refine cl.mono ?_); rintro e w' ⟨rfl, rfl⟩) | (go_at_call 53; (with_reducible refine cd.mono ?_); rintro e w' ⟨rfl, rfl⟩))
              go_roundg q
              case measure => omega
              case rel => exact ⟨rfl, k + 1, by go_num, by omega, A⟩
            | false =>
              have A := S ⟨rfl, rfl⟩
              clear N S
              go_wp2_with (first | (go_at_call 55; (with_reducible refine cl.mono ?_); rintro e w' ⟨rfl, rfl⟩) | (go_at_call 53; (with_reducible refine cd.mono ?_); rintro e w' ⟨rfl, rfl⟩))
              go_ret
              exact ⟨ret_bool A.out.symm, hb1⟩
        · obtain rfl : k = s.size := by omega
          have hlt : ¬ (s.size : Int) < (s.size : Int) := by omega
          have A : Aside0 (r = true) := ⟨by
            rw [← HR.out]
            have hall : ∀ (j : Nat) (x : UInt8), s.data.toList[j]? = some x → okB x = true := fun j x hx => hF.out j x (by have := (List.getElem?_eq_some_iff.1 hx).1; simpa using this) hx
            have h3 := hall 0 c0 HE0.out
            unfold okB at h3
            rw [HL.out, Bool.or_false] at h3
            rw [nameB_good HE0.out h3 hall, HW.out]; rfl⟩
          go_wp2
          go_ret
          exact ⟨ret_bool A.out.symm, hb1⟩
/-- The operators, by ranks. -/
def ranksL : List (List (List UInt8)) := [[[124, 124]], [[38, 38]], [[61, 61], [33, 61], [60], [60, 61], [62], [62, 61]], [[43], [45]], [[42], [47], [37]]]
def rkN (i : Nat) : Nat := (ranksL.getD i []).length
def rk (i j : Nat) : ByteArray := B ((ranksL.getD i []).getD j [])
theorem rank_hit : ∀ i, i < 5 → ∀ j, j < rkN i → rankP ((ranksL.getD i []).getD j []) = (i : Int) := by decide
theorem rank_miss {s : List UInt8} (h : ∀ i, i < 5 → ∀ j, j < rkN i → (ranksL.getD i []).getD j [] ≠ s) : rankP s = -1 := by
  have h1 := h 0 (by decide) 0 (by decide)
  have h2 := h 1 (by decide) 0 (by decide)
  have h3 := h 2 (by decide) 0 (by decide)
  have h4 := h 2 (by decide) 1 (by decide)
  have h5 := h 2 (by decide) 2 (by decide)
  have h6 := h 2 (by decide) 3 (by decide)
  have h7 := h 2 (by decide) 4 (by decide)
  have h8 := h 2 (by decide) 5 (by decide)
  have h9 := h 3 (by decide) 0 (by decide)
  have h10 := h 3 (by decide) 1 (by decide)
  have h11 := h 4 (by decide) 0 (by decide)
  have h12 := h 4 (by decide) 1 (by decide)
  have h13 := h 4 (by decide) 2 (by decide)
  simp only [ranksL, List.getD_cons_zero, List.getD_cons_succ] at h1 h2 h3 h4 h5 h6 h7 h8 h9 h10 h11 h12 h13
  simp [rankP, h1.symm, h2.symm, h3.symm, h4.symm, h5.symm, h6.symm, h7.symm, h8.symm, h9.symm, h10.symm, h11.symm, h12.symm, h13.symm]
theorem rkN_pos : ∀ i, i < 5 → 1 ≤ rkN i ∧ rkN i ≤ 6 := by decide
/-- Where the document's table of operators lies. -/
def Rk (w : World) (h : Nat) : Prop := ∀ i, i < 5 → w.cell? ⟨h + 5, i, none⟩ = some (.slice (some ⟨h + i, 0, none⟩) (rkN i) (rkN i)) ∧ ∀ j, j < rkN i → w.cell? ⟨h + i, j, none⟩ = some (.string (rk i j))
def IsM (n : Int) (w : World) (e : Ending) (w' : World) : Prop := e = .returned (.int .i64 n) ∧ Below w.heap.size w w'
theorem ca_new {w : World} {cs : Array Value} {t : TypeId} {p k : Nat} (hp : w.heap.size = p) : (w.alloc (.cells cs t)).cell? ⟨p, k, none⟩ = cs[k]? := by
  subst hp; exact cell_new w cs t k
theorem ca_old {w : World} {o : Obj} {p k : Nat} (hp : p < w.heap.size) : (w.alloc o).cell? ⟨p, k, none⟩ = w.cell? ⟨p, k, none⟩ :=
  ((Below.refl w.heap.size w).alloc (Nat.le_refl _) o).cell (p := ⟨p, k, none⟩) hp
set_option maxHeartbeats 2000000 in
theorem rrank_walk (w : World) (s : ByteArray) : Calls Tryd.prog 82 #[.string s] w (IsM (rankP s.data.toList + 1) w) := by
  obtain ⟨r, hr⟩ : ∃ r, rankP s.data.toList + 1 = r := ⟨_, rfl⟩
  rw [hr]
  have HR : Aside0 (rankP s.data.toList + 1 = r) := ⟨hr⟩
  have HT : Aside0 (∀ s : ByteArray, s.toList = s.data.toList) := ⟨toList_data⟩
  clear hr
  obtain ⟨h, hh⟩ : ∃ h, w.heap.size = h := ⟨_, rfl⟩
  have HH : Aside0 (w.heap.size = h) := ⟨hh⟩
  go_enter Tryd.func82, Tryd.ntmps82
  go_wp2
  go_loopg [4] 5 (fun g v wr => (Below w.heap.size w wr ∧ Rk wr h) ∧ ∃ i : Nat, v = .int .i64 i ∧ i + g = 5 ∧ Aside0 (∀ i', i' < i → ∀ j, j < rkN i' → (ranksL.getD i' []).getD j [] ≠ s.data.toList))
  case atStart =>
    refine ⟨⟨?_, ?_⟩, 0, rfl, by omega, ⟨fun j hj => by omega⟩⟩
    · exact (((((((Below.refl _ _).alloc (Nat.le_refl _) _).alloc (by simp) _).alloc (by simp; omega) _).alloc (by simp; omega) _).alloc (by simp; omega) _).alloc (by simp; omega) _)
    · intro i hi
      match i, hi with
      | 0, _ => exact ⟨by (repeat rw [ca_old (by (try simp only [alsize]); omega)]); rw [ca_new (by (try simp only [alsize]); omega)]; simp [← hh, rkN, ranksL], fun j hj => by
          match j, hj with
          | 0, _ => (repeat rw [ca_old (by (try simp only [alsize]); omega)]); rw [ca_new (by (try simp only [alsize]); omega)]; simp [rk, ranksL, B]
          | j + 1, hj => exact absurd hj (by simp [rkN, ranksL] <;> omega)⟩
      | 1, _ => exact ⟨by (repeat rw [ca_old (by (try simp only [alsize]); omega)]); rw [ca_new (by (try simp only [alsize]); omega)]; simp [← hh, rkN, ranksL], fun j hj => by
          match j, hj with
          | 0, _ => (repeat rw [ca_old (by (try simp only [alsize]); omega)]); rw [ca_new (by (try simp only [alsize]); omega)]; simp [rk, ranksL, B]
          | j + 1, hj => exact absurd hj (by simp [rkN, ranksL] <;> omega)⟩
      | 2, _ => exact ⟨by (repeat rw [ca_old (by (try simp only [alsize]); omega)]); rw [ca_new (by (try simp only [alsize]); omega)]; simp [← hh, rkN, ranksL], fun j hj => by
          match j, hj with
          | 0, _ => (repeat rw [ca_old (by (try simp only [alsize]); omega)]); rw [ca_new (by (try simp only [alsize]); omega)]; simp [rk, ranksL, B]
          | 1, _ => (repeat rw [ca_old (by (try simp only [alsize]); omega)]); rw [ca_new (by (try simp only [alsize]); omega)]; simp [rk, ranksL, B]
          | 2, _ => (repeat rw [ca_old (by (try simp only [alsize]); omega)]); rw [ca_new (by (try simp only [alsize]); omega)]; simp [rk, ranksL, B]
          | 3, _ => (repeat rw [ca_old (by (try simp only [alsize]); omega)]); rw [ca_new (by (try simp only [alsize]); omega)]; simp [rk, ranksL, B]
          | 4, _ => (repeat rw [ca_old (by (try simp only [alsize]); omega)]); rw [ca_new (by (try simp only [alsize]); omega)]; simp [rk, ranksL, B]
          | 5, _ => (repeat rw [ca_old (by (try simp only [alsize]); omega)]); rw [ca_new (by (try simp only [alsize]); omega)]; simp [rk, ranksL, B]
          | j + 6, hj => exact absurd hj (by simp [rkN, ranksL] <;> omega)⟩
      | 3, _ => exact ⟨by (repeat rw [ca_old (by (try simp only [alsize]); omega)]); rw [ca_new (by (try simp only [alsize]); omega)]; simp [← hh, rkN, ranksL], fun j hj => by
          match j, hj with
          | 0, _ => (repeat rw [ca_old (by (try simp only [alsize]); omega)]); rw [ca_new (by (try simp only [alsize]); omega)]; simp [rk, ranksL, B]
          | 1, _ => (repeat rw [ca_old (by (try simp only [alsize]); omega)]); rw [ca_new (by (try simp only [alsize]); omega)]; simp [rk, ranksL, B]
          | j + 2, hj => exact absurd hj (by simp [rkN, ranksL] <;> omega)⟩
      | 4, _ => exact ⟨by (repeat rw [ca_old (by (try simp only [alsize]); omega)]); rw [ca_new (by (try simp only [alsize]); omega)]; simp [← hh, rkN, ranksL], fun j hj => by
          match j, hj with
          | 0, _ => (repeat rw [ca_old (by (try simp only [alsize]); omega)]); rw [ca_new (by (try simp only [alsize]); omega)]; simp [rk, ranksL, B]
          | 1, _ => (repeat rw [ca_old (by (try simp only [alsize]); omega)]); rw [ca_new (by (try simp only [alsize]); omega)]; simp [rk, ranksL, B]
          | 2, _ => (repeat rw [ca_old (by (try simp only [alsize]); omega)]); rw [ca_new (by (try simp only [alsize]); omega)]; simp [rk, ranksL, B]
          | j + 3, hj => exact absurd hj (by simp [rkN, ranksL] <;> omega)⟩
      | i + 5, hi => omega
  case round =>
    obtain ⟨⟨hB, hC⟩, i, rfl, hkg, hF⟩ := hrel
    clear hh
    by_cases hk : i < 5
    · have hlt : (i : Int) < 5 := by omega
      obtain ⟨q, rfl⟩ : ∃ q, gk = q + 1 := ⟨gk - 1, by omega⟩
      obtain ⟨hi1, hi2⟩ := hC i hk
      have HC : Aside0 (Rk wr h) := ⟨hC⟩
      have hn := rkN_pos i hk
      obtain ⟨n, hnn⟩ : ∃ n, rkN i = n := ⟨_, rfl⟩
      have HN : Aside0 (rkN i = n) := ⟨hnn⟩
      have HI : Aside0 (∀ j, j < rkN i → wr.cell? ⟨h + i, j, none⟩ = some (.string (rk i j))) := ⟨hi2⟩
      rw [hnn] at hi1 hn
      clear hC hi2 hnn
      go_wp2
      go_loopg [5] n (fun g v wq => wr = wq ∧ ∃ j : Nat, v = .int .i64 j ∧ j + g = n ∧ Aside0 (∀ j', j' < j → (ranksL.getD i []).getD j' [] ≠ s.data.toList))
      case atStart => exact ⟨rfl, 0, rfl, by omega, ⟨fun j hj => by omega⟩⟩
      case round =>
        obtain ⟨rfl, j, rfl, hjg, hG⟩ := hrel
        by_cases hj : j < n
        · have hltj : (j : Int) < (n : Int) := by omega
          obtain ⟨p, rfl⟩ : ∃ p, gk = p + 1 := ⟨gk - 1, by omega⟩
          have hij := HI.out j (by rw [HN.out]; exact hj)
          by_cases he : (ranksL.getD i []).getD j [] = s.data.toList
          · have hb : ((rk i j).toList == s.toList) = true := by rw [HT.out, HT.out, rk]; simpa [B] using he
            have HRR : Aside0 (r = (i : Int) + 1) := ⟨by rw [← HR.out, ← he, rank_hit i hk j (by rw [HN.out]; exact hj)]⟩
            clear he
            go_wp2
            go_ret
            exact ⟨by rw [HRR.out]; rfl, hB⟩
          · have hb : ((rk i j).toList == s.toList) = false := by rw [HT.out, HT.out, rk]; simpa [B] using he
            have HE : Aside0 (¬ (ranksL.getD i []).getD j [] = s.data.toList) := ⟨he⟩
            clear he
            go_wp2
            go_roundg p
            case measure => omega
            case rel => exact ⟨rfl, j + 1, by go_num, by omega, ⟨fun j' hj' => by
              by_cases e : j' = j
              · subst e; exact HE.out
              · exact hG.out j' (by omega)⟩⟩
        · obtain rfl : j = n := by omega
          have hltj : ¬ (j : Int) < (j : Int) := by omega
          go_wp2
          go_roundg q
          case measure => omega
          case rel => exact ⟨⟨hB, HC.out⟩, i + 1, by go_num, by omega, ⟨fun i' hi' j' hj' => by
            by_cases e : i' = i
            · subst e; exact hG.out j' (by rw [HN.out] at hj'; exact hj')
            · exact hF.out i' (by omega) j' hj'⟩⟩
    · obtain rfl : i = 5 := by omega
      have HRR : Aside0 (r = 0) := ⟨by rw [← HR.out, rank_miss hF.out]; rfl⟩
      clear hC
      go_wp2
      go_ret
      exact ⟨by rw [HRR.out]; rfl, hB⟩
end Go.Proofs.YthkmdmobeadigaaDoor.lg
