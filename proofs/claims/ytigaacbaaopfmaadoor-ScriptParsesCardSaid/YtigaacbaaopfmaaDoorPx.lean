/- The program's bytes out of text: walked. -/
import Derived.Test.YtigaacbaaopfmaaDoorPw
import Derived.Laws.MakeOwn
namespace Go.Proofs.YtigaacbaaopfmaaDoor.sh
open Go.RowKit
set_option linter.unusedVariables false
/-- Each two digits a byte. -/
def pairs : List UInt8 → List UInt8
  | a :: b :: r => UInt8.ofNat (16 * hv a + hv b) :: pairs r
  | _ => []
theorem pairs_step : ∀ (k : Nat) (l : List UInt8) (x y : UInt8), l[2 * k]? = some x → l[2 * k + 1]? = some y → pairs (l.take (2 * (k + 1))) = pairs (l.take (2 * k)) ++ [UInt8.ofNat (16 * hv x + hv y)]
  | 0, l, x, y, h1, h2 => by
    match l, h1, h2 with
    | a :: b :: r, h1, h2 =>
      simp at h1 h2
      subst h1 h2
      simp [pairs]
  | k + 1, l, x, y, h1, h2 => by
    match l, h1, h2 with
    | a :: b :: r, h1, h2 =>
      have e1 : r[2 * k]? = some x := by rw [← h1]; rw [show 2 * (k + 1) = 2 * k + 1 + 1 by omega]; rfl
      have e2 : r[2 * k + 1]? = some y := by rw [← h2]; rw [show 2 * (k + 1) + 1 = 2 * k + 1 + 1 + 1 by omega]; rfl
      have ih := pairs_step k r x y e1 e2
      rw [show 2 * (k + 1 + 1) = 2 * (k + 1) + 1 + 1 by omega, show 2 * (k + 1) = 2 * k + 1 + 1 by omega]
      rw [List.take_succ_cons, List.take_succ_cons, List.take_succ_cons, List.take_succ_cons]
      rw [show 2 * k + 1 + 1 = 2 * (k + 1) by omega]
      show _ :: pairs (r.take (2 * (k + 1))) = _ :: (pairs (r.take (2 * k))) ++ _
      rw [ih]; rfl
    | [a], h1, h2 => simp at h1
    | [], h1, h2 => simp at h1
/-- Bytes out of text; none: it is no such text. -/
def bytesV (s : List UInt8) : Option (List UInt8) :=
  if s = [45] then some []
  else if s.head? = some 39 ∧ s.tail ≠ [] then some s.tail
  else if allD true s = true ∧ s.length % 2 = 0 then some (pairs s) else none
theorem hv16 {c : UInt8} (h : isD true c = true) : hv c < 16 := by
  rcases isD_true h with k | k | k
  · rw [hv_dig k]; omega
  · rw [hv_low k]; omega
  · rw [hv_up k]; omega
theorem bytes_eq_iff (s : ByteArray) (l : List UInt8) : (s.toList == l) = decide (s.data.toList = l) := by
  rw [ByteArray.toList_eq]
  by_cases h : s.data.toList = l
  · rw [h]; simp
  · simp [h]
set_option maxHeartbeats 8000000 in
theorem fromHex_dash (w : World) : Calls Tryd.prog 80 #[.string ⟨#[45]⟩] w fun e w' => e = .returned (.tuple #[.string ⟨#[]⟩, .int .i64 0]) ∧ Below w.heap.size w w' := by
  go_enter Tryd.func80, Tryd.ntmps80
  go_wp2
  go_ret2
  exact ⟨rfl, Below.refl _ _⟩
set_option maxHeartbeats 8000000 in
theorem fromHex_quote (w : World) (s t : ByteArray) (b : Bool) (h45 : (s.toList == [45]) = false) (ht : t.toList.isEmpty = false)
    (cc : Calls Tryd.prog 95 #[.string s, .string ⟨#[39]⟩] w fun e w' => e = .returned (.tuple #[.string t, .bool true]) ∧ w' = w) :
    Calls Tryd.prog 80 #[.string s] w fun e w' => e = .returned (.tuple #[.string t, .int .i64 0]) ∧ Below w.heap.size w w' := by
  have h1 : (!t.toList.isEmpty) = true := by rw [ht]; rfl
  go_enter Tryd.func80, Tryd.ntmps80
  go_wp2_with (go_at_call 95; (with_reducible refine cc.mono ?_); rintro e w1 ⟨rfl, rfl⟩)
  go_ret2
  exact ⟨rfl, Below.refl _ _⟩
set_option maxHeartbeats 8000000 in
theorem fromHex_bad (w : World) (s t : ByteArray) (b a : Bool) (h45 : (s.toList == [45]) = false) (hq : (b && !t.toList.isEmpty) = false) (hs : s.size ≤ 3000000)
    (cc : Calls Tryd.prog 95 #[.string s, .string ⟨#[39]⟩] w fun e w' => e = .returned (.tuple #[.string t, .bool b]) ∧ w' = w)
    (ca : Calls Tryd.prog 92 #[.string s, .int .i64 16] w fun e w' => e = .returned (.bool a) ∧ Below w.heap.size w w') (ha : a = false ∨ s.size % 2 = 1) :
    Calls Tryd.prog 80 #[.string s] w fun e w' => e = .returned (.tuple #[.string ⟨#[]⟩, .int .i64 160]) ∧ Below w.heap.size w w' := by
  have hm : a = true → ((s.size : Int) % 2 == 1) = true := fun h => by
    rcases ha with h' | h'
    · rw [h] at h'; cases h'
    · exact beq_iff_eq.2 (by omega)
  clear ha
  cases b <;> cases a
  · go_enter Tryd.func80, Tryd.ntmps80
    go_wp2_with (first
      | (go_at_call 95; (with_reducible refine cc.mono ?_); rintro e w1 ⟨rfl, rfl⟩)
      | (go_at_call 92; (with_reducible refine ca.mono ?_); rintro e w1 ⟨rfl, hB⟩))
    go_ret2
    exact ⟨rfl, hB⟩
  · have hm := hm rfl
    go_enter Tryd.func80, Tryd.ntmps80
    go_wp2_with (first
      | (go_at_call 95; (with_reducible refine cc.mono ?_); rintro e w1 ⟨rfl, rfl⟩)
      | (go_at_call 92; (with_reducible refine ca.mono ?_); rintro e w1 ⟨rfl, hB⟩))
    go_ret2
    exact ⟨rfl, hB⟩
  · have hq : (!t.toList.isEmpty) = false := hq
    go_enter Tryd.func80, Tryd.ntmps80
    go_wp2_with (first
      | (go_at_call 95; (with_reducible refine cc.mono ?_); rintro e w1 ⟨rfl, rfl⟩)
      | (go_at_call 92; (with_reducible refine ca.mono ?_); rintro e w1 ⟨rfl, hB⟩))
    go_ret2
    exact ⟨rfl, hB⟩
  · have hm := hm rfl
    have hq : (!t.toList.isEmpty) = false := hq
    go_enter Tryd.func80, Tryd.ntmps80
    go_wp2_with (first
      | (go_at_call 95; (with_reducible refine cc.mono ?_); rintro e w1 ⟨rfl, rfl⟩)
      | (go_at_call 92; (with_reducible refine ca.mono ?_); rintro e w1 ⟨rfl, hB⟩))
    go_ret2
    exact ⟨rfl, hB⟩
theorem own_pos {w : World} {b n : Nat} {v : Value} {l : List UInt8} (h : w.ownsRow b 5 1 v n (us l)) (hn : 0 < n) : 0 < l.length := by
  have h1 := h.1
  rw [us, List.length_map] at h1
  omega
theorem own_below {w w' : World} {b n : Nat} {v : Value} {xs : List Value} (h : w.ownsRow b 5 1 v n xs) (k : Below w.heap.size w w') : w'.ownsRow b 5 1 v n xs := by
  refine ⟨h.1, ?_⟩
  rcases h.2 with h2 | ⟨g, cap, cur, h1, h2, h3, h4⟩
  · exact Or.inl h2
  · have hl : g < w.heap.size := by
      rcases Nat.lt_or_ge g w.heap.size with h | h
      · exact h
      · rw [Array.getElem?_eq_none h] at h3; cases h3
    exact Or.inr ⟨g, cap, cur, h1, h2, (k.block g hl).trans h3, h4⟩
def zerosB (c : Nat) : Array Value := madeCells #[.int .u8 0] c
theorem zerosB_size (c : Nat) : (zerosB c).size = c := by unfold zerosB; rw [size_madeCells]
theorem makeB (W : World) (c : Nat) (hc : c ≤ 3000000) : (Instr.makeSlice 61 (.int .i64 0) (.int .i64 (c : Int))).run Tryd.prog W = .ok (.slice (some ⟨W.heap.size, 0, none⟩) 0 c) (W.alloc (.cells (zerosB c) 5)) := by
  obtain ⟨i, hi, hz0, hz1, hz2⟩ := info_parts info5
  have h := run_make (P := Tryd.prog) W 61 5 i (.int .u8 0) Tryd.underlying61 hi hz0 .i64 .i64 0 c (Int.le_refl _) (by omega) (by rw [hz2]; omega) (by omega)
  simp only [Int.toNat_zero, Int.toNat_natCast, hz1, Nat.mul_one] at h
  exact h
theorem val_two (x y : UInt8) (hx : isD true x = true) (hy : isD true y = true) : val true [x, y] = (UInt8.ofNat (16 * hv x + hv y)).toNat := by
  have h1 := hv16 hx
  have h2 := hv16 hy
  show (0 * rad true + hv x) * rad true + hv y = _
  have : rad true = 16 := rfl
  rw [this, UInt8.toNat_ofNat']
  omega
theorem extract_two (s : ByteArray) (k : Nat) (x y : UInt8) (h1 : s.data.toList[k]? = some x) (h2 : s.data.toList[k + 1]? = some y) : (s.extract k (k + 2)).data.toList = [x, y] := by
  rw [Lib.extract_data]
  obtain ⟨a1, b1⟩ := List.getElem?_eq_some_iff.1 h1
  obtain ⟨a2, b2⟩ := List.getElem?_eq_some_iff.1 h2
  rw [List.drop_eq_getElem_cons a1, List.drop_eq_getElem_cons a2, b1, b2]
  rw [show k + 2 - k = 2 by omega]
  rfl
theorem pu_two (w : World) (u : ByteArray) (x y : UInt8) (hu : u.data.toList = [x, y]) (hx : isD true x = true) (hy : isD true y = true) :
    Calls Tryd.prog 96 #[.string u, .int .i64 16, .int .i64 8] w fun e w' => e = .returned (.tuple #[.int .u64 (UInt8.ofNat (16 * hv x + hv y)).toNat, .nilIface]) ∧ Below w.heap.size w w' := by
  have hsz : u.size ≤ 3000000 := by
    have : u.data.toList.length = u.size := by rw [Array.length_toList]; rfl
    rw [hu] at this; simp at this; omega
  have c := pu16_8 u (by rw [hu]; simp [allD, hx, hy]) hsz w
  have hv := (UInt8.ofNat (16 * hv x + hv y)).toNat_lt
  rw [hu, val_two x y hx hy, puV_ok (by omega)] at c
  generalize (UInt8.ofNat (16 * Go.Proofs.YtigaacbaaopfmaaDoor.sh.hv x + Go.Proofs.YtigaacbaaopfmaaDoor.sh.hv y)).toNat = V at c
  clear hv hx hy
  go_enter Tryd.func96, Tryd.ntmps96
  go_wp2_with (go_at_call 110; (with_reducible refine c.mono ?_); rintro e w1 ⟨rfl, hB⟩)
  go_ret2
  exact ⟨rfl, hB⟩
set_option maxHeartbeats 8000000 in
theorem fromHex_hex (w : World) (s t : ByteArray) (b : Bool) (n : Nat) (h45 : (s.toList == [45]) = false) (hq : (b && !t.toList.isEmpty) = false) (hs : s.size ≤ 3000000) (hn : s.size = 2 * n) (hd : allD true s.data.toList = true)
    (cc : Calls Tryd.prog 95 #[.string s, .string ⟨#[39]⟩] w fun e w' => e = .returned (.tuple #[.string t, .bool b]) ∧ w' = w)
    (ca : Calls Tryd.prog 92 #[.string s, .int .i64 16] w fun e w' => e = .returned (.bool true) ∧ Below w.heap.size w w') :
    Calls Tryd.prog 80 #[.string s] w fun e w' => e = .returned (.tuple #[.string (B (pairs s.data.toList)), .int .i64 0]) ∧ Below w.heap.size w w' := by
  have hm : ((s.size : Int) % 2 == 1) = false := beq_eq_false_iff_ne.2 (by omega)
  have hmk : ∀ W, (Instr.makeSlice 61 (.int .i64 0) (.int .i64 ((s.size : Int) / 2))).run Tryd.prog W = .ok (.slice (some ⟨W.heap.size, 0, none⟩) 0 n) (W.alloc (.cells (zerosB n) 5)) := fun W => by
    rw [show (s.size : Int) / 2 = (n : Int) by omega]; exact makeB W n (by omega)
  have hall : s.data.toList.all (isD true) = true := by unfold allD at hd; rw [Bool.and_eq_true] at hd; exact hd.2
  have hpos : 0 < n := by
    have : s.data.toList.length = s.size := by rw [Array.length_toList]; rfl
    unfold allD at hd
    rw [Bool.and_eq_true] at hd
    cases e : s.data.toList with
    | nil => rw [e] at hd; exact absurd hd.1 (by simp)
    | cons _ _ => rw [e] at this; simp at this; omega
  have hlen : s.data.toList.length = 2 * n := by rw [Array.length_toList, ← hn]; rfl
  obtain ⟨R, hR⟩ : ∃ R, B (pairs s.data.toList) = R := ⟨_, rfl⟩
  rw [hR]
  have HR : Aside0 (B (pairs s.data.toList) = R) := ⟨hR⟩
  have HN : Aside0 (s.size = 2 * n) := ⟨hn⟩
  have HL : Aside0 (s.data.toList.length = 2 * n) := ⟨hlen⟩
  clear hR hd hn hlen
  have hmade := fun (W : World) (h : w.heap.size ≤ W.heap.size) => World.ownsRow_made (base := w.heap.size) (e := 5) (size := 1) W (zerosB n) n h (by unfold maxLen; have := HN.out; omega) (by rw [zerosB_size]; omega)
  cases b
  · clear hq
    go_enter Tryd.func80, Tryd.ntmps80
    go_wp2_with (first
      | (go_at_call 95; (with_reducible refine cc.mono ?_); rintro e w1 ⟨rfl, hw1⟩; rw [hw1]; clear hw1 w1)
      | (go_at_call 92; (with_reducible refine ca.mono ?_); rintro e w1 ⟨rfl, hB⟩))
    have own0 := hmade w1 hB.size
    clear hmade hmk
    go_loopg [6, 7] n (fun g v6 v7 wr => ∃ k : Nat, v7 = .int .i64 ((2 * k : Nat) : Int) ∧ k + g = n ∧ wr.ownsRow w.heap.size 5 1 v6 k (us (pairs (s.data.toList.take (2 * k)))) ∧ Below w.heap.size w wr)
    case atStart => exact ⟨0, rfl, by omega, own0, hB.alloc hB.size _⟩
    case round =>
      obtain ⟨k, rfl, hkg, hown, hBr⟩ := hrel
      clear own0
      by_cases hk : k < n
      · obtain ⟨g, rfl⟩ : ∃ g, gk = g + 1 := ⟨gk - 1, by omega⟩
        have hlen := HL.out
        have hsz := HN.out
        obtain ⟨x, hx⟩ : ∃ x, s.data.toList[2 * k]? = some x := ⟨_, List.getElem?_eq_getElem (by omega)⟩
        obtain ⟨y, hy⟩ : ∃ y, s.data.toList[2 * k + 1]? = some y := ⟨_, List.getElem?_eq_getElem (by omega)⟩
        have hdx := List.all_eq_true.1 hall x (List.mem_of_getElem? hx)
        have hdy := List.all_eq_true.1 hall y (List.mem_of_getElem? hy)
        have HP : Aside0 (pairs (s.data.toList.take (2 * (k + 1))) = pairs (s.data.toList.take (2 * k)) ++ [UInt8.ofNat (16 * hv x + hv y)]) := ⟨pairs_step k _ x y hx hy⟩
        obtain ⟨u, hu⟩ : ∃ u, s.extract (2 * k) (2 * k + 2) = u := ⟨_, rfl⟩
        have hsl : ∀ W, (Instr.slice 9 (.string s) (some (.int .i64 ((2 * k : Nat) : Int))) (some (.int .i64 (((2 * k : Nat) : Int) + 2))) none).run Tryd.prog W = .ok (.string u) W := fun W => by
          rw [run_slice_string (h := Tryd.underlying9) (h0 := by omega) (h1 := by omega) (h2 := by omega), ← hu]
          rw [show (((2 * k : Nat) : Int) + 2).toNat = 2 * k + 2 by omega, Int.toNat_natCast]
        have hud := extract_two s (2 * k) x y hx hy
        rw [hu] at hud
        have cu := fun wq => pu_two wq u x y hud hdx hdy
        have hlt : ((2 * k : Nat) : Int) < (s.size : Int) := by omega
        have hz := (UInt8.ofNat (16 * hv x + hv y)).toNat_lt
        generalize UInt8.ofNat (16 * hv x + hv y) = z at cu HP hz
        have hz1 : (z.toNat : Int) ≤ 255 := by omega
        have hk2 : k ≤ 1500000 := by omega
        have hj2 : ((2 * k : Nat) : Int) ≤ 3000000 := by omega
        have HJ : Aside0 (((2 * k : Nat) : Int) + 2 = ((2 * (k + 1) : Nat) : Int)) := ⟨by omega⟩
        clear hx hy hdx hdy hu hud hlen hsz hz hk
        obtain ⟨j, hj⟩ : ∃ j, 2 * k = j := ⟨_, rfl⟩
        rw [hj] at hsl hlt hown hj2 HJ HP
        rw [hj]
        have HJ2 : Aside0 (2 * k = j) := ⟨hj⟩
        clear hj
        generalize pairs (s.data.toList.take j) = L at hown HP
        go_wp2_with (first
          | (go_at_call 96; (with_reducible refine (cu _).mono ?_); rintro e w2 ⟨rfl, hB2⟩; have hB3 := below_next hBr hB2; have own1 := own_below hown hB2)
          | (at_builtin; (refine wpList_app rfl (.tmp 51) (.tmp 54) rfl w.heap.size k _ (us L) [z] (by simp) own1 rfl rfl (by simp; omega) hB3.size rfl ?_; intro v1 w3 own2 gr1; have bel1 := below_app rfl hB3 own1 gr1)))
        go_roundg g
        case measure => omega
        case rel => exact ⟨k + 1, by rw [← HJ.out], by omega, by rw [HP.out, us_append]; exact own2, bel1⟩
      · obtain rfl : k = n := by omega
        have hlt : ¬ ((2 * k : Nat) : Int) < (s.size : Int) := by have := HN.out; omega
        rw [List.take_of_length_le (by have := HL.out; omega)] at hown
        obtain ⟨gg, cp, rfl, hconv⟩ := conv_own hown (own_pos hown (by omega))
        rw [HR.out] at hconv
        clear hown hk
        obtain ⟨j, hj⟩ : ∃ j, 2 * k = j := ⟨_, rfl⟩
        rw [hj] at hlt
        rw [hj]
        clear hj
        go_wp2
        go_ret2
        exact ⟨rfl, hBr⟩
  · have hq : (!t.toList.isEmpty) = false := hq
    go_enter Tryd.func80, Tryd.ntmps80
    go_wp2_with (first
      | (go_at_call 95; (with_reducible refine cc.mono ?_); rintro e w1 ⟨rfl, hw1⟩; rw [hw1]; clear hw1 w1)
      | (go_at_call 92; (with_reducible refine ca.mono ?_); rintro e w1 ⟨rfl, hB⟩))
    have own0 := hmade w1 hB.size
    clear hmade hmk
    go_loopg [6, 7] n (fun g v6 v7 wr => ∃ k : Nat, v7 = .int .i64 ((2 * k : Nat) : Int) ∧ k + g = n ∧ wr.ownsRow w.heap.size 5 1 v6 k (us (pairs (s.data.toList.take (2 * k)))) ∧ Below w.heap.size w wr)
    case atStart => exact ⟨0, rfl, by omega, own0, hB.alloc hB.size _⟩
    case round =>
      obtain ⟨k, rfl, hkg, hown, hBr⟩ := hrel
      clear own0
      by_cases hk : k < n
      · obtain ⟨g, rfl⟩ : ∃ g, gk = g + 1 := ⟨gk - 1, by omega⟩
        have hlen := HL.out
        have hsz := HN.out
        obtain ⟨x, hx⟩ : ∃ x, s.data.toList[2 * k]? = some x := ⟨_, List.getElem?_eq_getElem (by omega)⟩
        obtain ⟨y, hy⟩ : ∃ y, s.data.toList[2 * k + 1]? = some y := ⟨_, List.getElem?_eq_getElem (by omega)⟩
        have hdx := List.all_eq_true.1 hall x (List.mem_of_getElem? hx)
        have hdy := List.all_eq_true.1 hall y (List.mem_of_getElem? hy)
        have HP : Aside0 (pairs (s.data.toList.take (2 * (k + 1))) = pairs (s.data.toList.take (2 * k)) ++ [UInt8.ofNat (16 * hv x + hv y)]) := ⟨pairs_step k _ x y hx hy⟩
        obtain ⟨u, hu⟩ : ∃ u, s.extract (2 * k) (2 * k + 2) = u := ⟨_, rfl⟩
        have hsl : ∀ W, (Instr.slice 9 (.string s) (some (.int .i64 ((2 * k : Nat) : Int))) (some (.int .i64 (((2 * k : Nat) : Int) + 2))) none).run Tryd.prog W = .ok (.string u) W := fun W => by
          rw [run_slice_string (h := Tryd.underlying9) (h0 := by omega) (h1 := by omega) (h2 := by omega), ← hu]
          rw [show (((2 * k : Nat) : Int) + 2).toNat = 2 * k + 2 by omega, Int.toNat_natCast]
        have hud := extract_two s (2 * k) x y hx hy
        rw [hu] at hud
        have cu := fun wq => pu_two wq u x y hud hdx hdy
        have hlt : ((2 * k : Nat) : Int) < (s.size : Int) := by omega
        have hz := (UInt8.ofNat (16 * hv x + hv y)).toNat_lt
        generalize UInt8.ofNat (16 * hv x + hv y) = z at cu HP hz
        have hz1 : (z.toNat : Int) ≤ 255 := by omega
        have hk2 : k ≤ 1500000 := by omega
        have hj2 : ((2 * k : Nat) : Int) ≤ 3000000 := by omega
        have HJ : Aside0 (((2 * k : Nat) : Int) + 2 = ((2 * (k + 1) : Nat) : Int)) := ⟨by omega⟩
        clear hx hy hdx hdy hu hud hlen hsz hz hk
        obtain ⟨j, hj⟩ : ∃ j, 2 * k = j := ⟨_, rfl⟩
        rw [hj] at hsl hlt hown hj2 HJ HP
        rw [hj]
        have HJ2 : Aside0 (2 * k = j) := ⟨hj⟩
        clear hj
        generalize pairs (s.data.toList.take j) = L at hown HP
        go_wp2_with (first
          | (go_at_call 96; (with_reducible refine (cu _).mono ?_); rintro e w2 ⟨rfl, hB2⟩; have hB3 := below_next hBr hB2; have own1 := own_below hown hB2)
          | (at_builtin; (refine wpList_app rfl (.tmp 51) (.tmp 54) rfl w.heap.size k _ (us L) [z] (by simp) own1 rfl rfl (by simp; omega) hB3.size rfl ?_; intro v1 w3 own2 gr1; have bel1 := below_app rfl hB3 own1 gr1)))
        go_roundg g
        case measure => omega
        case rel => exact ⟨k + 1, by rw [← HJ.out], by omega, by rw [HP.out, us_append]; exact own2, bel1⟩
      · obtain rfl : k = n := by omega
        have hlt : ¬ ((2 * k : Nat) : Int) < (s.size : Int) := by have := HN.out; omega
        rw [List.take_of_length_le (by have := HL.out; omega)] at hown
        obtain ⟨gg, cp, rfl, hconv⟩ := conv_own hown (own_pos hown (by omega))
        rw [HR.out] at hconv
        clear hown hk
        obtain ⟨j, hj⟩ : ∃ j, 2 * k = j := ⟨_, rfl⟩
        rw [hj] at hlt
        rw [hj]
        clear hj
        go_wp2
        go_ret2
        exact ⟨rfl, hBr⟩
theorem hasPrefix39 (l : List UInt8) (c : UInt8) : Lib.hasPrefix l [c] = decide (l.head? = some c) := by
  cases l with
  | nil => rfl
  | cons x r =>
    unfold Lib.hasPrefix
    simp only [List.isPrefixOf, Bool.and_true, List.head?_cons, Option.some.injEq]
    by_cases h : c = x
    · subst h; simp
    · have h2 : ¬ x = c := fun e => h e.symm
      simp [h, h2]
theorem eq_of_toList {s : ByteArray} {l : List UInt8} (h : s.data.toList = l) : s = ⟨l.toArray⟩ := by
  rw [← h]
theorem fromHex_walk (w : World) (s : ByteArray) (hs : s.size ≤ 3000000) :
    Calls Tryd.prog 80 #[.string s] w fun e w' => e = .returned (.tuple #[.string (B ((bytesV s.data.toList).getD [])), .int .i64 (if (bytesV s.data.toList).isSome then 0 else 160)]) ∧ Below w.heap.size w w' := by
  have hlen : s.data.toList.length = s.size := by rw [Array.length_toList]; rfl
  by_cases h45 : s.data.toList = [45]
  · have e : bytesV s.data.toList = some [] := by unfold bytesV; rw [if_pos h45]
    rw [e, eq_of_toList h45]
    exact fromHex_dash w
  · have h45' : (s.toList == [45]) = false := by rw [bytes_eq_iff]; exact decide_eq_false h45
    have cc := Tryd.strings_CutPrefix s ⟨#[39]⟩ w
    have cc : Calls Tryd.prog 95 #[.string s, .string ⟨#[39]⟩] w fun e w' => e = .returned (.tuple #[.string ⟨(Lib.trimPrefix s.data.toList [39]).toArray⟩, .bool (Lib.hasPrefix s.data.toList [39])]) ∧ w' = w := cc
    rw [hasPrefix39] at cc
    have htl : s.data.toList.head? = some 39 → Lib.trimPrefix s.data.toList [39] = s.data.toList.tail := fun h => by
      unfold Lib.trimPrefix
      rw [hasPrefix39, if_pos (decide_eq_true h)]
      cases s.data.toList <;> rfl
    by_cases hq : s.data.toList.head? = some 39 ∧ s.data.toList.tail ≠ []
    · have e : bytesV s.data.toList = some s.data.toList.tail := by unfold bytesV; rw [if_neg h45, if_pos hq]
      rw [e]
      rw [htl hq.1, decide_eq_true hq.1] at cc
      refine fromHex_quote w s ⟨s.data.toList.tail.toArray⟩ true h45' ?_ cc
      rw [← isEmpty_iff]
      simpa using hq.2
    · have hqf : (decide (s.data.toList.head? = some 39) && !(⟨(Lib.trimPrefix s.data.toList [39]).toArray⟩ : ByteArray).toList.isEmpty) = false := by
        by_cases h1 : s.data.toList.head? = some 39
        · rw [htl h1, decide_eq_true h1, ← isEmpty_iff]
          have h2 : s.data.toList.tail = [] := by
            apply Classical.byContradiction
            intro h2; exact hq ⟨h1, h2⟩
          rw [h2]; rfl
        · rw [decide_eq_false h1]; rfl
      have ca := all_walk w s true hs
      have ca : Calls Tryd.prog 92 #[.string s, .int .i64 16] w fun e w' => e = .returned (.bool (allD true s.data.toList)) ∧ Below w.heap.size w w' := ca
      by_cases hok : allD true s.data.toList = true ∧ s.data.toList.length % 2 = 0
      · have e : bytesV s.data.toList = some (pairs s.data.toList) := by unfold bytesV; rw [if_neg h45, if_neg hq, if_pos hok]
        rw [e]
        rw [hok.1] at ca
        exact fromHex_hex w s _ _ (s.size / 2) h45' hqf hs (by omega) hok.1 cc ca
      · have e : bytesV s.data.toList = none := by unfold bytesV; rw [if_neg h45, if_neg hq, if_neg hok]
        rw [e]
        refine fromHex_bad w s _ _ _ h45' hqf hs cc ca ?_
        by_cases h1 : allD true s.data.toList = true
        · right
          have : ¬ s.data.toList.length % 2 = 0 := fun h2 => hok ⟨h1, h2⟩
          omega
        · left; simpa using h1
end Go.Proofs.YtigaacbaaopfmaaDoor.sh
