/- Words of 64 bits and lists of numbers as text, the program's and the document's, walked. -/
import Derived.Test.YtigaacbaaopfmaaDoorWrd
namespace Go.Proofs.YtigaacbaaopfmaaDoor.sh
open Go.RowKit
set_option linter.unusedVariables false
/-- What a call may rely on, the table of base 16 with it. -/
structure Base3 (w : World) : Prop where
  base : Base w
  db : w.cell? ⟨6, 15, none⟩ = some (.int .u8 4)
theorem Base3.below {w w' : World} (h : Base3 w) (k : Below w.heap.size w w') : Base3 w' := ⟨h.base.below k, cell_below h.db k (Nat.le_refl _)⟩
set_option maxHeartbeats 2000000 in
theorem formatUint_in (w : World) (u : Nat) (hu : u < 18446744073709551616) (h : Base3 w) : Calls Tryd.prog 76 #[.int .u64 u, .int .i64 16] w fun e w' => e = .returned (.string (B (hexW u))) ∧ Below w.heap.size w w' := by
  have c := formatBits_walk w u hu h.db
  go_enter Tryd.func76, Tryd.ntmps76
  go_wp2_with (go_at_call 91; (with_reducible refine c.mono ?_); rintro e w1 ⟨rfl, b1⟩)
  go_ret
  exact ⟨rfl, b1⟩
set_option maxHeartbeats 2000000 in
theorem formatUint_walk (w : World) (u : Nat) (hu : u < 18446744073709551616) (h : Base3 w) : Calls Tryd.prog 59 #[.int .u64 u, .int .i64 16] w fun e w' => e = .returned (.string (B (hexW u))) ∧ Below w.heap.size w w' := by
  have c := formatUint_in w u hu h
  go_enter Tryd.func59, Tryd.ntmps59
  go_wp2_with (go_at_call 76; (with_reducible refine c.mono ?_); rintro e w1 ⟨rfl, b1⟩)
  go_ret
  exact ⟨rfl, b1⟩
/-- A word as text. -/
def wordL (u : Nat) : List UInt8 := 48 :: 120 :: hexW u
def showW (u : Nat) : ByteArray := B (32 :: wordL u)
theorem wordL_len {u : Nat} (hu : u < 18446744073709551616) : (wordL u).length ≤ 18 := by
  have := hexW_len16 hu
  simp only [wordL, List.length_cons]; omega
set_option maxHeartbeats 2000000 in
theorem showWord_walk (w : World) (u : Nat) (hu : u < 18446744073709551616) (h : Base3 w) : Calls Tryd.prog 36 #[.int .u64 u] w fun e w' => e = .returned (.string (showW u)) ∧ Below w.heap.size w w' := by
  have c := formatUint_walk w u hu h
  have hl : (B (hexW u)).size ≤ 16 := by rw [B_size]; exact hexW_len16 hu
  have hR : showW u = B [32, 48, 120] ++ B (hexW u) := by rw [B_add]; rfl
  rw [hR]
  clear hR
  generalize B (hexW u) = s at c hl ⊢
  go_enter Tryd.func36, Tryd.ntmps36
  go_wp2_with (go_at_call 59; (with_reducible refine c.mono ?_); rintro e w1 ⟨rfl, b1⟩)
  go_ret
  exact ⟨rfl, b1⟩
def hexI (u : Nat) : List UInt8 := if u < 16 then [] else hexW (u / 16)
theorem hexW_snoc (u : Nat) : hexW u = hexI u ++ [hexd (u % 16)] := by
  unfold hexI
  split
  · next h => rw [hexW_small h, Nat.mod_eq_of_lt h]; rfl
  · next h => exact hexW_big h
set_option maxHeartbeats 8000000 in
theorem word_walk (w : World) (u : Nat) (hu : u < 18446744073709551616) : Calls Tryd.prog 39 #[.int .u64 u] w fun e w' => e = .returned (.string (B (wordL u))) ∧ Below w.heap.size w w' := by
  have hlen := hexW_len16 hu
  obtain ⟨R, hR⟩ : ∃ R, hexW u = R := ⟨_, rfl⟩
  have hres : B (wordL u) = B [48, 120] ++ B R := by rw [B_add, ← hR]; rfl
  rw [hres]
  rw [hR] at hlen
  clear hres
  obtain ⟨x0, hx0⟩ : ∃ x, hexd (u % 16) = x := ⟨_, rfl⟩
  have c0 := fun wq => hex_walk wq (u % 16) (by omega)
  have hm0 : ((u % 16 : Nat) : Int) = (u : Int) % 16 := by omega
  rw [hx0, hm0] at c0
  clear hm0
  have v0 := fun W : World => conv1 W x0
  have A0 : Aside0 (R = hexI u ++ [x0]) := ⟨by rw [← hR, ← hx0]; exact hexW_snoc u⟩
  clear hR hx0
  go_enter Tryd.func39, Tryd.ntmps39
  go_wp2_with (go_at_call 57; (with_reducible refine (c0 _).mono ?_); rintro e w1 ⟨rfl, hw1⟩; rw [hw1]; clear hw1 w1)
  go_loopg [0, 3] u (fun g v0 v3 wr => ∃ (S : List UInt8), v0 = .int .u64 g ∧ v3 = .string (B S) ∧ g < 18446744073709551616 ∧ Aside0 (R = hexI g ++ S) ∧ Below w.heap.size w wr)
  case atStart => exact ⟨[x0], rfl, rfl, hu, A0, (Below.refl _ _).alloc (Nat.le_refl _) _⟩
  case round =>
    obtain ⟨S, rfl, rfl, hg, hA, hB⟩ := hrel
    clear c0 v0 A0 hu
    have hSl : S.length ≤ 16 := by
      have := congrArg List.length hA.out
      rw [List.length_append] at this
      omega
    by_cases hbig : gk < 16
    · have hlt : ¬ ((gk : Int) ≥ 16) := by omega
      have HR : Aside0 (R = S) := ⟨by rw [hA.out]; unfold hexI; rw [if_pos hbig]; rfl⟩
      have hsz : (B S).size ≤ 16 := by rw [B_size]; exact hSl
      have e0 := fun W : World => run_string_add_sum (P := Tryd.prog) W (B [48, 120]) (B S) (by rw [B_size, B_size]; simp only [List.length_cons, List.length_nil]; omega)
      have HS : Aside0 (B R = B S) := ⟨by rw [HR.out]⟩
      clear hA HR
      simp only [B, List.toArray] at e0
      generalize B S = s at hsz HS
      go_wp2
      go_ret
      exact ⟨by rw [HS.out]; rfl, hB⟩
    · have hlt : ((gk : Int) ≥ 16) := by omega
      obtain ⟨x, hx⟩ : ∃ x, hexd (gk / 16 % 16) = x := ⟨_, rfl⟩
      have c1 := fun wq => hex_walk wq (gk / 16 % 16) (by omega)
      have hm : ((gk / 16 % 16 : Nat) : Int) = (gk : Int) / 16 % 16 := by omega
      rw [hx, hm] at c1
      clear hm
      have v1 := fun W : World => conv1 W x
      have A1 : Aside0 (R = hexI (gk / 16) ++ (x :: S)) := ⟨by
        rw [hA.out, ← hx]
        have : hexI gk = hexI (gk / 16) ++ [hexd (gk / 16 % 16)] := by
          conv => lhs; unfold hexI
          rw [if_neg hbig]; exact hexW_snoc (gk / 16)
        rw [this, List.append_assoc]; rfl⟩
      have hsz : (B S).size ≤ 16 := by rw [B_size]; exact hSl
      have hsx : (B [x]).size = 1 := by rw [B_size]; rfl
      have hsum : B [x] ++ B S = B (x :: S) := by rw [B_add]; rfl
      clear hA hx hSl
      generalize B S = s at hsz hsum
      generalize B [x] = y at v1 hsx hsum
      go_wp2_with (go_at_call 57; (with_reducible refine (c1 _).mono ?_); rintro e w1 ⟨rfl, rfl⟩)
      go_roundg (gk / 16)
      case measure => omega
      case rel => exact ⟨x :: S, by go_num, by rw [← hsum], by omega, A1, hB.alloc hB.size _⟩
theorem ref_word {w : World} (u : Nat) (hu : u < 18446744073709551616) (r : ByteArray) (hr : B (wordL u) = r) : r.size ≤ 200 ∧ ∀ wq, Below w.heap.size w wq → Calls Tryd.prog 39 #[.int .u64 u] wq fun e w' => e = .returned (.string r) ∧ Below wq.heap.size wq w' := by
  subst hr
  refine ⟨?_, fun wq h => word_walk wq u hu⟩
  rw [B_size]
  have := wordL_len hu
  omega
theorem show_word {w : World} (hb : Base3 w) (u : Nat) (hu : u < 18446744073709551616) (r : ByteArray) (hr : showW u = r) : r.size ≤ 200 ∧ ∀ wq, Below w.heap.size w wq → Calls Tryd.prog 36 #[.int .u64 u] wq fun e w' => e = .returned (.string r) ∧ Below wq.heap.size wq w' := by
  subst hr
  refine ⟨?_, fun wq h => showWord_walk wq u hu (hb.below h)⟩
  unfold showW
  rw [B_size]
  have := wordL_len hu
  simp only [List.length_cons]
  omega
/-- The numbers l lie from ⟨b, o⟩ on. -/
def LI (w : World) (b o : Nat) (l : List Int) : Prop := ∀ (j : Nat) (x : Int), l[j]? = some x → w.cell? ⟨b, o + j, none⟩ = some (.int .i64 x)
theorem LI.below {B : Nat} {w w' : World} {b o : Nat} {l : List Int} (h : LI w b o l) (k : Below B w w') (hB : w.heap.size ≤ B) : LI w' b o l := fun j x hx => cell_below (h j x hx) k hB
/-- A slice leads to its elements; nil has no capacity. -/
structure Hd (ao : Option Addr) (n c b o : Nat) : Prop where
  lead : n = 0 ∨ ao = some ⟨b, o, none⟩
  bare : ao = none → c = 0
  cap : n ≤ c
/-- Numbers as text, each behind a blank. -/
def numsL (l : List Int) : List UInt8 := l.flatMap fun n => 32 :: Lib.itoa n
def Ins (l : List Int) : Prop := ∀ x ∈ l, In64 x
theorem numsL_snoc (l : List Int) (x : Int) : numsL (l ++ [x]) = numsL l ++ (32 :: Lib.itoa x) := by simp [numsL]
theorem numsL_len : ∀ {l : List Int}, Ins l → (numsL l).length ≤ 101 * l.length
  | [], _ => by simp [numsL]
  | x :: l, h => by
    have h1 := numsL_len (l := l) (fun y hy => h y (List.mem_cons_of_mem _ hy))
    have h2 := h x (List.mem_cons_self ..)
    have h3 := itoa_len h2.1 h2.2
    show ((32 :: Lib.itoa x) ++ numsL l).length ≤ _
    simp only [List.length_append, List.length_cons]
    omega
theorem take_next {α : Type} {l : List α} {k : Nat} {x : α} (h : l[k]? = some x) : l.take (k + 1) = l.take k ++ [x] := by
  obtain ⟨hk, rfl⟩ := List.getElem?_eq_some_iff.1 h
  exact List.take_succ_eq_append_getElem hk
theorem Ins.take {l : List Int} (h : Ins l) (k : Nat) : Ins (l.take k) := fun x hx => h x (List.mem_of_mem_take hx)
set_option maxHeartbeats 8000000 in
theorem showNumbers_walk (w : World) (ao : Option Addr) (c b o : Nat) (l : List Int) (hb : Base w) (hd : Hd ao l.length c b o) (hl : LI w b o l) (hi : Ins l) (hn : l.length ≤ 2000000) :
    Calls Tryd.prog 60 #[.slice ao l.length c] w fun e w' => e = .returned (.string (B (numsL l))) ∧ Below w.heap.size w w' := by
  obtain ⟨n, hnl⟩ : ∃ n, l.length = n := ⟨_, rfl⟩
  have hd' := hd
  rw [hnl] at hd' ⊢
  obtain ⟨R, hR⟩ : ∃ R, numsL l = R := ⟨_, rfl⟩
  rw [hR]
  have HR : Aside0 (numsL l = R) := ⟨hR⟩
  clear hR hd
  go_enter Tryd.func60, Tryd.ntmps60
  go_wp2
  go_loopg [8] n (fun g v8 wr => ∃ k : Nat, v8 = .int .i64 k ∧ k + g = n ∧ IsB w.heap.size w.heap.size (numsL (l.take k)) wr ∧ Below w.heap.size w wr)
  case atStart => exact ⟨0, rfl, by omega, Lib.IsBuilderF.of (Lib.fresh_isBuilder 63 5 w), (Below.refl _ _).alloc (Nat.le_refl _) _⟩
  case round =>
    obtain ⟨k, rfl, hkg, hI, hB⟩ := hrel
    by_cases hk : k < n
    · have hlt : (k : Int) < (n : Int) := by omega
      obtain ⟨g, rfl⟩ : ∃ g, gk = g + 1 := ⟨gk - 1, by omega⟩
      obtain ⟨x, hx⟩ : ∃ x, l[k]? = some x := ⟨_, List.getElem?_eq_getElem (by omega)⟩
      obtain rfl : ao = some ⟨b, o, none⟩ := by rcases hd'.lead with h | h; omega; exact h
      have hc : wr.cell? ⟨b, o + k, none⟩ = some (.int .i64 x) := cell_below (hl k x hx) hB (Nat.le_refl _)
      have hin := hi x (List.mem_of_getElem? hx)
      obtain ⟨r, hr⟩ : ∃ r, showN x = r := ⟨_, rfl⟩
      obtain ⟨hs, c1⟩ := show_num hb x hin r hr
      have HN : Aside0 (numsL (l.take (k + 1)) = numsL (l.take k) ++ r.data.toList) := ⟨by rw [take_next hx, numsL_snoc, ← hr, showN, B]⟩
      have hnl2 : (numsL (l.take k)).length ≤ 202000000 := by
        have := numsL_len (hi.take k)
        have h2 : (l.take k).length ≤ l.length := List.length_take_le' ..
        omega
      clear hr
      generalize numsL (l.take k) = M at hI HN hnl2
      go_wp2_with (first
        | (go_at_call 29; (with_reducible refine (c1 _ hB).mono ?_); rintro e w1 ⟨rfl, b1⟩; have hB1 : Below w.heap.size w w1 := below_next hB b1)
        | (go_at_call 35; (with_reducible refine (writeString_walk _ _ M r _ (hI.below b1) (by omega) hB1.size).mono ?_); rintro e w2 ⟨rfl, hI2, b2⟩))
      go_roundg g
      case measure => omega
      case rel => exact ⟨k + 1, by go_num, by omega, by rw [HN.out]; exact hI2, hB1.trans b2⟩
    · obtain rfl : k = n := by omega
      have hlt : ¬ (k : Int) < (k : Int) := by omega
      rw [List.take_of_length_le (by omega), HR.out] at hI
      go_wp2_with (go_at_call 38; (with_reducible refine (Tryd.Builder_String_any_f _ _ R _ hI hB.size).mono ?_); rintro e w2 ⟨rfl, _, b2⟩)
      go_ret
      exact ⟨rfl, hB.trans b2⟩
set_option maxHeartbeats 8000000 in
theorem numbers_walk (w : World) (ao : Option Addr) (c b o : Nat) (l : List Int) (hd : Hd ao l.length c b o) (hl : LI w b o l) (hi : Ins l) (hn : l.length ≤ 2000000) :
    Calls Tryd.prog 61 #[.slice ao l.length c] w fun e w' => e = .returned (.string (B (numsL l))) ∧ Below w.heap.size w w' := by
  obtain ⟨n, hnl⟩ : ∃ n, l.length = n := ⟨_, rfl⟩
  have hd' := hd
  rw [hnl] at hd' ⊢
  obtain ⟨R, hR⟩ : ∃ R, B (numsL l) = R := ⟨_, rfl⟩
  rw [hR]
  have HR : Aside0 (B (numsL l) = R) := ⟨hR⟩
  clear hR hd
  go_enter Tryd.func61, Tryd.ntmps61
  go_wp2
  go_loopg [3, 4] n (fun g v3 v4 wr => ∃ k : Nat, v4 = .int .i64 k ∧ k + g = n ∧ v3 = .string (B (numsL (l.take k))) ∧ Below w.heap.size w wr)
  case atStart => exact ⟨0, rfl, by omega, rfl, Below.refl _ _⟩
  case round =>
    obtain ⟨k, rfl, hkg, rfl, hB⟩ := hrel
    by_cases hk : k < n
    · have hlt : (k : Int) < (n : Int) := by omega
      obtain ⟨g, rfl⟩ : ∃ g, gk = g + 1 := ⟨gk - 1, by omega⟩
      obtain ⟨x, hx⟩ : ∃ x, l[k]? = some x := ⟨_, List.getElem?_eq_getElem (by omega)⟩
      obtain rfl : ao = some ⟨b, o, none⟩ := by rcases hd'.lead with h | h; omega; exact h
      have hc : wr.cell? ⟨b, o + k, none⟩ = some (.int .i64 x) := cell_below (hl k x hx) hB (Nat.le_refl _)
      have hin := hi x (List.mem_of_getElem? hx)
      obtain ⟨r, hr⟩ : ∃ r, B (Lib.itoa x) = r := ⟨_, rfl⟩
      have hs : r.size ≤ 200 := by rw [← hr, B_size]; have := itoa_len hin.1 hin.2; omega
      have c1 : ∀ wq, Calls Tryd.prog 33 #[.int .i64 x] wq fun e w' => e = .returned (.string r) ∧ Below wq.heap.size wq w' := fun wq => hr ▸ decimal_walk wq x hin.1 hin.2
      have HN : Aside0 (B (numsL (l.take (k + 1))) = B (numsL (l.take k)) ++ B [32] ++ r) := ⟨by rw [take_next hx, numsL_snoc, ← hr, B_add, B_add, List.append_assoc]; rfl⟩
      have hnl2 : (B (numsL (l.take k))).size ≤ 202000000 := by
        rw [B_size]
        have := numsL_len (hi.take k)
        have h2 : (l.take k).length ≤ l.length := List.length_take_le' ..
        omega
      clear hr
      generalize B (numsL (l.take k)) = M at HN hnl2
      go_wp2_with (go_at_call 33; (with_reducible refine (c1 _).mono ?_); rintro e w1 ⟨rfl, b1⟩)
      go_roundg g
      case measure => omega
      case rel => exact ⟨k + 1, by go_num, by omega, by rw [HN.out]; rfl, below_next hB b1⟩
    · obtain rfl : k = n := by omega
      have hlt : ¬ (k : Int) < (k : Int) := by omega
      rw [List.take_of_length_le (by omega), HR.out]
      go_wp2
      go_ret
      exact ⟨rfl, hB⟩
end Go.Proofs.YtigaacbaaopfmaaDoor.sh
