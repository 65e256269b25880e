/- The document's Bytes: walked. -/
import Derived.Test.YtigaacbaaopfmaaDoorNu
import Derived.Test.YtigaacbaaopfmaaDoorRd
namespace Go.Proofs.YtigaacbaaopfmaaDoor.sh
open Go.RowKit
set_option linter.unusedVariables false
set_option maxHeartbeats 8000000 in
set_option maxRecDepth 100000 in
theorem rbytes_dash (w : World) : Calls Tryd.prog 73 #[.string ⟨#[45]⟩] w fun e w' => e = .returned (.tuple #[.string ⟨#[]⟩, .int .i64 0]) ∧ Below w.heap.size w w' := by
  go_enter Tryd.func73, Tryd.ntmps73
  go_wp2
  go_ret2
  exact ⟨rfl, Below.refl _ _⟩
set_option maxHeartbeats 8000000 in
set_option maxRecDepth 100000 in
theorem rbytes_empty (w : World) : Calls Tryd.prog 73 #[.string ⟨#[]⟩] w fun e w' => e = .returned (.tuple #[.string ⟨#[]⟩, .int .i64 160]) ∧ Below w.heap.size w w' := by
  go_enter Tryd.func73, Tryd.ntmps73
  go_wp2
  go_ret2
  exact ⟨rfl, Below.refl _ _⟩
set_option maxHeartbeats 8000000 in
set_option maxRecDepth 100000 in
theorem rbytes_one (w : World) (s : ByteArray) (h45 : (s.toList == [45]) = false) (hne : s.toList.isEmpty = false) (h1 : s.size = 1) : Calls Tryd.prog 73 #[.string s] w fun e w' => e = .returned (.tuple #[.string ⟨#[]⟩, .int .i64 160]) ∧ Below w.heap.size w w' := by
  have k1 : ¬ (s.size : Int) > 1 := by omega
  have k2 : ((s.size : Int) % 2 == 1) = true := beq_iff_eq.2 (by omega)
  clear h1
  go_enter Tryd.func73, Tryd.ntmps73
  go_wp2
  go_ret2
  exact ⟨rfl, Below.refl _ _⟩
set_option maxHeartbeats 8000000 in
set_option maxRecDepth 100000 in
theorem rbytes_quote (w : World) (s : ByteArray) (h45 : (s.toList == [45]) = false) (h1 : 1 < s.size) (hx : ∀ W, (Instr.index 9 (.string s) (.int .i64 0)).run Tryd.prog W = .ok (.int .u8 39) W) : Calls Tryd.prog 73 #[.string s] w fun e w' => e = .returned (.tuple #[.string (s.extract 1 s.size), .int .i64 0]) ∧ Below w.heap.size w w' := by
  have k1 : (s.size : Int) > 1 := by omega
  have k2 : 1 ≤ s.size := by omega
  go_enter Tryd.func73, Tryd.ntmps73
  go_wp2
  go_ret2
  exact ⟨rfl, Below.refl _ _⟩
set_option maxHeartbeats 8000000 in
set_option maxRecDepth 100000 in
theorem rbytes_odd (w : World) (s : ByteArray) (h45 : (s.toList == [45]) = false) (hne : s.toList.isEmpty = false) (h1 : 1 < s.size) (c : Nat) (hx : ∀ W, (Instr.index 9 (.string s) (.int .i64 0)).run Tryd.prog W = .ok (.int .u8 (c : Int)) W) (hc : ((c : Int) == 39) = false) (ho : s.size % 2 = 1) : Calls Tryd.prog 73 #[.string s] w fun e w' => e = .returned (.tuple #[.string ⟨#[]⟩, .int .i64 160]) ∧ Below w.heap.size w w' := by
  have k1 : (s.size : Int) > 1 := by omega
  have k2 : ((s.size : Int) % 2 == 1) = true := beq_iff_eq.2 (by omega)
  clear ho
  go_enter Tryd.func73, Tryd.ntmps73
  go_wp2
  go_ret2
  exact ⟨rfl, Below.refl _ _⟩
set_option maxHeartbeats 8000000 in
set_option maxRecDepth 100000 in
theorem rbytes_hex (w : World) (s : ByteArray) (hs : s.size ≤ 3000000) (h45 : (s.toList == [45]) = false) (hne : s.toList.isEmpty = false) (h1 : 1 < s.size) (c : Nat) (hx : ∀ W, (Instr.index 9 (.string s) (.int .i64 0)).run Tryd.prog W = .ok (.int .u8 (c : Int)) W) (hc : ((c : Int) == 39) = false) (n : Nat) (hn : s.size = 2 * n)
    (R : Value) (hR1 : s.data.toList.all (isD true) = true → R = .tuple #[.string (B (pairs s.data.toList)), .int .i64 0]) (hR2 : s.data.toList.all (isD true) = false → R = .tuple #[.string ⟨#[]⟩, .int .i64 160]) :
    Calls Tryd.prog 73 #[.string s] w fun e w' => e = .returned R ∧ Below w.heap.size w w' := by
  have k1 : (s.size : Int) > 1 := by omega
  have k2 : ((s.size : Int) % 2 == 1) = false := beq_eq_false_iff_ne.2 (by omega)
  have cd : ∀ wq c, Calls Tryd.prog 86 #[.int .u8 ((c : UInt8).toNat : Int), .int .i64 16] wq fun e w' => e = .returned (.int .i64 (digV true c)) ∧ wq = w' := fun wq c => digit_walk wq true c
  have HR1 : Aside0 (s.data.toList.all (isD true) = true → R = .tuple #[.string (B (pairs s.data.toList)), .int .i64 0]) := ⟨hR1⟩
  have HR2 : Aside0 (s.data.toList.all (isD true) = false → R = .tuple #[.string ⟨#[]⟩, .int .i64 160]) := ⟨hR2⟩
  have HN : Aside0 (s.size = 2 * n ∧ s.data.toList.length = s.size ∧ 0 < n) := ⟨hn, by rw [Array.length_toList]; rfl, by omega⟩
  clear hR1 hR2 hn
  have hnil := World.ownsRow_nil w w.heap.size 5 1
  go_enter Tryd.func73, Tryd.ntmps73
  go_wp2
  clear hx hc h1 k1 k2
  go_loopg [4, 5] n (fun g v4 v5 wr => ∃ k : Nat, v5 = .int .i64 ((2 * k : Nat) : Int) ∧ k + g = n ∧ wr.ownsRow w.heap.size 5 1 v4 k (us (pairs (s.data.toList.take (2 * k)))) ∧ Aside0 ((s.data.toList.take (2 * k)).all (isD true) = true) ∧ Below w.heap.size w wr)
  case atStart => exact ⟨0, rfl, by omega, hnil, ⟨by simp⟩, Below.refl _ _⟩
  case round =>
    obtain ⟨k, rfl, hkg, hown, hA, hB⟩ := hrel
    clear hnil
    obtain ⟨hsz, hlen, hpos⟩ := HN.out
    by_cases hk : k < n
    · obtain ⟨g, rfl⟩ : ∃ g, gk = g + 1 := ⟨gk - 1, by omega⟩
      obtain ⟨x, hx⟩ : ∃ x, s.data.toList[2 * k]? = some x := ⟨_, List.getElem?_eq_getElem (by omega)⟩
      obtain ⟨y, hy⟩ : ∃ y, s.data.toList[2 * k + 1]? = some y := ⟨_, List.getElem?_eq_getElem (by omega)⟩
      have hix := index_at s (2 * k) x hx
      have hiy := index_at s (2 * k + 1) y hy
      have hj1 : ((2 * k + 1 : Nat) : Int) = ((2 * k : Nat) : Int) + 1 := by omega
      rw [hj1] at hiy
      have cx := fun wq => cd wq x
      have cy := fun wq => cd wq y
      have hlt : ((2 * k : Nat) : Int) < (s.size : Int) := by omega
      have hj2 : ((2 * k : Nat) : Int) ≤ 3000000 := by omega
      have HJ : Aside0 (((2 * k : Nat) : Int) + 2 = ((2 * (k + 1) : Nat) : Int)) := ⟨by omega⟩
      have hmx : x ∈ s.data.toList := List.mem_of_getElem? hx
      have hmy : y ∈ s.data.toList := List.mem_of_getElem? hy
      have bad : isD true x = false ∨ isD true y = false → Aside0 (R = .tuple #[.string ⟨#[]⟩, .int .i64 160]) := fun h => ⟨HR2.out (by
        rw [List.all_eq_false]
        rcases h with h | h
        · exact ⟨x, hmx, by rw [h]; exact Bool.false_ne_true⟩
        · exact ⟨y, hmy, by rw [h]; exact Bool.false_ne_true⟩)⟩
      have neg : ∀ z, isD true z = false → digV true z < 0 := fun z h => by unfold digV; rw [if_neg (by rw [h]; exact Bool.false_ne_true)]; omega
      have pos : ∀ z, isD true z = true → digV true z = hv z ∧ hv z < 16 := fun z h => ⟨by unfold digV; rw [if_pos h], hv16 h⟩
      cases hdx : isD true x with
      | false =>
        have A := bad (Or.inl hdx)
        have n1 := neg x hdx
        clear bad neg pos hx hy hmx hmy hdx hA hown HJ cd hlen hsz
        obtain ⟨j, hj⟩ : ∃ j, 2 * k = j := ⟨_, rfl⟩
        rw [hj] at hix hiy hlt hj2 hj1 ⊢
        clear hj hj1
        have hsl : (j : Int) + 1 < (s.size : Int) ∨ True := Or.inr trivial
        clear hsl
        generalize digV true x = vx at cx n1
        generalize digV true y = vy at cy
        generalize x.toNat = xx at hix cx
        generalize y.toNat = yy at hiy cy
        go_wp2_with (first
          | (go_at_call 86; (with_reducible refine (cx _).mono ?_); rintro e w1 ⟨rfl, rfl⟩)
          | (go_at_call 86; (with_reducible refine (cy _).mono ?_); rintro e w1 ⟨rfl, rfl⟩))
        go_ret2
        exact ⟨by rw [A.out]; rfl, hB⟩
      | true =>
        cases hdy : isD true y with
        | false =>
          have A := bad (Or.inr hdy)
          have n1 := neg y hdy
          obtain ⟨p1, p2⟩ := pos x hdx
          have n0 : ¬ digV true x < 0 := by omega
          clear bad neg pos hx hy hmx hmy hdx hdy hA hown HJ cd hlen hsz p1 p2
          obtain ⟨j, hj⟩ : ∃ j, 2 * k = j := ⟨_, rfl⟩
          rw [hj] at hix hiy hlt hj2 hj1 ⊢
          clear hj hj1
          generalize digV true x = vx at cx n0
          generalize digV true y = vy at cy n1
          generalize x.toNat = xx at hix cx
          generalize y.toNat = yy at hiy cy
          go_wp2_with (first
            | (go_at_call 86; (with_reducible refine (cx _).mono ?_); rintro e w1 ⟨rfl, rfl⟩)
            | (go_at_call 86; (with_reducible refine (cy _).mono ?_); rintro e w1 ⟨rfl, rfl⟩))
          go_ret2
          exact ⟨by rw [A.out]; rfl, hB⟩
        | true =>
          obtain ⟨p1, p2⟩ := pos x hdx
          obtain ⟨q1, q2⟩ := pos y hdy
          have HP : Aside0 (pairs (s.data.toList.take (2 * (k + 1))) = pairs (s.data.toList.take (2 * k)) ++ [UInt8.ofNat (16 * hv x + hv y)]) := ⟨pairs_step k _ x y hx hy⟩
          have A1 : Aside0 ((s.data.toList.take (2 * (k + 1))).all (isD true) = true) := ⟨by
            rw [show 2 * (k + 1) = 2 * k + 1 + 1 by omega, take_next hy, take_next hx, List.all_append, List.all_append, hA.out]
            simp [hdx, hdy]⟩
          have hz : 16 * digV true x + digV true y = ((UInt8.ofNat (16 * hv x + hv y)).toNat : Int) := by
            rw [p1, q1, UInt8.toNat_ofNat']; omega
          have n0 : ¬ digV true x < 0 := by omega
          have n1 : ¬ digV true y < 0 := by omega
          have b0 : (0 : Int) ≤ digV true x := by omega
          have b1 : digV true x ≤ 15 := by omega
          have b2 : (0 : Int) ≤ digV true y := by omega
          have b3 : digV true y ≤ 15 := by omega
          have hz1 : ((UInt8.ofNat (16 * hv x + hv y)).toNat : Int) ≤ 255 := by have := (UInt8.ofNat (16 * hv x + hv y)).toNat_lt; omega
          have hk2 : k ≤ 1500000 := by omega
          clear bad neg pos hx hy hmx hmy hdx hdy hA cd hlen hsz p1 p2 q1 q2
          obtain ⟨j, hj⟩ : ∃ j, 2 * k = j := ⟨_, rfl⟩
          rw [hj] at hix hiy hlt hj2 hj1 hown HJ HP ⊢
          clear hj hj1
          generalize UInt8.ofNat (16 * hv x + hv y) = z at HP hz hz1
          generalize digV true x = vx at cx n0 b0 b1 hz
          generalize digV true y = vy at cy n1 b2 b3 hz
          generalize x.toNat = xx at hix cx
          generalize y.toNat = yy at hiy cy
          generalize pairs (s.data.toList.take j) = L at hown HP
          go_wp2_with (first
            | (go_at_call 86; (with_reducible refine (cx _).mono ?_); rintro e w1 ⟨rfl, rfl⟩)
            | (go_at_call 86; (with_reducible refine (cy _).mono ?_); rintro e w1 ⟨rfl, rfl⟩)
            | (at_builtin; (refine wpList_app rfl (.tmp 49) (.tmp 55) rfl w.heap.size k _ (us L) [z] (by simp) hown rfl rfl (by simp; omega) hB.size rfl ?_; intro v1 w3 own2 gr1; have bel1 := below_app rfl hB hown gr1)))
          go_roundg g
          case measure => omega
          case rel => exact ⟨k + 1, by rw [← HJ.out], by omega, by rw [HP.out, us_append]; exact own2, A1, bel1⟩
    · obtain rfl : k = n := by omega
      have hlt : ¬ ((2 * k : Nat) : Int) < (s.size : Int) := by omega
      rw [List.take_of_length_le (by omega)] at hown
      have hA' := hA.out
      rw [List.take_of_length_le (by omega)] at hA'
      have A : Aside0 (R = .tuple #[.string (B (pairs s.data.toList)), .int .i64 0]) := ⟨HR1.out hA'⟩
      obtain ⟨gg, cp, rfl, hconv⟩ := conv_own hown (own_pos hown (by omega))
      generalize B (pairs s.data.toList) = rr at hconv A
      clear hown hk hA hA' cd hlen hsz
      obtain ⟨j, hj⟩ : ∃ j, 2 * k = j := ⟨_, rfl⟩
      rw [hj] at hlt
      rw [hj]
      clear hj
      go_wp2
      go_ret2
      exact ⟨by rw [A.out]; rfl, hB⟩
/-- Bytes, the document's. -/
theorem rbytes_walk (w : World) (s : ByteArray) (hs : s.size ≤ 3000000) :
    Calls Tryd.prog 73 #[.string s] w fun e w' => e = .returned (.tuple #[.string (B ((bytesV s.data.toList).getD [])), .int .i64 (if (bytesV s.data.toList).isSome then 0 else 160)]) ∧ Below w.heap.size w w' := by
  have hlen : s.data.toList.length = s.size := by rw [Array.length_toList]; rfl
  by_cases h45 : s.data.toList = [45]
  · have e : bytesV s.data.toList = some [] := by unfold bytesV; rw [if_pos h45]
    rw [e, eq_of_toList h45]
    exact rbytes_dash w
  · have h45' : (s.toList == [45]) = false := by rw [bytes_eq_iff]; exact decide_eq_false h45
    cases hl : s.data.toList with
    | nil =>
      have e : bytesV [] = none := by decide
      rw [e, isEmpty_nil hl]
      exact rbytes_empty w
    | cons c t =>
      have hne := nonempty hl
      have hx := index0 hl
      have hsz := size_cons hl
      by_cases ht : t = []
      · have e : bytesV (c :: t) = none := by
          rw [← hl]
          unfold bytesV
          rw [if_neg h45, if_neg (by rw [hl, ht]; simp), if_neg (by rw [hl, ht]; simp)]
        rw [e]
        exact rbytes_one w s h45' hne (by rw [hsz, ht]; rfl)
      · have ht1 : 0 < t.length := List.length_pos_iff.2 ht
        by_cases h39 : c = 39
        · subst h39
          have e : bytesV (39 :: t) = some t := by
            rw [← hl]
            unfold bytesV
            rw [if_neg h45, if_pos (by rw [hl]; simpa using ht), hl]; rfl
          rw [e]
          have e1 : B t = s.extract 1 s.size := by rw [← extract1 hl, B_of]
          show Calls _ _ _ _ (fun e w' => e = .returned (.tuple #[.string (B t), .int .i64 0]) ∧ _)
          rw [e1]
          exact rbytes_quote w s h45' (by omega) hx
        · have hc : ((c.toNat : Int) == 39) = false := beq_eq_false_iff_ne.2 (fun e => h39 (by
            have h2 : c.toNat = (39 : UInt8).toNat := by
              have : (39 : UInt8).toNat = 39 := rfl
              omega
            exact UInt8.toNat_inj.1 h2))
          have hq : ¬ (s.data.toList.head? = some 39 ∧ s.data.toList.tail ≠ []) := by rw [hl]; simp [h39]
          by_cases ho : s.size % 2 = 1
          · have e : bytesV (c :: t) = none := by
              rw [← hl]
              unfold bytesV
              rw [if_neg h45, if_neg hq, if_neg (by omega)]
            rw [e]
            exact rbytes_odd w s h45' hne (by omega) c.toNat hx hc ho
          · rw [← hl]
            refine rbytes_hex w s hs h45' hne (by omega) c.toNat hx hc (s.size / 2) (by omega) _ (fun ha => ?_) (fun ha => ?_)
            · have e : bytesV s.data.toList = some (pairs s.data.toList) := by
                unfold bytesV
                rw [if_neg h45, if_neg hq, if_pos ⟨by unfold allD; rw [ha, hl]; rfl, by omega⟩]
              rw [e]; rfl
            · have e : bytesV s.data.toList = none := by
                unfold bytesV
                rw [if_neg h45, if_neg hq, if_neg (by unfold allD; rw [ha]; simp)]
              rw [e]; rfl
end Go.Proofs.YtigaacbaaopfmaaDoor.sh
