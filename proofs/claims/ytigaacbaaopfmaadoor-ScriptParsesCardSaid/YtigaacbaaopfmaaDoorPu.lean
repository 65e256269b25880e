/- ParseUint at base 16 and ParseInt, ParseUint at base 10, of texts of digits: walked. -/
import Derived.Test.YtigaacbaaopfmaaDoorAll
import Derived.Lib.AtoiErrMem
import Derived.BigCall
import Derived.BigGuard
import Derived.Laws.Closers25
import Derived.Laws.Closers25b
import Derived.Laws.Strings3
namespace Go.Proofs.YtigaacbaaopfmaaDoor.sh
open Go.RowKit
set_option linter.unusedVariables false
/-- A digit's value. -/
def hv (c : UInt8) : Nat := if c.toNat ≤ 57 then c.toNat - 48 else if c.toNat ≤ 70 then c.toNat - 55 else c.toNat - 87
def rad (b : Bool) : Nat := if b then 16 else 10
/-- What the digits spell, behind a. -/
def valF (b : Bool) (a : Nat) : List UInt8 → Nat
  | [] => a
  | c :: r => valF b (a * rad b + hv c) r
def val (b : Bool) (l : List UInt8) : Nat := valF b 0 l
theorem valF_ge (b : Bool) : ∀ (l : List UInt8) (a : Nat), a ≤ valF b a l
  | [], a => Nat.le_refl a
  | c :: r, a => by
    have h := valF_ge b r (a * rad b + hv c)
    have h2 : a ≤ a * rad b := Nat.le_mul_of_pos_right a (by unfold rad; split <;> omega)
    show a ≤ valF b (a * rad b + hv c) r
    omega
theorem valF_ge1 (b : Bool) (c : UInt8) (r : List UInt8) (a : Nat) : a * rad b + hv c ≤ valF b a (c :: r) := valF_ge b r _
theorem hv_dig {c : UInt8} (h : 48 ≤ c.toNat ∧ c.toNat ≤ 57) : hv c = c.toNat - 48 := by unfold hv; rw [if_pos h.2]
theorem hv_low {c : UInt8} (h : 97 ≤ c.toNat ∧ c.toNat ≤ 102) : hv c = c.toNat - 87 := by unfold hv; rw [if_neg (by omega), if_neg (by omega)]
theorem hv_up {c : UInt8} (h : 65 ≤ c.toNat ∧ c.toNat ≤ 70) : hv c = c.toNat - 55 := by unfold hv; rw [if_neg (by omega), if_pos (by omega)]
theorem isD_false {c : UInt8} (h : isD false c = true) : 48 ≤ c.toNat ∧ c.toNat ≤ 57 := by
  unfold isD at h; simpa using h
theorem isD_true {c : UInt8} (h : isD true c = true) : (48 ≤ c.toNat ∧ c.toNat ≤ 57) ∨ (97 ≤ c.toNat ∧ c.toNat ≤ 102) ∨ (65 ≤ c.toNat ∧ c.toNat ≤ 70) := by
  unfold isD at h; simpa using h
theorem or32 : ∀ c : Fin 256, (97 ≤ c.val ∧ c.val ≤ 102 → bits .or .u8 ((c.val : Nat) : Int) 32 = ((c.val : Nat) : Int)) ∧ (65 ≤ c.val ∧ c.val ≤ 70 → bits .or .u8 ((c.val : Nat) : Int) 32 = ((c.val : Nat) : Int) + 32) := by decide +kernel
theorem or32_low (c : Nat) (h : 97 ≤ c ∧ c ≤ 102) : bits .or .u8 (c : Int) 32 = (c : Int) := (or32 ⟨c, by omega⟩).1 h
theorem or32_up (c : Nat) (h : 65 ≤ c ∧ c ≤ 70) : bits .or .u8 (c : Int) 32 = (c : Int) + 32 := (or32 ⟨c, by omega⟩).2 h
theorem low_run (c : Nat) (h : (97 ≤ c ∧ c ≤ 102) ∨ (65 ≤ c ∧ c ≤ 70)) (x : Nat) (hx : (97 ≤ c ∧ x = c) ∨ (c ≤ 70 ∧ x = c + 32)) (w : World) : Calls Tryd.prog 123 #[.int .u8 (c : Int)] w fun e w' => e = .returned (.int .u8 ((x : Nat) : Int)) ∧ w' = w := by
  have e : bits .or .u8 (c : Int) 32 = (x : Int) := by
    rcases h with h | h
    · rw [or32_low c h]; omega
    · rw [or32_up c h]; omega
  rw [← e]; exact Tryd.internal_strconv_lower _ _
/-- What a parse of digits answers: M is the greatest number. -/
def puV (M V : Nat) : Value := if V ≤ M then .tuple #[.int .u64 (V : Nat), .nilIface] else .tuple #[.int .u64 (M : Nat), .iface 166 (.int .i64 1)]
theorem puV_ok {M V : Nat} (h : V ≤ M) : puV M V = .tuple #[.int .u64 (V : Nat), .nilIface] := if_pos h
theorem puV_no {M V : Nat} (h : ¬ V ≤ M) : puV M V = .tuple #[.int .u64 (M : Nat), .iface 166 (.int .i64 1)] := if_neg h
set_option maxHeartbeats 32000000 in
set_option maxRecDepth 100000 in
theorem pu16_64 (t : ByteArray) (hd : allD true t.data.toList = true) (hmax : t.size ≤ 3000000) (w : World) :
    Calls Tryd.prog 110 #[.string t, .int .i64 16, .int .i64 64] w fun e w' => e = .returned (puV 18446744073709551615 (val true t.data.toList)) ∧ Below w.heap.size w w' := by
  unfold allD at hd
  rw [Bool.and_eq_true] at hd
  obtain ⟨hne, hall⟩ := hd
  have hemp : t.toList.isEmpty = false := by rw [← isEmpty_iff]; simpa using hne
  have hcv := Lib.run_convert_string_bytes (P := Tryd.prog) w 9 61 5 t (u := .string) Tryd.underlying9 Tryd.underlying61 Tryd.underlying5
  have hB : ∀ j, j < t.size → (Lib.bytesWorld w 5 t).cell? ⟨w.heap.size, j, none⟩ = some (.int .u8 (t.data.toList.getD j 0).toNat) := fun j hj => Lib.bytesWorld_cell w 5 t j hj
  have hbel := Lib.bytesWorld_below w 5 t
  obtain ⟨W1, hW1⟩ : ∃ W1, W1 = Lib.bytesWorld w 5 t := ⟨_, rfl⟩
  rw [← hW1] at hcv hB hbel
  clear hW1 hne
  obtain ⟨bs, hL⟩ : ∃ bs, bs = t.data.toList := ⟨_, rfl⟩
  have hLn : bs.length = t.size := by rw [hL, Lib.size_eq]
  rw [← hL] at hB hall ⊢
  clear hL
  obtain ⟨R, hR⟩ : ∃ R, puV 18446744073709551615 (val true bs) = R := ⟨_, rfl⟩
  rw [hR]
  obtain ⟨V, hV⟩ : ∃ V, val true bs = V := ⟨_, rfl⟩
  rw [hV] at hR
  have HR : Aside0 (puV 18446744073709551615 V = R) := ⟨hR⟩
  have HV : Aside0 (valF true 0 bs = V) := ⟨hV⟩
  clear hR hV
  have hmv : IntKind.u64.wrap (IntKind.u64.wrap 18446744073709551616 - 1) = 18446744073709551615 := by
    rw [IntKind.wrap_u64, IntKind.wrap_u64]
    decide
  go_enter Tryd.func110, Tryd.ntmps110
  go_wp2
  go_loopg [12, 13, 101] t.size (fun g vu vn vi wr => ∃ (k acc : Nat) (a : Int), vu = .bool false ∧ vn = .int .u64 a ∧ vi = .int .i64 k ∧ k + g = t.size ∧ wr = W1 ∧ Aside0 (a = (acc : Int) ∧ acc ≤ 18446744073709551615 ∧ valF true acc (bs.drop k) = V))
  case atStart => exact ⟨0, 0, 0, rfl, rfl, rfl, by omega, rfl, ⟨rfl, by omega, HV.out⟩⟩
  case round =>
    obtain ⟨k, acc, a, rfl, rfl, rfl, hk, rfl, hh⟩ := hrel
    obtain ⟨ha, hacc, hdec⟩ := hh.out
    clear hh HV
    have a0 : 0 ≤ a := by omega
    have a1 : a ≤ 18446744073709551615 := by omega
    by_cases hkn : k < t.size
    · obtain ⟨g, rfl⟩ : ∃ g, gk = g + 1 := ⟨gk - 1, by omega⟩
      have hc := hB k hkn
      have hdrop : bs.drop k = bs[k]'(by omega) :: bs.drop (k + 1) := List.drop_eq_getElem_cons (by omega)
      have hget : bs.getD k 0 = bs[k]'(by omega) := by simp [List.getD, List.getElem?_eq_getElem (show k < bs.length by omega)]
      have hdg : isD true (bs[k]'(by omega)) = true := List.all_eq_true.1 hall _ (List.getElem_mem _)
      rw [hdrop] at hdec
      rw [hget] at hc
      generalize bs[k]'(by omega) = c at hc hdec hdg
      have hge := valF_ge1 true c (bs.drop (k + 1)) acc
      rw [hdec] at hge
      have hdec' : valF true (acc * 16 + hv c) (bs.drop (k + 1)) = V := hdec
      have hge' : acc * 16 + hv c ≤ V := hge
      have hlow := low_run c.toNat
      have hgeR : ∃ d : Nat, hv c = d ∧ d < 16 ∧ (d : Int) = (if c.toNat ≤ 57 then (c.toNat : Int) - 48 else if c.toNat ≤ 70 then (c.toNat : Int) - 55 else (c.toNat : Int) - 87) := by
        rcases isD_true hdg with h | h | h
        · exact ⟨_, hv_dig h, by omega, by rw [if_pos h.2]; omega⟩
        · exact ⟨_, hv_low h, by omega, by rw [if_neg (by omega), if_neg (by omega)]; omega⟩
        · exact ⟨_, hv_up h, by omega, by rw [if_neg (by omega), if_pos h.2]; omega⟩
      obtain ⟨d, hd, hd16, hdc⟩ := hgeR
      rw [hd] at hdec' hge'
      have HD := isD_true hdg
      clear hdec hge hdg hd hdrop hget hB hall hemp hcv hmv
      generalize c.toNat = c at hc hlow hdc HD
      have HO : Aside0 (¬ V ≤ 18446744073709551615 → R = .tuple #[.int .u64 18446744073709551615, .iface 166 (.int .i64 1)]) := ⟨fun h => HR.out.symm.trans (puV_no h)⟩
      have HX : Aside0 (acc ≤ 18446744073709551615 ∧ a = (acc : Int)) := ⟨hacc, ha⟩
      have A0 : Aside0 (valF true (acc * 16 + d) (bs.drop (k + 1)) = V ∧ acc * 16 + d ≤ V) := ⟨hdec', hge'⟩
      clear hdec' hge' hacc ha HR
      rcases HD with h | h | h
      · have hdv : (d : Int) = (c : Int) - 48 := by rw [if_pos h.2] at hdc; omega
        have k1 : (48 : Int) ≤ c := by omega
        have k2 : (c : Int) ≤ 57 := by omega
        have k3 : ((c : Int) == 95) = false := beq_eq_false_iff_ne.2 (by omega)
        by_cases hcut : 1152921504606846976 ≤ acc
        · have k6 : (1152921504606846976 : Int) ≤ a := by have := HX.out; omega
          have A : Aside0 (R = .tuple #[.int .u64 18446744073709551615, .iface 166 (.int .i64 1)]) := ⟨HO.out (by have := A0.out; omega)⟩
          clear hlow hdc h hdv hcut HX HO A0
          go_wp2
          go_returns
          exact ⟨by rw [A.out]; rfl, hbel⟩
        · have k6 : ¬ (1152921504606846976 : Int) ≤ a := by have := HX.out; omega
          have k8 : a * 16 + ((c : Int) - 48) ≤ 18446744073709551615 := by have := HX.out; omega
          have A : Aside0 (a * 16 + ((c : Int) - 48) = ((acc * 16 + d : Nat) : Int) ∧ acc * 16 + d ≤ 18446744073709551615 ∧ valF true (acc * 16 + d) (bs.drop (k + 1)) = V) := ⟨by have := HX.out; omega, by have := HX.out; omega, A0.out.1⟩
          clear hlow hdc h hdv hcut HX HO A0
          go_wp2
          go_roundg g
          case measure => omega
          case rel => exact ⟨k + 1, acc * 16 + d, a * 16 + ((c : Int) - 48), rfl, (by first | rfl | (congr 1; omega)), by go_num, by omega, rfl, A⟩
      · have hdv : (d : Int) = (c : Int) - 97 + 10 := by rw [if_neg (by omega), if_neg (by omega)] at hdc; omega
        have k1 : (48 : Int) ≤ c := by omega
        have k2 : ¬ (c : Int) ≤ 57 := by omega
        have k3 : ((c : Int) == 95) = false := beq_eq_false_iff_ne.2 (by omega)
        have cl := hlow (Or.inl h) c (Or.inl ⟨h.1, rfl⟩)
        have k4 : (97 : Int) ≤ c := by omega
        have k5 : (c : Int) ≤ 102 := by omega
        by_cases hcut : 1152921504606846976 ≤ acc
        · have k6 : (1152921504606846976 : Int) ≤ a := by have := HX.out; omega
          have A : Aside0 (R = .tuple #[.int .u64 18446744073709551615, .iface 166 (.int .i64 1)]) := ⟨HO.out (by have := A0.out; omega)⟩
          clear hlow hdc h hdv hcut HX HO A0
          go_wp2_with (go_at_call 123; (with_reducible refine (cl _).mono ?_); rintro e w1 ⟨rfl, rfl⟩)
          go_returns
          exact ⟨by rw [A.out]; rfl, hbel⟩
        · have k6 : ¬ (1152921504606846976 : Int) ≤ a := by have := HX.out; omega
          have k8 : a * 16 + ((c : Int) - 97 + 10) ≤ 18446744073709551615 := by have := HX.out; omega
          have A : Aside0 (a * 16 + ((c : Int) - 97 + 10) = ((acc * 16 + d : Nat) : Int) ∧ acc * 16 + d ≤ 18446744073709551615 ∧ valF true (acc * 16 + d) (bs.drop (k + 1)) = V) := ⟨by have := HX.out; omega, by have := HX.out; omega, A0.out.1⟩
          clear hlow hdc h hdv hcut HX HO A0
          go_wp2_with (go_at_call 123; (with_reducible refine (cl _).mono ?_); rintro e w1 ⟨rfl, rfl⟩)
          go_roundg g
          case measure => omega
          case rel => exact ⟨k + 1, acc * 16 + d, a * 16 + ((c : Int) - 97 + 10), rfl, (by first | rfl | (congr 1; omega)), by go_num, by omega, rfl, A⟩
      · have hdv : (d : Int) = (c + 32 : Nat) - 97 + 10 := by rw [if_neg (by omega), if_pos h.2] at hdc; omega
        have k1 : (48 : Int) ≤ c := by omega
        have k2 : ¬ (c : Int) ≤ 57 := by omega
        have k3 : ((c : Int) == 95) = false := beq_eq_false_iff_ne.2 (by omega)
        have cl := hlow (Or.inr h) (c + 32) (Or.inr ⟨h.2, rfl⟩)
        obtain ⟨c2, hc2⟩ : ∃ c2 : Nat, c + 32 = c2 := ⟨_, rfl⟩
        rw [hc2] at cl hdv
        have k4 : (97 : Int) ≤ c2 := by omega
        have k5 : (c2 : Int) ≤ 102 := by omega
        clear hc2
        by_cases hcut : 1152921504606846976 ≤ acc
        · have k6 : (1152921504606846976 : Int) ≤ a := by have := HX.out; omega
          have A : Aside0 (R = .tuple #[.int .u64 18446744073709551615, .iface 166 (.int .i64 1)]) := ⟨HO.out (by have := A0.out; omega)⟩
          clear hlow hdc h hdv hcut HX HO A0
          go_wp2_with (go_at_call 123; (with_reducible refine (cl _).mono ?_); rintro e w1 ⟨rfl, rfl⟩)
          go_returns
          exact ⟨by rw [A.out]; rfl, hbel⟩
        · have k6 : ¬ (1152921504606846976 : Int) ≤ a := by have := HX.out; omega
          have k8 : a * 16 + ((c2 : Int) - 97 + 10) ≤ 18446744073709551615 := by have := HX.out; omega
          have A : Aside0 (a * 16 + ((c2 : Int) - 97 + 10) = ((acc * 16 + d : Nat) : Int) ∧ acc * 16 + d ≤ 18446744073709551615 ∧ valF true (acc * 16 + d) (bs.drop (k + 1)) = V) := ⟨by have := HX.out; omega, by have := HX.out; omega, A0.out.1⟩
          clear hlow hdc h hdv hcut HX HO A0
          go_wp2_with (go_at_call 123; (with_reducible refine (cl _).mono ?_); rintro e w1 ⟨rfl, rfl⟩)
          go_roundg g
          case measure => omega
          case rel => exact ⟨k + 1, acc * 16 + d, a * 16 + ((c2 : Int) - 97 + 10), rfl, (by first | rfl | (congr 1; omega)), by go_num, by omega, rfl, A⟩
    · obtain rfl : k = t.size := by omega
      obtain rfl : gk = 0 := by omega
      have hF : valF true acc (bs.drop t.size) = acc := by rw [List.drop_eq_nil_of_le (by omega)]; rfl
      rw [hF] at hdec
      have A : Aside0 (R = .tuple #[.int .u64 a, .nilIface]) := ⟨by rw [← HR.out, ← hdec, puV_ok hacc, ha]⟩
      clear hdec hF hacc ha HR hB hall hemp hcv hmv
      go_wp2
      go_returns
      exact ⟨by rw [A.out]; rfl, hbel⟩
set_option maxHeartbeats 32000000 in
set_option maxRecDepth 100000 in
theorem pu16_8 (t : ByteArray) (hd : allD true t.data.toList = true) (hmax : t.size ≤ 3000000) (w : World) :
    Calls Tryd.prog 110 #[.string t, .int .i64 16, .int .i64 8] w fun e w' => e = .returned (puV 255 (val true t.data.toList)) ∧ Below w.heap.size w w' := by
  unfold allD at hd
  rw [Bool.and_eq_true] at hd
  obtain ⟨hne, hall⟩ := hd
  have hemp : t.toList.isEmpty = false := by rw [← isEmpty_iff]; simpa using hne
  have hcv := Lib.run_convert_string_bytes (P := Tryd.prog) w 9 61 5 t (u := .string) Tryd.underlying9 Tryd.underlying61 Tryd.underlying5
  have hB : ∀ j, j < t.size → (Lib.bytesWorld w 5 t).cell? ⟨w.heap.size, j, none⟩ = some (.int .u8 (t.data.toList.getD j 0).toNat) := fun j hj => Lib.bytesWorld_cell w 5 t j hj
  have hbel := Lib.bytesWorld_below w 5 t
  obtain ⟨W1, hW1⟩ : ∃ W1, W1 = Lib.bytesWorld w 5 t := ⟨_, rfl⟩
  rw [← hW1] at hcv hB hbel
  clear hW1 hne
  obtain ⟨bs, hL⟩ : ∃ bs, bs = t.data.toList := ⟨_, rfl⟩
  have hLn : bs.length = t.size := by rw [hL, Lib.size_eq]
  rw [← hL] at hB hall ⊢
  clear hL
  obtain ⟨R, hR⟩ : ∃ R, puV 255 (val true bs) = R := ⟨_, rfl⟩
  rw [hR]
  obtain ⟨V, hV⟩ : ∃ V, val true bs = V := ⟨_, rfl⟩
  rw [hV] at hR
  have HR : Aside0 (puV 255 V = R) := ⟨hR⟩
  have HV : Aside0 (valF true 0 bs = V) := ⟨hV⟩
  clear hR hV
  have hmv : IntKind.u64.wrap (256 - 1) = 255 := by
    rw [IntKind.wrap_u64]
    decide
  go_enter Tryd.func110, Tryd.ntmps110
  go_wp2
  go_loopg [12, 13, 101] t.size (fun g vu vn vi wr => ∃ (k acc : Nat) (a : Int), vu = .bool false ∧ vn = .int .u64 a ∧ vi = .int .i64 k ∧ k + g = t.size ∧ wr = W1 ∧ Aside0 (a = (acc : Int) ∧ acc ≤ 255 ∧ valF true acc (bs.drop k) = V))
  case atStart => exact ⟨0, 0, 0, rfl, rfl, rfl, by omega, rfl, ⟨rfl, by omega, HV.out⟩⟩
  case round =>
    obtain ⟨k, acc, a, rfl, rfl, rfl, hk, rfl, hh⟩ := hrel
    obtain ⟨ha, hacc, hdec⟩ := hh.out
    clear hh HV
    have a0 : 0 ≤ a := by omega
    have a1 : a ≤ 255 := by omega
    by_cases hkn : k < t.size
    · obtain ⟨g, rfl⟩ : ∃ g, gk = g + 1 := ⟨gk - 1, by omega⟩
      have hc := hB k hkn
      have hdrop : bs.drop k = bs[k]'(by omega) :: bs.drop (k + 1) := List.drop_eq_getElem_cons (by omega)
      have hget : bs.getD k 0 = bs[k]'(by omega) := by simp [List.getD, List.getElem?_eq_getElem (show k < bs.length by omega)]
      have hdg : isD true (bs[k]'(by omega)) = true := List.all_eq_true.1 hall _ (List.getElem_mem _)
      rw [hdrop] at hdec
      rw [hget] at hc
      generalize bs[k]'(by omega) = c at hc hdec hdg
      have hge := valF_ge1 true c (bs.drop (k + 1)) acc
      rw [hdec] at hge
      have hdec' : valF true (acc * 16 + hv c) (bs.drop (k + 1)) = V := hdec
      have hge' : acc * 16 + hv c ≤ V := hge
      have hlow := low_run c.toNat
      have hgeR : ∃ d : Nat, hv c = d ∧ d < 16 ∧ (d : Int) = (if c.toNat ≤ 57 then (c.toNat : Int) - 48 else if c.toNat ≤ 70 then (c.toNat : Int) - 55 else (c.toNat : Int) - 87) := by
        rcases isD_true hdg with h | h | h
        · exact ⟨_, hv_dig h, by omega, by rw [if_pos h.2]; omega⟩
        · exact ⟨_, hv_low h, by omega, by rw [if_neg (by omega), if_neg (by omega)]; omega⟩
        · exact ⟨_, hv_up h, by omega, by rw [if_neg (by omega), if_pos h.2]; omega⟩
      obtain ⟨d, hd, hd16, hdc⟩ := hgeR
      rw [hd] at hdec' hge'
      have HD := isD_true hdg
      clear hdec hge hdg hd hdrop hget hB hall hemp hcv hmv
      generalize c.toNat = c at hc hlow hdc HD
      have HO : Aside0 (¬ V ≤ 255 → R = .tuple #[.int .u64 255, .iface 166 (.int .i64 1)]) := ⟨fun h => HR.out.symm.trans (puV_no h)⟩
      have HX : Aside0 (acc ≤ 255 ∧ a = (acc : Int)) := ⟨hacc, ha⟩
      have A0 : Aside0 (valF true (acc * 16 + d) (bs.drop (k + 1)) = V ∧ acc * 16 + d ≤ V) := ⟨hdec', hge'⟩
      clear hdec' hge' hacc ha HR
      rcases HD with h | h | h
      · have hdv : (d : Int) = (c : Int) - 48 := by rw [if_pos h.2] at hdc; omega
        have k1 : (48 : Int) ≤ c := by omega
        have k2 : (c : Int) ≤ 57 := by omega
        have k3 : ((c : Int) == 95) = false := beq_eq_false_iff_ne.2 (by omega)
        by_cases hcut : 255 < acc * 16 + d
        · have k6 : ¬ (1152921504606846976 : Int) ≤ a := by have := HX.out; omega
          have k7 : (255 : Int) < a * 16 + ((c : Int) - 48) := by have := HX.out; omega
          have A : Aside0 (R = .tuple #[.int .u64 255, .iface 166 (.int .i64 1)]) := ⟨HO.out (by have := A0.out; omega)⟩
          clear hlow hdc h hdv hcut HX HO A0
          go_wp2
          go_returns
          exact ⟨by rw [A.out]; rfl, hbel⟩
        · have k6 : ¬ (1152921504606846976 : Int) ≤ a := by have := HX.out; omega
          have k7 : ¬ (255 : Int) < a * 16 + ((c : Int) - 48) := by have := HX.out; omega
          have k8 : a * 16 + ((c : Int) - 48) ≤ 255 := by have := HX.out; omega
          have A : Aside0 (a * 16 + ((c : Int) - 48) = ((acc * 16 + d : Nat) : Int) ∧ acc * 16 + d ≤ 255 ∧ valF true (acc * 16 + d) (bs.drop (k + 1)) = V) := ⟨by have := HX.out; omega, by have := HX.out; omega, A0.out.1⟩
          clear hlow hdc h hdv hcut HX HO A0
          go_wp2
          go_roundg g
          case measure => omega
          case rel => exact ⟨k + 1, acc * 16 + d, a * 16 + ((c : Int) - 48), rfl, (by first | rfl | (congr 1; omega)), by go_num, by omega, rfl, A⟩
      · have hdv : (d : Int) = (c : Int) - 97 + 10 := by rw [if_neg (by omega), if_neg (by omega)] at hdc; omega
        have k1 : (48 : Int) ≤ c := by omega
        have k2 : ¬ (c : Int) ≤ 57 := by omega
        have k3 : ((c : Int) == 95) = false := beq_eq_false_iff_ne.2 (by omega)
        have cl := hlow (Or.inl h) c (Or.inl ⟨h.1, rfl⟩)
        have k4 : (97 : Int) ≤ c := by omega
        have k5 : (c : Int) ≤ 102 := by omega
        by_cases hcut : 255 < acc * 16 + d
        · have k6 : ¬ (1152921504606846976 : Int) ≤ a := by have := HX.out; omega
          have k7 : (255 : Int) < a * 16 + ((c : Int) - 97 + 10) := by have := HX.out; omega
          have A : Aside0 (R = .tuple #[.int .u64 255, .iface 166 (.int .i64 1)]) := ⟨HO.out (by have := A0.out; omega)⟩
          clear hlow hdc h hdv hcut HX HO A0
          go_wp2_with (go_at_call 123; (with_reducible refine (cl _).mono ?_); rintro e w1 ⟨rfl, rfl⟩)
          go_returns
          exact ⟨by rw [A.out]; rfl, hbel⟩
        · have k6 : ¬ (1152921504606846976 : Int) ≤ a := by have := HX.out; omega
          have k7 : ¬ (255 : Int) < a * 16 + ((c : Int) - 97 + 10) := by have := HX.out; omega
          have k8 : a * 16 + ((c : Int) - 97 + 10) ≤ 255 := by have := HX.out; omega
          have A : Aside0 (a * 16 + ((c : Int) - 97 + 10) = ((acc * 16 + d : Nat) : Int) ∧ acc * 16 + d ≤ 255 ∧ valF true (acc * 16 + d) (bs.drop (k + 1)) = V) := ⟨by have := HX.out; omega, by have := HX.out; omega, A0.out.1⟩
          clear hlow hdc h hdv hcut HX HO A0
          go_wp2_with (go_at_call 123; (with_reducible refine (cl _).mono ?_); rintro e w1 ⟨rfl, rfl⟩)
          go_roundg g
          case measure => omega
          case rel => exact ⟨k + 1, acc * 16 + d, a * 16 + ((c : Int) - 97 + 10), rfl, (by first | rfl | (congr 1; omega)), by go_num, by omega, rfl, A⟩
      · have hdv : (d : Int) = (c + 32 : Nat) - 97 + 10 := by rw [if_neg (by omega), if_pos h.2] at hdc; omega
        have k1 : (48 : Int) ≤ c := by omega
        have k2 : ¬ (c : Int) ≤ 57 := by omega
        have k3 : ((c : Int) == 95) = false := beq_eq_false_iff_ne.2 (by omega)
        have cl := hlow (Or.inr h) (c + 32) (Or.inr ⟨h.2, rfl⟩)
        obtain ⟨c2, hc2⟩ : ∃ c2 : Nat, c + 32 = c2 := ⟨_, rfl⟩
        rw [hc2] at cl hdv
        have k4 : (97 : Int) ≤ c2 := by omega
        have k5 : (c2 : Int) ≤ 102 := by omega
        clear hc2
        by_cases hcut : 255 < acc * 16 + d
        · have k6 : ¬ (1152921504606846976 : Int) ≤ a := by have := HX.out; omega
          have k7 : (255 : Int) < a * 16 + ((c2 : Int) - 97 + 10) := by have := HX.out; omega
          have A : Aside0 (R = .tuple #[.int .u64 255, .iface 166 (.int .i64 1)]) := ⟨HO.out (by have := A0.out; omega)⟩
          clear hlow hdc h hdv hcut HX HO A0
          go_wp2_with (go_at_call 123; (with_reducible refine (cl _).mono ?_); rintro e w1 ⟨rfl, rfl⟩)
          go_returns
          exact ⟨by rw [A.out]; rfl, hbel⟩
        · have k6 : ¬ (1152921504606846976 : Int) ≤ a := by have := HX.out; omega
          have k7 : ¬ (255 : Int) < a * 16 + ((c2 : Int) - 97 + 10) := by have := HX.out; omega
          have k8 : a * 16 + ((c2 : Int) - 97 + 10) ≤ 255 := by have := HX.out; omega
          have A : Aside0 (a * 16 + ((c2 : Int) - 97 + 10) = ((acc * 16 + d : Nat) : Int) ∧ acc * 16 + d ≤ 255 ∧ valF true (acc * 16 + d) (bs.drop (k + 1)) = V) := ⟨by have := HX.out; omega, by have := HX.out; omega, A0.out.1⟩
          clear hlow hdc h hdv hcut HX HO A0
          go_wp2_with (go_at_call 123; (with_reducible refine (cl _).mono ?_); rintro e w1 ⟨rfl, rfl⟩)
          go_roundg g
          case measure => omega
          case rel => exact ⟨k + 1, acc * 16 + d, a * 16 + ((c2 : Int) - 97 + 10), rfl, (by first | rfl | (congr 1; omega)), by go_num, by omega, rfl, A⟩
    · obtain rfl : k = t.size := by omega
      obtain rfl : gk = 0 := by omega
      have hF : valF true acc (bs.drop t.size) = acc := by rw [List.drop_eq_nil_of_le (by omega)]; rfl
      rw [hF] at hdec
      have A : Aside0 (R = .tuple #[.int .u64 a, .nilIface]) := ⟨by rw [← HR.out, ← hdec, puV_ok hacc, ha]⟩
      clear hdec hF hacc ha HR hB hall hemp hcv hmv
      go_wp2
      go_returns
      exact ⟨by rw [A.out]; rfl, hbel⟩
end Go.Proofs.YtigaacbaaopfmaaDoor.sh
