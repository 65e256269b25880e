import Derived.Test.YtigaacbaaopfmaaDoorMa
import Derived.Laws.RangeAny
import Derived.Lib.AtoiErrMem
import Derived.BigCall
import Derived.BigGuard
import Derived.Laws.Closers25
import Derived.Laws.Closers25b
import Derived.Laws.Strings3
import Derived.WalkSpells
import Derived.Lib.IfaceEq
import Derived.Lib.IfaceNeq
import Derived.Laws.MakeOwn
import Derived.Laws.Rows
set_option linter.unusedSimpArgs false
/- Are the bytes of a text digits to the base: walked. -/
namespace Go.Proofs.YtigaacbaaopfmaaDoor.sh
open Go.RowKit
set_option linter.unusedVariables false
/-- A digit to the base 10 (b: 16). -/
def isD (b : Bool) (c : UInt8) : Bool := decide (48 ≤ c.toNat ∧ c.toNat ≤ 57) || b && (decide (97 ≤ c.toNat ∧ c.toNat ≤ 102) || decide (65 ≤ c.toNat ∧ c.toNat ≤ 70))
def allD (b : Bool) (l : List UInt8) : Bool := !l.isEmpty && l.all (isD b)
def base (b : Bool) : Int := if b then 16 else 10
theorem all_no {b : Bool} {s : ByteArray} {p : Nat} (hp : p < s.size) (h : isD b (s[p]'hp) = false) : allD b s.data.toList = false := by
  have : s.data.toList.all (isD b) = false := by
    rw [List.all_eq_false]
    exact ⟨s[p]'hp, by
      have : s[p]'hp = s.data.toList[p]'(by simpa using hp) := rfl
      rw [this]; exact List.getElem_mem _, by rw [h]; simp⟩
  unfold allD; rw [this]; simp
theorem all_yes {b : Bool} {s : ByteArray} (h : (s.data.toList.take s.size).all (isD b) = true) : allD b s.data.toList = !s.data.toList.isEmpty := by
  unfold allD
  rw [List.take_of_length_le (by simp)] at h
  rw [h, Bool.and_true]
theorem all_step {b : Bool} {s : ByteArray} {p : Nat} (hp : p < s.size) (hd : isD b (s[p]'hp) = true) (h : (s.data.toList.take p).all (isD b) = true) : (s.data.toList.take (p + 1)).all (isD b) = true := by
  rw [take_snoc s p hp, List.all_append, h]
  have : s[p]'hp = s.data.toList[p]'(by simpa using hp) := rfl
  rw [← this]; simp [hd]
theorem isEmpty_iff (s : ByteArray) : s.data.toList.isEmpty = s.toList.isEmpty := by rw [ByteArray.toList_eq]
set_option maxHeartbeats 4000000 in
theorem all_walk (w : World) (s : ByteArray) (b : Bool) (hs : s.size ≤ 3000000) : Calls Tryd.prog 92 #[.string s, .int .i64 (base b)] w fun e w' => e = .returned (.bool (allD b s.data.toList)) ∧ Below w.heap.size w w' := by
  have hend := fun p => run_next_end (P := Tryd.prog) w s p 0
  obtain ⟨R, hR⟩ : ∃ R, allD b s.data.toList = R := ⟨_, rfl⟩
  rw [hR]
  have HR : Aside0 (allD b s.data.toList = R) := ⟨hR⟩
  clear hR
  obtain ⟨bb, hbb⟩ : ∃ x, base b = x := ⟨_, rfl⟩
  rw [hbb]
  have HB : Aside0 (base b = bb) := ⟨hbb⟩
  have hb16 : (bb == 16) = b := by rw [← hbb]; cases b <;> decide
  clear hbb
  go_enter Tryd.func92, Tryd.ntmps92
  go_wp2
  go_loopg [6] s.size (fun g v6 wr => ∃ p, p + g = s.size ∧ wr = w.iter s p ∧ Aside0 ((s.data.toList.take p).all (isD b) = true))
  case atStart => exact ⟨0, by omega, rfl, ⟨by simp⟩⟩
  case round =>
    obtain ⟨p, hpg, rfl, hA⟩ := hrel
    by_cases hp : p < s.size
    · obtain ⟨g, rfl⟩ : ∃ g, gk = g + 1 := ⟨gk - 1, by omega⟩
      by_cases ha : (s[p]'hp).toNat < 128
      · have hn := run_next_ascii (P := Tryd.prog) w s p 0 hp ha
        have HD : ∀ d, isD b (s[p]'hp) = d → (d = true → Aside0 ((s.data.toList.take (p + 1)).all (isD b) = true)) ∧ (d = false → Aside0 (R = false)) := fun d hd =>
          ⟨fun e => ⟨all_step hp (hd.trans e) hA.out⟩, fun e => ⟨HR.out.symm.trans (all_no hp (hd.trans e))⟩⟩
        unfold isD at HD
        generalize (s[p]'hp).toNat = c at hn HD
        by_cases hdig : 48 ≤ c ∧ c ≤ 57
        · have h1 : (48 : Int) ≤ c := by omega
          have h2 : (c : Int) ≤ 57 := by omega
          have A := (HD true (by simp [hdig])).1 rfl
          clear HD hA hend
          go_wp2
          go_roundg g
          case measure => omega
          case rel => exact ⟨p + 1, by omega, rfl, A⟩
        · have no : b = false ∨ ¬ (97 ≤ c ∧ c ≤ 102 ∨ 65 ≤ c ∧ c ≤ 70) → Aside0 (R = false) := fun h => (HD false (by
            rcases h with h | h
            · simp [h]; omega
            · simp; omega)).2 rfl
          have yes : b = true → (97 ≤ c ∧ c ≤ 102 ∨ 65 ≤ c ∧ c ≤ 70) → Aside0 ((s.data.toList.take (p + 1)).all (isD b) = true) := fun e h => (HD true (by simp [e]; omega)).1 rfl
          clear HD hA hend
          cases b with
          | false =>
            have A := no (Or.inl rfl)
            clear no yes
            by_cases h1 : c < 48
            · have h1' : ¬ (48 : Int) ≤ c := by omega
              go_wp2
              go_ret
              exact ⟨by rw [A.out]; rfl, (Below.refl _ _).alloc (Nat.le_refl _) _⟩
            · have h1' : (48 : Int) ≤ c := by omega
              have h2' : ¬ (c : Int) ≤ 57 := by omega
              go_wp2
              go_ret
              exact ⟨by rw [A.out]; rfl, (Below.refl _ _).alloc (Nat.le_refl _) _⟩
          | true =>
            by_cases hy : 97 ≤ c ∧ c ≤ 102 ∨ 65 ≤ c ∧ c ≤ 70
            · have A := yes rfl hy
              clear no yes
              have h1' : (48 : Int) ≤ c := by omega
              have h2' : ¬ (c : Int) ≤ 57 := by omega
              by_cases h3 : 97 ≤ c
              · have h3' : (97 : Int) ≤ c := by omega
                have h4' : (c : Int) ≤ 102 := by omega
                go_wp2
                go_roundg g
                case measure => omega
                case rel => exact ⟨p + 1, by omega, rfl, A⟩
              · have h3' : ¬ (97 : Int) ≤ c := by omega
                have h4' : (65 : Int) ≤ c := by omega
                have h5' : (c : Int) ≤ 70 := by omega
                go_wp2
                go_roundg g
                case measure => omega
                case rel => exact ⟨p + 1, by omega, rfl, A⟩
            · have A := no (Or.inr hy)
              clear no yes
              rcases (by omega : c < 48 ∨ (57 < c ∧ c < 65) ∨ (70 < c ∧ c < 97) ∨ 102 < c) with h | h | h | h
              · have k0 : ¬ (48 : Int) ≤ c := by omega
                have k1 : ¬ (97 : Int) ≤ c := by omega
                have k2 : ¬ (65 : Int) ≤ c := by omega
                go_wp2
                go_ret
                exact ⟨by rw [A.out]; rfl, (Below.refl _ _).alloc (Nat.le_refl _) _⟩
              · have k0 : (48 : Int) ≤ c := by omega
                have k1 : ¬ (c : Int) ≤ 57 := by omega
                have k2 : ¬ (97 : Int) ≤ c := by omega
                have k3 : ¬ (65 : Int) ≤ c := by omega
                go_wp2
                go_ret
                exact ⟨by rw [A.out]; rfl, (Below.refl _ _).alloc (Nat.le_refl _) _⟩
              · have k0 : (48 : Int) ≤ c := by omega
                have k1 : ¬ (c : Int) ≤ 57 := by omega
                have k2 : ¬ (97 : Int) ≤ c := by omega
                have k3 : (65 : Int) ≤ c := by omega
                have k4 : ¬ (c : Int) ≤ 70 := by omega
                go_wp2
                go_ret
                exact ⟨by rw [A.out]; rfl, (Below.refl _ _).alloc (Nat.le_refl _) _⟩
              · have k0 : (48 : Int) ≤ c := by omega
                have k1 : ¬ (c : Int) ≤ 57 := by omega
                have k2 : (97 : Int) ≤ c := by omega
                have k3 : ¬ (c : Int) ≤ 102 := by omega
                have k4 : (65 : Int) ≤ c := by omega
                have k5 : ¬ (c : Int) ≤ 70 := by omega
                go_wp2
                go_ret
                exact ⟨by rw [A.out]; rfl, (Below.refl _ _).alloc (Nat.le_refl _) _⟩
      · obtain ⟨h1, h2⟩ := decode_high s p hp (by omega)
        have hn := run_next_any (P := Tryd.prog) w s p 0 hp
        have A : Aside0 (R = false) := ⟨HR.out.symm.trans (all_no hp (by unfold isD; simp; omega))⟩
        generalize Utf8.decode s p = d at hn h1 h2
        obtain ⟨r, n⟩ := d
        simp only at hn h1 h2
        have h1' : (48 : Int) ≤ r := by omega
        have h2' : ¬ (r : Int) ≤ 57 := by omega
        have h3' : ¬ (r : Int) ≤ 102 := by omega
        have h4' : ¬ (r : Int) ≤ 70 := by omega
        have h5' : (97 : Int) ≤ r := by omega
        clear hA hend
        cases b <;> (go_wp2; go_ret; exact ⟨by rw [A.out]; rfl, (Below.refl _ _).alloc (Nat.le_refl _) _⟩)
    · obtain rfl : p = s.size := by omega
      have hn := hend s.size hp
      have HF := all_yes hA.out
      rw [HR.out] at HF
      have HF0 : Aside0 (R = !s.toList.isEmpty) := ⟨by rw [HF, isEmpty_iff]⟩
      clear HF hA hend
      go_wp2
      go_ret
      exact ⟨by rw [HF0.out]; rfl, (Below.refl _ _).alloc (Nat.le_refl _) _⟩
end Go.Proofs.YtigaacbaaopfmaaDoor.sh
/- ParseUint at base 16 and ParseInt, ParseUint at base 10, of texts of digits: walked. -/
namespace Go.Proofs.YtigaacbaaopfmaaDoor.sh
open Go.RowKit
set_option linter.unusedVariables false
/-- A digit's value. -/
def hv (c : UInt8) : Nat := if c.toNat ≤ 57 then c.toNat - 48 else if c.toNat ≤ 70 then c.toNat - 55 else c.toNat - 87
def rad (b : Bool) : Nat := if b then 16 else 10
/-- What the digits spell, behind a. -/
def valF (b : Bool) (a : Nat) : List UInt8 → Nat
  | [] => a
  | c :: r => valF b (a * rad b + hv c) r
def val (b : Bool) (l : List UInt8) : Nat := valF b 0 l
theorem valF_ge (b : Bool) : ∀ (l : List UInt8) (a : Nat), a ≤ valF b a l
  | [], a => Nat.le_refl a
  | c :: r, a => by
    have h := valF_ge b r (a * rad b + hv c)
    have h2 : a ≤ a * rad b := Nat.le_mul_of_pos_right a (by unfold rad; split <;> omega)
    show a ≤ valF b (a * rad b + hv c) r
    omega
theorem valF_ge1 (b : Bool) (c : UInt8) (r : List UInt8) (a : Nat) : a * rad b + hv c ≤ valF b a (c :: r) := valF_ge b r _
theorem hv_dig {c : UInt8} (h : 48 ≤ c.toNat ∧ c.toNat ≤ 57) : hv c = c.toNat - 48 := by unfold hv; rw [if_pos h.2]
theorem hv_low {c : UInt8} (h : 97 ≤ c.toNat ∧ c.toNat ≤ 102) : hv c = c.toNat - 87 := by unfold hv; rw [if_neg (by omega), if_neg (by omega)]
theorem hv_up {c : UInt8} (h : 65 ≤ c.toNat ∧ c.toNat ≤ 70) : hv c = c.toNat - 55 := by unfold hv; rw [if_neg (by omega), if_pos (by omega)]
theorem isD_false {c : UInt8} (h : isD false c = true) : 48 ≤ c.toNat ∧ c.toNat ≤ 57 := by
  unfold isD at h; simpa using h
theorem isD_true {c : UInt8} (h : isD true c = true) : (48 ≤ c.toNat ∧ c.toNat ≤ 57) ∨ (97 ≤ c.toNat ∧ c.toNat ≤ 102) ∨ (65 ≤ c.toNat ∧ c.toNat ≤ 70) := by
  unfold isD at h; simpa using h
theorem or32 : ∀ c : Fin 256, (97 ≤ c.val ∧ c.val ≤ 102 → bits .or .u8 ((c.val : Nat) : Int) 32 = ((c.val : Nat) : Int)) ∧ (65 ≤ c.val ∧ c.val ≤ 70 → bits .or .u8 ((c.val : Nat) : Int) 32 = ((c.val : Nat) : Int) + 32) := by decide +kernel
theorem or32_low (c : Nat) (h : 97 ≤ c ∧ c ≤ 102) : bits .or .u8 (c : Int) 32 = (c : Int) := (or32 ⟨c, by omega⟩).1 h
theorem or32_up (c : Nat) (h : 65 ≤ c ∧ c ≤ 70) : bits .or .u8 (c : Int) 32 = (c : Int) + 32 := (or32 ⟨c, by omega⟩).2 h
theorem low_run (c : Nat) (h : (97 ≤ c ∧ c ≤ 102) ∨ (65 ≤ c ∧ c ≤ 70)) (x : Nat) (hx : (97 ≤ c ∧ x = c) ∨ (c ≤ 70 ∧ x = c + 32)) (w : World) : Calls Tryd.prog 123 #[.int .u8 (c : Int)] w fun e w' => e = .returned (.int .u8 ((x : Nat) : Int)) ∧ w' = w := by
  have e : bits .or .u8 (c : Int) 32 = (x : Int) := by
    rcases h with h | h
    · rw [or32_low c h]; omega
    · rw [or32_up c h]; omega
  rw [← e]; exact Tryd.internal_strconv_lower _ _
/-- What a parse of digits answers: M is the greatest number. -/
def puV (M V : Nat) : Value := if V ≤ M then .tuple #[.int .u64 (V : Nat), .nilIface] else .tuple #[.int .u64 (M : Nat), .iface 166 (.int .i64 1)]
theorem puV_ok {M V : Nat} (h : V ≤ M) : puV M V = .tuple #[.int .u64 (V : Nat), .nilIface] := if_pos h
theorem puV_no {M V : Nat} (h : ¬ V ≤ M) : puV M V = .tuple #[.int .u64 (M : Nat), .iface 166 (.int .i64 1)] := if_neg h
set_option maxHeartbeats 32000000 in
set_option maxRecDepth 100000 in
theorem pu16_64 (t : ByteArray) (hd : allD true t.data.toList = true) (hmax : t.size ≤ 3000000) (w : World) :
    Calls Tryd.prog 110 #[.string t, .int .i64 16, .int .i64 64] w fun e w' => e = .returned (puV 18446744073709551615 (val true t.data.toList)) ∧ Below w.heap.size w w' := by
  unfold allD at hd
  rw [Bool.and_eq_true] at hd
  obtain ⟨hne, hall⟩ := hd
  have hemp : t.toList.isEmpty = false := by rw [← isEmpty_iff]; simpa using hne
  have hcv := Lib.run_convert_string_bytes (P := Tryd.prog) w 9 61 5 t (u := .string) Tryd.underlying9 Tryd.underlying61 Tryd.underlying5
  have hB : ∀ j, j < t.size → (Lib.bytesWorld w 5 t).cell? ⟨w.heap.size, j, none⟩ = some (.int .u8 (t.data.toList.getD j 0).toNat) := fun j hj => Lib.bytesWorld_cell w 5 t j hj
  have hbel := Lib.bytesWorld_below w 5 t
  obtain ⟨W1, hW1⟩ : ∃ W1, W1 = Lib.bytesWorld w 5 t := ⟨_, rfl⟩
  rw [← hW1] at hcv hB hbel
  clear hW1 hne
  obtain ⟨bs, hL⟩ : ∃ bs, bs = t.data.toList := ⟨_, rfl⟩
  have hLn : bs.length = t.size := by rw [hL, Lib.size_eq]
  rw [← hL] at hB hall ⊢
  clear hL
  obtain ⟨R, hR⟩ : ∃ R, puV 18446744073709551615 (val true bs) = R := ⟨_, rfl⟩
  rw [hR]
  obtain ⟨V, hV⟩ : ∃ V, val true bs = V := ⟨_, rfl⟩
  rw [hV] at hR
  have HR : Aside0 (puV 18446744073709551615 V = R) := ⟨hR⟩
  have HV : Aside0 (valF true 0 bs = V) := ⟨hV⟩
  clear hR hV
  have hmv : IntKind.u64.wrap (IntKind.u64.wrap 18446744073709551616 - 1) = 18446744073709551615 := by
    rw [IntKind.wrap_u64, IntKind.wrap_u64]
    decide
  go_enter Tryd.func110, Tryd.ntmps110
  go_wp2
  go_loopg [12, 13, 101] t.size (fun g vu vn vi wr => ∃ (k acc : Nat) (a : Int), vu = .bool false ∧ vn = .int .u64 a ∧ vi = .int .i64 k ∧ k + g = t.size ∧ wr = W1 ∧ Aside0 (a = (acc : Int) ∧ acc ≤ 18446744073709551615 ∧ valF true acc (bs.drop k) = V))
  case atStart => exact ⟨0, 0, 0, rfl, rfl, rfl, by omega, rfl, ⟨rfl, by omega, HV.out⟩⟩
  case round =>
    obtain ⟨k, acc, a, rfl, rfl, rfl, hk, rfl, hh⟩ := hrel
    obtain ⟨ha, hacc, hdec⟩ := hh.out
    clear hh HV
    have a0 : 0 ≤ a := by omega
    have a1 : a ≤ 18446744073709551615 := by omega
    by_cases hkn : k < t.size
    · obtain ⟨g, rfl⟩ : ∃ g, gk = g + 1 := ⟨gk - 1, by omega⟩
      have hc := hB k hkn
      have hdrop : bs.drop k = bs[k]'(by omega) :: bs.drop (k + 1) := List.drop_eq_getElem_cons (by omega)
      have hget : bs.getD k 0 = bs[k]'(by omega) := by simp [List.getD, List.getElem?_eq_getElem (show k < bs.length by omega)]
      have hdg : isD true (bs[k]'(by omega)) = true := List.all_eq_true.1 hall _ (List.getElem_mem _)
      rw [hdrop] at hdec
      rw [hget] at hc
      generalize bs[k]'(by omega) = c at hc hdec hdg
      have hge := valF_ge1 true c (bs.drop (k + 1)) acc
      rw [hdec] at hge
      have hdec' : valF true (acc * 16 + hv c) (bs.drop (k + 1)) = V := hdec
      have hge' : acc * 16 + hv c ≤ V := hge
      have hlow := low_run c.toNat
      have hgeR : ∃ d : Nat, hv c = d ∧ d < 16 ∧ (d : Int) = (if c.toNat ≤ 57 then (c.toNat : Int) - 48 else if c.toNat ≤ 70 then (c.toNat : Int) - 55 else (c.toNat : Int) - 87) := by
        rcases isD_true hdg with h | h | h
        · exact ⟨_, hv_dig h, by omega, by rw [if_pos h.2]; omega⟩
        · exact ⟨_, hv_low h, by omega, by rw [if_neg (by omega), if_neg (by omega)]; omega⟩
        · exact ⟨_, hv_up h, by omega, by rw [if_neg (by omega), if_pos h.2]; omega⟩
      obtain ⟨d, hd, hd16, hdc⟩ := hgeR
      rw [hd] at hdec' hge'
      have HD := isD_true hdg
      clear hdec hge hdg hd hdrop hget hB hall hemp hcv hmv
      generalize c.toNat = c at hc hlow hdc HD
      have HO : Aside0 (¬ V ≤ 18446744073709551615 → R = .tuple #[.int .u64 18446744073709551615, .iface 166 (.int .i64 1)]) := ⟨fun h => HR.out.symm.trans (puV_no h)⟩
      have HX : Aside0 (acc ≤ 18446744073709551615 ∧ a = (acc : Int)) := ⟨hacc, ha⟩
      have A0 : Aside0 (valF true (acc * 16 + d) (bs.drop (k + 1)) = V ∧ acc * 16 + d ≤ V) := ⟨hdec', hge'⟩
      clear hdec' hge' hacc ha HR
      rcases HD with h | h | h
      · have hdv : (d : Int) = (c : Int) - 48 := by rw [if_pos h.2] at hdc; omega
        have k1 : (48 : Int) ≤ c := by omega
        have k2 : (c : Int) ≤ 57 := by omega
        have k3 : ((c : Int) == 95) = false := beq_eq_false_iff_ne.2 (by omega)
        by_cases hcut : 1152921504606846976 ≤ acc
        · have k6 : (1152921504606846976 : Int) ≤ a := by have := HX.out; omega
          have A : Aside0 (R = .tuple #[.int .u64 18446744073709551615, .iface 166 (.int .i64 1)]) := ⟨HO.out (by have := A0.out; omega)⟩
          clear hlow hdc h hdv hcut HX HO A0
          go_wp2
          go_returns
          exact ⟨by rw [A.out]; rfl, hbel⟩
        · have k6 : ¬ (1152921504606846976 : Int) ≤ a := by have := HX.out; omega
          have k8 : a * 16 + ((c : Int) - 48) ≤ 18446744073709551615 := by have := HX.out; omega
          have A : Aside0 (a * 16 + ((c : Int) - 48) = ((acc * 16 + d : Nat) : Int) ∧ acc * 16 + d ≤ 18446744073709551615 ∧ valF true (acc * 16 + d) (bs.drop (k + 1)) = V) := ⟨by have := HX.out; omega, by have := HX.out; omega, A0.out.1⟩
          clear hlow hdc h hdv hcut HX HO A0
          go_wp2
          go_roundg g
          case measure => omega
          case rel => exact ⟨k + 1, acc * 16 + d, a * 16 + ((c : Int) - 48), rfl, (by first | rfl | (congr 1; omega)), by go_num, by omega, rfl, A⟩
      · have hdv : (d : Int) = (c : Int) - 97 + 10 := by rw [if_neg (by omega), if_neg (by omega)] at hdc; omega
        have k1 : (48 : Int) ≤ c := by omega
        have k2 : ¬ (c : Int) ≤ 57 := by omega
        have k3 : ((c : Int) == 95) = false := beq_eq_false_iff_ne.2 (by omega)
        have cl := hlow (Or.inl h) c (Or.inl ⟨h.1, rfl⟩)
        have k4 : (97 : Int) ≤ c := by omega
        have k5 : (c : Int) ≤ 102 := by omega
        by_cases hcut : 1152921504606846976 ≤ acc
        · have k6 : (1152921504606846976 : Int) ≤ a := by have := HX.out; omega
          have A : Aside0 (R = .tuple #[.int .u64 18446744073709551615, .iface 166 (.int .i64 1)]) := ⟨HO.out (by have := A0.out; omega)⟩
          clear hlow hdc h hdv hcut HX HO A0
          go_wp2_with (go_at_call 123; (with_reducible refine (cl _).mono ?_); rintro e w1 ⟨rfl, rfl⟩)
          go_returns
          exact ⟨by rw [A.out]; rfl, hbel⟩
        · have k6 : ¬ (1152921504606846976 : Int) ≤ a := by have := HX.out; omega
          have k8 : a * 16 + ((c : Int) - 97 + 10) ≤ 18446744073709551615 := by have := HX.out; omega
          have A : Aside0 (a * 16 + ((c : Int) - 97 + 10) = ((acc * 16 + d : Nat) : Int) ∧ acc * 16 + d ≤ 18446744073709551615 ∧ valF true (acc * 16 + d) (bs.drop (k + 1)) = V) := ⟨by have := HX.out; omega, by have := HX.out; omega, A0.out.1⟩
          clear hlow hdc h hdv hcut HX HO A0
          go_wp2_with (go_at_call 123; (with_reducible refine (cl _).mono ?_); rintro e w1 ⟨rfl, rfl⟩)
          go_roundg g
          case measure => omega
          case rel => exact ⟨k + 1, acc * 16 + d, a * 16 + ((c : Int) - 97 + 10), rfl, (by first | rfl | (congr 1; omega)), by go_num, by omega, rfl, A⟩
      · have hdv : (d : Int) = (c + 32 : Nat) - 97 + 10 := by rw [if_neg (by omega), if_pos h.2] at hdc; omega
        have k1 : (48 : Int) ≤ c := by omega
        have k2 : ¬ (c : Int) ≤ 57 := by omega
        have k3 : ((c : Int) == 95) = false := beq_eq_false_iff_ne.2 (by omega)
        have cl := hlow (Or.inr h) (c + 32) (Or.inr ⟨h.2, rfl⟩)
        obtain ⟨c2, hc2⟩ : ∃ c2 : Nat, c + 32 = c2 := ⟨_, rfl⟩
        rw [hc2] at cl hdv
        have k4 : (97 : Int) ≤ c2 := by omega
        have k5 : (c2 : Int) ≤ 102 := by omega
        clear hc2
        by_cases hcut : 1152921504606846976 ≤ acc
        · have k6 : (1152921504606846976 : Int) ≤ a := by have := HX.out; omega
          have A : Aside0 (R = .tuple #[.int .u64 18446744073709551615, .iface 166 (.int .i64 1)]) := ⟨HO.out (by have := A0.out; omega)⟩
          clear hlow hdc h hdv hcut HX HO A0
          go_wp2_with (go_at_call 123; (with_reducible refine (cl _).mono ?_); rintro e w1 ⟨rfl, rfl⟩)
          go_returns
          exact ⟨by rw [A.out]; rfl, hbel⟩
        · have k6 : ¬ (1152921504606846976 : Int) ≤ a := by have := HX.out; omega
          have k8 : a * 16 + ((c2 : Int) - 97 + 10) ≤ 18446744073709551615 := by have := HX.out; omega
          have A : Aside0 (a * 16 + ((c2 : Int) - 97 + 10) = ((acc * 16 + d : Nat) : Int) ∧ acc * 16 + d ≤ 18446744073709551615 ∧ valF true (acc * 16 + d) (bs.drop (k + 1)) = V) := ⟨by have := HX.out; omega, by have := HX.out; omega, A0.out.1⟩
          clear hlow hdc h hdv hcut HX HO A0
          go_wp2_with (go_at_call 123; (with_reducible refine (cl _).mono ?_); rintro e w1 ⟨rfl, rfl⟩)
          go_roundg g
          case measure => omega
          case rel => exact ⟨k + 1, acc * 16 + d, a * 16 + ((c2 : Int) - 97 + 10), rfl, (by first | rfl | (congr 1; omega)), by go_num, by omega, rfl, A⟩
    · obtain rfl : k = t.size := by omega
      obtain rfl : gk = 0 := by omega
      have hF : valF true acc (bs.drop t.size) = acc := by rw [List.drop_eq_nil_of_le (by omega)]; rfl
      rw [hF] at hdec
      have A : Aside0 (R = .tuple #[.int .u64 a, .nilIface]) := ⟨by rw [← HR.out, ← hdec, puV_ok hacc, ha]⟩
      clear hdec hF hacc ha HR hB hall hemp hcv hmv
      go_wp2
      go_returns
      exact ⟨by rw [A.out]; rfl, hbel⟩
set_option maxHeartbeats 32000000 in
set_option maxRecDepth 100000 in
theorem pu16_8 (t : ByteArray) (hd : allD true t.data.toList = true) (hmax : t.size ≤ 3000000) (w : World) :
    Calls Tryd.prog 110 #[.string t, .int .i64 16, .int .i64 8] w fun e w' => e = .returned (puV 255 (val true t.data.toList)) ∧ Below w.heap.size w w' := by
  unfold allD at hd
  rw [Bool.and_eq_true] at hd
  obtain ⟨hne, hall⟩ := hd
  have hemp : t.toList.isEmpty = false := by rw [← isEmpty_iff]; simpa using hne
  have hcv := Lib.run_convert_string_bytes (P := Tryd.prog) w 9 61 5 t (u := .string) Tryd.underlying9 Tryd.underlying61 Tryd.underlying5
  have hB : ∀ j, j < t.size → (Lib.bytesWorld w 5 t).cell? ⟨w.heap.size, j, none⟩ = some (.int .u8 (t.data.toList.getD j 0).toNat) := fun j hj => Lib.bytesWorld_cell w 5 t j hj
  have hbel := Lib.bytesWorld_below w 5 t
  obtain ⟨W1, hW1⟩ : ∃ W1, W1 = Lib.bytesWorld w 5 t := ⟨_, rfl⟩
  rw [← hW1] at hcv hB hbel
  clear hW1 hne
  obtain ⟨bs, hL⟩ : ∃ bs, bs = t.data.toList := ⟨_, rfl⟩
  have hLn : bs.length = t.size := by rw [hL, Lib.size_eq]
  rw [← hL] at hB hall ⊢
  clear hL
  obtain ⟨R, hR⟩ : ∃ R, puV 255 (val true bs) = R := ⟨_, rfl⟩
  rw [hR]
  obtain ⟨V, hV⟩ : ∃ V, val true bs = V := ⟨_, rfl⟩
  rw [hV] at hR
  have HR : Aside0 (puV 255 V = R) := ⟨hR⟩
  have HV : Aside0 (valF true 0 bs = V) := ⟨hV⟩
  clear hR hV
  have hmv : IntKind.u64.wrap (256 - 1) = 255 := by
    rw [IntKind.wrap_u64]
    decide
  go_enter Tryd.func110, Tryd.ntmps110
  go_wp2
  go_loopg [12, 13, 101] t.size (fun g vu vn vi wr => ∃ (k acc : Nat) (a : Int), vu = .bool false ∧ vn = .int .u64 a ∧ vi = .int .i64 k ∧ k + g = t.size ∧ wr = W1 ∧ Aside0 (a = (acc : Int) ∧ acc ≤ 255 ∧ valF true acc (bs.drop k) = V))
  case atStart => exact ⟨0, 0, 0, rfl, rfl, rfl, by omega, rfl, ⟨rfl, by omega, HV.out⟩⟩
  case round =>
    obtain ⟨k, acc, a, rfl, rfl, rfl, hk, rfl, hh⟩ := hrel
    obtain ⟨ha, hacc, hdec⟩ := hh.out
    clear hh HV
    have a0 : 0 ≤ a := by omega
    have a1 : a ≤ 255 := by omega
    by_cases hkn : k < t.size
    · obtain ⟨g, rfl⟩ : ∃ g, gk = g + 1 := ⟨gk - 1, by omega⟩
      have hc := hB k hkn
      have hdrop : bs.drop k = bs[k]'(by omega) :: bs.drop (k + 1) := List.drop_eq_getElem_cons (by omega)
      have hget : bs.getD k 0 = bs[k]'(by omega) := by simp [List.getD, List.getElem?_eq_getElem (show k < bs.length by omega)]
      have hdg : isD true (bs[k]'(by omega)) = true := List.all_eq_true.1 hall _ (List.getElem_mem _)
      rw [hdrop] at hdec
      rw [hget] at hc
      generalize bs[k]'(by omega) = c at hc hdec hdg
      have hge := valF_ge1 true c (bs.drop (k + 1)) acc
      rw [hdec] at hge
      have hdec' : valF true (acc * 16 + hv c) (bs.drop (k + 1)) = V := hdec
      have hge' : acc * 16 + hv c ≤ V := hge
      have hlow := low_run c.toNat
      have hgeR : ∃ d : Nat, hv c = d ∧ d < 16 ∧ (d : Int) = (if c.toNat ≤ 57 then (c.toNat : Int) - 48 else if c.toNat ≤ 70 then (c.toNat : Int) - 55 else (c.toNat : Int) - 87) := by
        rcases isD_true hdg with h | h | h
        · exact ⟨_, hv_dig h, by omega, by rw [if_pos h.2]; omega⟩
        · exact ⟨_, hv_low h, by omega, by rw [if_neg (by omega), if_neg (by omega)]; omega⟩
        · exact ⟨_, hv_up h, by omega, by rw [if_neg (by omega), if_pos h.2]; omega⟩
      obtain ⟨d, hd, hd16, hdc⟩ := hgeR
      rw [hd] at hdec' hge'
      have HD := isD_true hdg
      clear hdec hge hdg hd hdrop hget hB hall hemp hcv hmv
      generalize c.toNat = c at hc hlow hdc HD
      have HO : Aside0 (¬ V ≤ 255 → R = .tuple #[.int .u64 255, .iface 166 (.int .i64 1)]) := ⟨fun h => HR.out.symm.trans (puV_no h)⟩
      have HX : Aside0 (acc ≤ 255 ∧ a = (acc : Int)) := ⟨hacc, ha⟩
      have A0 : Aside0 (valF true (acc * 16 + d) (bs.drop (k + 1)) = V ∧ acc * 16 + d ≤ V) := ⟨hdec', hge'⟩
      clear hdec' hge' hacc ha HR
      rcases HD with h | h | h
      · have hdv : (d : Int) = (c : Int) - 48 := by rw [if_pos h.2] at hdc; omega
        have k1 : (48 : Int) ≤ c := by omega
        have k2 : (c : Int) ≤ 57 := by omega
        have k3 : ((c : Int) == 95) = false := beq_eq_false_iff_ne.2 (by omega)
        by_cases hcut : 255 < acc * 16 + d
        · have k6 : ¬ (1152921504606846976 : Int) ≤ a := by have := HX.out; omega
          have k7 : (255 : Int) < a * 16 + ((c : Int) - 48) := by have := HX.out; omega
          have A : Aside0 (R = .tuple #[.int .u64 255, .iface 166 (.int .i64 1)]) := ⟨HO.out (by have := A0.out; omega)⟩
          clear hlow hdc h hdv hcut HX HO A0
          go_wp2
          go_returns
          exact ⟨by rw [A.out]; rfl, hbel⟩
        · have k6 : ¬ (1152921504606846976 : Int) ≤ a := by have := HX.out; omega
          have k7 : ¬ (255 : Int) < a * 16 + ((c : Int) - 48) := by have := HX.out; omega
          have k8 : a * 16 + ((c : Int) - 48) ≤ 255 := by have := HX.out; omega
          have A : Aside0 (a * 16 + ((c : Int) - 48) = ((acc * 16 + d : Nat) : Int) ∧ acc * 16 + d ≤ 255 ∧ valF true (acc * 16 + d) (bs.drop (k + 1)) = V) := ⟨by have := HX.out; omega, by have := HX.out; omega, A0.out.1⟩
          clear hlow hdc h hdv hcut HX HO A0
          go_wp2
          go_roundg g
          case measure => omega
          case rel => exact ⟨k + 1, acc * 16 + d, a * 16 + ((c : Int) - 48), rfl, (by first | rfl | (congr 1; omega)), by go_num, by omega, rfl, A⟩
      · have hdv : (d : Int) = (c : Int) - 97 + 10 := by rw [if_neg (by omega), if_neg (by omega)] at hdc; omega
        have k1 : (48 : Int) ≤ c := by omega
        have k2 : ¬ (c : Int) ≤ 57 := by omega
        have k3 : ((c : Int) == 95) = false := beq_eq_false_iff_ne.2 (by omega)
        have cl := hlow (Or.inl h) c (Or.inl ⟨h.1, rfl⟩)
        have k4 : (97 : Int) ≤ c := by omega
        have k5 : (c : Int) ≤ 102 := by omega
        by_cases hcut : 255 < acc * 16 + d
        · have k6 : ¬ (1152921504606846976 : Int) ≤ a := by have := HX.out; omega
          have k7 : (255 : Int) < a * 16 + ((c : Int) - 97 + 10) := by have := HX.out; omega
          have A : Aside0 (R = .tuple #[.int .u64 255, .iface 166 (.int .i64 1)]) := ⟨HO.out (by have := A0.out; omega)⟩
          clear hlow hdc h hdv hcut HX HO A0
          go_wp2_with (go_at_call 123; (with_reducible refine (cl _).mono ?_); rintro e w1 ⟨rfl, rfl⟩)
          go_returns
          exact ⟨by rw [A.out]; rfl, hbel⟩
        · have k6 : ¬ (1152921504606846976 : Int) ≤ a := by have := HX.out; omega
          have k7 : ¬ (255 : Int) < a * 16 + ((c : Int) - 97 + 10) := by have := HX.out; omega
          have k8 : a * 16 + ((c : Int) - 97 + 10) ≤ 255 := by have := HX.out; omega
          have A : Aside0 (a * 16 + ((c : Int) - 97 + 10) = ((acc * 16 + d : Nat) : Int) ∧ acc * 16 + d ≤ 255 ∧ valF true (acc * 16 + d) (bs.drop (k + 1)) = V) := ⟨by have := HX.out; omega, by have := HX.out; omega, A0.out.1⟩
          clear hlow hdc h hdv hcut HX HO A0
          go_wp2_with (go_at_call 123; (with_reducible refine (cl _).mono ?_); rintro e w1 ⟨rfl, rfl⟩)
          go_roundg g
          case measure => omega
          case rel => exact ⟨k + 1, acc * 16 + d, a * 16 + ((c : Int) - 97 + 10), rfl, (by first | rfl | (congr 1; omega)), by go_num, by omega, rfl, A⟩
      · have hdv : (d : Int) = (c + 32 : Nat) - 97 + 10 := by rw [if_neg (by omega), if_pos h.2] at hdc; omega
        have k1 : (48 : Int) ≤ c := by omega
        have k2 : ¬ (c : Int) ≤ 57 := by omega
        have k3 : ((c : Int) == 95) = false := beq_eq_false_iff_ne.2 (by omega)
        have cl := hlow (Or.inr h) (c + 32) (Or.inr ⟨h.2, rfl⟩)
        obtain ⟨c2, hc2⟩ : ∃ c2 : Nat, c + 32 = c2 := ⟨_, rfl⟩
        rw [hc2] at cl hdv
        have k4 : (97 : Int) ≤ c2 := by omega
        have k5 : (c2 : Int) ≤ 102 := by omega
        clear hc2
        by_cases hcut : 255 < acc * 16 + d
        · have k6 : ¬ (1152921504606846976 : Int) ≤ a := by have := HX.out; omega
          have k7 : (255 : Int) < a * 16 + ((c2 : Int) - 97 + 10) := by have := HX.out; omega
          have A : Aside0 (R = .tuple #[.int .u64 255, .iface 166 (.int .i64 1)]) := ⟨HO.out (by have := A0.out; omega)⟩
          clear hlow hdc h hdv hcut HX HO A0
          go_wp2_with (go_at_call 123; (with_reducible refine (cl _).mono ?_); rintro e w1 ⟨rfl, rfl⟩)
          go_returns
          exact ⟨by rw [A.out]; rfl, hbel⟩
        · have k6 : ¬ (1152921504606846976 : Int) ≤ a := by have := HX.out; omega
          have k7 : ¬ (255 : Int) < a * 16 + ((c2 : Int) - 97 + 10) := by have := HX.out; omega
          have k8 : a * 16 + ((c2 : Int) - 97 + 10) ≤ 255 := by have := HX.out; omega
          have A : Aside0 (a * 16 + ((c2 : Int) - 97 + 10) = ((acc * 16 + d : Nat) : Int) ∧ acc * 16 + d ≤ 255 ∧ valF true (acc * 16 + d) (bs.drop (k + 1)) = V) := ⟨by have := HX.out; omega, by have := HX.out; omega, A0.out.1⟩
          clear hlow hdc h hdv hcut HX HO A0
          go_wp2_with (go_at_call 123; (with_reducible refine (cl _).mono ?_); rintro e w1 ⟨rfl, rfl⟩)
          go_roundg g
          case measure => omega
          case rel => exact ⟨k + 1, acc * 16 + d, a * 16 + ((c2 : Int) - 97 + 10), rfl, (by first | rfl | (congr 1; omega)), by go_num, by omega, rfl, A⟩
    · obtain rfl : k = t.size := by omega
      obtain rfl : gk = 0 := by omega
      have hF : valF true acc (bs.drop t.size) = acc := by rw [List.drop_eq_nil_of_le (by omega)]; rfl
      rw [hF] at hdec
      have A : Aside0 (R = .tuple #[.int .u64 a, .nilIface]) := ⟨by rw [← HR.out, ← hdec, puV_ok hacc, ha]⟩
      clear hdec hF hacc ha HR hB hall hemp hcv hmv
      go_wp2
      go_returns
      exact ⟨by rw [A.out]; rfl, hbel⟩
end Go.Proofs.YtigaacbaaopfmaaDoor.sh
/- Numbers and words read, the program's: walked. -/
namespace Go.Proofs.YtigaacbaaopfmaaDoor.sh
open Go.RowKit
set_option linter.unusedVariables false
theorem parse10 : ∀ (l : List UInt8) (acc : Nat), l.all (isD false) = true → acc ≤ 18446744073709551615 →
    Lib.parseUint10 acc l = if valF false acc l ≤ 18446744073709551615 then .ok (valF false acc l) else .range
  | [], acc, _, h => by
    show _ = if acc ≤ 18446744073709551615 then _ else _
    rw [if_pos h]; rfl
  | c :: r, acc, hall, h => by
    rw [List.all_cons, Bool.and_eq_true] at hall
    have hd := isD_false hall.1
    have hge := valF_ge1 false c r acc
    have e : valF false acc (c :: r) = valF false (acc * 10 + (c.toNat - 48)) r := by
      show valF false (acc * 10 + hv c) r = _
      rw [hv_dig hd]
    have hge' : acc * 10 + (c.toNat - 48) ≤ valF false acc (c :: r) := by
      have h2 : acc * 10 + hv c ≤ valF false acc (c :: r) := hge
      rw [hv_dig hd] at h2; exact h2
    rw [Lib.parseUint10, if_pos hd]
    by_cases h1 : 1844674407370955162 ≤ acc
    · rw [if_pos h1, if_neg (by omega)]
    · rw [if_neg h1]
      by_cases h2 : 18446744073709551616 ≤ acc * 10 + (c.toNat - 48)
      · rw [if_pos h2, if_neg (by omega)]
      · rw [if_neg h2, parse10 r _ hall.2 (by omega), e]
theorem pu10_64 (t : ByteArray) (hd : allD false t.data.toList = true) (hmax : t.size ≤ 3000000) (w : World) :
    Calls Tryd.prog 110 #[.string t, .int .i64 10, .int .i64 64] w fun e w' => e = .returned (puV 18446744073709551615 (val false t.data.toList)) ∧ Below w.heap.size w w' := by
  unfold allD at hd
  rw [Bool.and_eq_true] at hd
  have hne : t.size ≠ 0 := by
    intro h
    have : t.data.toList = [] := List.eq_nil_of_length_eq_zero (by rw [Array.length_toList]; exact h)
    rw [this] at hd
    exact absurd hd.1 (by simp)
  refine (Tryd.internal_strconv_ParseUint_10_b64 t hne (by omega) w).mono ?_
  rintro e w' ⟨rfl, rfl⟩
  refine ⟨?_, Lib.bytesWorld_below w 5 t⟩
  rw [parse10 _ 0 hd.2 (by omega)]
  unfold puV val
  split <;> rfl
/-- ParseUint of digits to either base. -/
theorem pu_64 (b : Bool) (t : ByteArray) (hd : allD b t.data.toList = true) (hmax : t.size ≤ 3000000) (w : World) :
    Calls Tryd.prog 110 #[.string t, .int .i64 (base b), .int .i64 64] w fun e w' => e = .returned (puV 18446744073709551615 (val b t.data.toList)) ∧ Below w.heap.size w w' := by
  cases b
  · exact pu10_64 t hd hmax w
  · exact pu16_64 t hd hmax w
/-- What the calls may rely on. -/
structure Bs (w : World) : Prop where
  b3 : Base3 w
  er : ∃ te pe, w.cell? ⟨8, 0, none⟩ = some (.iface te pe)
  mx : ∃ m, w.cell? ⟨2, 0, none⟩ = some (.int .i64 m)
theorem Bs.below {w w' : World} (h : Bs w) (k : Below w.heap.size w w') : Bs w' :=
  ⟨h.b3.below k, by obtain ⟨a, b, e⟩ := h.er; exact ⟨a, b, cell_below e k (Nat.le_refl _)⟩, by obtain ⟨a, e⟩ := h.mx; exact ⟨a, cell_below e k (Nat.le_refl _)⟩⟩
/-- An error comes back beside x. -/
def Errs (x : Value) (w : World) (e : Ending) (w' : World) : Prop := ∃ p, e = .returned (.tuple #[x, .iface 167 p]) ∧ Below w.heap.size w w'
def Err1 (w : World) (e : Ending) (w' : World) : Prop := ∃ p, e = .returned (.iface 167 p) ∧ Below w.heap.size w w'
theorem cmp166 : (Tryd.prog.info? 166).map (·.comparable) = some true := by kernel_rfl
set_option maxHeartbeats 4000000 in
set_option maxRecDepth 100000 in
theorem toError_walk (w : World) (hb : Bs w) (fn s : ByteArray) (hs : s.size ≤ 3000000) (b k : Int) : Calls Tryd.prog 108 #[.string fn, .string s, .int .i64 b, .int .i64 k, .iface 166 (.int .i64 1)] w (Err1 w) := by
  obtain ⟨te, pe, he⟩ := hb.er
  have c := Tryd.strconv_rangeError fn s (.iface te pe) w (by omega) he (Or.inr ⟨te, pe, rfl⟩)
  have hq12 : ∀ W, (binOp .eql 65 (.iface 166 (.int .i64 1)) (.iface 166 (.int .i64 2))).run Tryd.prog W = .ok (.bool false) W := fun W => Lib.run_eql_iface_int W 1 2 Tryd.underlying65 cmp166 Tryd.underlying166
  have hq11 : ∀ W, (binOp .eql 65 (.iface 166 (.int .i64 1)) (.iface 166 (.int .i64 1))).run Tryd.prog W = .ok (.bool true) W := fun W => Lib.run_eql_iface_int W 1 1 Tryd.underlying65 cmp166 Tryd.underlying166
  clear he
  go_enter Tryd.func108, Tryd.ntmps108
  go_wp2_with (go_at_call 120; (with_reducible refine c.mono ?_); rintro e w1 ⟨N, rfl, hN, _, hB⟩)
  go_ret
  exact ⟨_, rfl, hB⟩
/-- strconv.ParseUint of digits: in range. -/
theorem parseUint_ok (w : World) (b : Bool) (t : ByteArray) (hd : allD b t.data.toList = true) (hs : t.size ≤ 3000000) (V : Nat) (hV : val b t.data.toList = V) (hr : V ≤ 18446744073709551615) :
    Calls Tryd.prog 96 #[.string t, .int .i64 (base b), .int .i64 64] w fun e w' => e = .returned (.tuple #[.int .u64 V, .nilIface]) ∧ Below w.heap.size w w' := by
  have c := pu_64 b t hd hs w
  rw [hV, puV_ok hr] at c
  clear hV hd hr
  generalize base b = bb at c ⊢
  go_enter Tryd.func96, Tryd.ntmps96
  go_wp2_with (go_at_call 110; (with_reducible refine c.mono ?_); rintro e w1 ⟨rfl, hB⟩)
  go_ret2
  exact ⟨rfl, hB⟩
/-- strconv.ParseUint of digits: out of range. -/
theorem parseUint_no (w : World) (hb : Bs w) (b : Bool) (t : ByteArray) (hd : allD b t.data.toList = true) (hs : t.size ≤ 3000000) (hr : ¬ val b t.data.toList ≤ 18446744073709551615) :
    Calls Tryd.prog 96 #[.string t, .int .i64 (base b), .int .i64 64] w (Errs (.int .u64 18446744073709551615) w) := by
  have c := pu_64 b t hd hs w
  rw [puV_no hr] at c
  clear hd hr
  generalize base b = bb at c ⊢
  have c2 := fun wq (h : Below w.heap.size w wq) => toError_walk wq (hb.below h) ⟨#[80, 97, 114, 115, 101, 85, 105, 110, 116]⟩ t hs bb 64
  go_enter Tryd.func96, Tryd.ntmps96
  go_wp2_with (first
    | (go_at_call 110; (with_reducible refine c.mono ?_); rintro e w1 ⟨rfl, hB⟩)
    | (go_at_call 108; (with_reducible refine (c2 _ hB).mono ?_); rintro e w2 ⟨p, rfl, hB2⟩))
  go_ret2
  exact ⟨_, rfl, below_next hB hB2⟩
end Go.Proofs.YtigaacbaaopfmaaDoor.sh
/- ParseInt of texts of digits, with a sign or without: walked. -/
namespace Go.Proofs.YtigaacbaaopfmaaDoor.sh
open Go.RowKit
set_option linter.unusedVariables false
/-- Out of range. -/
def Rng (w : World) (e : Ending) (w' : World) : Prop := ∃ x, e = .returned (.tuple #[.int .i64 x, .iface 166 (.int .i64 1)]) ∧ Below w.heap.size w w'
theorem neq12 : ∀ W, (binOp .neq 65 (.iface 166 (.int .i64 1)) (.iface 166 (.int .i64 1))).run Tryd.prog W = .ok (.bool false) W := fun W => Lib.run_neq_iface_int W 1 1 Tryd.underlying65 cmp166 Tryd.underlying166
set_option maxHeartbeats 4000000 in
set_option maxRecDepth 100000 in
theorem pi_plain_ok (w : World) (s : ByteArray) (hs : s.size ≤ 3000000) (hne : s.toList.isEmpty = false) (c : Nat) (hc : c ≠ 43 ∧ c ≠ 45) (hx : ∀ W, (Instr.index 9 (.string s) (.int .i64 0)).run Tryd.prog W = .ok (.int .u8 (c : Int)) W)
    (V : Int) (h0 : 0 ≤ V) (hV : V < 9223372036854775808) (cu : Calls Tryd.prog 110 #[.string s, .int .i64 10, .int .i64 64] w fun e w' => e = .returned (.tuple #[.int .u64 V, .nilIface]) ∧ Below w.heap.size w w') :
    Calls Tryd.prog 107 #[.string s, .int .i64 10, .int .i64 64] w fun e w' => e = .returned (.tuple #[.int .i64 V, .nilIface]) ∧ Below w.heap.size w w' := by
  have k1 : ((c : Int) == 43) = false := beq_eq_false_iff_ne.2 (by omega)
  have k2 : ((c : Int) == 45) = false := beq_eq_false_iff_ne.2 (by omega)
  have k4 : ¬ V ≥ 9223372036854775808 := Int.not_le.2 hV
  clear hc
  go_enter Tryd.func107, Tryd.ntmps107
  go_wp2_with (go_at_call 110; (with_reducible refine cu.mono ?_); rintro e w1 ⟨rfl, hB⟩)
  go_ret2
  exact ⟨rfl, hB⟩
set_option maxHeartbeats 4000000 in
set_option maxRecDepth 100000 in
theorem pi_plain_no (w : World) (s : ByteArray) (hs : s.size ≤ 3000000) (hne : s.toList.isEmpty = false) (c : Nat) (hc : c ≠ 43 ∧ c ≠ 45) (hx : ∀ W, (Instr.index 9 (.string s) (.int .i64 0)).run Tryd.prog W = .ok (.int .u8 (c : Int)) W)
    (V : Int) (hV : 9223372036854775808 ≤ V) (hV2 : V ≤ 18446744073709551615) (ev : Value) (hev : ev = .nilIface ∨ ev = .iface 166 (.int .i64 1)) (cu : Calls Tryd.prog 110 #[.string s, .int .i64 10, .int .i64 64] w fun e w' => e = .returned (.tuple #[.int .u64 V, ev]) ∧ Below w.heap.size w w') :
    Calls Tryd.prog 107 #[.string s, .int .i64 10, .int .i64 64] w (Rng w) := by
  have k1 : ((c : Int) == 43) = false := beq_eq_false_iff_ne.2 (by omega)
  have k2 : ((c : Int) == 45) = false := beq_eq_false_iff_ne.2 (by omega)
  have k3 : V ≥ 9223372036854775808 := hV
  have k5 := neq12
  clear hc hV
  rcases hev with rfl | rfl
  all_goals
    go_enter Tryd.func107, Tryd.ntmps107
    go_wp2_with (go_at_call 110; (with_reducible refine cu.mono ?_); rintro e w1 ⟨rfl, hB⟩)
    go_ret2
    exact ⟨_, rfl, hB⟩
set_option maxHeartbeats 4000000 in
set_option maxRecDepth 100000 in
theorem pi_neg_ok (w : World) (s : ByteArray) (hs : s.size ≤ 3000000) (h1 : 1 ≤ s.size) (hne : s.toList.isEmpty = false) (hx : ∀ W, (Instr.index 9 (.string s) (.int .i64 0)).run Tryd.prog W = .ok (.int .u8 45) W)
    (V : Int) (h0 : 0 ≤ V) (hV : V < 9223372036854775808) (cu : Calls Tryd.prog 110 #[.string (s.extract 1 s.size), .int .i64 10, .int .i64 64] w fun e w' => e = .returned (.tuple #[.int .u64 V, .nilIface]) ∧ Below w.heap.size w w') :
    Calls Tryd.prog 107 #[.string s, .int .i64 10, .int .i64 64] w fun e w' => e = .returned (.tuple #[.int .i64 (-V), .nilIface]) ∧ Below w.heap.size w w' := by
  have k4 : ¬ V > 9223372036854775808 := by omega
  go_enter Tryd.func107, Tryd.ntmps107
  go_wp2_with (go_at_call 110; (with_reducible refine cu.mono ?_); rintro e w1 ⟨rfl, hB⟩)
  go_ret2
  exact ⟨rfl, hB⟩
set_option maxHeartbeats 4000000 in
set_option maxRecDepth 100000 in
theorem pi_neg_min (w : World) (s : ByteArray) (hs : s.size ≤ 3000000) (h1 : 1 ≤ s.size) (hne : s.toList.isEmpty = false) (hx : ∀ W, (Instr.index 9 (.string s) (.int .i64 0)).run Tryd.prog W = .ok (.int .u8 45) W)
    (cu : Calls Tryd.prog 110 #[.string (s.extract 1 s.size), .int .i64 10, .int .i64 64] w fun e w' => e = .returned (.tuple #[.int .u64 9223372036854775808, .nilIface]) ∧ Below w.heap.size w w') :
    Calls Tryd.prog 107 #[.string s, .int .i64 10, .int .i64 64] w fun e w' => e = .returned (.tuple #[.int .i64 (-9223372036854775808), .nilIface]) ∧ Below w.heap.size w w' := by
  go_enter Tryd.func107, Tryd.ntmps107
  go_wp2_with (go_at_call 110; (with_reducible refine cu.mono ?_); rintro e w1 ⟨rfl, hB⟩)
  go_ret2
  exact ⟨congrArg (fun x => Ending.returned (.tuple #[.int .i64 x, .nilIface])) (by decide +kernel : wrap64 (-wrap64 9223372036854775808) = -9223372036854775808), hB⟩
set_option maxHeartbeats 4000000 in
set_option maxRecDepth 100000 in
theorem pi_neg_no (w : World) (s : ByteArray) (hs : s.size ≤ 3000000) (h1 : 1 ≤ s.size) (hne : s.toList.isEmpty = false) (hx : ∀ W, (Instr.index 9 (.string s) (.int .i64 0)).run Tryd.prog W = .ok (.int .u8 45) W)
    (V : Int) (hV : 9223372036854775808 < V) (hV2 : V ≤ 18446744073709551615) (ev : Value) (hev : ev = .nilIface ∨ ev = .iface 166 (.int .i64 1)) (cu : Calls Tryd.prog 110 #[.string (s.extract 1 s.size), .int .i64 10, .int .i64 64] w fun e w' => e = .returned (.tuple #[.int .u64 V, ev]) ∧ Below w.heap.size w w') :
    Calls Tryd.prog 107 #[.string s, .int .i64 10, .int .i64 64] w (Rng w) := by
  have k3 : V > 9223372036854775808 := hV
  have k5 := neq12
  clear hV
  rcases hev with rfl | rfl
  all_goals
    go_enter Tryd.func107, Tryd.ntmps107
    go_wp2_with (go_at_call 110; (with_reducible refine cu.mono ?_); rintro e w1 ⟨rfl, hB⟩)
    go_ret2
    exact ⟨_, rfl, hB⟩
set_option maxHeartbeats 4000000 in
/-- The library's outer ParseInt. -/
theorem parseInt_ok (w : World) (s : ByteArray) (x : Int) (c : Calls Tryd.prog 107 #[.string s, .int .i64 10, .int .i64 64] w fun e w' => e = .returned (.tuple #[.int .i64 x, .nilIface]) ∧ Below w.heap.size w w') :
    Calls Tryd.prog 94 #[.string s, .int .i64 10, .int .i64 64] w fun e w' => e = .returned (.tuple #[.int .i64 x, .nilIface]) ∧ Below w.heap.size w w' := by
  go_enter Tryd.func94, Tryd.ntmps94
  go_wp2_with (go_at_call 107; (with_reducible refine c.mono ?_); rintro e w1 ⟨rfl, hB⟩)
  go_ret2
  exact ⟨rfl, hB⟩
def RngO (w : World) (e : Ending) (w' : World) : Prop := ∃ x p, e = .returned (.tuple #[.int .i64 x, .iface 167 p]) ∧ Below w.heap.size w w'
set_option maxHeartbeats 4000000 in
theorem parseInt_no (w : World) (hb : Bs w) (s : ByteArray) (hs : s.size ≤ 3000000) (c : Calls Tryd.prog 107 #[.string s, .int .i64 10, .int .i64 64] w (Rng w)) :
    Calls Tryd.prog 94 #[.string s, .int .i64 10, .int .i64 64] w (RngO w) := by
  have c2 := fun wq (h : Below w.heap.size w wq) => toError_walk wq (hb.below h) ⟨#[80, 97, 114, 115, 101, 73, 110, 116]⟩ s hs 10 64
  go_enter Tryd.func94, Tryd.ntmps94
  go_wp2_with (first
    | (go_at_call 107; (with_reducible refine c.mono ?_); rintro e w1 ⟨x, rfl, hB⟩)
    | (go_at_call 108; (with_reducible refine (c2 _ hB).mono ?_); rintro e w2 ⟨p, rfl, hB2⟩))
  go_ret2
  exact ⟨_, _, rfl, below_next hB hB2⟩
end Go.Proofs.YtigaacbaaopfmaaDoor.sh
/- The program's number and word: walked. -/
namespace Go.Proofs.YtigaacbaaopfmaaDoor.sh
open Go.RowKit
set_option linter.unusedVariables false
/-- A number's text: its value and the error. -/
def numP (s : List UInt8) : Int × Int :=
  match s with
  | [] => (0, 160)
  | c :: t =>
    if c = 45 then
      if allD false t = true then (if val false t ≤ 9223372036854775808 then (-(val false t : Int), 0) else (0, 161)) else (0, 160)
    else if allD false (c :: t) = true then (if val false (c :: t) < 9223372036854775808 then ((val false (c :: t) : Int), 0) else (0, 161)) else (0, 160)
theorem trim_minus {s : ByteArray} {t : List UInt8} (h : s.data.toList = 45 :: t) : (⟨(Lib.trimPrefix s.data.toList [45]).toArray⟩ : ByteArray) = s.extract 1 s.size := by
  apply ByteArray.ext
  apply Array.toList_inj.1
  have : (s.extract 1 s.size).data.toList = s.data.toList.drop 1 := by
    rw [Lib.extract_data]
    rw [List.take_of_length_le]
    simp
  rw [this, h]
  rfl
theorem trim_plain {s : ByteArray} {c : UInt8} {t : List UInt8} (h : s.data.toList = c :: t) (hc : c ≠ 45) : (⟨(Lib.trimPrefix s.data.toList [45]).toArray⟩ : ByteArray) = s := by
  apply ByteArray.ext
  apply Array.toList_inj.1
  rw [h, Lib.trimPrefix, if_neg]
  unfold Lib.hasPrefix
  simp [List.isPrefixOf, Ne.symm hc]
theorem index0 {s : ByteArray} {c : UInt8} {t : List UInt8} (h : s.data.toList = c :: t) (W : World) : (Instr.index 9 (.string s) (.int .i64 0)).run Tryd.prog W = .ok (.int .u8 (c.toNat : Int)) W := by
  have hsz : 0 < s.size := by
    have : s.data.toList.length = s.size := by rw [Array.length_toList]; rfl
    rw [h] at this; simp at this; omega
  rw [run_index_string (h := Tryd.underlying9), dif_pos (by omega)]
  have e : s.data.toList[0]? = some c := by rw [h]; rfl
  have e2 : s[(0 : Int).toNat]'(by simpa using hsz) = c := by
    have : s[(0 : Int).toNat]'(by simpa using hsz) = s.data.toList[0]'(by simpa using hsz) := rfl
    rw [this]
    rw [List.getElem?_eq_getElem (by simpa using hsz)] at e
    exact Option.some.inj e
  rw [e2]
theorem nonempty {s : ByteArray} {c : UInt8} {t : List UInt8} (h : s.data.toList = c :: t) : s.toList.isEmpty = false := by
  rw [← isEmpty_iff, h]; rfl
theorem size_cons {s : ByteArray} {c : UInt8} {t : List UInt8} (h : s.data.toList = c :: t) : s.size = t.length + 1 := by
  have : s.data.toList.length = s.size := by rw [Array.length_toList]; rfl
  rw [← this, h]; rfl
theorem extract1 {s : ByteArray} {c : UInt8} {t : List UInt8} (h : s.data.toList = c :: t) : (s.extract 1 s.size).data.toList = t := by
  rw [Lib.extract_data, List.take_of_length_le (by simp), h]; rfl
theorem isEmpty_nil {s : ByteArray} (h : s.data.toList = []) : s = ⟨#[]⟩ := by
  cases s with | mk d => simp at h; subst h; rfl
/-- The call of ParseInt in number. -/
theorem pi_all (w : World) (hb : Bs w) (s : ByteArray) (hs : s.size ≤ 3000000) (c : UInt8) (t : List UInt8) (h : s.data.toList = c :: t) (hd : allD false (if c = 45 then t else c :: t) = true) :
    ((numP s.data.toList).2 = 0 ∧ Calls Tryd.prog 94 #[.string s, .int .i64 10, .int .i64 64] w fun e w' => e = .returned (.tuple #[.int .i64 (numP s.data.toList).1, .nilIface]) ∧ Below w.heap.size w w') ∨
    (numP s.data.toList = (0, 161) ∧ Calls Tryd.prog 94 #[.string s, .int .i64 10, .int .i64 64] w (RngO w)) := by
  have hne := nonempty h
  have hx := index0 h
  have hsz := size_cons h
  by_cases hc : c = 45
  · subst hc
    rw [if_pos rfl] at hd
    have e1 := extract1 h
    have hs1 : (s.extract 1 s.size).size ≤ 3000000 := by simp; omega
    have cu := pu_64 false (s.extract 1 s.size) (by rw [e1]; exact hd) hs1 w
    rw [e1] at cu
    have cu : Calls Tryd.prog 110 #[.string (s.extract 1 s.size), .int .i64 10, .int .i64 64] w fun e w' => e = .returned (puV 18446744073709551615 (val false t)) ∧ Below w.heap.size w w' := cu
    have e0 : numP s.data.toList = if val false t ≤ 9223372036854775808 then (-(val false t : Int), 0) else (0, 161) := by
      rw [h, numP, if_pos rfl, if_pos hd]
    rw [e0]
    generalize val false t = V at cu ⊢
    by_cases h1 : V ≤ 9223372036854775808
    · rw [if_pos h1]
      rw [puV_ok (by omega)] at cu
      refine Or.inl ⟨rfl, parseInt_ok w s _ ?_⟩
      by_cases h2 : V = 9223372036854775808
      · subst h2
        exact pi_neg_min w s hs (by omega) hne hx cu
      · exact pi_neg_ok w s hs (by omega) hne hx V (by omega) (by omega) cu
    · rw [if_neg h1]
      refine Or.inr ⟨rfl, parseInt_no w hb s hs ?_⟩
      by_cases h2 : V ≤ 18446744073709551615
      · rw [puV_ok h2] at cu
        exact pi_neg_no w s hs (by omega) hne hx V (by omega) (by omega) .nilIface (Or.inl rfl) cu
      · rw [puV_no h2] at cu
        exact pi_neg_no w s hs (by omega) hne hx 18446744073709551615 (by omega) (by omega) _ (Or.inr rfl) cu
  · rw [if_neg hc] at hd
    have hall := hd
    unfold allD at hall
    rw [List.all_cons] at hall
    simp only [Bool.and_eq_true] at hall
    have hcd := isD_false hall.2.1
    have cu := pu_64 false s (by rw [h]; exact hd) hs w
    have cu : Calls Tryd.prog 110 #[.string s, .int .i64 10, .int .i64 64] w fun e w' => e = .returned (puV 18446744073709551615 (val false s.data.toList)) ∧ Below w.heap.size w w' := cu
    have e0 : numP s.data.toList = if val false s.data.toList < 9223372036854775808 then ((val false s.data.toList : Int), 0) else (0, 161) := by
      rw [h, numP, if_neg hc, if_pos hd]
    rw [e0]
    generalize val false s.data.toList = V at cu ⊢
    by_cases h1 : V < 9223372036854775808
    · rw [if_pos h1]
      rw [puV_ok (by omega)] at cu
      exact Or.inl ⟨rfl, parseInt_ok w s _ (pi_plain_ok w s hs hne c.toNat (by omega) hx V (by omega) (by omega) cu)⟩
    · rw [if_neg h1]
      refine Or.inr ⟨rfl, parseInt_no w hb s hs ?_⟩
      by_cases h2 : V ≤ 18446744073709551615
      · rw [puV_ok h2] at cu
        exact pi_plain_no w s hs hne c.toNat (by omega) hx V (by omega) (by omega) .nilIface (Or.inl rfl) cu
      · rw [puV_no h2] at cu
        exact pi_plain_no w s hs hne c.toNat (by omega) hx 18446744073709551615 (by omega) (by omega) _ (Or.inr rfl) cu
theorem number_bad (w : World) (s t : ByteArray) (hs : t.size ≤ 3000000) (ht : (⟨(Lib.trimPrefix s.data.toList [45]).toArray⟩ : ByteArray) = t) (hd : allD false t.data.toList = false) :
    Calls Tryd.prog 78 #[.string s] w fun e w' => e = .returned (.tuple #[.int .i64 0, .int .i64 160]) ∧ Below w.heap.size w w' := by
  have ct := fun wq => Tryd.strings_TrimPrefix s ⟨#[45]⟩ wq
  have ct : ∀ wq, Calls Tryd.prog 93 #[.string s, .string ⟨#[45]⟩] wq fun e w' => e = .returned (.string t) ∧ w' = wq := fun wq => ht ▸ ct wq
  have ca := all_walk w t false hs
  rw [hd] at ca
  have ca : Calls Tryd.prog 92 #[.string t, .int .i64 10] w fun e w' => e = .returned (.bool false) ∧ Below w.heap.size w w' := ca
  clear ht hd
  go_enter Tryd.func78, Tryd.ntmps78
  go_wp2_with (first
    | (go_at_call 93; (with_reducible refine (ct _).mono ?_); rintro e w1 ⟨rfl, rfl⟩)
    | (go_at_call 92; (with_reducible refine ca.mono ?_); rintro e w1 ⟨rfl, hB⟩))
  go_ret2
  exact ⟨rfl, hB⟩
theorem number_ok (w : World) (hb : Bs w) (s t : ByteArray) (hs : t.size ≤ 3000000) (ht : (⟨(Lib.trimPrefix s.data.toList [45]).toArray⟩ : ByteArray) = t) (hd : allD false t.data.toList = true) (x : Int)
    (c : ∀ wq, Below w.heap.size w wq → Calls Tryd.prog 94 #[.string s, .int .i64 10, .int .i64 64] wq fun e w' => e = .returned (.tuple #[.int .i64 x, .nilIface]) ∧ Below wq.heap.size wq w') :
    Calls Tryd.prog 78 #[.string s] w fun e w' => e = .returned (.tuple #[.int .i64 x, .int .i64 0]) ∧ Below w.heap.size w w' := by
  have ct := fun wq => Tryd.strings_TrimPrefix s ⟨#[45]⟩ wq
  have ct : ∀ wq, Calls Tryd.prog 93 #[.string s, .string ⟨#[45]⟩] wq fun e w' => e = .returned (.string t) ∧ w' = wq := fun wq => ht ▸ ct wq
  have ca := all_walk w t false hs
  rw [hd] at ca
  have ca : Calls Tryd.prog 92 #[.string t, .int .i64 10] w fun e w' => e = .returned (.bool true) ∧ Below w.heap.size w w' := ca
  clear ht hd
  go_enter Tryd.func78, Tryd.ntmps78
  go_wp2_with (first
    | (go_at_call 93; (with_reducible refine (ct _).mono ?_); rintro e w1 ⟨rfl, rfl⟩)
    | (go_at_call 92; (with_reducible refine ca.mono ?_); rintro e w1 ⟨rfl, hB⟩)
    | (go_at_call 94; (with_reducible refine (c _ hB).mono ?_); rintro e w2 ⟨rfl, hB2⟩))
  go_ret2
  exact ⟨rfl, below_next hB hB2⟩
theorem number_no (w : World) (hb : Bs w) (s t : ByteArray) (hs : t.size ≤ 3000000) (ht : (⟨(Lib.trimPrefix s.data.toList [45]).toArray⟩ : ByteArray) = t) (hd : allD false t.data.toList = true)
    (c : ∀ wq, Below w.heap.size w wq → Calls Tryd.prog 94 #[.string s, .int .i64 10, .int .i64 64] wq (RngO wq)) :
    Calls Tryd.prog 78 #[.string s] w fun e w' => e = .returned (.tuple #[.int .i64 0, .int .i64 161]) ∧ Below w.heap.size w w' := by
  have ct := fun wq => Tryd.strings_TrimPrefix s ⟨#[45]⟩ wq
  have ct : ∀ wq, Calls Tryd.prog 93 #[.string s, .string ⟨#[45]⟩] wq fun e w' => e = .returned (.string t) ∧ w' = wq := fun wq => ht ▸ ct wq
  have ca := all_walk w t false hs
  rw [hd] at ca
  have ca : Calls Tryd.prog 92 #[.string t, .int .i64 10] w fun e w' => e = .returned (.bool true) ∧ Below w.heap.size w w' := ca
  clear ht hd
  go_enter Tryd.func78, Tryd.ntmps78
  go_wp2_with (first
    | (go_at_call 93; (with_reducible refine (ct _).mono ?_); rintro e w1 ⟨rfl, rfl⟩)
    | (go_at_call 92; (with_reducible refine ca.mono ?_); rintro e w1 ⟨rfl, hB⟩)
    | (go_at_call 94; (with_reducible refine (c _ hB).mono ?_); rintro e w2 ⟨x, p, rfl, hB2⟩))
  go_ret2
  exact ⟨rfl, below_next hB hB2⟩
theorem number_walk (w : World) (hb : Bs w) (s : ByteArray) (hs : s.size ≤ 3000000) :
    Calls Tryd.prog 78 #[.string s] w fun e w' => e = .returned (.tuple #[.int .i64 (numP s.data.toList).1, .int .i64 (numP s.data.toList).2]) ∧ Below w.heap.size w w' := by
  cases h : s.data.toList with
  | nil =>
    exact number_bad w s s hs (by rw [h, isEmpty_nil h]; rfl) (by rw [h]; rfl)
  | cons c t =>
    have hsz := size_cons h
    obtain ⟨u, hu, hud⟩ : ∃ u : ByteArray, (⟨(Lib.trimPrefix s.data.toList [45]).toArray⟩ : ByteArray) = u ∧ u.data.toList = if c = 45 then t else c :: t := by
      by_cases hc : c = 45
      · subst hc
        exact ⟨_, trim_minus h, by rw [if_pos rfl, extract1 h]⟩
      · exact ⟨_, trim_plain h hc, by rw [if_neg hc, h]⟩
    have hus : u.size ≤ 3000000 := by
      have : u.data.toList.length = u.size := by rw [Array.length_toList]; rfl
      rw [hud] at this
      by_cases hc : c = 45
      · rw [if_pos hc] at this; omega
      · rw [if_neg hc, List.length_cons] at this; omega
    by_cases hd : allD false (if c = 45 then t else c :: t) = true
    · rw [← h]
      have hd' : allD false u.data.toList = true := by rw [hud]; exact hd
      have key : ∀ wq, Below w.heap.size w wq → _ := fun wq hw => pi_all wq (hb.below hw) s hs c t h hd
      rcases key w (Below.refl _ _) with ⟨e1, _⟩ | ⟨e1, _⟩
      · rw [e1]
        refine number_ok w hb s u hus hu hd' _ fun wq hw => ?_
        rcases key wq hw with ⟨_, k⟩ | ⟨e2, _⟩
        · exact k
        · rw [e2] at e1; cases e1
      · rw [e1]
        refine number_no w hb s u hus hu hd' fun wq hw => ?_
        rcases key wq hw with ⟨e2, _⟩ | ⟨_, k⟩
        · rw [e1] at e2; cases e2
        · exact k
    · have hd1 : allD false (if c = 45 then t else c :: t) = false := by simpa using hd
      have e0 : numP (c :: t) = (0, 160) := by
        rw [numP]
        by_cases hc : c = 45
        · rw [if_pos hc] at hd ⊢; rw [if_neg hd]
        · rw [if_neg hc] at hd ⊢; rw [if_neg hd]
      rw [e0]
      exact number_bad w s u hus hu (by rw [hud]; exact hd1)
end Go.Proofs.YtigaacbaaopfmaaDoor.sh
/- The program's bytes out of text: walked. -/
namespace Go.Proofs.YtigaacbaaopfmaaDoor.sh
open Go.RowKit
set_option linter.unusedVariables false
/-- Each two digits a byte. -/
def pairs : List UInt8 → List UInt8
  | a :: b :: r => UInt8.ofNat (16 * hv a + hv b) :: pairs r
  | _ => []
theorem pairs_step : ∀ (k : Nat) (l : List UInt8) (x y : UInt8), l[2 * k]? = some x → l[2 * k + 1]? = some y → pairs (l.take (2 * (k + 1))) = pairs (l.take (2 * k)) ++ [UInt8.ofNat (16 * hv x + hv y)]
  | 0, l, x, y, h1, h2 => by
    match l, h1, h2 with
    | a :: b :: r, h1, h2 =>
      simp at h1 h2
      subst h1 h2
      simp [pairs]
  | k + 1, l, x, y, h1, h2 => by
    match l, h1, h2 with
    | a :: b :: r, h1, h2 =>
      have e1 : r[2 * k]? = some x := by rw [← h1]; rw [show 2 * (k + 1) = 2 * k + 1 + 1 by omega]; rfl
      have e2 : r[2 * k + 1]? = some y := by rw [← h2]; rw [show 2 * (k + 1) + 1 = 2 * k + 1 + 1 + 1 by omega]; rfl
      have ih := pairs_step k r x y e1 e2
      rw [show 2 * (k + 1 + 1) = 2 * (k + 1) + 1 + 1 by omega, show 2 * (k + 1) = 2 * k + 1 + 1 by omega]
      rw [List.take_succ_cons, List.take_succ_cons, List.take_succ_cons, List.take_succ_cons]
      rw [show 2 * k + 1 + 1 = 2 * (k + 1) by omega]
      show _ :: pairs (r.take (2 * (k + 1))) = _ :: (pairs (r.take (2 * k))) ++ _
      rw [ih]; rfl
    | [a], h1, h2 => simp at h1
    | [], h1, h2 => simp at h1
/-- Bytes out of text; none: it is no such text. -/
def bytesV (s : List UInt8) : Option (List UInt8) :=
  if s = [45] then some []
  else if s.head? = some 39 ∧ s.tail ≠ [] then some s.tail
  else if allD true s = true ∧ s.length % 2 = 0 then some (pairs s) else none
theorem hv16 {c : UInt8} (h : isD true c = true) : hv c < 16 := by
  rcases isD_true h with k | k | k
  · rw [hv_dig k]; omega
  · rw [hv_low k]; omega
  · rw [hv_up k]; omega
theorem bytes_eq_iff (s : ByteArray) (l : List UInt8) : (s.toList == l) = decide (s.data.toList = l) := by
  rw [ByteArray.toList_eq]
  by_cases h : s.data.toList = l
  · rw [h]; simp
  · simp [h]
set_option maxHeartbeats 8000000 in
theorem fromHex_dash (w : World) : Calls Tryd.prog 80 #[.string ⟨#[45]⟩] w fun e w' => e = .returned (.tuple #[.string ⟨#[]⟩, .int .i64 0]) ∧ Below w.heap.size w w' := by
  go_enter Tryd.func80, Tryd.ntmps80
  go_wp2
  go_ret2
  exact ⟨rfl, Below.refl _ _⟩
set_option maxHeartbeats 8000000 in
theorem fromHex_quote (w : World) (s t : ByteArray) (b : Bool) (h45 : (s.toList == [45]) = false) (ht : t.toList.isEmpty = false)
    (cc : Calls Tryd.prog 95 #[.string s, .string ⟨#[39]⟩] w fun e w' => e = .returned (.tuple #[.string t, .bool true]) ∧ w' = w) :
    Calls Tryd.prog 80 #[.string s] w fun e w' => e = .returned (.tuple #[.string t, .int .i64 0]) ∧ Below w.heap.size w w' := by
  have h1 : (!t.toList.isEmpty) = true := by rw [ht]; rfl
  go_enter Tryd.func80, Tryd.ntmps80
  go_wp2_with (go_at_call 95; (with_reducible refine cc.mono ?_); rintro e w1 ⟨rfl, rfl⟩)
  go_ret2
  exact ⟨rfl, Below.refl _ _⟩
set_option maxHeartbeats 8000000 in
theorem fromHex_bad (w : World) (s t : ByteArray) (b a : Bool) (h45 : (s.toList == [45]) = false) (hq : (b && !t.toList.isEmpty) = false) (hs : s.size ≤ 3000000)
    (cc : Calls Tryd.prog 95 #[.string s, .string ⟨#[39]⟩] w fun e w' => e = .returned (.tuple #[.string t, .bool b]) ∧ w' = w)
    (ca : Calls Tryd.prog 92 #[.string s, .int .i64 16] w fun e w' => e = .returned (.bool a) ∧ Below w.heap.size w w') (ha : a = false ∨ s.size % 2 = 1) :
    Calls Tryd.prog 80 #[.string s] w fun e w' => e = .returned (.tuple #[.string ⟨#[]⟩, .int .i64 160]) ∧ Below w.heap.size w w' := by
  have hm : a = true → ((s.size : Int) % 2 == 1) = true := fun h => by
    rcases ha with h' | h'
    · rw [h] at h'; cases h'
    · exact beq_iff_eq.2 (by omega)
  clear ha
  cases b <;> cases a
  · go_enter Tryd.func80, Tryd.ntmps80
    go_wp2_with (first
      | (go_at_call 95; (with_reducible refine cc.mono ?_); rintro e w1 ⟨rfl, rfl⟩)
      | (go_at_call 92; (with_reducible refine ca.mono ?_); rintro e w1 ⟨rfl, hB⟩))
    go_ret2
    exact ⟨rfl, hB⟩
  · have hm := hm rfl
    go_enter Tryd.func80, Tryd.ntmps80
    go_wp2_with (first
      | (go_at_call 95; (with_reducible refine cc.mono ?_); rintro e w1 ⟨rfl, rfl⟩)
      | (go_at_call 92; (with_reducible refine ca.mono ?_); rintro e w1 ⟨rfl, hB⟩))
    go_ret2
    exact ⟨rfl, hB⟩
  · have hq : (!t.toList.isEmpty) = false := hq
    go_enter Tryd.func80, Tryd.ntmps80
    go_wp2_with (first
      | (go_at_call 95; (with_reducible refine cc.mono ?_); rintro e w1 ⟨rfl, rfl⟩)
      | (go_at_call 92; (with_reducible refine ca.mono ?_); rintro e w1 ⟨rfl, hB⟩))
    go_ret2
    exact ⟨rfl, hB⟩
  · have hm := hm rfl
    have hq : (!t.toList.isEmpty) = false := hq
    go_enter Tryd.func80, Tryd.ntmps80
    go_wp2_with (first
      | (go_at_call 95; (with_reducible refine cc.mono ?_); rintro e w1 ⟨rfl, rfl⟩)
      | (go_at_call 92; (with_reducible refine ca.mono ?_); rintro e w1 ⟨rfl, hB⟩))
    go_ret2
    exact ⟨rfl, hB⟩
theorem own_pos {w : World} {b n : Nat} {v : Value} {l : List UInt8} (h : w.ownsRow b 5 1 v n (us l)) (hn : 0 < n) : 0 < l.length := by
  have h1 := h.1
  rw [us, List.length_map] at h1
  omega
theorem own_below {w w' : World} {b n : Nat} {v : Value} {xs : List Value} (h : w.ownsRow b 5 1 v n xs) (k : Below w.heap.size w w') : w'.ownsRow b 5 1 v n xs := by
  refine ⟨h.1, ?_⟩
  rcases h.2 with h2 | ⟨g, cap, cur, h1, h2, h3, h4⟩
  · exact Or.inl h2
  · have hl : g < w.heap.size := by
      rcases Nat.lt_or_ge g w.heap.size with h | h
      · exact h
      · rw [Array.getElem?_eq_none h] at h3; cases h3
    exact Or.inr ⟨g, cap, cur, h1, h2, (k.block g hl).trans h3, h4⟩
def zerosB (c : Nat) : Array Value := madeCells #[.int .u8 0] c
theorem zerosB_size (c : Nat) : (zerosB c).size = c := by unfold zerosB; rw [size_madeCells]
theorem makeB (W : World) (c : Nat) (hc : c ≤ 3000000) : (Instr.makeSlice 61 (.int .i64 0) (.int .i64 (c : Int))).run Tryd.prog W = .ok (.slice (some ⟨W.heap.size, 0, none⟩) 0 c) (W.alloc (.cells (zerosB c) 5)) := by
  obtain ⟨i, hi, hz0, hz1, hz2⟩ := info_parts info5
  have h := run_make (P := Tryd.prog) W 61 5 i (.int .u8 0) Tryd.underlying61 hi hz0 .i64 .i64 0 c (Int.le_refl _) (by omega) (by rw [hz2]; omega) (by omega)
  simp only [Int.toNat_zero, Int.toNat_natCast, hz1, Nat.mul_one] at h
  exact h
theorem val_two (x y : UInt8) (hx : isD true x = true) (hy : isD true y = true) : val true [x, y] = (UInt8.ofNat (16 * hv x + hv y)).toNat := by
  have h1 := hv16 hx
  have h2 := hv16 hy
  show (0 * rad true + hv x) * rad true + hv y = _
  have : rad true = 16 := rfl
  rw [this, UInt8.toNat_ofNat']
  omega
theorem extract_two (s : ByteArray) (k : Nat) (x y : UInt8) (h1 : s.data.toList[k]? = some x) (h2 : s.data.toList[k + 1]? = some y) : (s.extract k (k + 2)).data.toList = [x, y] := by
  rw [Lib.extract_data]
  obtain ⟨a1, b1⟩ := List.getElem?_eq_some_iff.1 h1
  obtain ⟨a2, b2⟩ := List.getElem?_eq_some_iff.1 h2
  rw [List.drop_eq_getElem_cons a1, List.drop_eq_getElem_cons a2, b1, b2]
  rw [show k + 2 - k = 2 by omega]
  rfl
theorem pu_two (w : World) (u : ByteArray) (x y : UInt8) (hu : u.data.toList = [x, y]) (hx : isD true x = true) (hy : isD true y = true) :
    Calls Tryd.prog 96 #[.string u, .int .i64 16, .int .i64 8] w fun e w' => e = .returned (.tuple #[.int .u64 (UInt8.ofNat (16 * hv x + hv y)).toNat, .nilIface]) ∧ Below w.heap.size w w' := by
  have hsz : u.size ≤ 3000000 := by
    have : u.data.toList.length = u.size := by rw [Array.length_toList]; rfl
    rw [hu] at this; simp at this; omega
  have c := pu16_8 u (by rw [hu]; simp [allD, hx, hy]) hsz w
  have hv := (UInt8.ofNat (16 * hv x + hv y)).toNat_lt
  rw [hu, val_two x y hx hy, puV_ok (by omega)] at c
  generalize (UInt8.ofNat (16 * Go.Proofs.YtigaacbaaopfmaaDoor.sh.hv x + Go.Proofs.YtigaacbaaopfmaaDoor.sh.hv y)).toNat = V at c
  clear hv hx hy
  go_enter Tryd.func96, Tryd.ntmps96
  go_wp2_with (go_at_call 110; (with_reducible refine c.mono ?_); rintro e w1 ⟨rfl, hB⟩)
  go_ret2
  exact ⟨rfl, hB⟩
set_option maxHeartbeats 8000000 in
theorem fromHex_hex (w : World) (s t : ByteArray) (b : Bool) (n : Nat) (h45 : (s.toList == [45]) = false) (hq : (b && !t.toList.isEmpty) = false) (hs : s.size ≤ 3000000) (hn : s.size = 2 * n) (hd : allD true s.data.toList = true)
    (cc : Calls Tryd.prog 95 #[.string s, .string ⟨#[39]⟩] w fun e w' => e = .returned (.tuple #[.string t, .bool b]) ∧ w' = w)
    (ca : Calls Tryd.prog 92 #[.string s, .int .i64 16] w fun e w' => e = .returned (.bool true) ∧ Below w.heap.size w w') :
    Calls Tryd.prog 80 #[.string s] w fun e w' => e = .returned (.tuple #[.string (B (pairs s.data.toList)), .int .i64 0]) ∧ Below w.heap.size w w' := by
  have hm : ((s.size : Int) % 2 == 1) = false := beq_eq_false_iff_ne.2 (by omega)
  have hmk : ∀ W, (Instr.makeSlice 61 (.int .i64 0) (.int .i64 ((s.size : Int) / 2))).run Tryd.prog W = .ok (.slice (some ⟨W.heap.size, 0, none⟩) 0 n) (W.alloc (.cells (zerosB n) 5)) := fun W => by
    rw [show (s.size : Int) / 2 = (n : Int) by omega]; exact makeB W n (by omega)
  have hall : s.data.toList.all (isD true) = true := by unfold allD at hd; rw [Bool.and_eq_true] at hd; exact hd.2
  have hpos : 0 < n := by
    have : s.data.toList.length = s.size := by rw [Array.length_toList]; rfl
    unfold allD at hd
    rw [Bool.and_eq_true] at hd
    cases e : s.data.toList with
    | nil => rw [e] at hd; exact absurd hd.1 (by simp)
    | cons _ _ => rw [e] at this; simp at this; omega
  have hlen : s.data.toList.length = 2 * n := by rw [Array.length_toList, ← hn]; rfl
  obtain ⟨R, hR⟩ : ∃ R, B (pairs s.data.toList) = R := ⟨_, rfl⟩
  rw [hR]
  have HR : Aside0 (B (pairs s.data.toList) = R) := ⟨hR⟩
  have HN : Aside0 (s.size = 2 * n) := ⟨hn⟩
  have HL : Aside0 (s.data.toList.length = 2 * n) := ⟨hlen⟩
  clear hR hd hn hlen
  have hmade := fun (W : World) (h : w.heap.size ≤ W.heap.size) => World.ownsRow_made (base := w.heap.size) (e := 5) (size := 1) W (zerosB n) n h (by unfold maxLen; have := HN.out; omega) (by rw [zerosB_size]; omega)
  cases b
  · clear hq
    go_enter Tryd.func80, Tryd.ntmps80
    go_wp2_with (first
      | (go_at_call 95; (with_reducible refine cc.mono ?_); rintro e w1 ⟨rfl, hw1⟩; rw [hw1]; clear hw1 w1)
      | (go_at_call 92; (with_reducible refine ca.mono ?_); rintro e w1 ⟨rfl, hB⟩))
    have own0 := hmade w1 hB.size
    clear hmade hmk
    go_loopg [6, 7] n (fun g v6 v7 wr => ∃ k : Nat, v7 = .int .i64 ((2 * k : Nat) : Int) ∧ k + g = n ∧ wr.ownsRow w.heap.size 5 1 v6 k (us (pairs (s.data.toList.take (2 * k)))) ∧ Below w.heap.size w wr)
    case atStart => exact ⟨0, rfl, by omega, own0, hB.alloc hB.size _⟩
    case round =>
      obtain ⟨k, rfl, hkg, hown, hBr⟩ := hrel
      clear own0
      by_cases hk : k < n
      · obtain ⟨g, rfl⟩ : ∃ g, gk = g + 1 := ⟨gk - 1, by omega⟩
        have hlen := HL.out
        have hsz := HN.out
        obtain ⟨x, hx⟩ : ∃ x, s.data.toList[2 * k]? = some x := ⟨_, List.getElem?_eq_getElem (by omega)⟩
        obtain ⟨y, hy⟩ : ∃ y, s.data.toList[2 * k + 1]? = some y := ⟨_, List.getElem?_eq_getElem (by omega)⟩
        have hdx := List.all_eq_true.1 hall x (List.mem_of_getElem? hx)
        have hdy := List.all_eq_true.1 hall y (List.mem_of_getElem? hy)
        have HP : Aside0 (pairs (s.data.toList.take (2 * (k + 1))) = pairs (s.data.toList.take (2 * k)) ++ [UInt8.ofNat (16 * hv x + hv y)]) := ⟨pairs_step k _ x y hx hy⟩
        obtain ⟨u, hu⟩ : ∃ u, s.extract (2 * k) (2 * k + 2) = u := ⟨_, rfl⟩
        have hsl : ∀ W, (Instr.slice 9 (.string s) (some (.int .i64 ((2 * k : Nat) : Int))) (some (.int .i64 (((2 * k : Nat) : Int) + 2))) none).run Tryd.prog W = .ok (.string u) W := fun W => by
          rw [run_slice_string (h := Tryd.underlying9) (h0 := by omega) (h1 := by omega) (h2 := by omega), ← hu]
          rw [show (((2 * k : Nat) : Int) + 2).toNat = 2 * k + 2 by omega, Int.toNat_natCast]
        have hud := extract_two s (2 * k) x y hx hy
        rw [hu] at hud
        have cu := fun wq => pu_two wq u x y hud hdx hdy
        have hlt : ((2 * k : Nat) : Int) < (s.size : Int) := by omega
        have hz := (UInt8.ofNat (16 * hv x + hv y)).toNat_lt
        generalize UInt8.ofNat (16 * hv x + hv y) = z at cu HP hz
        have hz1 : (z.toNat : Int) ≤ 255 := by omega
        have hk2 : k ≤ 1500000 := by omega
        have hj2 : ((2 * k : Nat) : Int) ≤ 3000000 := by omega
        have HJ : Aside0 (((2 * k : Nat) : Int) + 2 = ((2 * (k + 1) : Nat) : Int)) := ⟨by omega⟩
        clear hx hy hdx hdy hu hud hlen hsz hz hk
        obtain ⟨j, hj⟩ : ∃ j, 2 * k = j := ⟨_, rfl⟩
        rw [hj] at hsl hlt hown hj2 HJ HP
        rw [hj]
        have HJ2 : Aside0 (2 * k = j) := ⟨hj⟩
        clear hj
        generalize pairs (s.data.toList.take j) = L at hown HP
        go_wp2_with (first
          | (go_at_call 96; (with_reducible refine (cu _).mono ?_); rintro e w2 ⟨rfl, hB2⟩; have hB3 := below_next hBr hB2; have own1 := own_below hown hB2)
          | (at_builtin; (refine wpList_app rfl (.tmp 51) (.tmp 54) rfl w.heap.size k _ (us L) [z] (by simp) own1 rfl rfl (by simp; omega) hB3.size rfl ?_; intro v1 w3 own2 gr1; have bel1 := below_app rfl hB3 own1 gr1)))
        go_roundg g
        case measure => omega
        case rel => exact ⟨k + 1, by rw [← HJ.out], by omega, by rw [HP.out, us_append]; exact own2, bel1⟩
      · obtain rfl : k = n := by omega
        have hlt : ¬ ((2 * k : Nat) : Int) < (s.size : Int) := by have := HN.out; omega
        rw [List.take_of_length_le (by have := HL.out; omega)] at hown
        obtain ⟨gg, cp, rfl, hconv⟩ := conv_own hown (own_pos hown (by omega))
        rw [HR.out] at hconv
        clear hown hk
        obtain ⟨j, hj⟩ : ∃ j, 2 * k = j := ⟨_, rfl⟩
        rw [hj] at hlt
        rw [hj]
        clear hj
        go_wp2
        go_ret2
        exact ⟨rfl, hBr⟩
  · have hq : (!t.toList.isEmpty) = false := hq
    go_enter Tryd.func80, Tryd.ntmps80
    go_wp2_with (first
      | (go_at_call 95; (with_reducible refine cc.mono ?_); rintro e w1 ⟨rfl, hw1⟩; rw [hw1]; clear hw1 w1)
      | (go_at_call 92; (with_reducible refine ca.mono ?_); rintro e w1 ⟨rfl, hB⟩))
    have own0 := hmade w1 hB.size
    clear hmade hmk
    go_loopg [6, 7] n (fun g v6 v7 wr => ∃ k : Nat, v7 = .int .i64 ((2 * k : Nat) : Int) ∧ k + g = n ∧ wr.ownsRow w.heap.size 5 1 v6 k (us (pairs (s.data.toList.take (2 * k)))) ∧ Below w.heap.size w wr)
    case atStart => exact ⟨0, rfl, by omega, own0, hB.alloc hB.size _⟩
    case round =>
      obtain ⟨k, rfl, hkg, hown, hBr⟩ := hrel
      clear own0
      by_cases hk : k < n
      · obtain ⟨g, rfl⟩ : ∃ g, gk = g + 1 := ⟨gk - 1, by omega⟩
        have hlen := HL.out
        have hsz := HN.out
        obtain ⟨x, hx⟩ : ∃ x, s.data.toList[2 * k]? = some x := ⟨_, List.getElem?_eq_getElem (by omega)⟩
        obtain ⟨y, hy⟩ : ∃ y, s.data.toList[2 * k + 1]? = some y := ⟨_, List.getElem?_eq_getElem (by omega)⟩
        have hdx := List.all_eq_true.1 hall x (List.mem_of_getElem? hx)
        have hdy := List.all_eq_true.1 hall y (List.mem_of_getElem? hy)
        have HP : Aside0 (pairs (s.data.toList.take (2 * (k + 1))) = pairs (s.data.toList.take (2 * k)) ++ [UInt8.ofNat (16 * hv x + hv y)]) := ⟨pairs_step k _ x y hx hy⟩
        obtain ⟨u, hu⟩ : ∃ u, s.extract (2 * k) (2 * k + 2) = u := ⟨_, rfl⟩
        have hsl : ∀ W, (Instr.slice 9 (.string s) (some (.int .i64 ((2 * k : Nat) : Int))) (some (.int .i64 (((2 * k : Nat) : Int) + 2))) none).run Tryd.prog W = .ok (.string u) W := fun W => by
          rw [run_slice_string (h := Tryd.underlying9) (h0 := by omega) (h1 := by omega) (h2 := by omega), ← hu]
          rw [show (((2 * k : Nat) : Int) + 2).toNat = 2 * k + 2 by omega, Int.toNat_natCast]
        have hud := extract_two s (2 * k) x y hx hy
        rw [hu] at hud
        have cu := fun wq => pu_two wq u x y hud hdx hdy
        have hlt : ((2 * k : Nat) : Int) < (s.size : Int) := by omega
        have hz := (UInt8.ofNat (16 * hv x + hv y)).toNat_lt
        generalize UInt8.ofNat (16 * hv x + hv y) = z at cu HP hz
        have hz1 : (z.toNat : Int) ≤ 255 := by omega
        have hk2 : k ≤ 1500000 := by omega
        have hj2 : ((2 * k : Nat) : Int) ≤ 3000000 := by omega
        have HJ : Aside0 (((2 * k : Nat) : Int) + 2 = ((2 * (k + 1) : Nat) : Int)) := ⟨by omega⟩
        clear hx hy hdx hdy hu hud hlen hsz hz hk
        obtain ⟨j, hj⟩ : ∃ j, 2 * k = j := ⟨_, rfl⟩
        rw [hj] at hsl hlt hown hj2 HJ HP
        rw [hj]
        have HJ2 : Aside0 (2 * k = j) := ⟨hj⟩
        clear hj
        generalize pairs (s.data.toList.take j) = L at hown HP
        go_wp2_with (first
          | (go_at_call 96; (with_reducible refine (cu _).mono ?_); rintro e w2 ⟨rfl, hB2⟩; have hB3 := below_next hBr hB2; have own1 := own_below hown hB2)
          | (at_builtin; (refine wpList_app rfl (.tmp 51) (.tmp 54) rfl w.heap.size k _ (us L) [z] (by simp) own1 rfl rfl (by simp; omega) hB3.size rfl ?_; intro v1 w3 own2 gr1; have bel1 := below_app rfl hB3 own1 gr1)))
        go_roundg g
        case measure => omega
        case rel => exact ⟨k + 1, by rw [← HJ.out], by omega, by rw [HP.out, us_append]; exact own2, bel1⟩
      · obtain rfl : k = n := by omega
        have hlt : ¬ ((2 * k : Nat) : Int) < (s.size : Int) := by have := HN.out; omega
        rw [List.take_of_length_le (by have := HL.out; omega)] at hown
        obtain ⟨gg, cp, rfl, hconv⟩ := conv_own hown (own_pos hown (by omega))
        rw [HR.out] at hconv
        clear hown hk
        obtain ⟨j, hj⟩ : ∃ j, 2 * k = j := ⟨_, rfl⟩
        rw [hj] at hlt
        rw [hj]
        clear hj
        go_wp2
        go_ret2
        exact ⟨rfl, hBr⟩
theorem hasPrefix39 (l : List UInt8) (c : UInt8) : Lib.hasPrefix l [c] = decide (l.head? = some c) := by
  cases l with
  | nil => rfl
  | cons x r =>
    unfold Lib.hasPrefix
    simp only [List.isPrefixOf, Bool.and_true, List.head?_cons, Option.some.injEq]
    by_cases h : c = x
    · subst h; simp
    · have h2 : ¬ x = c := fun e => h e.symm
      simp [h, h2]
theorem eq_of_toList {s : ByteArray} {l : List UInt8} (h : s.data.toList = l) : s = ⟨l.toArray⟩ := by
  rw [← h]
theorem fromHex_walk (w : World) (s : ByteArray) (hs : s.size ≤ 3000000) :
    Calls Tryd.prog 80 #[.string s] w fun e w' => e = .returned (.tuple #[.string (B ((bytesV s.data.toList).getD [])), .int .i64 (if (bytesV s.data.toList).isSome then 0 else 160)]) ∧ Below w.heap.size w w' := by
  have hlen : s.data.toList.length = s.size := by rw [Array.length_toList]; rfl
  by_cases h45 : s.data.toList = [45]
  · have e : bytesV s.data.toList = some [] := by unfold bytesV; rw [if_pos h45]
    rw [e, eq_of_toList h45]
    exact fromHex_dash w
  · have h45' : (s.toList == [45]) = false := by rw [bytes_eq_iff]; exact decide_eq_false h45
    have cc := Tryd.strings_CutPrefix s ⟨#[39]⟩ w
    have cc : Calls Tryd.prog 95 #[.string s, .string ⟨#[39]⟩] w fun e w' => e = .returned (.tuple #[.string ⟨(Lib.trimPrefix s.data.toList [39]).toArray⟩, .bool (Lib.hasPrefix s.data.toList [39])]) ∧ w' = w := cc
    rw [hasPrefix39] at cc
    have htl : s.data.toList.head? = some 39 → Lib.trimPrefix s.data.toList [39] = s.data.toList.tail := fun h => by
      unfold Lib.trimPrefix
      rw [hasPrefix39, if_pos (decide_eq_true h)]
      cases s.data.toList <;> rfl
    by_cases hq : s.data.toList.head? = some 39 ∧ s.data.toList.tail ≠ []
    · have e : bytesV s.data.toList = some s.data.toList.tail := by unfold bytesV; rw [if_neg h45, if_pos hq]
      rw [e]
      rw [htl hq.1, decide_eq_true hq.1] at cc
      refine fromHex_quote w s ⟨s.data.toList.tail.toArray⟩ true h45' ?_ cc
      rw [← isEmpty_iff]
      simpa using hq.2
    · have hqf : (decide (s.data.toList.head? = some 39) && !(⟨(Lib.trimPrefix s.data.toList [39]).toArray⟩ : ByteArray).toList.isEmpty) = false := by
        by_cases h1 : s.data.toList.head? = some 39
        · rw [htl h1, decide_eq_true h1, ← isEmpty_iff]
          have h2 : s.data.toList.tail = [] := by
            apply Classical.byContradiction
            intro h2; exact hq ⟨h1, h2⟩
          rw [h2]; rfl
        · rw [decide_eq_false h1]; rfl
      have ca := all_walk w s true hs
      have ca : Calls Tryd.prog 92 #[.string s, .int .i64 16] w fun e w' => e = .returned (.bool (allD true s.data.toList)) ∧ Below w.heap.size w w' := ca
      by_cases hok : allD true s.data.toList = true ∧ s.data.toList.length % 2 = 0
      · have e : bytesV s.data.toList = some (pairs s.data.toList) := by unfold bytesV; rw [if_neg h45, if_neg hq, if_pos hok]
        rw [e]
        rw [hok.1] at ca
        exact fromHex_hex w s _ _ (s.size / 2) h45' hqf hs (by omega) hok.1 cc ca
      · have e : bytesV s.data.toList = none := by unfold bytesV; rw [if_neg h45, if_neg hq, if_neg hok]
        rw [e]
        refine fromHex_bad w s _ _ _ h45' hqf hs cc ca ?_
        by_cases h1 : allD true s.data.toList = true
        · right
          have : ¬ s.data.toList.length % 2 = 0 := fun h2 => hok ⟨h1, h2⟩
          omega
        · left; simpa using h1
end Go.Proofs.YtigaacbaaopfmaaDoor.sh
/- Strict numbers and bytes, names found: the program's, walked. -/
namespace Go.Proofs.YtigaacbaaopfmaaDoor.sh
open Go.RowKit
set_option linter.unusedVariables false
def strictN (l : List UInt8) : Bool := decide ((numP l).2 = 0) && decide (Lib.itoa (numP l).1 = l)
def bytesL (l : List UInt8) : List UInt8 := if l = [] then [45] else hexL l
theorem bytesP_B (l : List UInt8) : bytesP (B l) = bytesL l := by
  unfold bytesP bytesL
  rw [B_size]
  by_cases h : l = []
  · subst h; rfl
  · have : ¬ l.length = 0 := fun e => h (List.eq_nil_of_length_eq_zero e)
    rw [if_neg this, if_neg h]; rfl
def strictB (l : List UInt8) : Bool := (bytesV l).isSome && decide (bytesL ((bytesV l).getD []) = l)
theorem blank_eq (r s : ByteArray) (l : List UInt8) (hr : r = B (32 :: l)) : (r.toList == ((⟨#[32]⟩ : ByteArray) ++ s).toList) = decide (l = s.data.toList) := by
  have e : ((⟨#[32]⟩ : ByteArray) ++ s) = B (32 :: s.data.toList) := by
    rw [← B_of s]
    show B [32] ++ B s.data.toList = _
    rw [B_add]
    simp [B]
  rw [e, hr, B_toList, B_toList]
  by_cases h : l = s.data.toList
  · simp [h]
  · simp [h]
theorem numP_in (l : List UInt8) : In64 (numP l).1 ∧ ((numP l).2 = 0 ∨ (numP l).2 = 160 ∨ (numP l).2 = 161) := by
  unfold In64
  cases l with
  | nil => exact ⟨⟨by decide, by decide⟩, by decide⟩
  | cons c t =>
    unfold numP
    dsimp only
    split
    · split
      · split <;> constructor <;> simp <;> omega
      · constructor <;> simp
    · split
      · split <;> constructor <;> simp <;> omega
      · constructor <;> simp
set_option maxHeartbeats 4000000 in
theorem strictNumber_walk (w : World) (hb : Bs w) (s : ByteArray) (hs : s.size ≤ 3000000) :
    Calls Tryd.prog 70 #[.string s] w fun e w' => e = .returned (.tuple #[.int .i64 (numP s.data.toList).1, .bool (strictN s.data.toList)]) ∧ Below w.heap.size w w' := by
  have cn := number_walk w hb s hs
  obtain ⟨hi, her⟩ := numP_in s.data.toList
  obtain ⟨q, hq⟩ : ∃ q, strictN s.data.toList = q := ⟨_, rfl⟩
  rw [hq]
  unfold strictN at hq
  generalize numP s.data.toList = p at cn hi her hq ⊢
  obtain ⟨v, er⟩ := p
  dsimp only at cn hi her hq ⊢
  obtain ⟨r, hr⟩ : ∃ r, showN v = r := ⟨_, rfl⟩
  have hbl := blank_eq r s (Lib.itoa v) hr.symm
  have cs := fun wq (h : Below w.heap.size w wq) => (show_num (hb.below h).b3.base v hi r hr).2 wq (Below.refl _ _)
  clear hr
  by_cases h0 : er = 0
  · subst h0
    have hk : (r.toList == ((⟨#[32]⟩ : ByteArray) ++ s).toList) = q := by rw [hbl, ← hq]; simp
    clear hbl hq her
    go_enter Tryd.func70, Tryd.ntmps70
    go_wp2_with (first
      | (go_at_call 78; (with_reducible refine cn.mono ?_); rintro e w1 ⟨rfl, hB⟩)
      | (go_at_call 29; (with_reducible refine (cs _ hB).mono ?_); rintro e w2 ⟨rfl, hB2⟩))
    go_ret2
    exact ⟨rfl, below_next hB hB2⟩
  · have hz : (er == 0) = false := beq_eq_false_iff_ne.2 h0
    have HQ : Aside0 (q = false) := ⟨by rw [← hq, decide_eq_false h0]; rfl⟩
    clear hq hbl h0
    go_enter Tryd.func70, Tryd.ntmps70
    go_wp2_with (first
      | (go_at_call 78; (with_reducible refine cn.mono ?_); rintro e w1 ⟨rfl, hB⟩))
    go_ret2
    exact ⟨by rw [HQ.out]; rfl, hB⟩
theorem pairs_len : ∀ l : List UInt8, (pairs l).length ≤ l.length
  | [] => by simp [pairs]
  | [a] => by simp [pairs]
  | a :: b :: r => by
    have := pairs_len r
    simp only [pairs, List.length_cons]
    omega
theorem bytesV_len (l : List UInt8) : ((bytesV l).getD []).length ≤ l.length := by
  unfold bytesV
  split
  · simp
  · split
    · simp
    · split
      · exact pairs_len l
      · simp
set_option maxHeartbeats 4000000 in
theorem strictBytes_walk (w : World) (s : ByteArray) (hs : s.size ≤ 3000000) :
    Calls Tryd.prog 71 #[.string s] w fun e w' => e = .returned (.tuple #[.string (B ((bytesV s.data.toList).getD [])), .bool (strictB s.data.toList)]) ∧ Below w.heap.size w w' := by
  have cn := fromHex_walk w s hs
  obtain ⟨q, hq⟩ : ∃ q, strictB s.data.toList = q := ⟨_, rfl⟩
  rw [hq]
  unfold strictB at hq
  have hl : (B ((bytesV s.data.toList).getD [])).size ≤ 3000000 := by
    rw [B_size]
    have h1 := bytesV_len s.data.toList
    have h2 : s.data.toList.length = s.size := by rw [Array.length_toList]; rfl
    omega
  generalize hb : bytesV s.data.toList = p at cn hq hl ⊢
  obtain ⟨v, hv⟩ : ∃ v, B (p.getD []) = v := ⟨_, rfl⟩
  have hvl : bytesP v = bytesL (p.getD []) := by rw [← hv, bytesP_B]
  rw [hv] at hl cn ⊢
  obtain ⟨r, hr⟩ : ∃ r, showB v = r := ⟨_, rfl⟩
  have hbl := blank_eq r s (bytesL (p.getD [])) (by rw [← hr, showB, hvl])
  have cs := fun wq => (show_byt (w := wq) v hl r hr).2 wq (Below.refl _ _)
  clear hr hvl hv hl hb
  cases p with
  | some x =>
    have hk : (r.toList == ((⟨#[32]⟩ : ByteArray) ++ s).toList) = q := by rw [hbl, ← hq]; simp
    have cn : Calls Tryd.prog 80 #[.string s] w fun e w' => e = .returned (.tuple #[.string v, .int .i64 0]) ∧ Below w.heap.size w w' := cn
    clear hbl hq
    go_enter Tryd.func71, Tryd.ntmps71
    go_wp2_with (first
      | (go_at_call 80; (with_reducible refine cn.mono ?_); rintro e w1 ⟨rfl, hB⟩)
      | (go_at_call 30; (with_reducible refine (cs _).mono ?_); rintro e w2 ⟨rfl, hB2⟩))
    go_ret2
    exact ⟨rfl, below_next hB hB2⟩
  | none =>
    have HQ : Aside0 (q = false) := ⟨by rw [← hq]; rfl⟩
    have cn : Calls Tryd.prog 80 #[.string s] w fun e w' => e = .returned (.tuple #[.string v, .int .i64 160]) ∧ Below w.heap.size w w' := cn
    clear hq hbl
    go_enter Tryd.func71, Tryd.ntmps71
    go_wp2_with (first
      | (go_at_call 80; (with_reducible refine cn.mono ?_); rintro e w1 ⟨rfl, hB⟩))
    go_ret2
    exact ⟨by rw [HQ.out]; rfl, hB⟩
end Go.Proofs.YtigaacbaaopfmaaDoor.sh
/- A name found in the table of rows: the program's, walked. -/
namespace Go.Proofs.YtigaacbaaopfmaaDoor.sh
open Go.RowKit
set_option linter.unusedVariables false
def opOf (i : Nat) : Int := if i = 0 ∨ i = 15 then 0 else (i : Int)
def forms : List (List UInt8) := [[110], [119, 110], [110, 98], [110, 98, 98], [110, 98], [110], [110, 119], [110], [110, 119, 119], [110], [], [], [110, 98], [110], [], [98, 119]]
def formOf (i : Nat) : ByteArray := B (forms.getD i [])
def moreOf (i : Nat) : Bool := i == 1 || i == 10
/-- The program's table. -/
def Rowz (w : World) : Prop := ∃ cs t fr, w.heap[0]? = some (.cells cs t fr) ∧ cs.size = 64 ∧ ∀ i, i < 16 →
  cs[i * 4]? = some (.string (nm i)) ∧ cs[i * 4 + 1]? = some (.int .i64 (opOf i)) ∧ cs[i * 4 + 2]? = some (.string (formOf i)) ∧ cs[i * 4 + 3]? = some (.bool (moreOf i))
theorem Rowz.below {w w' : World} (h : Rowz w) (k : Below w.heap.size w w') : Rowz w' := by
  obtain ⟨cs, t, fr, h1, h2⟩ := h
  refine ⟨cs, t, fr, ?_, h2⟩
  have hl : 0 < w.heap.size := by
    rcases Nat.lt_or_ge 0 w.heap.size with h | h
    · exact h
    · rw [Array.getElem?_eq_none h] at h1; cases h1
  exact (k.block 0 hl).trans h1
theorem index_row (W : World) (cs : Array Value) (hs : cs.size = 64) (i : Nat) (hi : i < 16) (a b c d : Value) (h0 : cs[i * 4]? = some a) (h1 : cs[i * 4 + 1]? = some b) (h2 : cs[i * 4 + 2]? = some c) (h3 : cs[i * 4 + 3]? = some d) :
    (Instr.index 83 (.agg cs) (.int .i64 (i : Int))).run Tryd.prog W = .ok (.agg #[a, b, c, d]) W := by
  have e : cs.extract (i * 4) (i * 4 + 4) = #[a, b, c, d] := by
    apply Array.ext_getElem?
    intro j
    rw [Array.getElem?_extract]
    match j with
    | 0 => rw [if_pos (by omega)]; exact h0
    | 1 => rw [if_pos (by omega)]; exact h1
    | 2 => rw [if_pos (by omega)]; exact h2
    | 3 => rw [if_pos (by omega)]; exact h3
    | j + 4 => rw [if_neg (by omega)]; rfl
  have hlt : (0 : Int) ≤ (i : Int) ∧ (i : Int) < 16 := by omega
  simp [Instr.index, run_underlying Tryd.underlying83, asIntOf, hlt, part, go_sem]
  rw [if_pos hi, e]
/-- The place of a name; -1: there is none. -/
def findFrom (l : List UInt8) (k : Nat) : Nat → Int
  | 0 => -1
  | g + 1 => if names.getD k [] = l then (k : Int) else findFrom l (k + 1) g
def findP (l : List UInt8) : Int := findFrom l 0 16
theorem findFrom_yes (l : List UInt8) (k g : Nat) (h : names.getD k [] = l) : findFrom l k (g + 1) = (k : Int) := by rw [findFrom, if_pos h]
theorem findFrom_no (l : List UInt8) (k g : Nat) (h : ¬ names.getD k [] = l) : findFrom l k (g + 1) = findFrom l (k + 1) g := by rw [findFrom, if_neg h]
theorem nm_eq (i : Nat) (s : ByteArray) : ((nm i).toList == s.toList) = decide (names.getD i [] = s.data.toList) := by
  unfold nm
  rw [B_toList, ByteArray.toList_eq]
  by_cases h : names.getD i [] = s.data.toList
  · rw [h]; simp
  · rw [decide_eq_false h]; exact beq_eq_false_iff_ne.2 h
set_option maxHeartbeats 8000000 in
set_option maxRecDepth 100000 in
theorem find_walk (w : World) (s : ByteArray) (hr : Rowz w) : Calls Tryd.prog 45 #[.string s] w fun e w' => e = .returned (.int .i64 (findP s.data.toList)) ∧ Below w.heap.size w w' := by
  obtain ⟨cs, t, fr, hg, hsz, hrow⟩ := hr
  have hload : ∀ (ops : Array Oper) (rest : List Oper) (o : Oper) (a : Act) (Q : Exit → Act → World → Prop) (x : Operand), o.guard = none → o.op = .load 83 x → a.eval x = .pointer (some ⟨0, 0, none⟩) →
      wpList Tryd.prog ops Q rest (a.put o.dst (.agg cs)) w → wpList Tryd.prog ops Q (o :: rest) a w := fun ops rest o a Q x h1 h2 h3 h => by
    exact wpList_load_row h1 83 x h2 0 h3 t cs fr _ hg Tryd.underlying83 rfl (by rw [hsz]; kernel_rfl) h
  obtain ⟨R, hR⟩ : ∃ R, findP s.data.toList = R := ⟨_, rfl⟩
  rw [hR]
  have HR : Aside0 (findFrom s.data.toList 0 16 = R) := ⟨hR⟩
  have HS : Aside0 (cs.size = 64) := ⟨hsz⟩
  clear hR hg hsz
  go_enter Tryd.func45, Tryd.ntmps45
  go_wp2_with (refine hload _ _ _ _ _ _ rfl rfl rfl ?_)
  go_loopg [6] 16 (fun g v6 wr => ∃ k : Nat, v6 = .int .i64 k ∧ k + g = 16 ∧ Aside0 (findFrom s.data.toList k g = R) ∧ Below w.heap.size w wr)
  case atStart => exact ⟨0, rfl, by omega, HR, Below.refl _ _⟩
  case round =>
    obtain ⟨k, rfl, hkg, hF, hB⟩ := hrel
    clear HR
    by_cases hk : k < 16
    · obtain ⟨g, rfl⟩ : ∃ g, gk = g + 1 := ⟨gk - 1, by omega⟩
      have hlt : (k : Int) < 16 := by omega
      obtain ⟨h0, h1, h2, h3⟩ := hrow k hk
      have hidx := fun W => index_row W cs HS.out k hk _ _ _ _ h0 h1 h2 h3
      clear h0 h1 h2 h3 hrow
      by_cases hq : names.getD k [] = s.data.toList
      · have hc : ((nm k).toList == s.toList) = true := by rw [nm_eq]; exact decide_eq_true hq
        have HK : Aside0 (R = (k : Int)) := ⟨by rw [← hF.out, findFrom_yes _ _ _ hq]⟩
        clear hF hq
        go_wp2
        go_ret
        exact ⟨by rw [HK.out]; rfl, hB.alloc hB.size _⟩
      · have hc : ((nm k).toList == s.toList) = false := by rw [nm_eq]; exact decide_eq_false hq
        have HK : Aside0 (findFrom s.data.toList (k + 1) g = R) := ⟨by rw [← hF.out, findFrom_no _ _ _ hq]⟩
        clear hF hq
        go_wp2
        go_roundg g
        case measure => omega
        case rel => exact ⟨k + 1, by go_num, by omega, HK, hB.alloc hB.size _⟩
    · obtain rfl : k = 16 := by omega
      obtain rfl : gk = 0 := by omega
      have HK : Aside0 (R = -1) := ⟨by rw [← hF.out]; rfl⟩
      clear hF hrow
      go_wp2
      go_ret
      exact ⟨by rw [HK.out]; rfl, hB⟩
end Go.Proofs.YtigaacbaaopfmaaDoor.sh
