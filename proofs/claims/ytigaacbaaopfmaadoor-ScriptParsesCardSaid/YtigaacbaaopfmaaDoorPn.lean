/- Numbers and words read, the program's: walked. -/
import Derived.Test.YtigaacbaaopfmaaDoorPu
import Derived.WalkSpells
import Derived.Lib.IfaceEq
import Derived.Lib.IfaceNeq
namespace Go.Proofs.YtigaacbaaopfmaaDoor.sh
open Go.RowKit
set_option linter.unusedVariables false
theorem parse10 : ∀ (l : List UInt8) (acc : Nat), l.all (isD false) = true → acc ≤ 18446744073709551615 →
    Lib.parseUint10 acc l = if valF false acc l ≤ 18446744073709551615 then .ok (valF false acc l) else .range
  | [], acc, _, h => by
    show _ = if acc ≤ 18446744073709551615 then _ else _
    rw [if_pos h]; rfl
  | c :: r, acc, hall, h => by
    rw [List.all_cons, Bool.and_eq_true] at hall
    have hd := isD_false hall.1
    have hge := valF_ge1 false c r acc
    have e : valF false acc (c :: r) = valF false (acc * 10 + (c.toNat - 48)) r := by
      show valF false (acc * 10 + hv c) r = _
      rw [hv_dig hd]
    have hge' : acc * 10 + (c.toNat - 48) ≤ valF false acc (c :: r) := by
      have h2 : acc * 10 + hv c ≤ valF false acc (c :: r) := hge
      rw [hv_dig hd] at h2; exact h2
    rw [Lib.parseUint10, if_pos hd]
    by_cases h1 : 1844674407370955162 ≤ acc
    · rw [if_pos h1, if_neg (by omega)]
    · rw [if_neg h1]
      by_cases h2 : 18446744073709551616 ≤ acc * 10 + (c.toNat - 48)
      · rw [if_pos h2, if_neg (by omega)]
      · rw [if_neg h2, parse10 r _ hall.2 (by omega), e]
theorem pu10_64 (t : ByteArray) (hd : allD false t.data.toList = true) (hmax : t.size ≤ 3000000) (w : World) :
    Calls Tryd.prog 110 #[.string t, .int .i64 10, .int .i64 64] w fun e w' => e = .returned (puV 18446744073709551615 (val false t.data.toList)) ∧ Below w.heap.size w w' := by
  unfold allD at hd
  rw [Bool.and_eq_true] at hd
  have hne : t.size ≠ 0 := by
    intro h
    have : t.data.toList = [] := List.eq_nil_of_length_eq_zero (by rw [Array.length_toList]; exact h)
    rw [this] at hd
    exact absurd hd.1 (by simp)
  refine (Tryd.internal_strconv_ParseUint_10_b64 t hne (by omega) w).mono ?_
  rintro e w' ⟨rfl, rfl⟩
  refine ⟨?_, Lib.bytesWorld_below w 5 t⟩
  rw [parse10 _ 0 hd.2 (by omega)]
  unfold puV val
  split <;> rfl
/-- ParseUint of digits to either base. -/
theorem pu_64 (b : Bool) (t : ByteArray) (hd : allD b t.data.toList = true) (hmax : t.size ≤ 3000000) (w : World) :
    Calls Tryd.prog 110 #[.string t, .int .i64 (base b), .int .i64 64] w fun e w' => e = .returned (puV 18446744073709551615 (val b t.data.toList)) ∧ Below w.heap.size w w' := by
  cases b
  · exact pu10_64 t hd hmax w
  · exact pu16_64 t hd hmax w
/-- What the calls may rely on. -/
structure Bs (w : World) : Prop where
  b3 : Base3 w
  er : ∃ te pe, w.cell? ⟨8, 0, none⟩ = some (.iface te pe)
  mx : ∃ m, w.cell? ⟨2, 0, none⟩ = some (.int .i64 m)
theorem Bs.below {w w' : World} (h : Bs w) (k : Below w.heap.size w w') : Bs w' :=
  ⟨h.b3.below k, by obtain ⟨a, b, e⟩ := h.er; exact ⟨a, b, cell_below e k (Nat.le_refl _)⟩, by obtain ⟨a, e⟩ := h.mx; exact ⟨a, cell_below e k (Nat.le_refl _)⟩⟩
/-- An error comes back beside x. -/
def Errs (x : Value) (w : World) (e : Ending) (w' : World) : Prop := ∃ p, e = .returned (.tuple #[x, .iface 167 p]) ∧ Below w.heap.size w w'
def Err1 (w : World) (e : Ending) (w' : World) : Prop := ∃ p, e = .returned (.iface 167 p) ∧ Below w.heap.size w w'
theorem cmp166 : (Tryd.prog.info? 166).map (·.comparable) = some true := by kernel_rfl
set_option maxHeartbeats 4000000 in
set_option maxRecDepth 100000 in
theorem toError_walk (w : World) (hb : Bs w) (fn s : ByteArray) (hs : s.size ≤ 3000000) (b k : Int) : Calls Tryd.prog 108 #[.string fn, .string s, .int .i64 b, .int .i64 k, .iface 166 (.int .i64 1)] w (Err1 w) := by
  obtain ⟨te, pe, he⟩ := hb.er
  have c := Tryd.strconv_rangeError fn s (.iface te pe) w (by omega) he (Or.inr ⟨te, pe, rfl⟩)
  have hq12 : ∀ W, (binOp .eql 65 (.iface 166 (.int .i64 1)) (.iface 166 (.int .i64 2))).run Tryd.prog W = .ok (.bool false) W := fun W => Lib.run_eql_iface_int W 1 2 Tryd.underlying65 cmp166 Tryd.underlying166
  have hq11 : ∀ W, (binOp .eql 65 (.iface 166 (.int .i64 1)) (.iface 166 (.int .i64 1))).run Tryd.prog W = .ok (.bool true) W := fun W => Lib.run_eql_iface_int W 1 1 Tryd.underlying65 cmp166 Tryd.underlying166
  clear he
  go_enter Tryd.func108, Tryd.ntmps108
  go_wp2_with (go_at_call 120; (with_reducible refine c.mono ?_); rintro e w1 ⟨N, rfl, hN, _, hB⟩)
  go_ret
  exact ⟨_, rfl, hB⟩
/-- strconv.ParseUint of digits: in range. -/
theorem parseUint_ok (w : World) (b : Bool) (t : ByteArray) (hd : allD b t.data.toList = true) (hs : t.size ≤ 3000000) (V : Nat) (hV : val b t.data.toList = V) (hr : V ≤ 18446744073709551615) :
    Calls Tryd.prog 96 #[.string t, .int .i64 (base b), .int .i64 64] w fun e w' => e = .returned (.tuple #[.int .u64 V, .nilIface]) ∧ Below w.heap.size w w' := by
  have c := pu_64 b t hd hs w
  rw [hV, puV_ok hr] at c
  clear hV hd hr
  generalize base b = bb at c ⊢
  go_enter Tryd.func96, Tryd.ntmps96
  go_wp2_with (go_at_call 110; (with_reducible refine c.mono ?_); rintro e w1 ⟨rfl, hB⟩)
  go_ret2
  exact ⟨rfl, hB⟩
/-- strconv.ParseUint of digits: out of range. -/
theorem parseUint_no (w : World) (hb : Bs w) (b : Bool) (t : ByteArray) (hd : allD b t.data.toList = true) (hs : t.size ≤ 3000000) (hr : ¬ val b t.data.toList ≤ 18446744073709551615) :
    Calls Tryd.prog 96 #[.string t, .int .i64 (base b), .int .i64 64] w (Errs (.int .u64 18446744073709551615) w) := by
  have c := pu_64 b t hd hs w
  rw [puV_no hr] at c
  clear hd hr
  generalize base b = bb at c ⊢
  have c2 := fun wq (h : Below w.heap.size w wq) => toError_walk wq (hb.below h) ⟨#[80, 97, 114, 115, 101, 85, 105, 110, 116]⟩ t hs bb 64
  go_enter Tryd.func96, Tryd.ntmps96
  go_wp2_with (first
    | (go_at_call 110; (with_reducible refine c.mono ?_); rintro e w1 ⟨rfl, hB⟩)
    | (go_at_call 108; (with_reducible refine (c2 _ hB).mono ?_); rintro e w2 ⟨p, rfl, hB2⟩))
  go_ret2
  exact ⟨_, rfl, below_next hB hB2⟩
end Go.Proofs.YtigaacbaaopfmaaDoor.sh
