/- The functions that OracleWhole goes through, each with the Lean function of the same answers. The text began as what the kit's print wrote for this law; one step is turned (two calls of one function), so it is a text of ours. -/
import Derived.Test.YtabdkfmfenpkjaaPOracleWholex0
namespace Go.Proofs.Ytabdkfmfenpkjaa.FWhole
open Go.RowKit Go.Proofs.YtabdkfmfenpkjaaW.PrintWords Go.Proofs.YtabdkfmfenpkjaaW.PrintLast Go.Proofs.YtabdkfmfenpkjaaW.PrintMore
attribute [local go_sem] max2_int min2_int max_two min_two max_three min_three max_four min_four   -- for this text's walks alone
set_option linter.unusedVariables false
set_option linter.unusedSimpArgs false

/-! ### oracle_Tag: function 9 -/
def oracle_Tag.f (a0 : Int) : Option (Int) := some (wrap64 (Go.bits .and .u64 a0 127))
set_option maxHeartbeats 8000000 in
set_option maxRecDepth 100000 in
theorem oracle_Tag.calls (a0 : Int) (r : Int) (w : World) (h : oracle_Tag.f a0 = some r) :
    Calls Try.prog 9 #[.int .u64 a0] w fun e w' => e = .returned (.int .i64 r) ∧ Drawn0 w w' := by
  have H : (some (wrap64 (Go.bits .and .u64 a0 127))) = some r := h
  clear h
  obtain rfl := Option.some.inj H
  go_enter Try.func9, Try.ntmps9
  go_wp2
  go_ret
  exact ⟨by first | rfl | (simp; done) | (simp [*]; done), by repeat (first | exact Drawn0.refl _ | apply Drawn0.step)⟩

/-! ### oracle_Home: function 11 -/
def oracle_Home.f (a0 : Int) : Option (Int) := some (a0 / 128)
set_option maxHeartbeats 8000000 in
set_option maxRecDepth 100000 in
theorem oracle_Home.calls (a0 : Int) (r : Int) (w : World) (h : oracle_Home.f a0 = some r) :
    Calls Try.prog 11 #[.int .u64 a0] w fun e w' => e = .returned (.int .u64 r) ∧ Drawn0 w w' := by
  have H : (some (a0 / 128)) = some r := h
  clear h
  obtain rfl := Option.some.inj H
  go_enter Try.func11, Try.ntmps11
  go_wp2
  go_ret
  exact ⟨by first | rfl | (simp; done) | (simp [*]; done), by repeat (first | exact Drawn0.refl _ | apply Drawn0.step)⟩

/-! ### oracle_Top: function 13 -/
def oracle_Top.f (a0 : Int) (a1 : Int) : Option (Int) := if a1 < 1 then (some 0) else (if a1 > 6 then (some 0) else (if 0 ≤ (wrap64 (64 - a1)) then (some (wrap64 (shr .u64 a0 (wrap64 (64 - a1))))) else (none)))
set_option maxHeartbeats 8000000 in
set_option maxRecDepth 100000 in
theorem oracle_Top.calls (a0 : Int) (a1 : Int) (r : Int) (w : World) (h : oracle_Top.f a0 a1 = some r) :
    Calls Try.prog 13 #[.int .u64 a0, .int .i64 a1] w fun e w' => e = .returned (.int .i64 r) ∧ Drawn0 w w' := by
  have H : (if a1 < 1 then (some 0) else (if a1 > 6 then (some 0) else (if 0 ≤ (wrap64 (64 - a1)) then (some (wrap64 (shr .u64 a0 (wrap64 (64 - a1))))) else (none)))) = some r := h
  clear h
  by_cases c3 : a1 < 1
  · rw [if_pos c3] at H
    have c3b0 : decide (a1 < 1) = true := decide_eq_true c3
    clear c3
    obtain rfl := Option.some.inj H
    go_enter Try.func13, Try.ntmps13
    go_wp2
    go_ret
    exact ⟨by first | rfl | (simp; done) | (simp [*]; done), by repeat (first | exact Drawn0.refl _ | apply Drawn0.step)⟩
  · rw [if_neg c3] at H
    have c3b0 : decide (a1 < 1) = false := decide_eq_false c3
    clear c3
    by_cases c4 : a1 > 6
    · rw [if_pos c4] at H
      have c4b0 : decide (6 < a1) = true := decide_eq_true c4
      clear c4
      obtain rfl := Option.some.inj H
      go_enter Try.func13, Try.ntmps13
      go_wp2
      go_ret
      exact ⟨by first | rfl | (simp; done) | (simp [*]; done), by repeat (first | exact Drawn0.refl _ | apply Drawn0.step)⟩
    · rw [if_neg c4] at H
      have c4b0 : decide (6 < a1) = false := decide_eq_false c4
      clear c4
      obtain ⟨ji5, hji5⟩ : ∃ j_ : Int, (wrap64 (64 - a1)) = j_ := ⟨_, rfl⟩
      replace H : (if 0 ≤ (ji5) then (some (wrap64 (shr .u64 a0 (ji5)))) else (none)) = some r := by first | (rw [hji5] at H; exact H) | (simp only [hji5] at H ⊢; exact H)
      have hji5w : (IntKind.i64.wrap (64 - a1)) = ji5 := (i64_w _).trans hji5
      by_cases c6 : 0 ≤ (ji5)
      · rw [if_pos c6] at H
        have c6b0 := eq_true c6
        have c6b1 : decide (0 ≤ (ji5)) = true := decide_eq_true c6
        clear c6
        obtain ⟨ji7, hji7⟩ : ∃ j_ : Int, (shr .u64 a0 (ji5)) = j_ := ⟨_, rfl⟩
        replace H : (some (wrap64 (ji7))) = some r := by first | (rw [hji7] at H; exact H) | (simp only [hji7] at H ⊢; exact H)
        have hji7_ : (a0 / 2 ^ min (ji5).toNat 64) = ji7 := hji7
        have hji7z : (ji5) ≤ 64 → (a0 / 2 ^ (ji5).toNat) = ji7 := shr_small hji7
        obtain rfl := Option.some.inj H
        go_enter Try.func13, Try.ntmps13
        go_wp2
        go_ret
        exact ⟨by first | rfl | (simp; done) | (simp only [← hji5, ← hji7] <;> (first | rfl | simp)) | (simp [*]; done), by repeat (first | exact Drawn0.refl _ | apply Drawn0.step)⟩
      · rw [if_neg c6] at H
        exact absurd H (by simp)

/-! ### oracle_Bit: function 15 -/
def oracle_Bit.f (a0 : Int) (a1 : Int) : Option (Int) := if a1 < 0 then (some 0) else (if a1 > 63 then (some 0) else (if 0 ≤ (wrap64 (63 - a1)) then (some (wrap64 (Go.bits .and .u64 (shr .u64 a0 (wrap64 (63 - a1))) 1))) else (none)))
set_option maxHeartbeats 8000000 in
set_option maxRecDepth 100000 in
theorem oracle_Bit.calls (a0 : Int) (a1 : Int) (r : Int) (w : World) (h : oracle_Bit.f a0 a1 = some r) :
    Calls Try.prog 15 #[.int .u64 a0, .int .i64 a1] w fun e w' => e = .returned (.int .i64 r) ∧ Drawn0 w w' := by
  have H : (if a1 < 0 then (some 0) else (if a1 > 63 then (some 0) else (if 0 ≤ (wrap64 (63 - a1)) then (some (wrap64 (Go.bits .and .u64 (shr .u64 a0 (wrap64 (63 - a1))) 1))) else (none)))) = some r := h
  clear h
  by_cases c3 : a1 < 0
  · rw [if_pos c3] at H
    have c3b0 : decide (a1 < 0) = true := decide_eq_true c3
    clear c3
    obtain rfl := Option.some.inj H
    go_enter Try.func15, Try.ntmps15
    go_wp2
    go_ret
    exact ⟨by first | rfl | (simp; done) | (simp [*]; done), by repeat (first | exact Drawn0.refl _ | apply Drawn0.step)⟩
  · rw [if_neg c3] at H
    have c3b0 : decide (a1 < 0) = false := decide_eq_false c3
    clear c3
    by_cases c4 : a1 > 63
    · rw [if_pos c4] at H
      have c4b0 : decide (63 < a1) = true := decide_eq_true c4
      clear c4
      obtain rfl := Option.some.inj H
      go_enter Try.func15, Try.ntmps15
      go_wp2
      go_ret
      exact ⟨by first | rfl | (simp; done) | (simp [*]; done), by repeat (first | exact Drawn0.refl _ | apply Drawn0.step)⟩
    · rw [if_neg c4] at H
      have c4b0 : decide (63 < a1) = false := decide_eq_false c4
      clear c4
      obtain ⟨ji5, hji5⟩ : ∃ j_ : Int, (wrap64 (63 - a1)) = j_ := ⟨_, rfl⟩
      replace H : (if 0 ≤ (ji5) then (some (wrap64 (Go.bits .and .u64 (shr .u64 a0 (ji5)) 1))) else (none)) = some r := by first | (rw [hji5] at H; exact H) | (simp only [hji5] at H ⊢; exact H)
      have hji5w : (IntKind.i64.wrap (63 - a1)) = ji5 := (i64_w _).trans hji5
      by_cases c6 : 0 ≤ (ji5)
      · rw [if_pos c6] at H
        have c6b0 := eq_true c6
        have c6b1 : decide (0 ≤ (ji5)) = true := decide_eq_true c6
        clear c6
        obtain ⟨ji7, hji7⟩ : ∃ j_ : Int, (shr .u64 a0 (ji5)) = j_ := ⟨_, rfl⟩
        replace H : (some (wrap64 (Go.bits .and .u64 (ji7) 1))) = some r := by first | (rw [hji7] at H; exact H) | (simp only [hji7] at H ⊢; exact H)
        have hji7_ : (a0 / 2 ^ min (ji5).toNat 64) = ji7 := hji7
        have hji7z : (ji5) ≤ 64 → (a0 / 2 ^ (ji5).toNat) = ji7 := shr_small hji7
        obtain rfl := Option.some.inj H
        go_enter Try.func15, Try.ntmps15
        go_wp2
        go_ret
        exact ⟨by first | rfl | (simp; done) | (simp only [← hji5, ← hji7] <;> (first | rfl | simp)) | (simp [*]; done), by repeat (first | exact Drawn0.refl _ | apply Drawn0.step)⟩
      · rw [if_neg c6] at H
        exact absurd H (by simp)

/-! ### larderlaw04_OracleWhole: function 5 -/
mutual
def larderlaw04_OracleWhole.j0 : Nat → Int → Bool → Option (Bool)
  | 0, _, _ => none
  | k + 1, x0, x29 => if x29 = true then (some false) else (larderlaw04_OracleWhole.l0 k x0 0 0)
def larderlaw04_OracleWhole.l0 : Nat → Int → Int → Int → Option (Bool)
  | 0, _, _, _ => none
  | k + 1, x0, x4, x5 => if x5 < 64 then ((oracle_Bit.f x0 x5).bind fun t104 => (if t104 = 0 then (larderlaw04_OracleWhole.j2 k x0 x4 x5 t104 false) else (larderlaw04_OracleWhole.j2 k x0 x4 x5 t104 (t104 != 1)))) else (if x4 = x0 then ((oracle_Top.f x0 0).bind fun t107 => (if t107 = 0 then ((oracle_Top.f x0 7).bind fun t108 => (if t108 = 0 then ((oracle_Bit.f x0 64).bind fun t109 => (if t109 = 0 then ((oracle_Bit.f x0 (-1)).bind fun t110 => (some (t110 == 0))) else (some false))) else (some false))) else (some false))) else (some false))
def larderlaw04_OracleWhole.j2 : Nat → Int → Int → Int → Int → Bool → Option (Bool)
  | 0, _, _, _, _, _ => none
  | k + 1, x0, x4, x5, x6, x42 => if x42 = true then (some false) else (if x5 < 6 then ((oracle_Top.f x0 (wrap64 (x5 + 1))).bind fun t105 => ((oracle_Top.f x0 x5).bind fun t106 => (if t105 = (wrap64 ((wrap64 (2 * t106)) + x6)) then (larderlaw04_OracleWhole.l0 k x0 (IntKind.u64.wrap ((IntKind.u64.wrap (2 * x4)) + (IntKind.u64.wrap (x6)))) (wrap64 (x5 + 1))) else (some false)))) else (larderlaw04_OracleWhole.l0 k x0 (IntKind.u64.wrap ((IntKind.u64.wrap (2 * x4)) + (IntKind.u64.wrap (x6)))) (wrap64 (x5 + 1))))
end
def larderlaw04_OracleWhole.f (k : Nat) (a0 : Int) : Option (Bool) := (oracle_Tag.f a0).bind fun t101 => (if t101 < 0 then (larderlaw04_OracleWhole.j0 k a0 true) else (if t101 > 127 then (larderlaw04_OracleWhole.j0 k a0 true) else ((oracle_Home.f a0).bind fun t102 => (if t102 ≥ 144115188075855872 then (larderlaw04_OracleWhole.j0 k a0 true) else ((oracle_Home.f a0).bind fun t103 => (larderlaw04_OracleWhole.j0 k a0 ((IntKind.u64.wrap ((IntKind.u64.wrap (t103 * 128)) + (IntKind.u64.wrap (t101)))) != a0)))))))
theorem larderlaw04_OracleWhole.mono_l : ∀ k, (∀ y0 y1, LeO (larderlaw04_OracleWhole.j0 k y0 y1) (larderlaw04_OracleWhole.j0 (k + 1) y0 y1)) ∧ (∀ y0 y1 y2, LeO (larderlaw04_OracleWhole.l0 k y0 y1 y2) (larderlaw04_OracleWhole.l0 (k + 1) y0 y1 y2)) ∧ (∀ y0 y1 y2 y3 y4, LeO (larderlaw04_OracleWhole.j2 k y0 y1 y2 y3 y4) (larderlaw04_OracleWhole.j2 (k + 1) y0 y1 y2 y3 y4))
  | 0 => ⟨fun _ _ r h => by simp [larderlaw04_OracleWhole.j0] at h, fun _ _ _ r h => by simp [larderlaw04_OracleWhole.l0] at h, fun _ _ _ _ _ r h => by simp [larderlaw04_OracleWhole.j2] at h⟩
  | k + 1 => by
    obtain ⟨ih0, ih1, ih2⟩ := larderlaw04_OracleWhole.mono_l k
    refine ⟨?_, ?_, ?_⟩
    · intro y0 y1
      unfold larderlaw04_OracleWhole.j0
      repeat' first
      | (with_reducible exact ih0 _ _)
      | (with_reducible exact ih1 _ _ _)
      | (with_reducible exact ih2 _ _ _ _ _)
      | (with_reducible exact LeO.refl _)
      | (with_reducible exact LeO.none _)
      | (with_reducible refine LeO.ite ?_ ?_)
      | (with_reducible refine LeO.bind ?_ (fun _ => ?_))
      | exact ih0 _ _
      | exact ih1 _ _ _
      | exact ih2 _ _ _ _ _
      | exact LeO.none _
      | refine LeO.ite ?_ ?_
      | refine LeO.bind ?_ (fun _ => ?_)
    · intro y0 y1 y2
      unfold larderlaw04_OracleWhole.l0
      repeat' first
      | (with_reducible exact ih0 _ _)
      | (with_reducible exact ih1 _ _ _)
      | (with_reducible exact ih2 _ _ _ _ _)
      | (with_reducible exact LeO.refl _)
      | (with_reducible exact LeO.none _)
      | (with_reducible refine LeO.ite ?_ ?_)
      | (with_reducible refine LeO.bind ?_ (fun _ => ?_))
      | exact ih0 _ _
      | exact ih1 _ _ _
      | exact ih2 _ _ _ _ _
      | exact LeO.none _
      | refine LeO.ite ?_ ?_
      | refine LeO.bind ?_ (fun _ => ?_)
    · intro y0 y1 y2 y3 y4
      unfold larderlaw04_OracleWhole.j2
      repeat' first
      | (with_reducible exact ih0 _ _)
      | (with_reducible exact ih1 _ _ _)
      | (with_reducible exact ih2 _ _ _ _ _)
      | (with_reducible exact LeO.refl _)
      | (with_reducible exact LeO.none _)
      | (with_reducible refine LeO.ite ?_ ?_)
      | (with_reducible refine LeO.bind ?_ (fun _ => ?_))
      | exact ih0 _ _
      | exact ih1 _ _ _
      | exact ih2 _ _ _ _ _
      | exact LeO.none _
      | refine LeO.ite ?_ ?_
      | refine LeO.bind ?_ (fun _ => ?_)
theorem larderlaw04_OracleWhole.mono : ∀ a0 k, LeO (larderlaw04_OracleWhole.f k a0) (larderlaw04_OracleWhole.f (k + 1) a0) := by
  intro a0 k
  obtain ⟨ih0, ih1, ih2⟩ := larderlaw04_OracleWhole.mono_l k
  unfold larderlaw04_OracleWhole.f
  repeat' first
      | (with_reducible exact ih0 _ _)
      | (with_reducible exact ih1 _ _ _)
      | (with_reducible exact ih2 _ _ _ _ _)
      | (with_reducible exact LeO.refl _)
      | (with_reducible exact LeO.none _)
      | (with_reducible refine LeO.ite ?_ ?_)
      | (with_reducible refine LeO.bind ?_ (fun _ => ?_))
      | exact ih0 _ _
      | exact ih1 _ _ _
      | exact ih2 _ _ _ _ _
      | exact LeO.none _
      | refine LeO.ite ?_ ?_
      | refine LeO.bind ?_ (fun _ => ?_)
set_option maxHeartbeats 8000000 in
set_option maxRecDepth 100000 in
theorem larderlaw04_OracleWhole.calls (k : Nat) (a0 : Int) (r : Bool) (w : World) (h : larderlaw04_OracleWhole.f k a0 = some r) :
    Calls Try.prog 5 #[.int .u64 a0] w fun e w' => e = .returned (.bool r) ∧ Drawn0 w w' := by
  have H : ((oracle_Tag.f a0).bind fun t101 => (if t101 < 0 then (larderlaw04_OracleWhole.j0 k a0 true) else (if t101 > 127 then (larderlaw04_OracleWhole.j0 k a0 true) else ((oracle_Home.f a0).bind fun t102 => (if t102 ≥ 144115188075855872 then (larderlaw04_OracleWhole.j0 k a0 true) else ((oracle_Home.f a0).bind fun t103 => (larderlaw04_OracleWhole.j0 k a0 ((IntKind.u64.wrap ((IntKind.u64.wrap (t103 * 128)) + (IntKind.u64.wrap (t101)))) != a0)))))))) = some r := h
  clear h
  replace H := Option.bind_eq_some_iff.mp H
  obtain ⟨t101, A20, H⟩ := H
  replace H : (if t101 < 0 then (larderlaw04_OracleWhole.j0 k a0 true) else (if t101 > 127 then (larderlaw04_OracleWhole.j0 k a0 true) else ((oracle_Home.f a0).bind fun t102 => (if t102 ≥ 144115188075855872 then (larderlaw04_OracleWhole.j0 k a0 true) else ((oracle_Home.f a0).bind fun t103 => (larderlaw04_OracleWhole.j0 k a0 ((IntKind.u64.wrap ((IntKind.u64.wrap (t103 * 128)) + (IntKind.u64.wrap (t101)))) != a0))))))) = some r := H
  have A2 := Aside0.mk A20
  clear A20
  have HC3 := Aside0.mk H
  clear H
  go_enter Try.func5, Try.ntmps5
  go_upto_region 2 with (first | ((with_reducible refine gate_callee (f := 9) rfl ?_); refine goesL_ (some 8) rfl rfl Try.func9 (by kernel_rfl) rfl #[.int .u64 a0] rfl (by (try simp only [List.map_toArray, List.map_cons, List.map_nil]); first | done | rfl | (simp only [List.length_drop, List.length_take]; rfl)) ?_; (with_reducible refine (oracle_Tag.calls a0 t101 _ A2.out).mono ?_); rintro e w' ⟨rfl, ⟨nd, rfl⟩⟩; refine ⟨_, rfl, ?_⟩))
  (try simp only [Act.put, List.setIfInBounds_toArray, List.set_cons_zero, List.set_cons_succ])
  go_cut [29] (fun v29 wc => ∃ (kq : Nat) (x29_2 : Bool), v29 = .bool x29_2 ∧ Aside0 (larderlaw04_OracleWhole.j0 kq a0 x29_2 = some r) ∧ Aside0 (kq ≤ k) ∧ Drawn0 w wc)
  case first =>
    have H := HC3.out
    clear HC3
    by_cases c4 : t101 < 0
    · rw [if_pos c4] at H
      have c4b0 : decide (t101 < 0) = true := decide_eq_true c4
      clear c4
      (first | rw [c4b0] | (simp only [i64_w, i32_w]; rw [c4b0]) | skip)
      have H' := Aside0.mk H
      clear H
      go_wp2
      go_meet
      case rel => exact ⟨_, (true), (by first | rfl | (simp; done) | (simp [*]; done)), H', ⟨by first | omega | exact Nat.le_refl _⟩, by repeat (first | exact Drawn0.refl _ | apply Drawn0.step)⟩
    · rw [if_neg c4] at H
      have c4b0 : decide (t101 < 0) = false := decide_eq_false c4
      clear c4
      (first | rw [c4b0] | (simp only [i64_w, i32_w]; rw [c4b0]) | skip)
      by_cases c5 : t101 > 127
      · rw [if_pos c5] at H
        have c5b0 : decide (127 < t101) = true := decide_eq_true c5
        clear c5
        have H' := Aside0.mk H
        clear H
        go_wp2
        go_meet
        case rel => exact ⟨_, (true), (by first | rfl | (simp; done) | (simp [*]; done)), H', ⟨by first | omega | exact Nat.le_refl _⟩, by repeat (first | exact Drawn0.refl _ | apply Drawn0.step)⟩
      · rw [if_neg c5] at H
        have c5b0 : decide (127 < t101) = false := decide_eq_false c5
        clear c5
        replace H := Option.bind_eq_some_iff.mp H
        obtain ⟨t102, A60, H⟩ := H
        replace H : (if t102 ≥ 144115188075855872 then (larderlaw04_OracleWhole.j0 k a0 true) else ((oracle_Home.f a0).bind fun t103 => (larderlaw04_OracleWhole.j0 k a0 ((IntKind.u64.wrap ((IntKind.u64.wrap (t103 * 128)) + (IntKind.u64.wrap (t101)))) != a0)))) = some r := H
        have A6 := Aside0.mk A60
        clear A60
        by_cases c7 : t102 ≥ 144115188075855872
        · rw [if_pos c7] at H
          have c7b0 : decide (144115188075855872 ≤ t102) = true := decide_eq_true c7
          clear c7
          have H' := Aside0.mk H
          clear H
          go_wp2_with (first | (go_at_call 11; (with_reducible refine (oracle_Home.calls a0 t102 _ A6.out).mono ?_); rintro e w' ⟨rfl, ⟨nd, rfl⟩⟩))
          go_meet
          case rel => exact ⟨_, (true), (by first | rfl | (simp; done) | (simp [*]; done)), H', ⟨by first | omega | exact Nat.le_refl _⟩, by repeat (first | exact Drawn0.refl _ | apply Drawn0.step)⟩
        · rw [if_neg c7] at H
          have c7b0 : decide (144115188075855872 ≤ t102) = false := decide_eq_false c7
          clear c7
          replace H := Option.bind_eq_some_iff.mp H
          obtain ⟨t103, A80, H⟩ := H
          obtain rfl : t103 = t102 := Option.some.inj (A80.symm.trans A6.out)
          clear A80
          have H' := Aside0.mk H
          clear H
          go_wp2_with (first | (go_at_call 11; (with_reducible refine (oracle_Home.calls a0 t103 _ A6.out).mono ?_); rintro e w' ⟨rfl, ⟨nd, rfl⟩⟩))
          go_meet
          case rel => exact ⟨_, (((IntKind.u64.wrap ((IntKind.u64.wrap (t103 * 128)) + (IntKind.u64.wrap (t101)))) != a0)), (by first | rfl | (simp; done) | (simp [*]; done)), H', ⟨by first | omega | exact Nat.le_refl _⟩, by repeat (first | exact Drawn0.refl _ | apply Drawn0.step)⟩
  case rest =>
    clear HC3
    try clear p2
    try clear c4
    try clear c4b0
    try clear c5
    try clear c5b0
    try clear c7
    try clear c7b0
    obtain ⟨kq, x29_2, rfl, HA, HJ2, ⟨mc2, rfl⟩⟩ := hcut
    cases kq with
    | zero => exact absurd HA.out (by simp [larderlaw04_OracleWhole.j0])
    | succ kj2 =>
      have H := HA.out
      clear HA
      simp only [larderlaw04_OracleWhole.j0] at H
      by_cases c9 : x29_2 = true
      · subst c9
        have H1 : (some false) = some r := by rw [if_pos rfl] at H; exact H
        clear H
        have H := H1
        clear H1
        obtain rfl := Option.some.inj H
        go_wp2
        go_ret
        exact ⟨by first | rfl | (simp; done) | (simp [*]; done), by repeat (first | exact Drawn0.refl _ | apply Drawn0.step)⟩
      · replace c9 := Bool.eq_false_iff.mpr c9
        subst c9
        have H1 : (larderlaw04_OracleWhole.l0 kj2 a0 0 0) = some r := by rw [if_neg (show ¬ (false = true) by decide)] at H; exact H
        clear H
        have H := H1
        clear H1
        have H' := Aside0.mk H
        clear H
        go_wp2
        go_loopg [4, 5] kj2 (fun kq v4 v5 w' => ∃ (x4_2 : Int) (x5_2 : Int), v4 = .int .u64 x4_2 ∧ v5 = .int .i64 x5_2 ∧ Aside0 (larderlaw04_OracleWhole.l0 kq a0 x4_2 x5_2 = some r) ∧ Aside0 (kq ≤ kj2) ∧ Drawn0 w w')
        case atStart => exact ⟨(0), (0), (by first | rfl | (simp; done) | (simp [*]; done)), (by first | rfl | (simp; done) | (simp [*]; done)), H', ⟨Nat.le_refl _⟩, by repeat (first | exact Drawn0.refl _ | apply Drawn0.step)⟩
        case round =>
          clear H'
          try clear c2
          try clear p2
          try clear c4
          try clear c4b0
          try clear c5
          try clear c5b0
          try clear c7
          try clear c7b0
          try clear c9
          try clear p2
          obtain ⟨x4_2, x5_2, rfl, rfl, HA, HK2, ⟨m2, rfl⟩⟩ := hrel
          cases gk with
          | zero => exact absurd HA.out (by simp [larderlaw04_OracleWhole.l0])
          | succ k2 =>
            have H := HA.out
            clear HA
            simp only [larderlaw04_OracleWhole.l0] at H
            by_cases c10 : x5_2 < 64
            · rw [if_pos c10] at H
              have c10b0 : decide (x5_2 < 64) = true := decide_eq_true c10
              clear c10
              replace H := Option.bind_eq_some_iff.mp H
              obtain ⟨t104, A110, H⟩ := H
              replace H : (if t104 = 0 then (larderlaw04_OracleWhole.j2 k2 a0 x4_2 x5_2 t104 false) else (larderlaw04_OracleWhole.j2 k2 a0 x4_2 x5_2 t104 (t104 != 1))) = some r := H
              have A11 := Aside0.mk A110
              clear A110
              have HC12 := Aside0.mk H
              clear H
              go_upto_region 9 with (first | ((with_reducible refine gate_callee (f := 15) rfl ?_); refine goesL_ (some 36) rfl rfl Try.func15 (by kernel_rfl) rfl #[.int .u64 a0, .int .i64 x5_2] rfl (by (try simp only [List.map_toArray, List.map_cons, List.map_nil]); first | done | rfl | (simp only [List.length_drop, List.length_take]; rfl)) ?_; (with_reducible refine (oracle_Bit.calls a0 x5_2 t104 _ A11.out).mono ?_); rintro e w' ⟨rfl, ⟨nd, rfl⟩⟩; refine ⟨_, rfl, ?_⟩))
              (try simp only [Act.put, List.setIfInBounds_toArray, List.set_cons_zero, List.set_cons_succ])
              go_cut [42] (fun v42 wc => ∃ (kq : Nat) (x42_11 : Bool), v42 = .bool x42_11 ∧ Aside0 (larderlaw04_OracleWhole.j2 kq a0 x4_2 x5_2 t104 x42_11 = some r) ∧ Aside0 (kq ≤ k2) ∧ Drawn0 w wc)
              case first =>
                have H := HC12.out
                clear HC12
                by_cases c13 : t104 = 0
                · rw [if_pos c13] at H
                  have c13b0 : (t104 == 0) = true := beq_iff_eq.mpr c13
                  have c13b1 : (t104 != 0) = false := bne_eq_false_iff_eq.mpr c13
                  clear c13
                  (first | rw [c13b0] | (simp only [i64_w, i32_w]; rw [c13b0]) | skip)
                  have H' := Aside0.mk H
                  clear H
                  go_wp2
                  go_meet
                  case rel => exact ⟨_, (false), (by first | rfl | (simp; done) | (simp [*]; done)), H', ⟨by have := HJ2.out; have := HK2.out; first | omega | exact Nat.le_refl _⟩, by repeat (first | exact Drawn0.refl _ | apply Drawn0.step)⟩
                · rw [if_neg c13] at H
                  have c13b0 : (t104 == 0) = false := beq_eq_false_iff_ne.mpr c13
                  have c13b1 : (t104 != 0) = true := bne_iff_ne.mpr c13
                  (first | rw [c13b0] | (simp only [i64_w, i32_w]; rw [c13b0]) | skip)
                  have H' := Aside0.mk H
                  clear H
                  go_wp2
                  go_meet
                  case rel => exact ⟨_, ((t104 != 1)), (by first | rfl | (simp; done) | (simp [*]; done)), H', ⟨by have := HJ2.out; have := HK2.out; first | omega | exact Nat.le_refl _⟩, by repeat (first | exact Drawn0.refl _ | apply Drawn0.step)⟩
              case rest =>
                clear HC12
                try clear c1
                try clear c2
                try clear p2
                try clear c4
                try clear c4b0
                try clear c5
                try clear c5b0
                try clear c7
                try clear c7b0
                try clear c9
                try clear c10
                try clear c10b0
                try clear c13
                try clear c13b0
                try clear c13b1
                try clear p2
                obtain ⟨kq, x42_11, rfl, HA, HJ11, ⟨mc11, rfl⟩⟩ := hcut
                cases kq with
                | zero => exact absurd HA.out (by simp [larderlaw04_OracleWhole.j2])
                | succ kj11 =>
                  have H := HA.out
                  clear HA
                  simp only [larderlaw04_OracleWhole.j2] at H
                  by_cases c14 : x42_11 = true
                  · subst c14
                    have H1 : (some false) = some r := by rw [if_pos rfl] at H; exact H
                    clear H
                    have H := H1
                    clear H1
                    obtain rfl := Option.some.inj H
                    go_wp2
                    go_ret
                    exact ⟨by first | rfl | (simp; done) | (simp [*]; done), by repeat (first | exact Drawn0.refl _ | apply Drawn0.step)⟩
                  · replace c14 := Bool.eq_false_iff.mpr c14
                    subst c14
                    have H1 : (if x5_2 < 6 then ((oracle_Top.f a0 (wrap64 (x5_2 + 1))).bind fun t105 => ((oracle_Top.f a0 x5_2).bind fun t106 => (if t105 = (wrap64 ((wrap64 (2 * t106)) + t104)) then (larderlaw04_OracleWhole.l0 kj11 a0 (IntKind.u64.wrap ((IntKind.u64.wrap (2 * x4_2)) + (IntKind.u64.wrap (t104)))) (wrap64 (x5_2 + 1))) else (some false)))) else (larderlaw04_OracleWhole.l0 kj11 a0 (IntKind.u64.wrap ((IntKind.u64.wrap (2 * x4_2)) + (IntKind.u64.wrap (t104)))) (wrap64 (x5_2 + 1)))) = some r := by rw [if_neg (show ¬ (false = true) by decide)] at H; exact H
                    clear H
                    have H := H1
                    clear H1
                    by_cases c15 : x5_2 < 6
                    · rw [if_pos c15] at H
                      have c15b0 : decide (x5_2 < 6) = true := decide_eq_true c15
                      clear c15
                      replace H := Option.bind_eq_some_iff.mp H
                      obtain ⟨t105, A160, H⟩ := H
                      replace H : ((oracle_Top.f a0 x5_2).bind fun t106 => (if t105 = (wrap64 ((wrap64 (2 * t106)) + t104)) then (larderlaw04_OracleWhole.l0 kj11 a0 (IntKind.u64.wrap ((IntKind.u64.wrap (2 * x4_2)) + (IntKind.u64.wrap (t104)))) (wrap64 (x5_2 + 1))) else (some false))) = some r := H
                      have A16 := Aside0.mk A160
                      clear A160
                      replace H := Option.bind_eq_some_iff.mp H
                      obtain ⟨t106, A170, H⟩ := H
                      replace H : (if t105 = (wrap64 ((wrap64 (2 * t106)) + t104)) then (larderlaw04_OracleWhole.l0 kj11 a0 (IntKind.u64.wrap ((IntKind.u64.wrap (2 * x4_2)) + (IntKind.u64.wrap (t104)))) (wrap64 (x5_2 + 1))) else (some false)) = some r := H
                      have A17 := Aside0.mk A170
                      clear A170
                      by_cases c18 : t105 = (wrap64 ((wrap64 (2 * t106)) + t104))
                      · rw [if_pos c18] at H
                        have c18b0 : (t105 == (wrap64 ((wrap64 (2 * t106)) + t104))) = true := beq_iff_eq.mpr c18
                        have c18b1 : (t105 != (wrap64 ((wrap64 (2 * t106)) + t104))) = false := bne_eq_false_iff_eq.mpr c18
                        clear c18
                        have H' := Aside0.mk H
                        clear H
                        go_wp2_with (first | (go_at_call 13; (with_reducible refine (oracle_Top.calls a0 (wrap64 (x5_2 + 1)) t105 _ A16.out).mono ?_); rintro e w' ⟨rfl, ⟨nd, rfl⟩⟩) | (go_at_call 13; (with_reducible refine (oracle_Top.calls a0 x5_2 t106 _ A17.out).mono ?_); rintro e w' ⟨rfl, ⟨nd, rfl⟩⟩))
                        go_roundg kj11
                        case measure => have := HJ2.out; have := HK2.out; have := HJ11.out; omega
                        case rel => exact ⟨(IntKind.u64.wrap ((IntKind.u64.wrap (2 * x4_2)) + (IntKind.u64.wrap (t104)))), (wrap64 (x5_2 + 1)), (by first | rfl | (simp; done) | (simp [*]; done)), (by first | rfl | (simp; done) | (simp [*]; done)), H', ⟨by have := HJ2.out; have := HK2.out; have := HJ11.out; omega⟩, by repeat (first | exact Drawn0.refl _ | apply Drawn0.step)⟩
                      · rw [if_neg c18] at H
                        have c18b0 : (t105 == (wrap64 ((wrap64 (2 * t106)) + t104))) = false := beq_eq_false_iff_ne.mpr c18
                        have c18b1 : (t105 != (wrap64 ((wrap64 (2 * t106)) + t104))) = true := bne_iff_ne.mpr c18
                        obtain rfl := Option.some.inj H
                        go_wp2_with (first | (go_at_call 13; (with_reducible refine (oracle_Top.calls a0 (wrap64 (x5_2 + 1)) t105 _ A16.out).mono ?_); rintro e w' ⟨rfl, ⟨nd, rfl⟩⟩) | (go_at_call 13; (with_reducible refine (oracle_Top.calls a0 x5_2 t106 _ A17.out).mono ?_); rintro e w' ⟨rfl, ⟨nd, rfl⟩⟩))
                        go_ret
                        exact ⟨by first | rfl | (simp; done) | (simp [*]; done), by repeat (first | exact Drawn0.refl _ | apply Drawn0.step)⟩
                    · rw [if_neg c15] at H
                      have c15b0 : decide (x5_2 < 6) = false := decide_eq_false c15
                      clear c15
                      have H' := Aside0.mk H
                      clear H
                      go_wp2
                      go_roundg kj11
                      case measure => have := HJ2.out; have := HK2.out; have := HJ11.out; omega
                      case rel => exact ⟨(IntKind.u64.wrap ((IntKind.u64.wrap (2 * x4_2)) + (IntKind.u64.wrap (t104)))), (wrap64 (x5_2 + 1)), (by first | rfl | (simp; done) | (simp [*]; done)), (by first | rfl | (simp; done) | (simp [*]; done)), H', ⟨by have := HJ2.out; have := HK2.out; have := HJ11.out; omega⟩, by repeat (first | exact Drawn0.refl _ | apply Drawn0.step)⟩
            · rw [if_neg c10] at H
              have c10b0 : decide (x5_2 < 64) = false := decide_eq_false c10
              clear c10
              by_cases c19 : x4_2 = a0
              · rw [if_pos c19] at H
                have c19b0 : (x4_2 == a0) = true := beq_iff_eq.mpr c19
                have c19b1 : (x4_2 != a0) = false := bne_eq_false_iff_eq.mpr c19
                clear c19
                replace H := Option.bind_eq_some_iff.mp H
                obtain ⟨t107, A200, H⟩ := H
                replace H : (if t107 = 0 then ((oracle_Top.f a0 7).bind fun t108 => (if t108 = 0 then ((oracle_Bit.f a0 64).bind fun t109 => (if t109 = 0 then ((oracle_Bit.f a0 (-1)).bind fun t110 => (some (t110 == 0))) else (some false))) else (some false))) else (some false)) = some r := H
                have A20 := Aside0.mk A200
                clear A200
                by_cases c21 : t107 = 0
                · rw [if_pos c21] at H
                  have c21b0 : (t107 == 0) = true := beq_iff_eq.mpr c21
                  have c21b1 : (t107 != 0) = false := bne_eq_false_iff_eq.mpr c21
                  clear c21
                  replace H := Option.bind_eq_some_iff.mp H
                  obtain ⟨t108, A220, H⟩ := H
                  replace H : (if t108 = 0 then ((oracle_Bit.f a0 64).bind fun t109 => (if t109 = 0 then ((oracle_Bit.f a0 (-1)).bind fun t110 => (some (t110 == 0))) else (some false))) else (some false)) = some r := H
                  have A22 := Aside0.mk A220
                  clear A220
                  by_cases c23 : t108 = 0
                  · rw [if_pos c23] at H
                    have c23b0 : (t108 == 0) = true := beq_iff_eq.mpr c23
                    have c23b1 : (t108 != 0) = false := bne_eq_false_iff_eq.mpr c23
                    clear c23
                    replace H := Option.bind_eq_some_iff.mp H
                    obtain ⟨t109, A240, H⟩ := H
                    replace H : (if t109 = 0 then ((oracle_Bit.f a0 (-1)).bind fun t110 => (some (t110 == 0))) else (some false)) = some r := H
                    have A24 := Aside0.mk A240
                    clear A240
                    by_cases c25 : t109 = 0
                    · rw [if_pos c25] at H
                      have c25b0 : (t109 == 0) = true := beq_iff_eq.mpr c25
                      have c25b1 : (t109 != 0) = false := bne_eq_false_iff_eq.mpr c25
                      clear c25
                      replace H := Option.bind_eq_some_iff.mp H
                      obtain ⟨t110, A260, H⟩ := H
                      replace H : (some (t110 == 0)) = some r := H
                      have A26 := Aside0.mk A260
                      clear A260
                      obtain rfl := Option.some.inj H
                      go_wp2_with (first | (go_at_call 13; (with_reducible refine (oracle_Top.calls a0 0 t107 _ A20.out).mono ?_); rintro e w' ⟨rfl, ⟨nd, rfl⟩⟩) | (go_at_call 13; (with_reducible refine (oracle_Top.calls a0 7 t108 _ A22.out).mono ?_); rintro e w' ⟨rfl, ⟨nd, rfl⟩⟩) | (go_at_call 15; (with_reducible refine (oracle_Bit.calls a0 64 t109 _ A24.out).mono ?_); rintro e w' ⟨rfl, ⟨nd, rfl⟩⟩) | (go_at_call 15; (with_reducible refine (oracle_Bit.calls a0 (-1) t110 _ A26.out).mono ?_); rintro e w' ⟨rfl, ⟨nd, rfl⟩⟩))
                      go_ret
                      exact ⟨by first | rfl | (simp; done) | (simp [*]; done), by repeat (first | exact Drawn0.refl _ | apply Drawn0.step)⟩
                    · rw [if_neg c25] at H
                      have c25b0 : (t109 == 0) = false := beq_eq_false_iff_ne.mpr c25
                      have c25b1 : (t109 != 0) = true := bne_iff_ne.mpr c25
                      obtain rfl := Option.some.inj H
                      go_wp2_with (first | (go_at_call 13; (with_reducible refine (oracle_Top.calls a0 0 t107 _ A20.out).mono ?_); rintro e w' ⟨rfl, ⟨nd, rfl⟩⟩) | (go_at_call 13; (with_reducible refine (oracle_Top.calls a0 7 t108 _ A22.out).mono ?_); rintro e w' ⟨rfl, ⟨nd, rfl⟩⟩) | (go_at_call 15; (with_reducible refine (oracle_Bit.calls a0 64 t109 _ A24.out).mono ?_); rintro e w' ⟨rfl, ⟨nd, rfl⟩⟩))
                      go_ret
                      exact ⟨by first | rfl | (simp; done) | (simp [*]; done), by repeat (first | exact Drawn0.refl _ | apply Drawn0.step)⟩
                  · rw [if_neg c23] at H
                    have c23b0 : (t108 == 0) = false := beq_eq_false_iff_ne.mpr c23
                    have c23b1 : (t108 != 0) = true := bne_iff_ne.mpr c23
                    obtain rfl := Option.some.inj H
                    go_wp2_with (first | (go_at_call 13; (with_reducible refine (oracle_Top.calls a0 0 t107 _ A20.out).mono ?_); rintro e w' ⟨rfl, ⟨nd, rfl⟩⟩) | (go_at_call 13; (with_reducible refine (oracle_Top.calls a0 7 t108 _ A22.out).mono ?_); rintro e w' ⟨rfl, ⟨nd, rfl⟩⟩))
                    go_ret
                    exact ⟨by first | rfl | (simp; done) | (simp [*]; done), by repeat (first | exact Drawn0.refl _ | apply Drawn0.step)⟩
                · rw [if_neg c21] at H
                  have c21b0 : (t107 == 0) = false := beq_eq_false_iff_ne.mpr c21
                  have c21b1 : (t107 != 0) = true := bne_iff_ne.mpr c21
                  obtain rfl := Option.some.inj H
                  go_wp2_with (first | (go_at_call 13; (with_reducible refine (oracle_Top.calls a0 0 t107 _ A20.out).mono ?_); rintro e w' ⟨rfl, ⟨nd, rfl⟩⟩))
                  go_ret
                  exact ⟨by first | rfl | (simp; done) | (simp [*]; done), by repeat (first | exact Drawn0.refl _ | apply Drawn0.step)⟩
              · rw [if_neg c19] at H
                have c19b0 : (x4_2 == a0) = false := beq_eq_false_iff_ne.mpr c19
                have c19b1 : (x4_2 != a0) = true := bne_iff_ne.mpr c19
                obtain rfl := Option.some.inj H
                go_wp2
                go_ret
                exact ⟨by first | rfl | (simp; done) | (simp [*]; done), by repeat (first | exact Drawn0.refl _ | apply Drawn0.step)⟩

/-- THE ONE PURE STATEMENT of larderlaw04_OracleWhole: yours. -/
def larderlaw04_OracleWhole.Pure : Prop := ∀ (a0 : Int), (Lit.int .u64 a0).wf = true → ∃ k, larderlaw04_OracleWhole.f k a0 = some true
theorem larderlaw04_OracleWhole.walk (P : larderlaw04_OracleWhole.Pure) (a0 : Int) (w : World) (w0 : (Lit.int .u64 a0).wf = true) :
    Calls Try.prog 5 #[.int .u64 a0] w fun e w' => e = .returned (.bool true) ∧ Below w.heap.size w w' := by
  obtain ⟨k, h⟩ := P a0 w0
  refine (larderlaw04_OracleWhole.calls k a0 true w h).mono ?_
  rintro e w' ⟨rfl, hd⟩
  exact ⟨rfl, hd.below⟩

end Go.Proofs.Ytabdkfmfenpkjaa.FWhole
