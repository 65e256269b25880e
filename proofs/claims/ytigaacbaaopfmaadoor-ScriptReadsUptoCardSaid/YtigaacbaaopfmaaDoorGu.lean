/- The document's guess as a plain function; its walk; what is shown is guessed. -/
import Derived.Test.YtigaacbaaopfmaaDoorGs
import Derived.Test.YtigaacbaaopfmaaDoorPb
namespace Go.Proofs.YtigaacbaaopfmaaDoor.sh
open Go.RowKit
set_option linter.unusedVariables false
def opG (h : List UInt8) : Int := if 0 ≤ findP h then opOf (findP h).toNat else 0
/-- The rest of the guess: of the command op, behind its name. -/
def guessR (op : Int) : List (List UInt8) → Ans
  | [] => A0 op
  | [x, y] =>
    if x = wError then { A0 op with err := (numP y).1 }
    else if op = 2 then { A0 2 with yes := decide (x = wYes), elem := byt y }
    else if op = 3 then { A0 3 with yes := decide (x = wNew) }
    else if op = 4 then { A0 4 with yes := decide (x = wYes) }
    else if op = 9 then { A0 9 with yes := decide (x = wPair) }
    else if op = 14 then A0 14
    else { A0 op with n := (numP x).1 }
  | [x] =>
    if op = 2 then { A0 2 with yes := decide (x = wYes) }
    else if op = 3 then { A0 3 with yes := decide (x = wNew) }
    else if op = 4 then { A0 4 with yes := decide (x = wYes) }
    else if op = 9 then { A0 9 with yes := decide (x = wPair) }
    else if op = 14 then A0 14
    else { A0 op with n := (numP x).1 }
  | x :: y :: u :: _ =>
    if op = 2 then { A0 2 with yes := decide (x = wYes), elem := byt y }
    else if op = 3 then { A0 3 with yes := decide (x = wNew) }
    else if op = 4 then { A0 4 with yes := decide (x = wYes) }
    else if op = 9 then { A0 9 with yes := decide (x = wPair), key := byt y, elem := byt u }
    else if op = 14 then { A0 14 with n := (numP y).1, off := (numP u).1 }
    else { A0 op with n := (numP x).1 }
def guessP : List (List UInt8) → Ans
  | [] => A0 0
  | h :: t => guessR (opG h) t
theorem row_call (h : List UInt8) (op : Int) (ho : opG h = op) : ∃ r0 r2 r3 r4, ∀ wq, Calls Tryd.prog 65 #[.string (B h)] wq fun e w' => e = .returned (.tuple #[.agg #[.string r0, .int .i64 op, .string r2, .bool r3], .bool r4]) ∧ Below wq.heap.size wq w' := by
  by_cases hk : 0 ≤ findP h
  · refine ⟨nm (findP h).toNat, formOf (findP h).toNat, moreOf (findP h).toNat, decide (0 ≤ findP h), fun wq => ?_⟩
    have c := row_walk wq (B h)
    rw [B_data] at c
    have e : rowV (findP h) = #[.string (nm (findP h).toNat), .int .i64 op, .string (formOf (findP h).toNat), .bool (moreOf (findP h).toNat)] := by
      unfold rowV; rw [if_pos hk, ← ho]; unfold opG; rw [if_pos hk]
    unfold RowP at c
    rw [e] at c
    exact c
  · refine ⟨⟨#[]⟩, ⟨#[]⟩, false, decide (0 ≤ findP h), fun wq => ?_⟩
    have c := row_walk wq (B h)
    rw [B_data] at c
    have e : rowV (findP h) = #[.string ⟨#[]⟩, .int .i64 op, .string ⟨#[]⟩, .bool false] := by
      unfold rowV; rw [if_neg hk, ← ho]; unfold opG; rw [if_neg hk]
    unfold RowP at c
    rw [e] at c
    exact c
theorem gN (x : List UInt8) (hx : x.length ≤ 3000000) : ∀ wq, Calls Tryd.prog 72 #[.string (B x)] wq fun e w' => e = .returned (.tuple #[.int .i64 (numP x).1, .int .i64 (numP x).2]) ∧ wq = w' :=
  fun wq => rnumber_walk wq (B x) (by rw [B_size]; exact hx)
theorem gB (x : List UInt8) (hx : x.length ≤ 3000000) : ∀ wq, Calls Tryd.prog 73 #[.string (B x)] wq fun e w' => e = .returned (.tuple #[.string (byt x), .int .i64 (if (bytesV x).isSome then 0 else 160)]) ∧ Below wq.heap.size wq w' :=
  fun wq => rbytes_walk wq (B x) (by rw [B_size]; exact hx)
theorem guess_walk (w : World) (b c : Nat) (ws : List (List UInt8)) (hne : ws ≠ []) (hl : LT w b 0 ws) (hs : ∀ x ∈ ws, x.length ≤ 3000000) (hn : ws.length ≤ 4000000) :
    Calls Tryd.prog 53 #[.slice (some ⟨b, 0, none⟩) ws.length c] w fun e w' => e = .returned (guessP ws).v ∧ Below w.heap.size w w' := by
  have F : ∀ (op k : Int), op ≠ k → (op == k) = false := fun op k h => beq_eq_false_iff_ne.2 h
  match ws, hne, hl, hs, hn with
  | [h], _, hl, hs, _ =>
    obtain ⟨op, ho⟩ : ∃ op, opG h = op := ⟨_, rfl⟩
    obtain ⟨r0, r2, r3, r4, dr⟩ := row_call h op ho
    show Calls _ _ _ _ (fun e w' => e = .returned (guessR (opG h) []).v ∧ _)
    rw [ho]
    exact gs1 w op b c _ (hl 0 h rfl) r0 r2 r3 r4 dr
  | [h, x], _, hl, hs, _ =>
    obtain ⟨op, ho⟩ : ∃ op, opG h = op := ⟨_, rfl⟩
    obtain ⟨r0, r2, r3, r4, dr⟩ := row_call h op ho
    show Calls _ _ _ _ (fun e w' => e = .returned (guessR (opG h) [x]).v ∧ _)
    rw [ho]
    clear ho
    have c0 := hl 0 h rfl
    have c1 := hl 1 x rfl
    have hx := hs x (by simp)
    by_cases h2 : op = 2
    · subst h2; exact gs2_2 w b c _ c0 _ c1 r0 r2 r3 r4 dr _ (eqB x wYes)
    by_cases h3 : op = 3
    · subst h3; exact gs2_3 w b c _ c0 _ c1 r0 r2 r3 r4 dr _ (eqB x wNew)
    by_cases h4 : op = 4
    · subst h4; exact gs2_4 w b c _ c0 _ c1 r0 r2 r3 r4 dr _ (eqB x wYes)
    by_cases h9 : op = 9
    · subst h9; exact gs2_9 w b c _ c0 _ c1 r0 r2 r3 r4 dr _ (eqB x wPair)
    by_cases h14 : op = 14
    · subst h14; exact gs2_14 w b c _ c0 _ c1 r0 r2 r3 r4 dr
    · have e : guessR op [x] = { A0 op with n := (numP x).1 } := by simp [guessR, h2, h3, h4, h9, h14]
      rw [e]
      exact gs2_x w op b c _ c0 _ c1 r0 r2 r3 r4 dr _ _ (gN x hx) (F _ _ h2) (F _ _ h3) (F _ _ h4) (F _ _ h9) (F _ _ h14)
  | [h, x, y], _, hl, hs, _ =>
    obtain ⟨op, ho⟩ : ∃ op, opG h = op := ⟨_, rfl⟩
    obtain ⟨r0, r2, r3, r4, dr⟩ := row_call h op ho
    show Calls _ _ _ _ (fun e w' => e = .returned (guessR (opG h) [x, y]).v ∧ _)
    rw [ho]
    clear ho
    have c0 := hl 0 h rfl
    have c1 := hl 1 x rfl
    have c2 := hl 2 y rfl
    have hx := hs x (by simp)
    have hy := hs y (by simp)
    by_cases he : x = wError
    · have e : guessR op [x, y] = { A0 op with err := (numP y).1 } := by simp [guessR, he]
      rw [e]
      exact gs3_err w op b c _ c0 _ c1 _ c2 r0 r2 r3 r4 dr _ _ (gN y hy) ((eqB x wError).trans (decide_eq_true he))
    · have hq0 := (eqB x wError).trans (decide_eq_false he)
      by_cases h2 : op = 2
      · subst h2
        have e : guessR 2 [x, y] = { A0 2 with yes := decide (x = wYes), elem := byt y } := by simp [guessR, he]
        rw [e]; exact gs3_2 w b c _ c0 _ c1 _ c2 r0 r2 r3 r4 dr _ _ (gB y hy) hq0 _ (eqB x wYes)
      by_cases h3 : op = 3
      · subst h3
        have e : guessR 3 [x, y] = { A0 3 with yes := decide (x = wNew) } := by simp [guessR, he]
        rw [e]; exact gs3_3 w b c _ c0 _ c1 _ c2 r0 r2 r3 r4 dr hq0 _ (eqB x wNew)
      by_cases h4 : op = 4
      · subst h4
        have e : guessR 4 [x, y] = { A0 4 with yes := decide (x = wYes) } := by simp [guessR, he]
        rw [e]; exact gs3_4 w b c _ c0 _ c1 _ c2 r0 r2 r3 r4 dr hq0 _ (eqB x wYes)
      by_cases h9 : op = 9
      · subst h9
        have e : guessR 9 [x, y] = { A0 9 with yes := decide (x = wPair) } := by simp [guessR, he]
        rw [e]; exact gs3_9 w b c _ c0 _ c1 _ c2 r0 r2 r3 r4 dr hq0 _ (eqB x wPair)
      by_cases h14 : op = 14
      · subst h14
        have e : guessR 14 [x, y] = A0 14 := by simp [guessR, he]
        rw [e]; exact gs3_14 w b c _ c0 _ c1 _ c2 r0 r2 r3 r4 dr hq0
      · have e : guessR op [x, y] = { A0 op with n := (numP x).1 } := by simp [guessR, he, h2, h3, h4, h9, h14]
        rw [e]
        exact gs3_x w op b c _ c0 _ c1 _ c2 r0 r2 r3 r4 dr _ _ (gN x hx) (F _ _ h2) (F _ _ h3) (F _ _ h4) (F _ _ h9) (F _ _ h14) hq0
  | h :: x :: y :: u :: r, _, hl, hs, hn =>
    obtain ⟨op, ho⟩ : ∃ op, opG h = op := ⟨_, rfl⟩
    obtain ⟨r0, r2, r3, r4, dr⟩ := row_call h op ho
    show Calls _ _ _ _ (fun e w' => e = .returned (guessR (opG h) (x :: y :: u :: r)).v ∧ _)
    rw [ho]
    clear ho
    have c0 := hl 0 h rfl
    have c1 := hl 1 x rfl
    have c2 := hl 2 y rfl
    have c3 := hl 3 u rfl
    have hx := hs x (by simp)
    have hy := hs y (by simp)
    have hu := hs u (by simp)
    have hlen : 4 ≤ (h :: x :: y :: u :: r).length := by simp
    generalize (h :: x :: y :: u :: r).length = n at hn hlen
    by_cases h2 : op = 2
    · subst h2; exact gsn_2 w b c n hlen hn _ c0 _ c1 _ c2 _ c3 r0 r2 r3 r4 dr _ _ (gB y hy) _ (eqB x wYes)
    by_cases h3 : op = 3
    · subst h3; exact gsn_3 w b c n hlen hn _ c0 _ c1 _ c2 _ c3 r0 r2 r3 r4 dr _ (eqB x wNew)
    by_cases h4 : op = 4
    · subst h4; exact gsn_4 w b c n hlen hn _ c0 _ c1 _ c2 _ c3 r0 r2 r3 r4 dr _ (eqB x wYes)
    by_cases h9 : op = 9
    · subst h9; exact gsn_9 w b c n hlen hn _ c0 _ c1 _ c2 _ c3 r0 r2 r3 r4 dr _ _ (gB y hy) _ _ (gB u hu) _ (eqB x wPair)
    by_cases h14 : op = 14
    · subst h14; exact gsn_14 w b c n hlen hn _ c0 _ c1 _ c2 _ c3 r0 r2 r3 r4 dr _ _ (gN y hy) _ _ (gN u hu)
    · have e : guessR op (x :: y :: u :: r) = { A0 op with n := (numP x).1 } := by simp [guessR, h2, h3, h4, h9, h14]
      rw [e]
      exact gsn_x w op b c n hlen hn _ c0 _ c1 _ c2 _ c3 r0 r2 r3 r4 dr _ _ (gN x hx) (F _ _ h2) (F _ _ h3) (F _ _ h4) (F _ _ h9) (F _ _ h14)
end Go.Proofs.YtigaacbaaopfmaaDoor.sh
