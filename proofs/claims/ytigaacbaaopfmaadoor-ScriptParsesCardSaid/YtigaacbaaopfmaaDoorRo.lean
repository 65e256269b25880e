/- The rest of an answer's line as a plain function, and the program's walk against it. -/
import Derived.Test.YtigaacbaaopfmaaDoorRs
namespace Go.Proofs.YtigaacbaaopfmaaDoor.sh
open Go.RowKit
set_option linter.unusedVariables false
def wNo : List UInt8 := [110, 111]
def wYes : List UInt8 := [121, 101, 115]
def wNew : List UInt8 := [110, 101, 119]
def wOld : List UInt8 := [111, 108, 100]
def wDone : List UInt8 := [100, 111, 110, 101]
def wFine : List UInt8 := [102, 105, 110, 101]
def wPair : List UInt8 := [112, 97, 105, 114]
def wRule : List UInt8 := [114, 117, 108, 101]
def wError : List UInt8 := [101, 114, 114, 111, 114]
def okA (b : Bool) (a : Ans) : Option Ans := if b = true then some a else none
def byt (l : List UInt8) : ByteArray := B ((bytesV l).getD [])
/-- The answer of the command op whose line goes on with these words. -/
def restO (op : Int) : List (List UInt8) → Option Ans
  | [] => okA (decide (op = 6 ∨ op = 10)) (A0 op)
  | [a] =>
    if op = 6 ∨ op = 10 then none
    else if op = 2 then okA (decide (a = wNo)) (A0 2)
    else if op = 9 then okA (decide (a = wDone)) (A0 9)
    else if op = 14 then okA (decide (a = wFine)) (A0 14)
    else if op = 4 then (if a = wYes then some { A0 4 with yes := true } else okA (decide (a = wNo)) (A0 4))
    else if op = 3 then (if a = wNew then some { A0 3 with yes := true } else okA (decide (a = wOld)) (A0 3))
    else okA (strictN a) { A0 op with n := (numP a).1 }
  | [a, b] =>
    if a = wError then okA (strictN b && ((numP b).1 != 0)) { A0 op with err := (numP b).1 }
    else if op = 2 ∧ a = wYes then okA (strictB b) { A0 2 with yes := true, elem := byt b }
    else none
  | [a, b, c] =>
    if op = 9 ∧ a = wPair then okA (strictB b && strictB c) { A0 9 with yes := true, key := byt b, elem := byt c }
    else if op = 14 ∧ a = wRule then okA (strictN b && strictN c && ((numP b).1 != 0)) { A0 14 with n := (numP b).1, off := (numP c).1 }
    else none
  | _ => none
/-- Texts l lie from ⟨b, o⟩ on. -/
def LT (w : World) (b o : Nat) (l : List (List UInt8)) : Prop := ∀ (j : Nat) (x : List UInt8), l[j]? = some x → w.cell? ⟨b, o + j, none⟩ = some (.string (B x))
theorem LT.below {k : Nat} {w w' : World} {b o : Nat} {l : List (List UInt8)} (h : LT w b o l) (hb : Below k w w') (hk : w.heap.size ≤ k) : LT w' b o l := fun j x hx => cell_below (h j x hx) hb hk
theorem B_data (l : List UInt8) : (B l).data.toList = l := rfl
theorem eqB (l m : List UInt8) : ((B l).toList == m) = decide (l = m) := by
  rw [B_toList]
  by_cases h : l = m
  · rw [h]; simp
  · rw [decide_eq_false h]; exact beq_eq_false_iff_ne.2 h
theorem callN {w : World} (hb : Bs w) (x : List UInt8) (hx : x.length ≤ 3000000) : ∀ wq, Below w.heap.size w wq → Calls Tryd.prog 70 #[.string (B x)] wq fun e w' => e = .returned (.tuple #[.int .i64 (numP x).1, .bool (strictN x)]) ∧ Below wq.heap.size wq w' :=
  fun wq h => strictNumber_walk wq (hb.below h) (B x) (by rw [B_size]; exact hx)
theorem callB {w : World} (x : List UInt8) (hx : x.length ≤ 3000000) : ∀ wq, Below w.heap.size w wq → Calls Tryd.prog 71 #[.string (B x)] wq fun e w' => e = .returned (.tuple #[.string (byt x), .bool (strictB x)]) ∧ Below wq.heap.size wq w' :=
  fun wq h => strictBytes_walk wq (B x) (by rw [B_size]; exact hx)
theorem rest_walk (w : World) (hb : Bs w) (op : Int) (ao : Option Addr) (b o c : Nat) (ws : List (List UInt8)) (hao : ws ≠ [] → ao = some ⟨b, o, none⟩) (hl : LT w b o ws) (hs : ∀ x ∈ ws, x.length ≤ 3000000) (hn : ws.length ≤ 3000000) :
    Calls Tryd.prog 52 #[.int .i64 op, .slice ao ws.length c] w (RestP (restO op ws) w) := by
  have F : ∀ k : Int, op ≠ k → (op == k) = false := fun k h => beq_eq_false_iff_ne.2 h
  match ws, hao, hl, hs, hn with
  | [], _, _, _, _ =>
    by_cases h6 : op = 6
    · subst h6; exact rest0_6 w _ ao c rfl
    · by_cases h10 : op = 10
      · subst h10; exact rest0_10 w _ ao c rfl
      · exact rest0_x w op _ ao c (F 6 h6) (F 10 h10) (by simp [restO, okA, h6, h10])
  | [x], hao, hl, hs, _ =>
    obtain rfl := hao (by simp)
    have c0 := hl 0 x rfl
    have hx : x.length ≤ 3000000 := hs x (by simp)
    by_cases h6 : op = 6
    · subst h6; exact rest1_6 w _ b o c _ c0 rfl
    by_cases h10 : op = 10
    · subst h10; exact rest1_10 w _ b o c _ c0 rfl
    by_cases h2 : op = 2
    · subst h2; exact rest1_2 w _ b o c _ c0 _ (eqB x _) rfl
    by_cases h9 : op = 9
    · subst h9; exact rest1_9 w _ b o c _ c0 _ (eqB x _) rfl
    by_cases h14 : op = 14
    · subst h14; exact rest1_14 w _ b o c _ c0 _ (eqB x _) rfl
    by_cases h4 : op = 4
    · subst h4
      by_cases hy : x = wYes
      · exact rest1_4y w _ b o c _ c0 ((eqB x _).trans (decide_eq_true hy)) (by simp [restO, hy])
      · exact rest1_4n w _ b o c _ c0 _ ((eqB x _).trans (decide_eq_false hy)) (eqB x _) (show restO 4 [x] = okA (decide (x = wNo)) (A0 4) by simp [restO, hy])
    by_cases h3 : op = 3
    · subst h3
      by_cases hy : x = wNew
      · exact rest1_3y w _ b o c _ c0 ((eqB x _).trans (decide_eq_true hy)) (by simp [restO, hy])
      · exact rest1_3n w _ b o c _ c0 _ ((eqB x _).trans (decide_eq_false hy)) (eqB x _) (show restO 3 [x] = okA (decide (x = wOld)) (A0 3) by simp [restO, hy])
    · exact rest1_x w op _ b o c _ c0 _ _ (callN hb x hx) (F _ h6) (F _ h10) (F _ h2) (F _ h4) (F _ h3) (F _ h9) (F _ h14) (by simp [restO, h6, h10, h2, h9, h14, h4, h3, okA])
  | [x, y], hao, hl, hs, _ =>
    obtain rfl := hao (by simp)
    have c0 := hl 0 x rfl
    have c1 := hl 1 y rfl
    have hy : y.length ≤ 3000000 := hs y (by simp)
    by_cases he : x = wError
    · exact rest2_err w op _ b o c _ c0 _ c1 _ _ (callN hb y hy) ((eqB x _).trans (decide_eq_true he)) (by simp [restO, he, okA])
    · have hq0 := (eqB x wError).trans (decide_eq_false he)
      by_cases h2 : op = 2
      · subst h2
        by_cases hz : x = wYes
        · exact rest2_2y w _ b o c _ c0 _ c1 _ _ (callB y hy) hq0 ((eqB x _).trans (decide_eq_true hz)) (by subst hz; simp [restO, okA, wYes, wError])
        · exact rest2_2n w _ b o c _ c0 _ c1 hq0 ((eqB x _).trans (decide_eq_false hz)) (by simp [restO, he, hz])
      by_cases h9 : op = 9
      · subst h9; exact rest2_9 w _ b o c _ c0 _ c1 hq0 (by simp [restO, he])
      by_cases h14 : op = 14
      · subst h14; exact rest2_14 w _ b o c _ c0 _ c1 hq0 (by simp [restO, he])
      · exact rest2_x w op _ b o c _ c0 _ c1 (F _ h2) (F _ h9) (F _ h14) hq0 (by simp [restO, he, h2])
  | [x, y, z], hao, hl, hs, _ =>
    obtain rfl := hao (by simp)
    have c0 := hl 0 x rfl
    have c1 := hl 1 y rfl
    have c2 := hl 2 z rfl
    have hy : y.length ≤ 3000000 := hs y (by simp)
    have hz : z.length ≤ 3000000 := hs z (by simp)
    by_cases h9 : op = 9
    · subst h9
      by_cases hp : x = wPair
      · exact rest3_9y w _ b o c _ c0 _ c1 _ c2 _ _ (callB y hy) _ _ (callB z hz) ((eqB x _).trans (decide_eq_true hp)) (by simp [restO, hp, okA])
      · exact rest3_9n w _ b o c _ c0 _ c1 _ c2 ((eqB x _).trans (decide_eq_false hp)) (by simp [restO, hp])
    by_cases h14 : op = 14
    · subst h14
      by_cases hp : x = wRule
      · exact rest3_14y w _ b o c _ c0 _ c1 _ c2 _ _ (callN hb y hy) _ _ (callN hb z hz) ((eqB x _).trans (decide_eq_true hp)) (by simp [restO, hp, okA])
      · exact rest3_14n w _ b o c _ c0 _ c1 _ c2 ((eqB x _).trans (decide_eq_false hp)) (by simp [restO, hp])
    by_cases h2 : op = 2
    · subst h2; exact rest3_2 w _ b o c _ c0 _ c1 _ c2 (by simp [restO])
    · exact rest3_x w op _ b o c _ c0 _ c1 _ c2 (F _ h2) (F _ h9) (F _ h14) (by simp [restO, h9, h14])
  | x :: y :: z :: u :: r, hao, hl, hs, hn =>
    obtain rfl := hao (by simp)
    have c0 := hl 0 x rfl
    have hr : restO op (x :: y :: z :: u :: r) = none := rfl
    have hlen : 4 ≤ (x :: y :: z :: u :: r).length := by simp
    rw [hr]
    generalize (x :: y :: z :: u :: r).length = n at hn hlen
    by_cases h2 : op = 2
    · subst h2; exact restn_2 w _ b o c n hlen hn _ c0 rfl
    by_cases h9 : op = 9
    · subst h9; exact restn_9 w _ b o c n hlen hn _ c0 rfl
    by_cases h14 : op = 14
    · subst h14; exact restn_14 w _ b o c n hlen hn _ c0 rfl
    · exact restn_x w op _ b o c n hlen hn _ c0 (F _ h2) (F _ h9) (F _ h14) rfl
end Go.Proofs.YtigaacbaaopfmaaDoor.sh
