/- The document's row of a name: walked. -/
import Derived.Test.YtigaacbaaopfmaaDoorPc
import Derived.Test.YtigaacbaaopfmaaDoorRy
namespace Go.Proofs.YtigaacbaaopfmaaDoor.sh
open Go.RowKit
set_option linter.unusedVariables false
theorem Bx.full4 {w : World} {g : Nat} {t : TypeId} (h : Bx w g 4 t) (a0 a1 a2 a3 : Value) :
    (((((w.setCell ⟨g, 0, none⟩ a0).setCell ⟨g, 1, none⟩ a1).setCell ⟨g, 2, none⟩ a2).setCell ⟨g, 3, none⟩ a3)).heap[g]? = some (.cells #[a0, a1, a2, a3] t (0, 0)) := by
  obtain ⟨⟨l⟩, h1, h2⟩ := h
  match l, h2, h1 with
  | [x0, x1, x2, x3], _, h1 =>
    have e0 : (w.setCell ⟨g, 0, none⟩ a0).heap[g]? = some (.cells #[a0, x1, x2, x3] t (0, 0)) := heap_setCell_same w g 0 #[x0, x1, x2, x3] t a0 h1
    have e1 : ((w.setCell ⟨g, 0, none⟩ a0).setCell ⟨g, 1, none⟩ a1).heap[g]? = some (.cells #[a0, a1, x2, x3] t (0, 0)) := heap_setCell_same (w.setCell ⟨g, 0, none⟩ a0) g 1 #[a0, x1, x2, x3] t a1 e0
    have e2 : (((w.setCell ⟨g, 0, none⟩ a0).setCell ⟨g, 1, none⟩ a1).setCell ⟨g, 2, none⟩ a2).heap[g]? = some (.cells #[a0, a1, a2, x3] t (0, 0)) := heap_setCell_same ((w.setCell ⟨g, 0, none⟩ a0).setCell ⟨g, 1, none⟩ a1) g 2 #[a0, a1, x2, x3] t a2 e1
    have e3 : ((((w.setCell ⟨g, 0, none⟩ a0).setCell ⟨g, 1, none⟩ a1).setCell ⟨g, 2, none⟩ a2).setCell ⟨g, 3, none⟩ a3).heap[g]? = some (.cells #[a0, a1, a2, a3] t (0, 0)) := heap_setCell_same (((w.setCell ⟨g, 0, none⟩ a0).setCell ⟨g, 1, none⟩ a1).setCell ⟨g, 2, none⟩ a2) g 3 #[a0, a1, a2, x3] t a3 e2
    exact e3
def idxR (i : Nat) : Nat := if i = 0 then 0 else if i = 1 then 15 else i - 1
/-- What the document's table holds. -/
def RTab4 (w : World) (b : Nat) : Prop := ∀ i, i < 16 → w.cell? ⟨b, i * 4, none⟩ = some (.string (nm (idxR i))) ∧ w.cell? ⟨b, i * 4 + 1, none⟩ = some (.int .i64 (opOf (idxR i))) ∧ w.cell? ⟨b, i * 4 + 2, none⟩ = some (.string (formOf (idxR i))) ∧ w.cell? ⟨b, i * 4 + 3, none⟩ = some (.bool (moreOf (idxR i)))
set_option maxHeartbeats 8000000 in
set_option maxRecDepth 100000 in
theorem rows4_walk (w : World) : Calls Tryd.prog 56 #[] w fun e w' => ∃ b, e = .returned (.slice (some ⟨b, 0, none⟩) 16 16) ∧ Below w.heap.size w w' ∧ RTab4 w' b := by
  go_enter Tryd.func56, Tryd.ntmps56
  go_wp2
  go_ret
  refine ⟨w.heap.size, rfl, (Below.refl _ _).alloc (Nat.le_refl _) _, fun i hi => ?_⟩
  match i, hi with
  | 0, _ => exact ⟨by simp [idxR, nm, names, B], by simp [idxR, opOf], by simp [idxR, formOf, forms, B], by simp [idxR, moreOf]⟩
  | 1, _ => exact ⟨by simp [idxR, nm, names, B], by simp [idxR, opOf], by simp [idxR, formOf, forms, B], by simp [idxR, moreOf]⟩
  | 2, _ => exact ⟨by simp [idxR, nm, names, B], by simp [idxR, opOf], by simp [idxR, formOf, forms, B], by simp [idxR, moreOf]⟩
  | 3, _ => exact ⟨by simp [idxR, nm, names, B], by simp [idxR, opOf], by simp [idxR, formOf, forms, B], by simp [idxR, moreOf]⟩
  | 4, _ => exact ⟨by simp [idxR, nm, names, B], by simp [idxR, opOf], by simp [idxR, formOf, forms, B], by simp [idxR, moreOf]⟩
  | 5, _ => exact ⟨by simp [idxR, nm, names, B], by simp [idxR, opOf], by simp [idxR, formOf, forms, B], by simp [idxR, moreOf]⟩
  | 6, _ => exact ⟨by simp [idxR, nm, names, B], by simp [idxR, opOf], by simp [idxR, formOf, forms, B], by simp [idxR, moreOf]⟩
  | 7, _ => exact ⟨by simp [idxR, nm, names, B], by simp [idxR, opOf], by simp [idxR, formOf, forms, B], by simp [idxR, moreOf]⟩
  | 8, _ => exact ⟨by simp [idxR, nm, names, B], by simp [idxR, opOf], by simp [idxR, formOf, forms, B], by simp [idxR, moreOf]⟩
  | 9, _ => exact ⟨by simp [idxR, nm, names, B], by simp [idxR, opOf], by simp [idxR, formOf, forms, B], by simp [idxR, moreOf]⟩
  | 10, _ => exact ⟨by simp [idxR, nm, names, B], by simp [idxR, opOf], by simp [idxR, formOf, forms, B], by simp [idxR, moreOf]⟩
  | 11, _ => exact ⟨by simp [idxR, nm, names, B], by simp [idxR, opOf], by simp [idxR, formOf, forms, B], by simp [idxR, moreOf]⟩
  | 12, _ => exact ⟨by simp [idxR, nm, names, B], by simp [idxR, opOf], by simp [idxR, formOf, forms, B], by simp [idxR, moreOf]⟩
  | 13, _ => exact ⟨by simp [idxR, nm, names, B], by simp [idxR, opOf], by simp [idxR, formOf, forms, B], by simp [idxR, moreOf]⟩
  | 14, _ => exact ⟨by simp [idxR, nm, names, B], by simp [idxR, opOf], by simp [idxR, formOf, forms, B], by simp [idxR, moreOf]⟩
  | 15, _ => exact ⟨by simp [idxR, nm, names, B], by simp [idxR, opOf], by simp [idxR, formOf, forms, B], by simp [idxR, moreOf]⟩
  | n + 16, h => exact absurd h (by omega)
def rowV (k : Int) : Array Value := if 0 ≤ k then #[.string (nm k.toNat), .int .i64 (opOf k.toNat), .string (formOf k.toNat), .bool (moreOf k.toNat)] else #[.string ⟨#[]⟩, .int .i64 0, .string ⟨#[]⟩, .bool false]
def RowP (k : Int) (w : World) (e : Ending) (w' : World) : Prop := e = .returned (.tuple #[.agg (rowV k), .bool (decide (0 ≤ k))]) ∧ Below w.heap.size w w'
theorem idxR_lt (i : Nat) (h : i < 16) : idxR i < 16 := by unfold idxR; split; omega; split <;> omega
theorem idxR_onto (k : Nat) (h : k < 16) : ∃ i, i < 16 ∧ idxR i = k := by
  by_cases h0 : k = 0
  · exact ⟨0, by omega, by unfold idxR; rw [if_pos rfl]; omega⟩
  · by_cases h1 : k = 15
    · exact ⟨1, by omega, by unfold idxR; rw [if_neg (by omega), if_pos rfl]; omega⟩
    · exact ⟨k + 1, by omega, by unfold idxR; rw [if_neg (by omega), if_neg (by omega)]; omega⟩
theorem size97 : (Tryd.prog.info? 97).map (·.size) = some 4 := by kernel_rfl
set_option maxHeartbeats 8000000 in
set_option maxRecDepth 100000 in
theorem row_walk (w : World) (s : ByteArray) : Calls Tryd.prog 65 #[.string s] w (RowP (findP s.data.toList) w) := by
  have cr := fun wq => rows4_walk wq
  obtain ⟨q, hq⟩ : ∃ q, findP s.data.toList = q := ⟨_, rfl⟩
  rw [hq]
  have HQ : Aside0 (findP s.data.toList = q) := ⟨hq⟩
  clear hq
  go_enter Tryd.func65, Tryd.ntmps65
  go_wp2_with fail
  refine (cr _).mono ?_
  rintro e w1 ⟨b, rfl, hB1, tab⟩
  obtain ⟨hc1, hf1⟩ := bcell hB1
  have hz1 : w.heap.size < w1.heap.size := by have := hB1.size; (try simp at this); omega
  clear cr
  go_wp2
  go_loopg [5] 16 (fun g v5 wr => ∃ i : Nat, v5 = .int .i64 i ∧ i + g = 16 ∧ w1 = wr ∧ Aside0 (∀ j, j < i → names.getD (idxR j) [] ≠ s.data.toList))
  case atStart => exact ⟨0, rfl, by omega, rfl, ⟨fun j hj => by omega⟩⟩
  case round =>
    obtain ⟨i, rfl, hig, rfl, hA⟩ := hrel
    by_cases hi : i < 16
    · obtain ⟨g, rfl⟩ : ∃ g, gk = g + 1 := ⟨gk - 1, by omega⟩
      have hlt : (i : Int) < 16 := by omega
      obtain ⟨t0, t1, t2, t3⟩ := tab i hi
      by_cases hn : names.getD (idxR i) [] = s.data.toList
      · have hc : ((nm (idxR i)).toList == s.toList) = true := by rw [nm_eq]; exact decide_eq_true hn
        have hk : q = (idxR i : Int) := by rw [← HQ.out, ← hn]; exact findP_name ⟨idxR i, idxR_lt i hi⟩
        have A : Aside0 (rowV q = #[.string (nm (idxR i)), .int .i64 (opOf (idxR i)), .string (formOf (idxR i)), .bool (moreOf (idxR i))] ∧ decide (0 ≤ q) = true) := ⟨by
          unfold rowV; rw [if_pos (by omega), hk, Int.toNat_natCast], decide_eq_true (by omega)⟩
        clear hn hk hA tab
        generalize nm (idxR i) = x0 at t0 hc A
        generalize opOf (idxR i) = x1 at t1 A
        generalize formOf (idxR i) = x2 at t2 A
        generalize moreOf (idxR i) = x3 at t3 A
        go_wp2
        refine bodyPost_ret (v := .tuple #[.agg #[.string x0, .int .i64 x1, .string x2, .bool x3], .bool true]) ?res rfl ⟨by rw [A.out.1, A.out.2], ?_⟩
        case res =>
          refine results_cell_tmp (p := 2) (q := 3) (ty := 97) rfl _ _ w.heap.size 97 #[.string x0, .int .i64 x1, .string x2, .bool x3] (0, 0) _ _ rfl rfl ?_ Tryd.underlying97 rfl size97
          with_reducible refine Bx.full4 ?_ _ _ _ _
          repeat (first | with_reducible refine Bx.set ?_ _ _ | with_reducible refine Bx.below ?_ (by with_reducible assumption) | exact Bx.new _ _ _ _ rfl | with_reducible refine Bx.old ?_ _ | with_reducible refine Bx.drew ?_)
        repeat (first | with_reducible assumption | with_reducible refine below_set ?_ (by omega) _ | with_reducible refine Below.alloc ?_ (by first | omega | (simp; done) | (simp; omega)) _ | with_reducible refine Below.drew ?_ | with_reducible exact Below.refl _ _ | with_reducible refine below_two ?_ (by with_reducible assumption))
      · have hc : ((nm (idxR i)).toList == s.toList) = false := by rw [nm_eq]; exact decide_eq_false hn
        have A : Aside0 (∀ j, j < i + 1 → names.getD (idxR j) [] ≠ s.data.toList) := ⟨fun j hj => by
          rcases Nat.lt_or_eq_of_le (Nat.le_of_lt_succ hj) with h | h
          · exact hA.out j h
          · subst h; exact hn⟩
        clear hn hA tab t1 t2 t3
        generalize nm (idxR i) = x0 at t0 hc
        go_wp2
        go_roundg g
        case measure => omega
        case rel => exact ⟨i + 1, by go_num, by omega, rfl, A⟩
    · obtain rfl : i = 16 := by omega
      have hk : ¬ 0 ≤ q := by
        intro h0
        have hin := findP_in s.data.toList
        rw [HQ.out] at hin
        obtain ⟨j, hj, hj2⟩ := idxR_onto q.toNat (by omega)
        have := findP_of (l := s.data.toList) (i := q.toNat) (by rw [HQ.out]; omega)
        rw [← hj2] at this
        exact hA.out j hj this
      have A : Aside0 (rowV q = #[.string ⟨#[]⟩, .int .i64 0, .string ⟨#[]⟩, .bool false] ∧ decide (0 ≤ q) = false) := ⟨by unfold rowV; rw [if_neg hk], decide_eq_false hk⟩
      clear hk hA tab
      go_wp2
      refine bodyPost_ret (v := .tuple #[.agg #[.string ⟨#[]⟩, .int .i64 0, .string ⟨#[]⟩, .bool false], .bool false]) ?res rfl ⟨by rw [A.out.1, A.out.2], ?_⟩
      case res =>
        refine results_cell_tmp (p := 2) (q := 3) (ty := 97) rfl _ _ w.heap.size 97 #[.string ⟨#[]⟩, .int .i64 0, .string ⟨#[]⟩, .bool false] (0, 0) _ _ rfl rfl ?_ Tryd.underlying97 rfl size97
        with_reducible refine Bx.full4 ?_ _ _ _ _
        repeat (first | with_reducible refine Bx.set ?_ _ _ | with_reducible refine Bx.below ?_ (by with_reducible assumption) | exact Bx.new _ _ _ _ rfl | with_reducible refine Bx.old ?_ _ | with_reducible refine Bx.drew ?_)
      repeat (first | with_reducible assumption | with_reducible refine below_set ?_ (by omega) _ | with_reducible refine Below.alloc ?_ (by first | omega | (simp; done) | (simp; omega)) _ | with_reducible refine Below.drew ?_ | with_reducible exact Below.refl _ _ | with_reducible refine below_two ?_ (by with_reducible assumption))
end Go.Proofs.YtigaacbaaopfmaaDoor.sh
