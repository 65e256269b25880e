/- The document's Read, walked. -/
import Derived.Test.YtigaacbaaopfmaaDoorGp
import Derived.Test.YtigaacbaaopfmaaDoorShR
import Derived.Deep.CutBlock
namespace Go.Proofs.YtigaacbaaopfmaaDoor.sh
open Go.RowKit
set_option linter.unusedVariables false
theorem guessR_size (op : Int) (ws : List (List UInt8)) (N : Nat) (h : ∀ x ∈ ws, x.length ≤ N) : (guessR op ws).key.size ≤ N ∧ (guessR op ws).elem.size ≤ N := by
  have z : (⟨#[]⟩ : ByteArray).size ≤ N := Nat.zero_le _
  have b : ∀ x, x ∈ ws → (byt x).size ≤ N := fun x hx => Nat.le_trans (byt_len x) (h x hx)
  unfold guessR
  repeat' split
  all_goals first
    | exact ⟨z, z⟩
    | exact ⟨z, b _ (by simp)⟩
    | exact ⟨b _ (by simp), b _ (by simp)⟩
theorem B_beq (l m : List UInt8) : ((B l).toList == (B m).toList) = decide (l = m) := by
  rw [B_toList, B_toList]
  by_cases h : l = m
  · rw [h]; simp
  · rw [decide_eq_false h]; exact beq_eq_false_iff_ne.2 h
def ReadR (r : Option Ans) (w : World) (e : Ending) (w' : World) : Prop := e = .returned (.tuple #[(r.getD (A0 0)).v, .int .i64 (if r.isSome then 0 else 160)]) ∧ Below w.heap.size w w'
theorem zfacts (w2 : World) (g : Ans) (W : World) (hW : w2.alloc (.cells #[.int .i64 g.op, .int .i64 g.err, .int .i64 g.n, .int .i64 g.off, .bool g.yes, .string g.key, .string g.elem] 24) = W) :
    Below w2.heap.size w2 W ∧ w2.heap.size < W.heap.size ∧ W.cell? ⟨w2.heap.size, 0, none⟩ = some (.int .i64 g.op) ∧ W.cell? ⟨w2.heap.size, 1, none⟩ = some (.int .i64 g.err) ∧ W.cell? ⟨w2.heap.size, 2, none⟩ = some (.int .i64 g.n) ∧ W.cell? ⟨w2.heap.size, 3, none⟩ = some (.int .i64 g.off) ∧
    W.cell? ⟨w2.heap.size, 4, none⟩ = some (.bool g.yes) ∧ W.cell? ⟨w2.heap.size, 5, none⟩ = some (.string g.key) ∧ W.cell? ⟨w2.heap.size, 6, none⟩ = some (.string g.elem) := by
  subst hW
  exact ⟨(Below.refl _ _).alloc (Nat.le_refl _) _, by simp, by simp, by simp, by simp, by simp, by simp, by simp, by simp⟩
set_option maxHeartbeats 2000000 in
set_option maxRecDepth 100000 in
theorem rf_empty (w : World) (s : ByteArray) (n : Nat) (ws : List (List UInt8)) (hws : ws.length = n) (g : Ans)
    (cp : ∀ wq, Calls Tryd.prog 54 #[.string s] wq (PiecesP ws wq)) (cg : ∀ wq b c, LT wq b 0 ws → Calls Tryd.prog 53 #[.slice (some ⟨b, 0, none⟩) n c] wq fun e w' => e = .returned g.v ∧ Below wq.heap.size wq w') (he : s.toList.isEmpty = true) :
    Calls Tryd.prog 26 #[.string s] w fun e w' => e = .returned (.tuple #[.agg #[.int .i64 0, .int .i64 0, .int .i64 0, .int .i64 0, .bool false, .string ⟨#[]⟩, .string ⟨#[]⟩], .int .i64 160]) ∧ Below w.heap.size w w' := by
  simp only [Ans.v] at cg
  go_enter Tryd.func26, Tryd.ntmps26
  go_wp2_with fail
  refine (cp _).mono ?_
  rintro e w1 ⟨b, c, rfl, hlt, hB1⟩
  have hz1 : w.heap.size < w1.heap.size := by have := hB1.size; simp at this; omega
  obtain ⟨hc1, hf1⟩ := bcell hB1
  rw [hws]
  go_wp2_with fail
  refine (cg _ _ _ hlt).mono ?_
  rintro e w2 ⟨rfl, hB2⟩
  obtain ⟨hc2, hf2⟩ := bcell hB2
  have hz2 : w.heap.size < w2.heap.size := by have := hB2.size; omega
  clear cp cg hws hlt
  go_upto_region 2 with (fail)
  generalize hW : w2.alloc (.cells #[.int .i64 g.op, .int .i64 g.err, .int .i64 g.n, .int .i64 g.off, .bool g.yes, .string g.key, .string g.elem] 24) = wz
  obtain ⟨hBz, hzz, z0, z1, z2, z3, z4, z5, z6⟩ := zfacts w2 g wz hW
  clear hW
  obtain ⟨hcz, hfz⟩ := bcell hBz
  have hz3 : w.heap.size < wz.heap.size := by omega
  go_wp2
  refine bodyPost_ret (v := .tuple #[.agg #[.int .i64 0, .int .i64 0, .int .i64 0, .int .i64 0, .bool false, .string ⟨#[]⟩, .string ⟨#[]⟩], .int .i64 160]) ?res rfl ⟨rfl, ?_⟩
  case res =>
    refine results_cell_tmp (p := 2) (q := 3) (ty := 24) rfl _ _ w.heap.size 24 #[.int .i64 0, .int .i64 0, .int .i64 0, .int .i64 0, .bool false, .string ⟨#[]⟩, .string ⟨#[]⟩] (0, 0) _ _ rfl rfl ?_ Tryd.underlying24 rfl size24
    with_reducible refine Bx.full7 ?_ _ _ _ _ _ _ _
    repeat (first | with_reducible refine Bx.set ?_ _ _ | with_reducible refine Bx.setO ?_ _ _ (by omega) | with_reducible refine Bx.below ?_ (by with_reducible assumption) | with_reducible exact Bx.new _ _ _ _ rfl | with_reducible refine Bx.old ?_ _ | with_reducible refine Bx.drew ?_)
  repeat (first | with_reducible assumption | with_reducible refine below_set ?_ (by omega) _ | with_reducible refine Below.alloc ?_ (by first | omega | (simp; done) | (simp; omega)) _ | with_reducible refine Below.drew ?_ | with_reducible exact Below.refl _ _ | with_reducible refine below_two ?_ (by with_reducible assumption))
set_option maxHeartbeats 2000000 in
set_option maxRecDepth 100000 in
theorem rf_no (w : World) (s : ByteArray) (n : Nat) (ws : List (List UInt8)) (hws : ws.length = n) (g : Ans)
    (cp : ∀ wq, Calls Tryd.prog 54 #[.string s] wq (PiecesP ws wq)) (cg : ∀ wq b c, LT wq b 0 ws → Calls Tryd.prog 53 #[.slice (some ⟨b, 0, none⟩) n c] wq fun e w' => e = .returned g.v ∧ Below wq.heap.size wq w') (he : s.toList.isEmpty = false) (R : ByteArray) (cs : ∀ wq, Below w.heap.size w wq → Calls Tryd.prog 15 #[g.v] wq fun e w' => e = .returned (.string R) ∧ Below wq.heap.size wq w') (hq : (R.toList == s.toList) = false) (hq2 : (R.toList != s.toList) = true) :
    Calls Tryd.prog 26 #[.string s] w fun e w' => e = .returned (.tuple #[.agg #[.int .i64 0, .int .i64 0, .int .i64 0, .int .i64 0, .bool false, .string ⟨#[]⟩, .string ⟨#[]⟩], .int .i64 160]) ∧ Below w.heap.size w w' := by
  simp only [Ans.v] at cg cs
  go_enter Tryd.func26, Tryd.ntmps26
  go_wp2_with fail
  refine (cp _).mono ?_
  rintro e w1 ⟨b, c, rfl, hlt, hB1⟩
  have hz1 : w.heap.size < w1.heap.size := by have := hB1.size; simp at this; omega
  obtain ⟨hc1, hf1⟩ := bcell hB1
  rw [hws]
  go_wp2_with fail
  refine (cg _ _ _ hlt).mono ?_
  rintro e w2 ⟨rfl, hB2⟩
  obtain ⟨hc2, hf2⟩ := bcell hB2
  have hz2 : w.heap.size < w2.heap.size := by have := hB2.size; omega
  clear cp cg hws hlt
  go_upto_region 2 with (fail)
  generalize hW : w2.alloc (.cells #[.int .i64 g.op, .int .i64 g.err, .int .i64 g.n, .int .i64 g.off, .bool g.yes, .string g.key, .string g.elem] 24) = wz
  obtain ⟨hBz, hzz, z0, z1, z2, z3, z4, z5, z6⟩ := zfacts w2 g wz hW
  clear hW
  obtain ⟨hcz, hfz⟩ := bcell hBz
  have hz3 : w.heap.size < wz.heap.size := by omega
  go_wp2_with fail
  refine (cs _ ?_).mono ?_
  · repeat (first | with_reducible assumption | with_reducible refine below_set ?_ (by omega) _ | with_reducible refine Below.alloc ?_ (by first | omega | (simp; done) | (simp; omega)) _ | with_reducible refine Below.drew ?_ | with_reducible exact Below.refl _ _ | with_reducible refine below_two ?_ (by with_reducible assumption))
  rintro e w3 ⟨rfl, hB3⟩
  obtain ⟨hc3, hf3⟩ := bcell hB3
  have hz4 : w.heap.size < w3.heap.size := by have := hB3.size; omega
  have hz5 : w2.heap.size < w3.heap.size := by have := hB3.size; omega
  go_wp2
  refine bodyPost_ret (v := .tuple #[.agg #[.int .i64 0, .int .i64 0, .int .i64 0, .int .i64 0, .bool false, .string ⟨#[]⟩, .string ⟨#[]⟩], .int .i64 160]) ?res rfl ⟨rfl, ?_⟩
  case res =>
    refine results_cell_tmp (p := 2) (q := 3) (ty := 24) rfl _ _ w.heap.size 24 #[.int .i64 0, .int .i64 0, .int .i64 0, .int .i64 0, .bool false, .string ⟨#[]⟩, .string ⟨#[]⟩] (0, 0) _ _ rfl rfl ?_ Tryd.underlying24 rfl size24
    with_reducible refine Bx.full7 ?_ _ _ _ _ _ _ _
    repeat (first | with_reducible refine Bx.set ?_ _ _ | with_reducible refine Bx.setO ?_ _ _ (by omega) | with_reducible refine Bx.below ?_ (by with_reducible assumption) | with_reducible exact Bx.new _ _ _ _ rfl | with_reducible refine Bx.old ?_ _ | with_reducible refine Bx.drew ?_)
  repeat (first | with_reducible assumption | with_reducible refine below_set ?_ (by omega) _ | with_reducible refine Below.alloc ?_ (by first | omega | (simp; done) | (simp; omega)) _ | with_reducible refine Below.drew ?_ | with_reducible exact Below.refl _ _ | with_reducible refine below_two ?_ (by with_reducible assumption))
set_option maxHeartbeats 2000000 in
set_option maxRecDepth 100000 in
theorem rf_yes (w : World) (s : ByteArray) (n : Nat) (ws : List (List UInt8)) (hws : ws.length = n) (g : Ans)
    (cp : ∀ wq, Calls Tryd.prog 54 #[.string s] wq (PiecesP ws wq)) (cg : ∀ wq b c, LT wq b 0 ws → Calls Tryd.prog 53 #[.slice (some ⟨b, 0, none⟩) n c] wq fun e w' => e = .returned g.v ∧ Below wq.heap.size wq w') (he : s.toList.isEmpty = false) (R : ByteArray) (cs : ∀ wq, Below w.heap.size w wq → Calls Tryd.prog 15 #[g.v] wq fun e w' => e = .returned (.string R) ∧ Below wq.heap.size wq w') (hq : (R.toList == s.toList) = true) (hq2 : (R.toList != s.toList) = false) :
    Calls Tryd.prog 26 #[.string s] w fun e w' => e = .returned (.tuple #[.agg #[.int .i64 g.op, .int .i64 g.err, .int .i64 g.n, .int .i64 g.off, .bool g.yes, .string g.key, .string g.elem], .int .i64 0]) ∧ Below w.heap.size w w' := by
  simp only [Ans.v] at cg cs
  go_enter Tryd.func26, Tryd.ntmps26
  go_wp2_with fail
  refine (cp _).mono ?_
  rintro e w1 ⟨b, c, rfl, hlt, hB1⟩
  have hz1 : w.heap.size < w1.heap.size := by have := hB1.size; simp at this; omega
  obtain ⟨hc1, hf1⟩ := bcell hB1
  rw [hws]
  go_wp2_with fail
  refine (cg _ _ _ hlt).mono ?_
  rintro e w2 ⟨rfl, hB2⟩
  obtain ⟨hc2, hf2⟩ := bcell hB2
  have hz2 : w.heap.size < w2.heap.size := by have := hB2.size; omega
  clear cp cg hws hlt
  go_upto_region 2 with (fail)
  generalize hW : w2.alloc (.cells #[.int .i64 g.op, .int .i64 g.err, .int .i64 g.n, .int .i64 g.off, .bool g.yes, .string g.key, .string g.elem] 24) = wz
  obtain ⟨hBz, hzz, z0, z1, z2, z3, z4, z5, z6⟩ := zfacts w2 g wz hW
  clear hW
  obtain ⟨hcz, hfz⟩ := bcell hBz
  have hz3 : w.heap.size < wz.heap.size := by omega
  go_wp2_with fail
  refine (cs _ ?_).mono ?_
  · repeat (first | with_reducible assumption | with_reducible refine below_set ?_ (by omega) _ | with_reducible refine Below.alloc ?_ (by first | omega | (simp; done) | (simp; omega)) _ | with_reducible refine Below.drew ?_ | with_reducible exact Below.refl _ _ | with_reducible refine below_two ?_ (by with_reducible assumption))
  rintro e w3 ⟨rfl, hB3⟩
  obtain ⟨hc3, hf3⟩ := bcell hB3
  have hz4 : w.heap.size < w3.heap.size := by have := hB3.size; omega
  have hz5 : w2.heap.size < w3.heap.size := by have := hB3.size; omega
  go_wp2
  refine bodyPost_ret (v := .tuple #[.agg #[.int .i64 g.op, .int .i64 g.err, .int .i64 g.n, .int .i64 g.off, .bool g.yes, .string g.key, .string g.elem], .int .i64 0]) ?res rfl ⟨rfl, ?_⟩
  case res =>
    refine results_cell_tmp (p := 2) (q := 3) (ty := 24) rfl _ _ w.heap.size 24 #[.int .i64 g.op, .int .i64 g.err, .int .i64 g.n, .int .i64 g.off, .bool g.yes, .string g.key, .string g.elem] (0, 0) _ _ rfl rfl ?_ Tryd.underlying24 rfl size24
    with_reducible refine Bx.full7 ?_ _ _ _ _ _ _ _
    repeat (first | with_reducible refine Bx.set ?_ _ _ | with_reducible refine Bx.setO ?_ _ _ (by omega) | with_reducible refine Bx.below ?_ (by with_reducible assumption) | with_reducible exact Bx.new _ _ _ _ rfl | with_reducible refine Bx.old ?_ _ | with_reducible refine Bx.drew ?_)
  repeat (first | with_reducible assumption | with_reducible refine below_set ?_ (by omega) _ | with_reducible refine Below.alloc ?_ (by first | omega | (simp; done) | (simp; omega)) _ | with_reducible refine Below.drew ?_ | with_reducible exact Below.refl _ _ | with_reducible refine below_two ?_ (by with_reducible assumption))
theorem refread_walk (w : World) (hb : Bs w) (s : ByteArray) (hs : s.size ≤ 3000000) : Calls Tryd.prog 26 #[.string s] w (ReadR (refR s.data.toList) w) := by
  have hlen : s.data.toList.length = s.size := by rw [Array.length_toList]; rfl
  have hm := splitL_mem s.data.toList
  have hl := splitL_len s.data.toList
  have cp := fun wq => pieces_walk wq s hs
  have cg := fun wq b c (hlt : LT wq b 0 (splitL s.data.toList)) => guess_walk wq b c (splitL s.data.toList) (splitL_ne _) hlt (fun x hx => by have := hm x hx; omega) (by omega)
  have hsz : (guessP (splitL s.data.toList)).key.size ≤ 3000000 ∧ (guessP (splitL s.data.toList)).elem.size ≤ 3000000 ∧ In64 (guessP (splitL s.data.toList)).err ∧ In64 (guessP (splitL s.data.toList)).n ∧ In64 (guessP (splitL s.data.toList)).off := by
    cases h : splitL s.data.toList with
    | nil => exact absurd h (splitL_ne _)
    | cons x ws =>
      rw [h] at hm
      obtain ⟨a1, a2⟩ := guessR_size (opG x) ws 3000000 (fun y hy => by have := hm y (List.mem_cons_of_mem _ hy); omega)
      have hi := guessR_in (opG x) ws (by rcases opG_in x with h | h; exact ⟨by omega, by omega⟩; rw [h]; exact z64)
      exact ⟨a1, a2, hi.1, hi.2.1, hi.2.2.1⟩
  have cs := fun wq (hq : Below w.heap.size w wq) => ref_walk (guessP (splitL s.data.toList)) wq (hb.below hq).b3.base hsz.2.2.1 hsz.2.2.2.1 hsz.2.2.2.2 hsz.1 hsz.2.1
  have hbe := bytes_eq_iff s
  by_cases h0 : s.data.toList = []
  · have e : refR s.data.toList = none := by unfold refR; rw [if_pos (Or.inl h0)]
    rw [e]
    exact rf_empty w s _ _ rfl _ cp cg (by rw [← isEmpty_iff, h0]; rfl)
  · have he : s.toList.isEmpty = false := by rw [← isEmpty_iff]; simpa using h0
    have hB : ((B (showL (guessP (splitL s.data.toList)))).toList == s.toList) = decide (showL (guessP (splitL s.data.toList)) = s.data.toList) := by
      have := B_beq (showL (guessP (splitL s.data.toList))) s.data.toList
      rw [B_of] at this; exact this
    by_cases h1 : showL (guessP (splitL s.data.toList)) = s.data.toList
    · have e : refR s.data.toList = some (guessP (splitL s.data.toList)) := by
        unfold refR
        rw [if_neg (by rintro (h | h); exact h0 h; exact h h1)]
      rw [e]
      have hq := hB.trans (decide_eq_true h1)
      exact rf_yes w s _ _ rfl _ cp cg he _ cs hq (by rw [bne, hq]; rfl)
    · have e : refR s.data.toList = none := by unfold refR; rw [if_pos (Or.inr h1)]
      rw [e]
      have hq := hB.trans (decide_eq_false h1)
      exact rf_no w s _ _ rfl _ cp cg he _ cs hq (by rw [bne, hq]; rfl)
end Go.Proofs.YtigaacbaaopfmaaDoor.sh
