/- ScriptReads' function, walked: whatever the line, it answers true. -/
import Derived.Test.YtigaacbaaopfmaaDoorRf
import Derived.Test.YtigaacbaaopfmaaDoorEq
namespace Go.Proofs.YtigaacbaaopfmaaDoor.sh
open Go.RowKit
set_option linter.unusedVariables false
theorem read_R (w : World) (hb : Bs w) (hr : Rowz w) (s : ByteArray) (hs : s.size ≤ 3000000) : Calls Tryd.prog 25 #[.string s] w (ReadR (readO s.data.toList) w) := by
  cases h : readO s.data.toList with
  | none => exact read_none w hb hr s hs h
  | some a => exact read_some w hb hr s hs a h
set_option maxHeartbeats 4000000 in
set_option maxRecDepth 100000 in
theorem reads_in (w : World) (s : ByteArray) (x : Ans) (n : Int)
    (c1 : ∀ wq, Below w.heap.size w wq → Calls Tryd.prog 25 #[.string s] wq fun e w' => e = .returned (.tuple #[x.v, .int .i64 n]) ∧ Below wq.heap.size wq w')
    (c2 : ∀ wq, Below w.heap.size w wq → Calls Tryd.prog 26 #[.string s] wq fun e w' => e = .returned (.tuple #[x.v, .int .i64 n]) ∧ Below wq.heap.size wq w')
    (heq : ∀ W, (binOp .eql 24 x.v x.v).run Tryd.prog W = .ok (.bool true) W) :
    Calls Tryd.prog 11 #[.string s] w fun e w' => e = .returned (.bool true) ∧ Below w.heap.size w w' := by
  simp only [Ans.v] at c1 c2 heq
  go_enter Tryd.func11, Tryd.ntmps11
  go_wp2_with fail
  refine (c1 _ (Below.refl _ _)).mono ?_
  rintro e w1 ⟨rfl, hB1⟩
  obtain ⟨hc1, hf1⟩ := bcell hB1
  go_wp2_with fail
  refine (c2 _ ?_).mono ?_
  · repeat (first | with_reducible assumption | with_reducible refine below_set ?_ (by omega) _ | with_reducible refine Below.alloc ?_ (by first | exact hB1.size | omega | (simp; done) | (simp; omega)) _ | with_reducible refine Below.drew ?_ | with_reducible exact Below.refl _ _ | with_reducible refine below_two ?_ (by with_reducible assumption))
  rintro e w2 ⟨rfl, hB2⟩
  obtain ⟨hc2, hf2⟩ := bcell hB2
  have hz2 : w1.heap.size < w2.heap.size := by have := hB2.size; simp at this; omega
  have hz1 := hB1.size
  go_wp2
  go_ret
  refine ⟨rfl, ?_⟩
  repeat (first | with_reducible assumption | with_reducible refine below_set ?_ (by omega) _ | with_reducible refine Below.alloc ?_ (by first | exact hB1.size | omega | (simp; done) | (simp; omega)) _ | with_reducible refine Below.drew ?_ | with_reducible exact Below.refl _ _ | with_reducible refine below_two ?_ (by with_reducible assumption))
theorem reads_walk (w : World) (hb : Bs w) (hr : Rowz w) (s : ByteArray) (hs : s.size ≤ 3000000) : Calls Tryd.prog 11 #[.string s] w fun e w' => e = .returned (.bool true) ∧ Below w.heap.size w w' := by
  refine reads_in w s ((readO s.data.toList).getD (A0 0)) (if (readO s.data.toList).isSome then 0 else 160) (fun wq hq => read_R wq (hb.below hq) (hr.below hq) s hs) (fun wq hq => ?_) (fun W => by rw [eq24, (beqA_iff _ _).2 rfl])
  have c := refread_walk wq (hb.below hq) s hs
  rw [ref_read] at c
  exact c
end Go.Proofs.YtigaacbaaopfmaaDoor.sh
