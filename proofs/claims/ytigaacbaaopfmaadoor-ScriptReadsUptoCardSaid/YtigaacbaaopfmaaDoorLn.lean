/- ScriptLine's function, walked: whatever the line, it answers true. -/
import Derived.Test.YtigaacbaaopfmaaDoorRy
import Derived.Test.YtigaacbaaopfmaaDoorPb
import Derived.Test.YtigaacbaaopfmaaDoorShR
namespace Go.Proofs.YtigaacbaaopfmaaDoor.sh
open Go.RowKit
set_option linter.unusedVariables false
theorem read_none (w : World) (hb : Bs w) (hr : Rowz w) (s : ByteArray) (hs : s.size ≤ 3000000) (h : readO s.data.toList = none) :
    Calls Tryd.prog 25 #[.string s] w fun e w' => e = .returned (.tuple #[(A0 0).v, .int .i64 160]) ∧ Below w.heap.size w w' := by
  have c := read_walk w hb hr s hs
  rw [h] at c
  refine c.mono ?_
  rintro e w' ⟨a, n, rfl, hB, rfl, rfl⟩
  exact ⟨rfl, hB⟩
theorem read_some (w : World) (hb : Bs w) (hr : Rowz w) (s : ByteArray) (hs : s.size ≤ 3000000) (a : Ans) (h : readO s.data.toList = some a) :
    Calls Tryd.prog 25 #[.string s] w fun e w' => e = .returned (.tuple #[a.v, .int .i64 0]) ∧ Below w.heap.size w w' := by
  have c := read_walk w hb hr s hs
  rw [h] at c
  refine c.mono ?_
  rintro e w' ⟨b, n, rfl, hB, rfl, rfl⟩
  exact ⟨rfl, hB⟩
abbrev lineA : ByteArray := ⟨#[110, 101, 120, 116, 32, 112, 97, 105, 114, 32, 54, 49, 32, 45]⟩
theorem lineA_read : readO lineA.data.toList = some { A0 9 with yes := true, key := ⟨#[97]⟩ } := by
  have h := read_show { A0 9 with yes := true, key := ⟨#[97]⟩ } ⟨z64, z64, z64⟩ ⟨by decide, by decide⟩
  have e : showL { A0 9 with yes := true, key := ⟨#[97]⟩ } = lineA.data.toList := by decide +kernel
  rw [e] at h
  exact h
theorem eq24_zero : ∀ W, (binOp .eql 24 (A0 0).v (A0 0).v).run Tryd.prog W = .ok (.bool true) W := fun _ => by kernel_rfl
set_option maxHeartbeats 2000000 in
set_option maxRecDepth 100000 in
theorem line_none (w : World) (hb : Bs w) (hr : Rowz w) (s : ByteArray) (hs : s.size ≤ 3000000) (h : readO s.data.toList = none) :
    Calls Tryd.prog 13 #[.string s] w fun e w' => e = .returned (.bool true) ∧ Below w.heap.size w w' := by
  have c1 := read_some w hb hr lineA (by decide) _ lineA_read
  have c2 := fun wq (hq : Below w.heap.size w wq) => read_none wq (hb.below hq) (hr.below hq) s hs h
  have heq := eq24_zero
  clear h
  simp only [Ans.v] at c1 c2 heq
  go_enter Tryd.func13, Tryd.ntmps13
  go_wp2_with fail
  refine c1.mono ?_
  rintro e w1 ⟨rfl, hB1⟩
  obtain ⟨hc1, hf1⟩ := bcell hB1
  go_wp2_with fail
  refine (c2 _ ?_).mono ?_
  · repeat (first | with_reducible assumption | with_reducible refine below_set ?_ (by omega) _ | with_reducible refine Below.alloc ?_ hB1.size _ | with_reducible refine Below.drew ?_ | with_reducible exact Below.refl _ _ | with_reducible refine below_two ?_ (by with_reducible assumption))
  rintro e w2 ⟨rfl, hB2⟩
  obtain ⟨hc2, hf2⟩ := bcell hB2
  have hz2 : w1.heap.size < w2.heap.size := by have := hB2.size; simp at this; omega
  go_wp2
  go_ret
  refine ⟨rfl, ?_⟩
  repeat (first | with_reducible assumption | with_reducible refine below_set ?_ hB1.size _ | with_reducible refine Below.alloc ?_ hB1.size _ | with_reducible refine Below.drew ?_ | with_reducible exact Below.refl _ _ | with_reducible refine below_two ?_ (by with_reducible assumption))
set_option maxHeartbeats 4000000 in
set_option maxRecDepth 100000 in
theorem line_some (w : World) (hb : Bs w) (hr : Rowz w) (s : ByteArray) (hs : s.size ≤ 3000000) (a : Ans) (h : readO s.data.toList = some a) :
    Calls Tryd.prog 13 #[.string s] w fun e w' => e = .returned (.bool true) ∧ Below w.heap.size w w' := by
  have c1 := read_some w hb hr lineA (by decide) _ lineA_read
  have c2 := fun wq (hq : Below w.heap.size w wq) => read_some wq (hb.below hq) (hr.below hq) s hs a h
  obtain ⟨hsh, _, _, i1, i2, i3, k1, k2⟩ := show_read h
  have hlen : s.data.toList.length = s.size := by rw [Array.length_toList]; rfl
  have c3 := fun wq (hq : Below w.heap.size w wq) => show_walk a wq (hb.below hq).b3.base i1 i2 i3 (by omega) (by omega)
  rw [hsh, B_of] at c3
  have heq : (s.toList == s.toList) = true := beq_iff_eq.2 rfl
  clear h hsh i1 i2 i3 k1 k2 hlen
  obtain ⟨op, err, n, off, yes, key, elem⟩ := a
  simp only [Ans.v] at c1 c2 c3
  go_enter Tryd.func13, Tryd.ntmps13
  go_wp2_with fail
  refine c1.mono ?_
  rintro e w1 ⟨rfl, hB1⟩
  obtain ⟨hc1, hf1⟩ := bcell hB1
  go_wp2_with fail
  refine (c2 _ ?_).mono ?_
  · repeat (first | with_reducible assumption | with_reducible refine below_set ?_ hB1.size _ | with_reducible refine Below.alloc ?_ hB1.size _ | with_reducible refine Below.drew ?_ | with_reducible exact Below.refl _ _ | with_reducible refine below_two ?_ (by with_reducible assumption))
  rintro e w2 ⟨rfl, hB2⟩
  obtain ⟨hc2, hf2⟩ := bcell hB2
  have hz2 : w1.heap.size < w2.heap.size := by have := hB2.size; simp at this; omega
  go_wp2_with fail
  refine (c3 _ ?_).mono ?_
  · repeat (first | with_reducible assumption | with_reducible refine below_set ?_ hB1.size _ | with_reducible refine Below.alloc ?_ hB1.size _ | with_reducible refine Below.drew ?_ | with_reducible exact Below.refl _ _ | with_reducible refine below_two ?_ (by with_reducible assumption))
  rintro e w3 ⟨rfl, hB3⟩
  go_wp2
  go_ret
  refine ⟨rfl, ?_⟩
  repeat (first | with_reducible assumption | with_reducible refine below_set ?_ hB1.size _ | with_reducible refine Below.alloc ?_ hB1.size _ | with_reducible refine Below.drew ?_ | with_reducible exact Below.refl _ _ | with_reducible refine below_two ?_ (by with_reducible assumption))
theorem line_walk (w : World) (hb : Bs w) (hr : Rowz w) (s : ByteArray) (hs : s.size ≤ 3000000) :
    Calls Tryd.prog 13 #[.string s] w fun e w' => e = .returned (.bool true) ∧ Below w.heap.size w w' := by
  cases h : readO s.data.toList with
  | none => exact line_none w hb hr s hs h
  | some a => exact line_some w hb hr s hs a h
end Go.Proofs.YtigaacbaaopfmaaDoor.sh
