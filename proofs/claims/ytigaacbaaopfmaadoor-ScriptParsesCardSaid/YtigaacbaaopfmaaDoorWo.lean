/- The program's word: walked. -/
import Derived.Test.YtigaacbaaopfmaaDoorPx
namespace Go.Proofs.YtigaacbaaopfmaaDoor.sh
open Go.RowKit
set_option linter.unusedVariables false
/-- A word's text: its value and the error. -/
def wordP (l : List UInt8) : Nat × Int :=
  if allD (Lib.hasPrefix l [48, 120]) (Lib.trimPrefix l [48, 120]) = true then
    (if val (Lib.hasPrefix l [48, 120]) (Lib.trimPrefix l [48, 120]) ≤ 18446744073709551615 then (val (Lib.hasPrefix l [48, 120]) (Lib.trimPrefix l [48, 120]), 0) else (0, 161))
  else (0, 160)
theorem B_data0 (l : List UInt8) : (B l).data.toList = l := rfl
theorem word_bad (w : World) (s t : ByteArray) (p : Bool) (hst : p = false → t = s)
    (cc : ∀ wq, Calls Tryd.prog 95 #[.string s, .string ⟨#[48, 120]⟩] wq fun e w' => e = .returned (.tuple #[.string t, .bool p]) ∧ w' = wq)
    (ca : Calls Tryd.prog 92 #[.string t, .int .i64 (base p)] w fun e w' => e = .returned (.bool false) ∧ Below w.heap.size w w') :
    Calls Tryd.prog 79 #[.string s] w fun e w' => e = .returned (.tuple #[.int .u64 0, .int .i64 160]) ∧ Below w.heap.size w w' := by
  cases p
  · obtain rfl := hst rfl
    have ca : Calls Tryd.prog 92 #[.string t, .int .i64 10] w fun e w' => e = .returned (.bool false) ∧ Below w.heap.size w w' := ca
    clear hst
    go_enter Tryd.func79, Tryd.ntmps79
    go_wp2_with (first
      | (go_at_call 95; (with_reducible refine (cc _).mono ?_); rintro e w1 ⟨rfl, rfl⟩)
      | (go_at_call 92; (with_reducible refine ca.mono ?_); rintro e w1 ⟨rfl, hB⟩))
    go_ret2
    exact ⟨rfl, hB⟩
  · have ca : Calls Tryd.prog 92 #[.string t, .int .i64 16] w fun e w' => e = .returned (.bool false) ∧ Below w.heap.size w w' := ca
    clear hst
    go_enter Tryd.func79, Tryd.ntmps79
    go_wp2_with (first
      | (go_at_call 95; (with_reducible refine (cc _).mono ?_); rintro e w1 ⟨rfl, rfl⟩)
      | (go_at_call 92; (with_reducible refine ca.mono ?_); rintro e w1 ⟨rfl, hB⟩))
    go_ret2
    exact ⟨rfl, hB⟩
theorem word_ok (w : World) (s t : ByteArray) (p : Bool) (hst : p = false → t = s) (V : Int) (h0 : 0 ≤ V) (h1 : V ≤ 18446744073709551615)
    (cc : ∀ wq, Calls Tryd.prog 95 #[.string s, .string ⟨#[48, 120]⟩] wq fun e w' => e = .returned (.tuple #[.string t, .bool p]) ∧ w' = wq)
    (ca : Calls Tryd.prog 92 #[.string t, .int .i64 (base p)] w fun e w' => e = .returned (.bool true) ∧ Below w.heap.size w w')
    (cu : ∀ wq, Calls Tryd.prog 96 #[.string t, .int .i64 (base p), .int .i64 64] wq fun e w' => e = .returned (.tuple #[.int .u64 V, .nilIface]) ∧ Below wq.heap.size wq w') :
    Calls Tryd.prog 79 #[.string s] w fun e w' => e = .returned (.tuple #[.int .u64 V, .int .i64 0]) ∧ Below w.heap.size w w' := by
  cases p
  · obtain rfl := hst rfl
    have ca : Calls Tryd.prog 92 #[.string t, .int .i64 10] w fun e w' => e = .returned (.bool true) ∧ Below w.heap.size w w' := ca
    have cu : ∀ wq, Calls Tryd.prog 96 #[.string t, .int .i64 10, .int .i64 64] wq fun e w' => e = .returned (.tuple #[.int .u64 V, .nilIface]) ∧ Below wq.heap.size wq w' := cu
    clear hst
    go_enter Tryd.func79, Tryd.ntmps79
    go_wp2_with (first
      | (go_at_call 95; (with_reducible refine (cc _).mono ?_); rintro e w1 ⟨rfl, rfl⟩)
      | (go_at_call 92; (with_reducible refine ca.mono ?_); rintro e w1 ⟨rfl, hB⟩)
      | (go_at_call 96; (with_reducible refine (cu _).mono ?_); rintro e w2 ⟨rfl, hB2⟩))
    go_ret2
    exact ⟨rfl, below_next hB hB2⟩
  · have ca : Calls Tryd.prog 92 #[.string t, .int .i64 16] w fun e w' => e = .returned (.bool true) ∧ Below w.heap.size w w' := ca
    have cu : ∀ wq, Calls Tryd.prog 96 #[.string t, .int .i64 16, .int .i64 64] wq fun e w' => e = .returned (.tuple #[.int .u64 V, .nilIface]) ∧ Below wq.heap.size wq w' := cu
    clear hst
    go_enter Tryd.func79, Tryd.ntmps79
    go_wp2_with (first
      | (go_at_call 95; (with_reducible refine (cc _).mono ?_); rintro e w1 ⟨rfl, rfl⟩)
      | (go_at_call 92; (with_reducible refine ca.mono ?_); rintro e w1 ⟨rfl, hB⟩)
      | (go_at_call 96; (with_reducible refine (cu _).mono ?_); rintro e w2 ⟨rfl, hB2⟩))
    go_ret2
    exact ⟨rfl, below_next hB hB2⟩
theorem word_no (w : World) (s t : ByteArray) (p : Bool) (hst : p = false → t = s)
    (cc : ∀ wq, Calls Tryd.prog 95 #[.string s, .string ⟨#[48, 120]⟩] wq fun e w' => e = .returned (.tuple #[.string t, .bool p]) ∧ w' = wq)
    (ca : Calls Tryd.prog 92 #[.string t, .int .i64 (base p)] w fun e w' => e = .returned (.bool true) ∧ Below w.heap.size w w')
    (cu : ∀ wq, Below w.heap.size w wq → Calls Tryd.prog 96 #[.string t, .int .i64 (base p), .int .i64 64] wq (Errs (.int .u64 18446744073709551615) wq)) :
    Calls Tryd.prog 79 #[.string s] w fun e w' => e = .returned (.tuple #[.int .u64 0, .int .i64 161]) ∧ Below w.heap.size w w' := by
  cases p
  · obtain rfl := hst rfl
    have ca : Calls Tryd.prog 92 #[.string t, .int .i64 10] w fun e w' => e = .returned (.bool true) ∧ Below w.heap.size w w' := ca
    have cu : ∀ wq, Below w.heap.size w wq → Calls Tryd.prog 96 #[.string t, .int .i64 10, .int .i64 64] wq (Errs (.int .u64 18446744073709551615) wq) := cu
    clear hst
    go_enter Tryd.func79, Tryd.ntmps79
    go_wp2_with (first
      | (go_at_call 95; (with_reducible refine (cc _).mono ?_); rintro e w1 ⟨rfl, rfl⟩)
      | (go_at_call 92; (with_reducible refine ca.mono ?_); rintro e w1 ⟨rfl, hB⟩)
      | (go_at_call 96; (with_reducible refine (cu _ hB).mono ?_); rintro e w2 ⟨pp, rfl, hB2⟩))
    go_ret2
    exact ⟨rfl, below_next hB hB2⟩
  · have ca : Calls Tryd.prog 92 #[.string t, .int .i64 16] w fun e w' => e = .returned (.bool true) ∧ Below w.heap.size w w' := ca
    have cu : ∀ wq, Below w.heap.size w wq → Calls Tryd.prog 96 #[.string t, .int .i64 16, .int .i64 64] wq (Errs (.int .u64 18446744073709551615) wq) := cu
    clear hst
    go_enter Tryd.func79, Tryd.ntmps79
    go_wp2_with (first
      | (go_at_call 95; (with_reducible refine (cc _).mono ?_); rintro e w1 ⟨rfl, rfl⟩)
      | (go_at_call 92; (with_reducible refine ca.mono ?_); rintro e w1 ⟨rfl, hB⟩)
      | (go_at_call 96; (with_reducible refine (cu _ hB).mono ?_); rintro e w2 ⟨pp, rfl, hB2⟩))
    go_ret2
    exact ⟨rfl, below_next hB hB2⟩
theorem word_walk' (w : World) (hb : Bs w) (s : ByteArray) (hs : s.size ≤ 3000000) :
    Calls Tryd.prog 79 #[.string s] w fun e w' => e = .returned (.tuple #[.int .u64 ((wordP s.data.toList).1 : Nat), .int .i64 (wordP s.data.toList).2]) ∧ Below w.heap.size w w' := by
  have cc : ∀ wq, Calls Tryd.prog 95 #[.string s, .string ⟨#[48, 120]⟩] wq fun e w' => e = .returned (.tuple #[.string (B (Lib.trimPrefix s.data.toList [48, 120])), .bool (Lib.hasPrefix s.data.toList [48, 120])]) ∧ w' = wq := fun wq => Tryd.strings_CutPrefix s ⟨#[48, 120]⟩ wq
  have hlen : s.data.toList.length = s.size := by rw [Array.length_toList]; rfl
  have ht := Lib.trimPrefix_le s.data.toList [48, 120]
  have hst : Lib.hasPrefix s.data.toList [48, 120] = false → B (Lib.trimPrefix s.data.toList [48, 120]) = s := fun h => by
    unfold Lib.trimPrefix
    rw [if_neg (by rw [h]; exact Bool.false_ne_true), B_of]
  unfold wordP
  generalize Lib.hasPrefix s.data.toList [48, 120] = p at cc hst ⊢
  generalize Lib.trimPrefix s.data.toList [48, 120] = t at cc hst ht ⊢
  have hts : (B t).size ≤ 3000000 := by rw [B_size]; omega
  have ca := all_walk w (B t) p hts
  rw [B_data0] at ca
  by_cases hd : allD p t = true
  · rw [if_pos hd]
    rw [hd] at ca
    by_cases hv : val p t ≤ 18446744073709551615
    · rw [if_pos hv]
      exact word_ok w s (B t) p hst _ (by omega) (by omega) cc ca (fun wq => parseUint_ok wq p (B t) (by rw [B_data0]; exact hd) hts (val p t) (by rw [B_data0]) hv)
    · rw [if_neg hv]
      exact word_no w s (B t) p hst cc ca (fun wq hq => parseUint_no wq (hb.below hq) p (B t) (by rw [B_data0]; exact hd) hts (by rw [B_data0]; exact hv))
  · rw [if_neg hd]
    rw [show allD p t = false by simpa using hd] at ca
    exact word_bad w s (B t) p hst cc ca
end Go.Proofs.YtigaacbaaopfmaaDoor.sh
