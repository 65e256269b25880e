import Derived.Test.YtigaacbaaopfmaaDoorMb
import Derived.Test.YtigaacbaaopfmaaDoorMc
import Derived.Lib.OthersKept
set_option linter.unusedSimpArgs false
/- The program's word: walked. -/
namespace Go.Proofs.YtigaacbaaopfmaaDoor.sh
open Go.RowKit
set_option linter.unusedVariables false
/-- A word's text: its value and the error. -/
def wordP (l : List UInt8) : Nat × Int :=
  if allD (Lib.hasPrefix l [48, 120]) (Lib.trimPrefix l [48, 120]) = true then
    (if val (Lib.hasPrefix l [48, 120]) (Lib.trimPrefix l [48, 120]) ≤ 18446744073709551615 then (val (Lib.hasPrefix l [48, 120]) (Lib.trimPrefix l [48, 120]), 0) else (0, 161))
  else (0, 160)
theorem B_data0 (l : List UInt8) : (B l).data.toList = l := rfl
theorem word_bad (w : World) (s t : ByteArray) (p : Bool) (hst : p = false → t = s)
    (cc : ∀ wq, Calls Tryd.prog 95 #[.string s, .string ⟨#[48, 120]⟩] wq fun e w' => e = .returned (.tuple #[.string t, .bool p]) ∧ w' = wq)
    (ca : Calls Tryd.prog 92 #[.string t, .int .i64 (base p)] w fun e w' => e = .returned (.bool false) ∧ Below w.heap.size w w') :
    Calls Tryd.prog 79 #[.string s] w fun e w' => e = .returned (.tuple #[.int .u64 0, .int .i64 160]) ∧ Below w.heap.size w w' := by
  cases p
  · obtain rfl := hst rfl
    have ca : Calls Tryd.prog 92 #[.string t, .int .i64 10] w fun e w' => e = .returned (.bool false) ∧ Below w.heap.size w w' := ca
    clear hst
    go_enter Tryd.func79, Tryd.ntmps79
    go_wp2_with (first
      | (go_at_call 95; (with_reducible refine (cc _).mono ?_); rintro e w1 ⟨rfl, rfl⟩)
      | (go_at_call 92; (with_reducible refine ca.mono ?_); rintro e w1 ⟨rfl, hB⟩))
    go_ret2
    exact ⟨rfl, hB⟩
  · have ca : Calls Tryd.prog 92 #[.string t, .int .i64 16] w fun e w' => e = .returned (.bool false) ∧ Below w.heap.size w w' := ca
    clear hst
    go_enter Tryd.func79, Tryd.ntmps79
    go_wp2_with (first
      | (go_at_call 95; (with_reducible refine (cc _).mono ?_); rintro e w1 ⟨rfl, rfl⟩)
      | (go_at_call 92; (with_reducible refine ca.mono ?_); rintro e w1 ⟨rfl, hB⟩))
    go_ret2
    exact ⟨rfl, hB⟩
theorem word_ok (w : World) (s t : ByteArray) (p : Bool) (hst : p = false → t = s) (V : Int) (h0 : 0 ≤ V) (h1 : V ≤ 18446744073709551615)
    (cc : ∀ wq, Calls Tryd.prog 95 #[.string s, .string ⟨#[48, 120]⟩] wq fun e w' => e = .returned (.tuple #[.string t, .bool p]) ∧ w' = wq)
    (ca : Calls Tryd.prog 92 #[.string t, .int .i64 (base p)] w fun e w' => e = .returned (.bool true) ∧ Below w.heap.size w w')
    (cu : ∀ wq, Calls Tryd.prog 96 #[.string t, .int .i64 (base p), .int .i64 64] wq fun e w' => e = .returned (.tuple #[.int .u64 V, .nilIface]) ∧ Below wq.heap.size wq w') :
    Calls Tryd.prog 79 #[.string s] w fun e w' => e = .returned (.tuple #[.int .u64 V, .int .i64 0]) ∧ Below w.heap.size w w' := by
  cases p
  · obtain rfl := hst rfl
    have ca : Calls Tryd.prog 92 #[.string t, .int .i64 10] w fun e w' => e = .returned (.bool true) ∧ Below w.heap.size w w' := ca
    have cu : ∀ wq, Calls Tryd.prog 96 #[.string t, .int .i64 10, .int .i64 64] wq fun e w' => e = .returned (.tuple #[.int .u64 V, .nilIface]) ∧ Below wq.heap.size wq w' := cu
    clear hst
    go_enter Tryd.func79, Tryd.ntmps79
    go_wp2_with (first
      | (go_at_call 95; (with_reducible refine (cc _).mono ?_); rintro e w1 ⟨rfl, rfl⟩)
      | (go_at_call 92; (with_reducible refine ca.mono ?_); rintro e w1 ⟨rfl, hB⟩)
      | (go_at_call 96; (with_reducible refine (cu _).mono ?_); rintro e w2 ⟨rfl, hB2⟩))
    go_ret2
    exact ⟨rfl, below_next hB hB2⟩
  · have ca : Calls Tryd.prog 92 #[.string t, .int .i64 16] w fun e w' => e = .returned (.bool true) ∧ Below w.heap.size w w' := ca
    have cu : ∀ wq, Calls Tryd.prog 96 #[.string t, .int .i64 16, .int .i64 64] wq fun e w' => e = .returned (.tuple #[.int .u64 V, .nilIface]) ∧ Below wq.heap.size wq w' := cu
    clear hst
    go_enter Tryd.func79, Tryd.ntmps79
    go_wp2_with (first
      | (go_at_call 95; (with_reducible refine (cc _).mono ?_); rintro e w1 ⟨rfl, rfl⟩)
      | (go_at_call 92; (with_reducible refine ca.mono ?_); rintro e w1 ⟨rfl, hB⟩)
      | (go_at_call 96; (with_reducible refine (cu _).mono ?_); rintro e w2 ⟨rfl, hB2⟩))
    go_ret2
    exact ⟨rfl, below_next hB hB2⟩
theorem word_no (w : World) (s t : ByteArray) (p : Bool) (hst : p = false → t = s)
    (cc : ∀ wq, Calls Tryd.prog 95 #[.string s, .string ⟨#[48, 120]⟩] wq fun e w' => e = .returned (.tuple #[.string t, .bool p]) ∧ w' = wq)
    (ca : Calls Tryd.prog 92 #[.string t, .int .i64 (base p)] w fun e w' => e = .returned (.bool true) ∧ Below w.heap.size w w')
    (cu : ∀ wq, Below w.heap.size w wq → Calls Tryd.prog 96 #[.string t, .int .i64 (base p), .int .i64 64] wq (Errs (.int .u64 18446744073709551615) wq)) :
    Calls Tryd.prog 79 #[.string s] w fun e w' => e = .returned (.tuple #[.int .u64 0, .int .i64 161]) ∧ Below w.heap.size w w' := by
  cases p
  · obtain rfl := hst rfl
    have ca : Calls Tryd.prog 92 #[.string t, .int .i64 10] w fun e w' => e = .returned (.bool true) ∧ Below w.heap.size w w' := ca
    have cu : ∀ wq, Below w.heap.size w wq → Calls Tryd.prog 96 #[.string t, .int .i64 10, .int .i64 64] wq (Errs (.int .u64 18446744073709551615) wq) := cu
    clear hst
    go_enter Tryd.func79, Tryd.ntmps79
    go_wp2_with (first
      | (go_at_call 95; (with_reducible refine (cc _).mono ?_); rintro e w1 ⟨rfl, rfl⟩)
      | (go_at_call 92; (with_reducible refine ca.mono ?_); rintro e w1 ⟨rfl, hB⟩)
      | (go_at_call 96; (with_reducible refine (cu _ hB).mono ?_); rintro e w2 ⟨pp, rfl, hB2⟩))
    go_ret2
    exact ⟨rfl, below_next hB hB2⟩
  · have ca : Calls Tryd.prog 92 #[.string t, .int .i64 16] w fun e w' => e = .returned (.bool true) ∧ Below w.heap.size w w' := ca
    have cu : ∀ wq, Below w.heap.size w wq → Calls Tryd.prog 96 #[.string t, .int .i64 16, .int .i64 64] wq (Errs (.int .u64 18446744073709551615) wq) := cu
    clear hst
    go_enter Tryd.func79, Tryd.ntmps79
    go_wp2_with (first
      | (go_at_call 95; (with_reducible refine (cc _).mono ?_); rintro e w1 ⟨rfl, rfl⟩)
      | (go_at_call 92; (with_reducible refine ca.mono ?_); rintro e w1 ⟨rfl, hB⟩)
      | (go_at_call 96; (with_reducible refine (cu _ hB).mono ?_); rintro e w2 ⟨pp, rfl, hB2⟩))
    go_ret2
    exact ⟨rfl, below_next hB hB2⟩
theorem word_walk' (w : World) (hb : Bs w) (s : ByteArray) (hs : s.size ≤ 3000000) :
    Calls Tryd.prog 79 #[.string s] w fun e w' => e = .returned (.tuple #[.int .u64 ((wordP s.data.toList).1 : Nat), .int .i64 (wordP s.data.toList).2]) ∧ Below w.heap.size w w' := by
  have cc : ∀ wq, Calls Tryd.prog 95 #[.string s, .string ⟨#[48, 120]⟩] wq fun e w' => e = .returned (.tuple #[.string (B (Lib.trimPrefix s.data.toList [48, 120])), .bool (Lib.hasPrefix s.data.toList [48, 120])]) ∧ w' = wq := fun wq => Tryd.strings_CutPrefix s ⟨#[48, 120]⟩ wq
  have hlen : s.data.toList.length = s.size := by rw [Array.length_toList]; rfl
  have ht := Lib.trimPrefix_le s.data.toList [48, 120]
  have hst : Lib.hasPrefix s.data.toList [48, 120] = false → B (Lib.trimPrefix s.data.toList [48, 120]) = s := fun h => by
    unfold Lib.trimPrefix
    rw [if_neg (by rw [h]; exact Bool.false_ne_true), B_of]
  unfold wordP
  generalize Lib.hasPrefix s.data.toList [48, 120] = p at cc hst ⊢
  generalize Lib.trimPrefix s.data.toList [48, 120] = t at cc hst ht ⊢
  have hts : (B t).size ≤ 3000000 := by rw [B_size]; omega
  have ca := all_walk w (B t) p hts
  rw [B_data0] at ca
  by_cases hd : allD p t = true
  · rw [if_pos hd]
    rw [hd] at ca
    by_cases hv : val p t ≤ 18446744073709551615
    · rw [if_pos hv]
      exact word_ok w s (B t) p hst _ (by omega) (by omega) cc ca (fun wq => parseUint_ok wq p (B t) (by rw [B_data0]; exact hd) hts (val p t) (by rw [B_data0]) hv)
    · rw [if_neg hv]
      exact word_no w s (B t) p hst cc ca (fun wq hq => parseUint_no wq (hb.below hq) p (B t) (by rw [B_data0]; exact hd) hts (by rw [B_data0]; exact hv))
  · rw [if_neg hd]
    rw [show allD p t = false by simpa using hd] at ca
    exact word_bad w s (B t) p hst cc ca
end Go.Proofs.YtigaacbaaopfmaaDoor.sh
/- The document's digits: walked. -/
namespace Go.Proofs.YtigaacbaaopfmaaDoor.sh
open Go.RowKit
set_option linter.unusedVariables false
/-- A digit's value to the base; -1: it is none. -/
def digV (b : Bool) (c : UInt8) : Int := if isD b c = true then (hv c : Int) else -1
set_option maxHeartbeats 2000000 in
set_option maxRecDepth 100000 in
theorem digd_lo (w : World) (c : Nat) (h : c < 48) (h8 : c < 256) : Calls Tryd.prog 86 #[.int .u8 (c : Int), .int .i64 10] w fun e w' => e = .returned (.int .i64 (-1)) ∧ w = w' := by
  have k0 : ¬ (48 : Int) ≤ c := by omega
  have k1 : ¬ (97 : Int) ≤ c := by omega
  have k2 : ¬ (65 : Int) ≤ c := by omega
  have k8 : (c : Int) ≤ 255 := by omega
  clear h h8
  go_enter Tryd.func86, Tryd.ntmps86
  go_wp2
  go_ret
  exact ⟨rfl, rfl⟩
set_option maxHeartbeats 2000000 in
set_option maxRecDepth 100000 in
theorem digd_dg (w : World) (c : Nat) (h : 48 ≤ c ∧ c ≤ 57) (h8 : c < 256) : Calls Tryd.prog 86 #[.int .u8 (c : Int), .int .i64 10] w fun e w' => e = .returned (.int .i64 ((c : Int) - 48)) ∧ w = w' := by
  have k0 : (48 : Int) ≤ c := by omega
  have k1 : (c : Int) ≤ 57 := by omega
  have k2 : ¬ (97 : Int) ≤ c := by omega
  have k3 : ¬ (65 : Int) ≤ c := by omega
  have k8 : (c : Int) ≤ 255 := by omega
  have k9 : ¬ (10 : Int) ≤ (c : Int) - 48 := by omega
  clear h h8
  go_enter Tryd.func86, Tryd.ntmps86
  go_wp2
  go_ret
  exact ⟨rfl, rfl⟩
set_option maxHeartbeats 2000000 in
set_option maxRecDepth 100000 in
theorem digd_m1 (w : World) (c : Nat) (h : 57 < c ∧ c < 65) (h8 : c < 256) : Calls Tryd.prog 86 #[.int .u8 (c : Int), .int .i64 10] w fun e w' => e = .returned (.int .i64 (-1)) ∧ w = w' := by
  have k0 : (48 : Int) ≤ c := by omega
  have k1 : ¬ (c : Int) ≤ 57 := by omega
  have k2 : ¬ (97 : Int) ≤ c := by omega
  have k3 : ¬ (65 : Int) ≤ c := by omega
  have k8 : (c : Int) ≤ 255 := by omega
  clear h h8
  go_enter Tryd.func86, Tryd.ntmps86
  go_wp2
  go_ret
  exact ⟨rfl, rfl⟩
set_option maxHeartbeats 2000000 in
set_option maxRecDepth 100000 in
theorem digd_up (w : World) (c : Nat) (h : 65 ≤ c ∧ c ≤ 70) (h8 : c < 256) : Calls Tryd.prog 86 #[.int .u8 (c : Int), .int .i64 10] w fun e w' => e = .returned (.int .i64 (-1)) ∧ w = w' := by
  have k0 : (48 : Int) ≤ c := by omega
  have k1 : ¬ (c : Int) ≤ 57 := by omega
  have k2 : ¬ (97 : Int) ≤ c := by omega
  have k3 : (65 : Int) ≤ c := by omega
  have k4 : (c : Int) ≤ 70 := by omega
  have k8 : (c : Int) ≤ 255 := by omega
  have k9 :  (10 : Int) ≤ (c : Int) - 65 + 10 := by omega
  clear h h8
  go_enter Tryd.func86, Tryd.ntmps86
  go_wp2
  go_ret
  exact ⟨rfl, rfl⟩
set_option maxHeartbeats 2000000 in
set_option maxRecDepth 100000 in
theorem digd_m2 (w : World) (c : Nat) (h : 70 < c ∧ c < 97) (h8 : c < 256) : Calls Tryd.prog 86 #[.int .u8 (c : Int), .int .i64 10] w fun e w' => e = .returned (.int .i64 (-1)) ∧ w = w' := by
  have k0 : (48 : Int) ≤ c := by omega
  have k1 : ¬ (c : Int) ≤ 57 := by omega
  have k2 : ¬ (97 : Int) ≤ c := by omega
  have k3 : (65 : Int) ≤ c := by omega
  have k4 : ¬ (c : Int) ≤ 70 := by omega
  have k8 : (c : Int) ≤ 255 := by omega
  clear h h8
  go_enter Tryd.func86, Tryd.ntmps86
  go_wp2
  go_ret
  exact ⟨rfl, rfl⟩
set_option maxHeartbeats 2000000 in
set_option maxRecDepth 100000 in
theorem digd_dn (w : World) (c : Nat) (h : 97 ≤ c ∧ c ≤ 102) (h8 : c < 256) : Calls Tryd.prog 86 #[.int .u8 (c : Int), .int .i64 10] w fun e w' => e = .returned (.int .i64 (-1)) ∧ w = w' := by
  have k0 : (48 : Int) ≤ c := by omega
  have k1 : ¬ (c : Int) ≤ 57 := by omega
  have k2 : (97 : Int) ≤ c := by omega
  have k3 : (c : Int) ≤ 102 := by omega
  have k4 : (65 : Int) ≤ c := by omega
  have k5 : ¬ (c : Int) ≤ 70 := by omega
  have k8 : (c : Int) ≤ 255 := by omega
  have k9 :  (10 : Int) ≤ (c : Int) - 97 + 10 := by omega
  clear h h8
  go_enter Tryd.func86, Tryd.ntmps86
  go_wp2
  go_ret
  exact ⟨rfl, rfl⟩
set_option maxHeartbeats 2000000 in
set_option maxRecDepth 100000 in
theorem digd_hi (w : World) (c : Nat) (h : 102 < c) (h8 : c < 256) : Calls Tryd.prog 86 #[.int .u8 (c : Int), .int .i64 10] w fun e w' => e = .returned (.int .i64 (-1)) ∧ w = w' := by
  have k0 : (48 : Int) ≤ c := by omega
  have k1 : ¬ (c : Int) ≤ 57 := by omega
  have k2 : (97 : Int) ≤ c := by omega
  have k3 : ¬ (c : Int) ≤ 102 := by omega
  have k4 : (65 : Int) ≤ c := by omega
  have k5 : ¬ (c : Int) ≤ 70 := by omega
  have k8 : (c : Int) ≤ 255 := by omega
  clear h h8
  go_enter Tryd.func86, Tryd.ntmps86
  go_wp2
  go_ret
  exact ⟨rfl, rfl⟩
set_option maxHeartbeats 2000000 in
set_option maxRecDepth 100000 in
theorem digh_lo (w : World) (c : Nat) (h : c < 48) (h8 : c < 256) : Calls Tryd.prog 86 #[.int .u8 (c : Int), .int .i64 16] w fun e w' => e = .returned (.int .i64 (-1)) ∧ w = w' := by
  have k0 : ¬ (48 : Int) ≤ c := by omega
  have k1 : ¬ (97 : Int) ≤ c := by omega
  have k2 : ¬ (65 : Int) ≤ c := by omega
  have k8 : (c : Int) ≤ 255 := by omega
  clear h h8
  go_enter Tryd.func86, Tryd.ntmps86
  go_wp2
  go_ret
  exact ⟨rfl, rfl⟩
set_option maxHeartbeats 2000000 in
set_option maxRecDepth 100000 in
theorem digh_dg (w : World) (c : Nat) (h : 48 ≤ c ∧ c ≤ 57) (h8 : c < 256) : Calls Tryd.prog 86 #[.int .u8 (c : Int), .int .i64 16] w fun e w' => e = .returned (.int .i64 ((c : Int) - 48)) ∧ w = w' := by
  have k0 : (48 : Int) ≤ c := by omega
  have k1 : (c : Int) ≤ 57 := by omega
  have k2 : ¬ (97 : Int) ≤ c := by omega
  have k3 : ¬ (65 : Int) ≤ c := by omega
  have k8 : (c : Int) ≤ 255 := by omega
  have k9 : ¬ (16 : Int) ≤ (c : Int) - 48 := by omega
  clear h h8
  go_enter Tryd.func86, Tryd.ntmps86
  go_wp2
  go_ret
  exact ⟨rfl, rfl⟩
set_option maxHeartbeats 2000000 in
set_option maxRecDepth 100000 in
theorem digh_m1 (w : World) (c : Nat) (h : 57 < c ∧ c < 65) (h8 : c < 256) : Calls Tryd.prog 86 #[.int .u8 (c : Int), .int .i64 16] w fun e w' => e = .returned (.int .i64 (-1)) ∧ w = w' := by
  have k0 : (48 : Int) ≤ c := by omega
  have k1 : ¬ (c : Int) ≤ 57 := by omega
  have k2 : ¬ (97 : Int) ≤ c := by omega
  have k3 : ¬ (65 : Int) ≤ c := by omega
  have k8 : (c : Int) ≤ 255 := by omega
  clear h h8
  go_enter Tryd.func86, Tryd.ntmps86
  go_wp2
  go_ret
  exact ⟨rfl, rfl⟩
set_option maxHeartbeats 2000000 in
set_option maxRecDepth 100000 in
theorem digh_up (w : World) (c : Nat) (h : 65 ≤ c ∧ c ≤ 70) (h8 : c < 256) : Calls Tryd.prog 86 #[.int .u8 (c : Int), .int .i64 16] w fun e w' => e = .returned (.int .i64 ((c : Int) - 65 + 10)) ∧ w = w' := by
  have k0 : (48 : Int) ≤ c := by omega
  have k1 : ¬ (c : Int) ≤ 57 := by omega
  have k2 : ¬ (97 : Int) ≤ c := by omega
  have k3 : (65 : Int) ≤ c := by omega
  have k4 : (c : Int) ≤ 70 := by omega
  have k8 : (c : Int) ≤ 255 := by omega
  have k9 : ¬ (16 : Int) ≤ (c : Int) - 65 + 10 := by omega
  clear h h8
  go_enter Tryd.func86, Tryd.ntmps86
  go_wp2
  go_ret
  exact ⟨rfl, rfl⟩
set_option maxHeartbeats 2000000 in
set_option maxRecDepth 100000 in
theorem digh_m2 (w : World) (c : Nat) (h : 70 < c ∧ c < 97) (h8 : c < 256) : Calls Tryd.prog 86 #[.int .u8 (c : Int), .int .i64 16] w fun e w' => e = .returned (.int .i64 (-1)) ∧ w = w' := by
  have k0 : (48 : Int) ≤ c := by omega
  have k1 : ¬ (c : Int) ≤ 57 := by omega
  have k2 : ¬ (97 : Int) ≤ c := by omega
  have k3 : (65 : Int) ≤ c := by omega
  have k4 : ¬ (c : Int) ≤ 70 := by omega
  have k8 : (c : Int) ≤ 255 := by omega
  clear h h8
  go_enter Tryd.func86, Tryd.ntmps86
  go_wp2
  go_ret
  exact ⟨rfl, rfl⟩
set_option maxHeartbeats 2000000 in
set_option maxRecDepth 100000 in
theorem digh_dn (w : World) (c : Nat) (h : 97 ≤ c ∧ c ≤ 102) (h8 : c < 256) : Calls Tryd.prog 86 #[.int .u8 (c : Int), .int .i64 16] w fun e w' => e = .returned (.int .i64 ((c : Int) - 97 + 10)) ∧ w = w' := by
  have k0 : (48 : Int) ≤ c := by omega
  have k1 : ¬ (c : Int) ≤ 57 := by omega
  have k2 : (97 : Int) ≤ c := by omega
  have k3 : (c : Int) ≤ 102 := by omega
  have k4 : (65 : Int) ≤ c := by omega
  have k5 : ¬ (c : Int) ≤ 70 := by omega
  have k8 : (c : Int) ≤ 255 := by omega
  have k9 : ¬ (16 : Int) ≤ (c : Int) - 97 + 10 := by omega
  clear h h8
  go_enter Tryd.func86, Tryd.ntmps86
  go_wp2
  go_ret
  exact ⟨rfl, rfl⟩
set_option maxHeartbeats 2000000 in
set_option maxRecDepth 100000 in
theorem digh_hi (w : World) (c : Nat) (h : 102 < c) (h8 : c < 256) : Calls Tryd.prog 86 #[.int .u8 (c : Int), .int .i64 16] w fun e w' => e = .returned (.int .i64 (-1)) ∧ w = w' := by
  have k0 : (48 : Int) ≤ c := by omega
  have k1 : ¬ (c : Int) ≤ 57 := by omega
  have k2 : (97 : Int) ≤ c := by omega
  have k3 : ¬ (c : Int) ≤ 102 := by omega
  have k4 : (65 : Int) ≤ c := by omega
  have k5 : ¬ (c : Int) ≤ 70 := by omega
  have k8 : (c : Int) ≤ 255 := by omega
  clear h h8
  go_enter Tryd.func86, Tryd.ntmps86
  go_wp2
  go_ret
  exact ⟨rfl, rfl⟩
theorem digit_walk (w : World) (b : Bool) (c : UInt8) : Calls Tryd.prog 86 #[.int .u8 (c.toNat : Int), .int .i64 (base b)] w fun e w' => e = .returned (.int .i64 (digV b c)) ∧ w = w' := by
  have h8 := c.toNat_lt
  have no : isD b c = false → digV b c = -1 := fun h => by unfold digV; rw [if_neg (by rw [h]; exact Bool.false_ne_true)]
  have yes : isD b c = true → digV b c = hv c := fun h => by unfold digV; rw [if_pos h]
  rcases (by omega : c.toNat < 48 ∨ (48 ≤ c.toNat ∧ c.toNat ≤ 57) ∨ (57 < c.toNat ∧ c.toNat < 65) ∨ (65 ≤ c.toNat ∧ c.toNat ≤ 70) ∨ (70 < c.toNat ∧ c.toNat < 97) ∨ (97 ≤ c.toNat ∧ c.toNat ≤ 102) ∨ 102 < c.toNat) with h | h | h | h | h | h | h
  · rw [no (by unfold isD; simp; omega)]; cases b
    · exact digd_lo w _ h h8
    · exact digh_lo w _ h h8
  · rw [yes (by unfold isD; simp; omega), hv_dig h, show ((c.toNat - 48 : Nat) : Int) = (c.toNat : Int) - 48 by omega]; cases b
    · exact digd_dg w _ h h8
    · exact digh_dg w _ h h8
  · rw [no (by unfold isD; simp; omega)]; cases b
    · exact digd_m1 w _ h h8
    · exact digh_m1 w _ h h8
  · cases b
    · rw [no (by unfold isD; simp; omega)]; exact digd_up w _ h h8
    · rw [yes (by unfold isD; simp; omega), hv_up h, show ((c.toNat - 55 : Nat) : Int) = (c.toNat : Int) - 65 + 10 by omega]; exact digh_up w _ h h8
  · rw [no (by unfold isD; simp; omega)]; cases b
    · exact digd_m2 w _ h h8
    · exact digh_m2 w _ h h8
  · cases b
    · rw [no (by unfold isD; simp; omega)]; exact digd_dn w _ h h8
    · rw [yes (by unfold isD; simp; omega), hv_low h, show ((c.toNat - 87 : Nat) : Int) = (c.toNat : Int) - 97 + 10 by omega]; exact digh_dn w _ h h8
  · rw [no (by unfold isD; simp; omega)]; cases b
    · exact digd_hi w _ h h8
    · exact digh_hi w _ h h8
end Go.Proofs.YtigaacbaaopfmaaDoor.sh
/- The document's bare digits and their value: walked. -/
namespace Go.Proofs.YtigaacbaaopfmaaDoor.sh
open Go.RowKit
set_option linter.unusedVariables false
/-- Without the zeros in front. -/
def strip0 : List UInt8 → List UInt8
  | a :: c :: r => if a = 48 then strip0 (c :: r) else a :: c :: r
  | l => l
theorem strip0_go (c : UInt8) (r : List UInt8) : strip0 (48 :: c :: r) = strip0 (c :: r) := by rw [strip0, if_pos rfl]
theorem strip0_end {l : List UInt8} (h : l.length ≤ 1 ∨ l.head? ≠ some 48) : strip0 l = l := by
  match l with
  | [] => rfl
  | [a] => rfl
  | a :: c :: r =>
    rw [strip0, if_neg]
    intro e
    subst e
    rcases h with h | h
    · simp at h
    · exact h rfl
theorem ne48 {a : UInt8} (h : a ≠ 48) : ((a.toNat : Int) == 48) = false := beq_eq_false_iff_ne.2 (fun e => h (by
  have h2 : a.toNat = (48 : UInt8).toNat := by
    have : (48 : UInt8).toNat = 48 := rfl
    omega
  exact UInt8.toNat_inj.1 h2))
theorem index_at (s : ByteArray) (k : Nat) (c : UInt8) (h : s.data.toList[k]? = some c) (W : World) : (Instr.index 9 (.string s) (.int .i64 (k : Int))).run Tryd.prog W = .ok (.int .u8 (c.toNat : Int)) W := by
  obtain ⟨hk, e⟩ := List.getElem?_eq_some_iff.1 h
  have hk' : k < s.size := by rw [Array.length_toList] at hk; exact hk
  rw [run_index_string (h := Tryd.underlying9), dif_pos (by omega), ← e]
  rfl
set_option maxHeartbeats 4000000 in
set_option maxRecDepth 100000 in
theorem bare_walk (w : World) (b : Bool) (s : ByteArray) (hs : s.size ≤ 3000000) :
    Calls Tryd.prog 84 #[.string s, .int .i64 (base b)] w fun e w' => e = .returned (.tuple #[.string (B (if allD b s.data.toList = true then strip0 s.data.toList else [])), .bool (allD b s.data.toList)]) ∧ w = w' := by
  obtain ⟨bb, hbb⟩ : ∃ x, base b = x := ⟨_, rfl⟩
  have cd := fun wq c => digit_walk wq b c
  rw [hbb] at cd ⊢
  clear hbb
  by_cases h0 : s.data.toList = []
  · have e : allD b s.data.toList = false := by rw [h0]; rfl
    rw [e]
    obtain rfl := isEmpty_nil h0
    go_enter Tryd.func84, Tryd.ntmps84
    go_wp2
    go_ret2
    exact ⟨rfl, rfl⟩
  · have hne : s.toList.isEmpty = false := by rw [← isEmpty_iff]; simpa using h0
    have hlen : s.data.toList.length = s.size := by rw [Array.length_toList]; rfl
    obtain ⟨q, hq⟩ : ∃ q, allD b s.data.toList = q := ⟨_, rfl⟩
    rw [hq]
    have HQ : Aside0 (allD b s.data.toList = q) := ⟨hq⟩
    obtain ⟨R, hR⟩ : ∃ R, B (if q = true then strip0 s.data.toList else []) = R := ⟨_, rfl⟩
    rw [hR]
    have HR : Aside0 (B (if q = true then strip0 s.data.toList else []) = R) := ⟨hR⟩
    have HL : Aside0 (s.data.toList.length = s.size) := ⟨hlen⟩
    have H0 : Aside0 (¬ s.data.toList = []) := ⟨h0⟩
    clear hq hR hlen h0
    go_enter Tryd.func84, Tryd.ntmps84
    go_wp2
    go_loopg [6] s.size (fun g v6 wr => ∃ k : Nat, v6 = .int .i64 k ∧ k + g = s.size ∧ w = wr ∧ Aside0 ((s.data.toList.take k).all (isD b) = true))
    case atStart => exact ⟨0, rfl, by omega, rfl, ⟨by simp⟩⟩
    case round =>
      obtain ⟨k, rfl, hkg, rfl, hA⟩ := hrel
      by_cases hk : k < s.size
      · obtain ⟨g, rfl⟩ : ∃ g, gk = g + 1 := ⟨gk - 1, by omega⟩
        have hlt : (k : Int) < (s.size : Int) := by omega
        obtain ⟨c, hc⟩ : ∃ c, s.data.toList[k]? = some c := ⟨_, List.getElem?_eq_getElem (by have := HL.out; omega)⟩
        have hi := index_at s k c hc
        have c1 := fun wq => cd wq c
        have hcs : s[k]'hk = c := by
          have : s[k]'hk = s.data.toList[k]'(by simpa using hk) := rfl
          rw [this]
          rw [List.getElem?_eq_getElem (by simpa using hk)] at hc
          exact Option.some.inj hc
        by_cases hd : isD b c = true
        · have hv : digV b c = hv c := by unfold digV; rw [if_pos hd]
          have hge : ¬ (digV b c) < 0 := by rw [hv]; omega
          have A : Aside0 ((s.data.toList.take (k + 1)).all (isD b) = true) := ⟨all_step hk (by rw [hcs]; exact hd) hA.out⟩
          clear hc hcs hd hv hA
          generalize digV b c = v at c1 hge
          generalize c.toNat = cc at hi c1
          go_wp2_with (go_at_call 86; (with_reducible refine (c1 _).mono ?_); rintro e w1 ⟨rfl, rfl⟩)
          go_roundg g
          case measure => omega
          case rel => exact ⟨k + 1, by go_num, by omega, rfl, A⟩
        · have hv : digV b c = -1 := by unfold digV; rw [if_neg hd]
          have hlt0 : digV b c < 0 := by rw [hv]; omega
          have hq : q = false := by rw [← HQ.out]; exact all_no hk (by rw [hcs]; simpa using hd)
          have A : Aside0 (R = ⟨#[]⟩ ∧ q = false) := ⟨by rw [← HR.out, if_neg (by rw [hq]; exact Bool.false_ne_true)]; rfl, hq⟩
          clear hc hcs hd hv hA hq
          generalize digV b c = v at c1 hlt0
          generalize c.toNat = cc at hi c1
          go_wp2_with (go_at_call 86; (with_reducible refine (c1 _).mono ?_); rintro e w1 ⟨rfl, rfl⟩)
          go_ret2
          exact ⟨by rw [A.out.1, A.out.2]; rfl, rfl⟩
      · obtain rfl : k = s.size := by omega
        obtain rfl : gk = 0 := by omega
        have hlt : ¬ (s.size : Int) < (s.size : Int) := by omega
        have hq : q = true := by rw [← HQ.out, all_yes hA.out]; have := H0.out; cases hl : s.data.toList <;> simp_all
        have A : Aside0 (R = B (strip0 s.data.toList) ∧ q = true) := ⟨by rw [← HR.out, if_pos hq], hq⟩
        clear hA hq cd
        go_wp2
        go_loopg [0] s.size (fun g v0 wr => ∃ t : ByteArray, v0 = .string t ∧ t.size = g ∧ t.size ≤ 3000000 ∧ w = wr ∧ Aside0 (strip0 s.data.toList = strip0 t.data.toList))
        case atStart => exact ⟨s, rfl, rfl, hs, rfl, ⟨rfl⟩⟩
        case round =>
          obtain ⟨t, rfl, rfl, ht, rfl, hT⟩ := hrel
          have htl : t.data.toList.length = t.size := by rw [Array.length_toList]; rfl
          by_cases h1 : 1 < t.size
          · have k1 : (t.size : Int) > 1 := by omega
            obtain ⟨a, c, r, hacr⟩ : ∃ a c r, t.data.toList = a :: c :: r := by
              match hl : t.data.toList with
              | [] => rw [hl] at htl; simp at htl; omega
              | [_] => rw [hl] at htl; simp at htl; omega
              | a :: c :: r => exact ⟨a, c, r, rfl⟩
            have hi := index0 hacr
            by_cases ha : a = 48
            · subst ha
              have e1 := extract1 hacr
              have hsz1 : (t.extract 1 t.size).size = t.size - 1 := by simp
              have T : Aside0 (strip0 s.data.toList = strip0 (t.extract 1 t.size).data.toList) := ⟨by rw [hT.out, hacr, strip0_go, e1]⟩
              have hz1 : (t.extract 1 t.size).size < t.size := by omega
              have hz2 : (t.extract 1 t.size).size ≤ 3000000 := by omega
              have h2 : 1 ≤ t.size := by omega
              clear hacr e1 hT htl hsz1
              go_wp2
              go_roundg (t.extract 1 t.size).size
              case measure => omega
              case rel => exact ⟨_, rfl, rfl, hz2, rfl, T⟩
            · have hne2 := ne48 ha
              have T : Aside0 (R = t) := ⟨by rw [A.out.1, hT.out, strip0_end (Or.inr (by rw [hacr]; simpa using ha)), B_of]⟩
              clear hacr hT htl ha
              generalize a.toNat = aa at hi hne2
              go_wp2
              go_ret2
              exact ⟨by rw [T.out, A.out.2]; rfl, rfl⟩
          · have k1 : ¬ (t.size : Int) > 1 := by omega
            have T : Aside0 (R = t) := ⟨by rw [A.out.1, hT.out, strip0_end (Or.inl (by omega)), B_of]⟩
            clear hT htl
            go_wp2
            go_ret2
            exact ⟨by rw [T.out, A.out.2]; rfl, rfl⟩
end Go.Proofs.YtigaacbaaopfmaaDoor.sh
/- The value of the document's digits: walked. -/
namespace Go.Proofs.YtigaacbaaopfmaaDoor.sh
open Go.RowKit
set_option linter.unusedVariables false
set_option maxHeartbeats 4000000 in
set_option maxRecDepth 100000 in
theorem value_d (w : World) (s : ByteArray) (hs : s.size ≤ 3000000) (hall : s.data.toList.all (isD false) = true) (V : Nat) (hV : val false s.data.toList = V) (hV2 : V ≤ 18446744073709551615) :
    Calls Tryd.prog 85 #[.string s, .int .i64 10] w fun e w' => e = .returned (.int .u64 V) ∧ w = w' := by
  have cd : ∀ wq c, Calls Tryd.prog 86 #[.int .u8 ((c : UInt8).toNat : Int), .int .i64 10] wq fun e w' => e = .returned (.int .i64 (digV false c)) ∧ wq = w' := fun wq c => digit_walk wq false c
  have HL : Aside0 (s.data.toList.length = s.size ∧ V ≤ 18446744073709551615) := ⟨by rw [Array.length_toList]; rfl, hV2⟩
  have HV : Aside0 (valF false 0 s.data.toList = V) := ⟨hV⟩
  obtain ⟨VI, hVI⟩ : ∃ x : Int, (V : Int) = x := ⟨_, rfl⟩
  rw [hVI]
  have HI : Aside0 ((V : Int) = VI) := ⟨hVI⟩
  clear hV hV2 hVI
  go_enter Tryd.func85, Tryd.ntmps85
  go_wp2
  go_loopg [5, 6] s.size (fun g v5 v6 wr => ∃ (k acc : Nat) (a : Int), v5 = .int .u64 a ∧ v6 = .int .i64 k ∧ k + g = s.size ∧ w = wr ∧ Aside0 (a = (acc : Int) ∧ valF false acc (s.data.toList.drop k) = V))
  case atStart => exact ⟨0, 0, 0, rfl, rfl, by omega, rfl, ⟨rfl, HV.out⟩⟩
  case round =>
    obtain ⟨k, acc, a, rfl, rfl, hkg, rfl, hA⟩ := hrel
    clear HV
    by_cases hk : k < s.size
    · obtain ⟨g, rfl⟩ : ∃ g, gk = g + 1 := ⟨gk - 1, by omega⟩
      have hlt : (k : Int) < (s.size : Int) := by omega
      have hlen := HL.out.1
      obtain ⟨c, hc⟩ : ∃ c, s.data.toList[k]? = some c := ⟨_, List.getElem?_eq_getElem (by omega)⟩
      have hi := index_at s k c hc
      have c1 := fun wq => cd wq c
      have hd : isD false c = true := List.all_eq_true.1 hall c (List.mem_of_getElem? hc)
      have hv : digV false c = hv c := by unfold digV; rw [if_pos hd]
      have hdr : s.data.toList.drop k = c :: s.data.toList.drop (k + 1) := by
        obtain ⟨h1, h2⟩ := List.getElem?_eq_some_iff.1 hc
        rw [List.drop_eq_getElem_cons h1, h2]
      obtain ⟨ha, hw⟩ := hA.out
      rw [hdr] at hw
      have hge := valF_ge1 false c (s.data.toList.drop (k + 1)) acc
      rw [hw] at hge
      have hge : acc * 10 + Go.Proofs.YtigaacbaaopfmaaDoor.sh.hv c ≤ V := hge
      have hw : valF false (acc * 10 + Go.Proofs.YtigaacbaaopfmaaDoor.sh.hv c) (s.data.toList.drop (k + 1)) = V := hw
      have hm := HL.out.2
      rw [hv] at c1
      generalize Go.Proofs.YtigaacbaaopfmaaDoor.sh.hv c = d at c1 hge hw
      have A : Aside0 (a * 10 + (d : Int) = ((acc * 10 + d : Nat) : Int) ∧ valF false (acc * 10 + d) (s.data.toList.drop (k + 1)) = V) := ⟨by omega, hw⟩
      have k0 : 0 ≤ a := by omega
      have k1 : a * 10 ≤ 18446744073709551615 := by omega
      have k2 : a * 10 + (d : Int) ≤ 18446744073709551615 := by omega
      have k3 : a ≤ 18446744073709551615 := by omega
      have k4 : (d : Int) ≤ 18446744073709551615 := by omega
      have k5 : (0 : Int) ≤ (d : Int) := by omega
      clear hc hd hv hdr ha hw hge hm hA cd hlen
      generalize c.toNat = cc at hi c1
      generalize (d : Int) = dd at c1 A k2 k4 k5
      go_wp2_with (go_at_call 86; (with_reducible refine (c1 _).mono ?_); rintro e w1 ⟨rfl, rfl⟩)
      go_roundg g
      case measure => omega
      case rel => exact ⟨k + 1, acc * 10 + d, a * 10 + dd, rfl, by go_num, by omega, rfl, A⟩
    · obtain rfl : k = s.size := by omega
      have hlt : ¬ (s.size : Int) < (s.size : Int) := by omega
      have A : Aside0 (a = VI) := ⟨by
        obtain ⟨ha, hw⟩ := hA.out
        rw [List.drop_eq_nil_of_le (by have := HL.out.1; omega)] at hw
        have hw : acc = V := hw
        rw [ha, hw, HI.out]⟩
      clear hA cd
      go_wp2
      go_ret
      exact ⟨by rw [← A.out]; rfl, rfl⟩
set_option maxHeartbeats 4000000 in
set_option maxRecDepth 100000 in
theorem value_h (w : World) (s : ByteArray) (hs : s.size ≤ 3000000) (hall : s.data.toList.all (isD true) = true) (V : Nat) (hV : val true s.data.toList = V) (hV2 : V ≤ 18446744073709551615) :
    Calls Tryd.prog 85 #[.string s, .int .i64 16] w fun e w' => e = .returned (.int .u64 V) ∧ w = w' := by
  have cd : ∀ wq c, Calls Tryd.prog 86 #[.int .u8 ((c : UInt8).toNat : Int), .int .i64 16] wq fun e w' => e = .returned (.int .i64 (digV true c)) ∧ wq = w' := fun wq c => digit_walk wq true c
  have HL : Aside0 (s.data.toList.length = s.size ∧ V ≤ 18446744073709551615) := ⟨by rw [Array.length_toList]; rfl, hV2⟩
  have HV : Aside0 (valF true 0 s.data.toList = V) := ⟨hV⟩
  obtain ⟨VI, hVI⟩ : ∃ x : Int, (V : Int) = x := ⟨_, rfl⟩
  rw [hVI]
  have HI : Aside0 ((V : Int) = VI) := ⟨hVI⟩
  clear hV hV2 hVI
  go_enter Tryd.func85, Tryd.ntmps85
  go_wp2
  go_loopg [5, 6] s.size (fun g v5 v6 wr => ∃ (k acc : Nat) (a : Int), v5 = .int .u64 a ∧ v6 = .int .i64 k ∧ k + g = s.size ∧ w = wr ∧ Aside0 (a = (acc : Int) ∧ valF true acc (s.data.toList.drop k) = V))
  case atStart => exact ⟨0, 0, 0, rfl, rfl, by omega, rfl, ⟨rfl, HV.out⟩⟩
  case round =>
    obtain ⟨k, acc, a, rfl, rfl, hkg, rfl, hA⟩ := hrel
    clear HV
    by_cases hk : k < s.size
    · obtain ⟨g, rfl⟩ : ∃ g, gk = g + 1 := ⟨gk - 1, by omega⟩
      have hlt : (k : Int) < (s.size : Int) := by omega
      have hlen := HL.out.1
      obtain ⟨c, hc⟩ : ∃ c, s.data.toList[k]? = some c := ⟨_, List.getElem?_eq_getElem (by omega)⟩
      have hi := index_at s k c hc
      have c1 := fun wq => cd wq c
      have hd : isD true c = true := List.all_eq_true.1 hall c (List.mem_of_getElem? hc)
      have hv : digV true c = hv c := by unfold digV; rw [if_pos hd]
      have hdr : s.data.toList.drop k = c :: s.data.toList.drop (k + 1) := by
        obtain ⟨h1, h2⟩ := List.getElem?_eq_some_iff.1 hc
        rw [List.drop_eq_getElem_cons h1, h2]
      obtain ⟨ha, hw⟩ := hA.out
      rw [hdr] at hw
      have hge := valF_ge1 true c (s.data.toList.drop (k + 1)) acc
      rw [hw] at hge
      have hge : acc * 16 + Go.Proofs.YtigaacbaaopfmaaDoor.sh.hv c ≤ V := hge
      have hw : valF true (acc * 16 + Go.Proofs.YtigaacbaaopfmaaDoor.sh.hv c) (s.data.toList.drop (k + 1)) = V := hw
      have hm := HL.out.2
      rw [hv] at c1
      generalize Go.Proofs.YtigaacbaaopfmaaDoor.sh.hv c = d at c1 hge hw
      have A : Aside0 (a * 16 + (d : Int) = ((acc * 16 + d : Nat) : Int) ∧ valF true (acc * 16 + d) (s.data.toList.drop (k + 1)) = V) := ⟨by omega, hw⟩
      have k0 : 0 ≤ a := by omega
      have k1 : a * 16 ≤ 18446744073709551615 := by omega
      have k2 : a * 16 + (d : Int) ≤ 18446744073709551615 := by omega
      have k3 : a ≤ 18446744073709551615 := by omega
      have k4 : (d : Int) ≤ 18446744073709551615 := by omega
      have k5 : (0 : Int) ≤ (d : Int) := by omega
      clear hc hd hv hdr ha hw hge hm hA cd hlen
      generalize c.toNat = cc at hi c1
      generalize (d : Int) = dd at c1 A k2 k4 k5
      go_wp2_with (go_at_call 86; (with_reducible refine (c1 _).mono ?_); rintro e w1 ⟨rfl, rfl⟩)
      go_roundg g
      case measure => omega
      case rel => exact ⟨k + 1, acc * 16 + d, a * 16 + dd, rfl, by go_num, by omega, rfl, A⟩
    · obtain rfl : k = s.size := by omega
      have hlt : ¬ (s.size : Int) < (s.size : Int) := by omega
      have A : Aside0 (a = VI) := ⟨by
        obtain ⟨ha, hw⟩ := hA.out
        rw [List.drop_eq_nil_of_le (by have := HL.out.1; omega)] at hw
        have hw : acc = V := hw
        rw [ha, hw, HI.out]⟩
      clear hA cd
      go_wp2
      go_ret
      exact ⟨by rw [← A.out]; rfl, rfl⟩
end Go.Proofs.YtigaacbaaopfmaaDoor.sh
/- The document's Number: walked. -/
namespace Go.Proofs.YtigaacbaaopfmaaDoor.sh
open Go.RowKit
set_option linter.unusedVariables false
theorem strip_val : ∀ l : List UInt8, val false (strip0 l) = val false l
  | [] => rfl
  | [a] => rfl
  | a :: c :: r => by
    by_cases h : a = 48
    · subst h
      rw [strip0_go, strip_val (c :: r)]
      rfl
    · rw [strip0, if_neg h]
theorem strip_all (b : Bool) : ∀ l : List UInt8, l.all (isD b) = true → (strip0 l).all (isD b) = true
  | [], h => h
  | [a], h => h
  | a :: c :: r, h => by
    by_cases h1 : a = 48
    · subst h1
      rw [strip0_go]
      rw [List.all_cons, Bool.and_eq_true] at h
      exact strip_all b (c :: r) h.2
    · rw [strip0, if_neg h1]; exact h
theorem strip_len : ∀ l : List UInt8, (strip0 l).length ≤ l.length
  | [] => Nat.le_refl _
  | [a] => Nat.le_refl _
  | a :: c :: r => by
    by_cases h : a = 48
    · subst h
      rw [strip0_go]
      have := strip_len (c :: r)
      simp only [List.length_cons] at this ⊢
      omega
    · rw [strip0, if_neg h]; exact Nat.le_refl _
theorem strip_head : ∀ l : List UInt8, (strip0 l).length ≤ 1 ∨ (strip0 l).head? ≠ some 48
  | [] => Or.inl (by simp [strip0])
  | [a] => Or.inl (by simp [strip0])
  | a :: c :: r => by
    by_cases h : a = 48
    · subst h; rw [strip0_go]; exact strip_head (c :: r)
    · rw [strip0, if_neg h]; right; simp [h]
theorem val_lt : ∀ (k : Nat) (l : List UInt8) (a : Nat), l.all (isD false) = true → l.length ≤ k → valF false a l < (a + 1) * 10 ^ l.length
  | _, [], a, _, _ => by simp [valF]
  | 0, c :: r, a, _, h => by simp at h
  | k + 1, c :: r, a, hall, h => by
    rw [List.all_cons, Bool.and_eq_true] at hall
    have hd := isD_false hall.1
    have ih := val_lt k r (a * 10 + hv c) hall.2 (by simp at h; omega)
    have e : valF false a (c :: r) = valF false (a * 10 + hv c) r := rfl
    rw [e, List.length_cons, Nat.pow_succ]
    have h9 : hv c ≤ 9 := by rw [hv_dig hd]; omega
    have h2 : (a * 10 + hv c + 1) * 10 ^ r.length ≤ (a + 1) * 10 * 10 ^ r.length := Nat.mul_le_mul_right _ (by omega)
    have h3 : (a + 1) * (10 ^ r.length * 10) = (a + 1) * 10 * 10 ^ r.length := by
      rw [Nat.mul_comm (10 ^ r.length) 10, Nat.mul_assoc]
    omega
theorem val_ge {c : UInt8} {r : List UInt8} (hd : isD false c = true) (hc : c ≠ 48) : 10 ^ r.length ≤ val false (c :: r) := by
  have key : ∀ (l : List UInt8) (a : Nat), a * 10 ^ l.length ≤ valF false a l := by
    intro l
    induction l with
    | nil => intro a; simp [valF]
    | cons x t ih =>
      intro a
      have h1 := ih (a * 10 + hv x)
      have e : valF false a (x :: t) = valF false (a * 10 + hv x) t := rfl
      rw [e, List.length_cons, Nat.pow_succ]
      have h2 : a * 10 * 10 ^ t.length ≤ (a * 10 + hv x) * 10 ^ t.length := Nat.mul_le_mul_right _ (by omega)
      have h3 : a * (10 ^ t.length * 10) = a * 10 * 10 ^ t.length := by
        rw [Nat.mul_comm (10 ^ t.length) 10, Nat.mul_assoc]
      omega
  have h := key r (hv c)
  have e : val false (c :: r) = valF false (0 * 10 + hv c) r := rfl
  rw [e, Nat.zero_mul, Nat.zero_add]
  have hx := isD_false hd
  have h1 : 1 ≤ hv c := by
    rw [hv_dig hx]
    have : c.toNat ≠ 48 := fun e => hc (UInt8.toNat_inj.1 e)
    omega
  have h2 : 1 * 10 ^ r.length ≤ hv c * 10 ^ r.length := Nat.mul_le_mul_right _ h1
  omega
/-- More than 19 digits: out of range. -/
theorem long_val {l : List UInt8} (hall : l.all (isD false) = true) (h : 19 < (strip0 l).length) : 9223372036854775808 < val false l := by
  rw [← strip_val l]
  have ha := strip_all false l hall
  rcases strip_head l with h1 | h1
  · omega
  · cases hs : strip0 l with
    | nil => rw [hs] at h; simp at h
    | cons c r =>
      rw [hs] at h h1 ha
      rw [List.all_cons, Bool.and_eq_true] at ha
      have hg := val_ge (r := r) ha.1 (by simpa using h1)
      have hp : 10 ^ 19 ≤ 10 ^ r.length := Nat.pow_le_pow_right (by decide) (by simp at h; omega)
      have hc : (10 : Nat) ^ 19 = 10000000000000000000 := by decide
      omega
theorem short_val {l : List UInt8} (hall : l.all (isD false) = true) (h : ¬ 19 < (strip0 l).length) : val false l ≤ 18446744073709551615 := by
  rw [← strip_val l]
  have ha := strip_all false l hall
  have h1 := val_lt _ (strip0 l) 0 ha (Nat.le_refl _)
  have hp : 10 ^ (strip0 l).length ≤ 10 ^ 19 := Nat.pow_le_pow_right (by decide) (by omega)
  have hc : (10 : Nat) ^ 19 = 10000000000000000000 := by decide
  unfold val
  omega
set_option maxHeartbeats 4000000 in
set_option maxRecDepth 100000 in
theorem rnum_p_bad (w : World) (s : ByteArray) (hs : s.size ≤ 3000000) (c : Nat) (hx : ∀ W, (Instr.index 9 (.string s) (.int .i64 0)).run Tryd.prog W = .ok (.int .u8 (c : Int)) W) (hne : (!s.toList.isEmpty) = true) (h1 : 1 ≤ s.size) (hc : ((c : Int) == 45) = false) (t : ByteArray) (cb : ∀ wq, Calls Tryd.prog 84 #[.string s, .int .i64 10] wq fun e w' => e = .returned (.tuple #[.string t, .bool false]) ∧ wq = w') : Calls Tryd.prog 72 #[.string s] w fun e w' => e = .returned (.tuple #[.int .i64 0, .int .i64 160]) ∧ w = w' := by
  go_enter Tryd.func72, Tryd.ntmps72
  go_wp2_with (first
    | (go_at_call 84; (with_reducible refine (cb _).mono ?_); rintro e w1 ⟨rfl, rfl⟩)
    | (go_at_call 85; (with_reducible refine (cv _).mono ?_); rintro e w1 ⟨rfl, rfl⟩))
  go_ret2
  exact ⟨rfl, rfl⟩
set_option maxHeartbeats 4000000 in
set_option maxRecDepth 100000 in
theorem rnum_p_long (w : World) (s : ByteArray) (hs : s.size ≤ 3000000) (c : Nat) (hx : ∀ W, (Instr.index 9 (.string s) (.int .i64 0)).run Tryd.prog W = .ok (.int .u8 (c : Int)) W) (hne : (!s.toList.isEmpty) = true) (h1 : 1 ≤ s.size) (hc : ((c : Int) == 45) = false) (t : ByteArray) (cb : ∀ wq, Calls Tryd.prog 84 #[.string s, .int .i64 10] wq fun e w' => e = .returned (.tuple #[.string t, .bool true]) ∧ wq = w') (hl : (t.size : Int) > 19) : Calls Tryd.prog 72 #[.string s] w fun e w' => e = .returned (.tuple #[.int .i64 0, .int .i64 161]) ∧ w = w' := by
  go_enter Tryd.func72, Tryd.ntmps72
  go_wp2_with (first
    | (go_at_call 84; (with_reducible refine (cb _).mono ?_); rintro e w1 ⟨rfl, rfl⟩)
    | (go_at_call 85; (with_reducible refine (cv _).mono ?_); rintro e w1 ⟨rfl, rfl⟩))
  go_ret2
  exact ⟨rfl, rfl⟩
set_option maxHeartbeats 4000000 in
set_option maxRecDepth 100000 in
theorem rnum_p_big (w : World) (s : ByteArray) (hs : s.size ≤ 3000000) (c : Nat) (hx : ∀ W, (Instr.index 9 (.string s) (.int .i64 0)).run Tryd.prog W = .ok (.int .u8 (c : Int)) W) (hne : (!s.toList.isEmpty) = true) (h1 : 1 ≤ s.size) (hc : ((c : Int) == 45) = false) (t : ByteArray) (cb : ∀ wq, Calls Tryd.prog 84 #[.string s, .int .i64 10] wq fun e w' => e = .returned (.tuple #[.string t, .bool true]) ∧ wq = w') (hl : ¬ (t.size : Int) > 19) (V : Int) (cv : ∀ wq, Calls Tryd.prog 85 #[.string t, .int .i64 10] wq fun e w' => e = .returned (.int .u64 V) ∧ wq = w') (v0 : 0 ≤ V) (hv : V > 9223372036854775807) : Calls Tryd.prog 72 #[.string s] w fun e w' => e = .returned (.tuple #[.int .i64 0, .int .i64 161]) ∧ w = w' := by
  go_enter Tryd.func72, Tryd.ntmps72
  go_wp2_with (first
    | (go_at_call 84; (with_reducible refine (cb _).mono ?_); rintro e w1 ⟨rfl, rfl⟩)
    | (go_at_call 85; (with_reducible refine (cv _).mono ?_); rintro e w1 ⟨rfl, rfl⟩))
  go_ret2
  exact ⟨rfl, rfl⟩
set_option maxHeartbeats 4000000 in
set_option maxRecDepth 100000 in
theorem rnum_p_ok (w : World) (s : ByteArray) (hs : s.size ≤ 3000000) (c : Nat) (hx : ∀ W, (Instr.index 9 (.string s) (.int .i64 0)).run Tryd.prog W = .ok (.int .u8 (c : Int)) W) (hne : (!s.toList.isEmpty) = true) (h1 : 1 ≤ s.size) (hc : ((c : Int) == 45) = false) (t : ByteArray) (cb : ∀ wq, Calls Tryd.prog 84 #[.string s, .int .i64 10] wq fun e w' => e = .returned (.tuple #[.string t, .bool true]) ∧ wq = w') (hl : ¬ (t.size : Int) > 19) (V : Int) (cv : ∀ wq, Calls Tryd.prog 85 #[.string t, .int .i64 10] wq fun e w' => e = .returned (.int .u64 V) ∧ wq = w') (v0 : 0 ≤ V) (hv : ¬ V > 9223372036854775807) : Calls Tryd.prog 72 #[.string s] w fun e w' => e = .returned (.tuple #[.int .i64 V, .int .i64 0]) ∧ w = w' := by
  go_enter Tryd.func72, Tryd.ntmps72
  go_wp2_with (first
    | (go_at_call 84; (with_reducible refine (cb _).mono ?_); rintro e w1 ⟨rfl, rfl⟩)
    | (go_at_call 85; (with_reducible refine (cv _).mono ?_); rintro e w1 ⟨rfl, rfl⟩))
  go_ret2
  exact ⟨rfl, rfl⟩
set_option maxHeartbeats 4000000 in
set_option maxRecDepth 100000 in
theorem rnum_n_bad (w : World) (s : ByteArray) (hs : s.size ≤ 3000000) (c : Nat) (hx : ∀ W, (Instr.index 9 (.string s) (.int .i64 0)).run Tryd.prog W = .ok (.int .u8 (c : Int)) W) (hne : (!s.toList.isEmpty) = true) (h1 : 1 ≤ s.size) (hc : ((c : Int) == 45) = true) (t : ByteArray) (cb : ∀ wq, Calls Tryd.prog 84 #[.string (s.extract 1 s.size), .int .i64 10] wq fun e w' => e = .returned (.tuple #[.string t, .bool false]) ∧ wq = w') : Calls Tryd.prog 72 #[.string s] w fun e w' => e = .returned (.tuple #[.int .i64 0, .int .i64 160]) ∧ w = w' := by
  go_enter Tryd.func72, Tryd.ntmps72
  go_wp2_with (first
    | (go_at_call 84; (with_reducible refine (cb _).mono ?_); rintro e w1 ⟨rfl, rfl⟩)
    | (go_at_call 85; (with_reducible refine (cv _).mono ?_); rintro e w1 ⟨rfl, rfl⟩))
  go_ret2
  exact ⟨rfl, rfl⟩
set_option maxHeartbeats 4000000 in
set_option maxRecDepth 100000 in
theorem rnum_n_long (w : World) (s : ByteArray) (hs : s.size ≤ 3000000) (c : Nat) (hx : ∀ W, (Instr.index 9 (.string s) (.int .i64 0)).run Tryd.prog W = .ok (.int .u8 (c : Int)) W) (hne : (!s.toList.isEmpty) = true) (h1 : 1 ≤ s.size) (hc : ((c : Int) == 45) = true) (t : ByteArray) (cb : ∀ wq, Calls Tryd.prog 84 #[.string (s.extract 1 s.size), .int .i64 10] wq fun e w' => e = .returned (.tuple #[.string t, .bool true]) ∧ wq = w') (hl : (t.size : Int) > 19) : Calls Tryd.prog 72 #[.string s] w fun e w' => e = .returned (.tuple #[.int .i64 0, .int .i64 161]) ∧ w = w' := by
  go_enter Tryd.func72, Tryd.ntmps72
  go_wp2_with (first
    | (go_at_call 84; (with_reducible refine (cb _).mono ?_); rintro e w1 ⟨rfl, rfl⟩)
    | (go_at_call 85; (with_reducible refine (cv _).mono ?_); rintro e w1 ⟨rfl, rfl⟩))
  go_ret2
  exact ⟨rfl, rfl⟩
set_option maxHeartbeats 4000000 in
set_option maxRecDepth 100000 in
theorem rnum_n_big (w : World) (s : ByteArray) (hs : s.size ≤ 3000000) (c : Nat) (hx : ∀ W, (Instr.index 9 (.string s) (.int .i64 0)).run Tryd.prog W = .ok (.int .u8 (c : Int)) W) (hne : (!s.toList.isEmpty) = true) (h1 : 1 ≤ s.size) (hc : ((c : Int) == 45) = true) (t : ByteArray) (cb : ∀ wq, Calls Tryd.prog 84 #[.string (s.extract 1 s.size), .int .i64 10] wq fun e w' => e = .returned (.tuple #[.string t, .bool true]) ∧ wq = w') (hl : ¬ (t.size : Int) > 19) (V : Int) (cv : ∀ wq, Calls Tryd.prog 85 #[.string t, .int .i64 10] wq fun e w' => e = .returned (.int .u64 V) ∧ wq = w') (v0 : 0 ≤ V) (hv : V > 9223372036854775808) : Calls Tryd.prog 72 #[.string s] w fun e w' => e = .returned (.tuple #[.int .i64 0, .int .i64 161]) ∧ w = w' := by
  go_enter Tryd.func72, Tryd.ntmps72
  go_wp2_with (first
    | (go_at_call 84; (with_reducible refine (cb _).mono ?_); rintro e w1 ⟨rfl, rfl⟩)
    | (go_at_call 85; (with_reducible refine (cv _).mono ?_); rintro e w1 ⟨rfl, rfl⟩))
  go_ret2
  exact ⟨rfl, rfl⟩
set_option maxHeartbeats 4000000 in
set_option maxRecDepth 100000 in
theorem rnum_n_min (w : World) (s : ByteArray) (hs : s.size ≤ 3000000) (c : Nat) (hx : ∀ W, (Instr.index 9 (.string s) (.int .i64 0)).run Tryd.prog W = .ok (.int .u8 (c : Int)) W) (hne : (!s.toList.isEmpty) = true) (h1 : 1 ≤ s.size) (hc : ((c : Int) == 45) = true) (t : ByteArray) (cb : ∀ wq, Calls Tryd.prog 84 #[.string (s.extract 1 s.size), .int .i64 10] wq fun e w' => e = .returned (.tuple #[.string t, .bool true]) ∧ wq = w') (hl : ¬ (t.size : Int) > 19) (V : Int) (cv : ∀ wq, Calls Tryd.prog 85 #[.string t, .int .i64 10] wq fun e w' => e = .returned (.int .u64 V) ∧ wq = w') (v0 : 0 ≤ V) (hv : ¬ V > 9223372036854775808) (hv2 : (V == 9223372036854775808) = true) : Calls Tryd.prog 72 #[.string s] w fun e w' => e = .returned (.tuple #[.int .i64 (-9223372036854775808), .int .i64 0]) ∧ w = w' := by
  go_enter Tryd.func72, Tryd.ntmps72
  go_wp2_with (first
    | (go_at_call 84; (with_reducible refine (cb _).mono ?_); rintro e w1 ⟨rfl, rfl⟩)
    | (go_at_call 85; (with_reducible refine (cv _).mono ?_); rintro e w1 ⟨rfl, rfl⟩))
  go_ret2
  exact ⟨rfl, rfl⟩
set_option maxHeartbeats 4000000 in
set_option maxRecDepth 100000 in
theorem rnum_n_ok (w : World) (s : ByteArray) (hs : s.size ≤ 3000000) (c : Nat) (hx : ∀ W, (Instr.index 9 (.string s) (.int .i64 0)).run Tryd.prog W = .ok (.int .u8 (c : Int)) W) (hne : (!s.toList.isEmpty) = true) (h1 : 1 ≤ s.size) (hc : ((c : Int) == 45) = true) (t : ByteArray) (cb : ∀ wq, Calls Tryd.prog 84 #[.string (s.extract 1 s.size), .int .i64 10] wq fun e w' => e = .returned (.tuple #[.string t, .bool true]) ∧ wq = w') (hl : ¬ (t.size : Int) > 19) (V : Int) (cv : ∀ wq, Calls Tryd.prog 85 #[.string t, .int .i64 10] wq fun e w' => e = .returned (.int .u64 V) ∧ wq = w') (v0 : 0 ≤ V) (hv : ¬ V > 9223372036854775808) (hv2 : (V == 9223372036854775808) = false) (hv3 : V ≤ 9223372036854775807) : Calls Tryd.prog 72 #[.string s] w fun e w' => e = .returned (.tuple #[.int .i64 (-V), .int .i64 0]) ∧ w = w' := by
  go_enter Tryd.func72, Tryd.ntmps72
  go_wp2_with (first
    | (go_at_call 84; (with_reducible refine (cb _).mono ?_); rintro e w1 ⟨rfl, rfl⟩)
    | (go_at_call 85; (with_reducible refine (cv _).mono ?_); rintro e w1 ⟨rfl, rfl⟩))
  go_ret2
  exact ⟨rfl, rfl⟩
set_option maxHeartbeats 4000000 in
set_option maxRecDepth 100000 in
theorem rnum_empty (w : World) : Calls Tryd.prog 72 #[.string ⟨#[]⟩] w fun e w' => e = .returned (.tuple #[.int .i64 0, .int .i64 160]) ∧ w = w' := by
  have cb : ∀ wq, Calls Tryd.prog 84 #[.string ⟨#[]⟩, .int .i64 10] wq fun e w' => e = .returned (.tuple #[.string ⟨#[]⟩, .bool false]) ∧ wq = w' := fun wq => bare_walk wq false ⟨#[]⟩ (by decide)
  go_enter Tryd.func72, Tryd.ntmps72
  go_wp2_with (go_at_call 84; (with_reducible refine (cb _).mono ?_); rintro e w1 ⟨rfl, rfl⟩)
  go_ret2
  exact ⟨rfl, rfl⟩
theorem bare_10 (s : ByteArray) (hs : s.size ≤ 3000000) (l : List UInt8) (hl : s.data.toList = l) : (allD false l = false → ∀ wq, Calls Tryd.prog 84 #[.string s, .int .i64 10] wq fun e w' => e = .returned (.tuple #[.string (B []), .bool false]) ∧ wq = w') ∧
    (allD false l = true → ∀ wq, Calls Tryd.prog 84 #[.string s, .int .i64 10] wq fun e w' => e = .returned (.tuple #[.string (B (strip0 l)), .bool true]) ∧ wq = w') := by
  subst hl
  have c := fun wq => bare_walk wq false s hs
  constructor
  · intro h wq
    have c1 := c wq
    rw [h, if_neg Bool.false_ne_true] at c1
    exact c1
  · intro h wq
    have c1 := c wq
    rw [h, if_pos rfl] at c1
    exact c1
theorem allD_all {b : Bool} {l : List UInt8} (h : allD b l = true) : l.all (isD b) = true := by
  unfold allD at h; rw [Bool.and_eq_true] at h; exact h.2
/-- Number, the document's. -/
theorem rnumber_walk (w : World) (s : ByteArray) (hs : s.size ≤ 3000000) :
    Calls Tryd.prog 72 #[.string s] w fun e w' => e = .returned (.tuple #[.int .i64 (numP s.data.toList).1, .int .i64 (numP s.data.toList).2]) ∧ w = w' := by
  cases h : s.data.toList with
  | nil =>
    obtain rfl := isEmpty_nil h
    exact rnum_empty w
  | cons c t =>
    have hx := index0 h
    have hne : (!s.toList.isEmpty) = true := by rw [nonempty h]; rfl
    have hsz := size_cons h
    by_cases hc : c = 45
    · subst hc
      have e1 := extract1 h
      have hs1 : (s.extract 1 s.size).size ≤ 3000000 := by simp; omega
      obtain ⟨b0, b1⟩ := bare_10 (s.extract 1 s.size) hs1 t e1
      by_cases hd : allD false t = true
      · have e0 : numP (45 :: t) = if val false t ≤ 9223372036854775808 then (-(val false t : Int), 0) else (0, 161) := by rw [numP, if_pos rfl, if_pos hd]
        rw [e0]
        have hall := allD_all hd
        by_cases hl : 19 < (strip0 t).length
        · have := long_val hall hl
          rw [if_neg (by omega)]
          exact rnum_n_long w s hs 45 hx hne (by omega) rfl _ (b1 hd) (by rw [B_size]; omega)
        · have hsh := short_val hall hl
          have cv := fun wq => value_d wq (B (strip0 t)) (by rw [B_size]; omega) (strip_all false t hall) (val false t) (strip_val t) hsh
          by_cases h1 : val false t ≤ 9223372036854775808
          · rw [if_pos h1]
            by_cases h2 : val false t = 9223372036854775808
            · rw [h2] at cv ⊢
              exact rnum_n_min w s hs 45 hx hne (by omega) rfl _ (b1 hd) (by rw [B_size]; omega) _ cv (by omega) (by omega) (by decide)
            · exact rnum_n_ok w s hs 45 hx hne (by omega) rfl _ (b1 hd) (by rw [B_size]; omega) _ cv (by omega) (by omega) (beq_eq_false_iff_ne.2 (by omega)) (by omega)
          · rw [if_neg h1]
            exact rnum_n_big w s hs 45 hx hne (by omega) rfl _ (b1 hd) (by rw [B_size]; omega) _ cv (by omega) (by omega)
      · have e0 : numP (45 :: t) = (0, 160) := by rw [numP, if_pos rfl, if_neg hd]
        rw [e0]
        exact rnum_n_bad w s hs 45 hx hne (by omega) rfl _ (b0 (by simpa using hd))
    · have hcc : ((c.toNat : Int) == 45) = false := beq_eq_false_iff_ne.2 (fun e => hc (by
        have h2 : c.toNat = (45 : UInt8).toNat := by
          have : (45 : UInt8).toNat = 45 := rfl
          omega
        exact UInt8.toNat_inj.1 h2))
      obtain ⟨b0, b1⟩ := bare_10 s hs (c :: t) h
      by_cases hd : allD false (c :: t) = true
      · have e0 : numP (c :: t) = if val false (c :: t) < 9223372036854775808 then ((val false (c :: t) : Int), 0) else (0, 161) := by rw [numP, if_neg hc, if_pos hd]
        rw [e0]
        have hall := allD_all hd
        by_cases hl : 19 < (strip0 (c :: t)).length
        · have := long_val hall hl
          rw [if_neg (by omega)]
          exact rnum_p_long w s hs _ hx hne (by omega) hcc _ (b1 hd) (by rw [B_size]; omega)
        · have hsh := short_val hall hl
          have cv := fun wq => value_d wq (B (strip0 (c :: t))) (by rw [B_size]; omega) (strip_all false _ hall) (val false (c :: t)) (strip_val _) hsh
          by_cases h1 : val false (c :: t) < 9223372036854775808
          · rw [if_pos h1]
            exact rnum_p_ok w s hs _ hx hne (by omega) hcc _ (b1 hd) (by rw [B_size]; omega) _ cv (by omega) (by omega)
          · rw [if_neg h1]
            exact rnum_p_big w s hs _ hx hne (by omega) hcc _ (b1 hd) (by rw [B_size]; omega) _ cv (by omega) (by omega)
      · have e0 : numP (c :: t) = (0, 160) := by rw [numP, if_neg hc, if_neg hd]
        rw [e0]
        exact rnum_p_bad w s hs _ hx hne (by omega) hcc _ (b0 (by simpa using hd))
end Go.Proofs.YtigaacbaaopfmaaDoor.sh
/- The document's Bytes: walked. -/
namespace Go.Proofs.YtigaacbaaopfmaaDoor.sh
open Go.RowKit
set_option linter.unusedVariables false
set_option maxHeartbeats 8000000 in
set_option maxRecDepth 100000 in
theorem rbytes_dash (w : World) : Calls Tryd.prog 73 #[.string ⟨#[45]⟩] w fun e w' => e = .returned (.tuple #[.string ⟨#[]⟩, .int .i64 0]) ∧ Below w.heap.size w w' := by
  go_enter Tryd.func73, Tryd.ntmps73
  go_wp2
  go_ret2
  exact ⟨rfl, Below.refl _ _⟩
set_option maxHeartbeats 8000000 in
set_option maxRecDepth 100000 in
theorem rbytes_empty (w : World) : Calls Tryd.prog 73 #[.string ⟨#[]⟩] w fun e w' => e = .returned (.tuple #[.string ⟨#[]⟩, .int .i64 160]) ∧ Below w.heap.size w w' := by
  go_enter Tryd.func73, Tryd.ntmps73
  go_wp2
  go_ret2
  exact ⟨rfl, Below.refl _ _⟩
set_option maxHeartbeats 8000000 in
set_option maxRecDepth 100000 in
theorem rbytes_one (w : World) (s : ByteArray) (h45 : (s.toList == [45]) = false) (hne : s.toList.isEmpty = false) (h1 : s.size = 1) : Calls Tryd.prog 73 #[.string s] w fun e w' => e = .returned (.tuple #[.string ⟨#[]⟩, .int .i64 160]) ∧ Below w.heap.size w w' := by
  have k1 : ¬ (s.size : Int) > 1 := by omega
  have k2 : ((s.size : Int) % 2 == 1) = true := beq_iff_eq.2 (by omega)
  clear h1
  go_enter Tryd.func73, Tryd.ntmps73
  go_wp2
  go_ret2
  exact ⟨rfl, Below.refl _ _⟩
set_option maxHeartbeats 8000000 in
set_option maxRecDepth 100000 in
theorem rbytes_quote (w : World) (s : ByteArray) (h45 : (s.toList == [45]) = false) (h1 : 1 < s.size) (hx : ∀ W, (Instr.index 9 (.string s) (.int .i64 0)).run Tryd.prog W = .ok (.int .u8 39) W) : Calls Tryd.prog 73 #[.string s] w fun e w' => e = .returned (.tuple #[.string (s.extract 1 s.size), .int .i64 0]) ∧ Below w.heap.size w w' := by
  have k1 : (s.size : Int) > 1 := by omega
  have k2 : 1 ≤ s.size := by omega
  go_enter Tryd.func73, Tryd.ntmps73
  go_wp2
  go_ret2
  exact ⟨rfl, Below.refl _ _⟩
set_option maxHeartbeats 8000000 in
set_option maxRecDepth 100000 in
theorem rbytes_odd (w : World) (s : ByteArray) (h45 : (s.toList == [45]) = false) (hne : s.toList.isEmpty = false) (h1 : 1 < s.size) (c : Nat) (hx : ∀ W, (Instr.index 9 (.string s) (.int .i64 0)).run Tryd.prog W = .ok (.int .u8 (c : Int)) W) (hc : ((c : Int) == 39) = false) (ho : s.size % 2 = 1) : Calls Tryd.prog 73 #[.string s] w fun e w' => e = .returned (.tuple #[.string ⟨#[]⟩, .int .i64 160]) ∧ Below w.heap.size w w' := by
  have k1 : (s.size : Int) > 1 := by omega
  have k2 : ((s.size : Int) % 2 == 1) = true := beq_iff_eq.2 (by omega)
  clear ho
  go_enter Tryd.func73, Tryd.ntmps73
  go_wp2
  go_ret2
  exact ⟨rfl, Below.refl _ _⟩
set_option maxHeartbeats 8000000 in
set_option maxRecDepth 100000 in
theorem rbytes_hex (w : World) (s : ByteArray) (hs : s.size ≤ 3000000) (h45 : (s.toList == [45]) = false) (hne : s.toList.isEmpty = false) (h1 : 1 < s.size) (c : Nat) (hx : ∀ W, (Instr.index 9 (.string s) (.int .i64 0)).run Tryd.prog W = .ok (.int .u8 (c : Int)) W) (hc : ((c : Int) == 39) = false) (n : Nat) (hn : s.size = 2 * n)
    (R : Value) (hR1 : s.data.toList.all (isD true) = true → R = .tuple #[.string (B (pairs s.data.toList)), .int .i64 0]) (hR2 : s.data.toList.all (isD true) = false → R = .tuple #[.string ⟨#[]⟩, .int .i64 160]) :
    Calls Tryd.prog 73 #[.string s] w fun e w' => e = .returned R ∧ Below w.heap.size w w' := by
  have k1 : (s.size : Int) > 1 := by omega
  have k2 : ((s.size : Int) % 2 == 1) = false := beq_eq_false_iff_ne.2 (by omega)
  have cd : ∀ wq c, Calls Tryd.prog 86 #[.int .u8 ((c : UInt8).toNat : Int), .int .i64 16] wq fun e w' => e = .returned (.int .i64 (digV true c)) ∧ wq = w' := fun wq c => digit_walk wq true c
  have HR1 : Aside0 (s.data.toList.all (isD true) = true → R = .tuple #[.string (B (pairs s.data.toList)), .int .i64 0]) := ⟨hR1⟩
  have HR2 : Aside0 (s.data.toList.all (isD true) = false → R = .tuple #[.string ⟨#[]⟩, .int .i64 160]) := ⟨hR2⟩
  have HN : Aside0 (s.size = 2 * n ∧ s.data.toList.length = s.size ∧ 0 < n) := ⟨hn, by rw [Array.length_toList]; rfl, by omega⟩
  clear hR1 hR2 hn
  have hnil := World.ownsRow_nil w w.heap.size 5 1
  go_enter Tryd.func73, Tryd.ntmps73
  go_wp2
  clear hx hc h1 k1 k2
  go_loopg [4, 5] n (fun g v4 v5 wr => ∃ k : Nat, v5 = .int .i64 ((2 * k : Nat) : Int) ∧ k + g = n ∧ wr.ownsRow w.heap.size 5 1 v4 k (us (pairs (s.data.toList.take (2 * k)))) ∧ Aside0 ((s.data.toList.take (2 * k)).all (isD true) = true) ∧ Below w.heap.size w wr)
  case atStart => exact ⟨0, rfl, by omega, hnil, ⟨by simp⟩, Below.refl _ _⟩
  case round =>
    obtain ⟨k, rfl, hkg, hown, hA, hB⟩ := hrel
    clear hnil
    obtain ⟨hsz, hlen, hpos⟩ := HN.out
    by_cases hk : k < n
    · obtain ⟨g, rfl⟩ : ∃ g, gk = g + 1 := ⟨gk - 1, by omega⟩
      obtain ⟨x, hx⟩ : ∃ x, s.data.toList[2 * k]? = some x := ⟨_, List.getElem?_eq_getElem (by omega)⟩
      obtain ⟨y, hy⟩ : ∃ y, s.data.toList[2 * k + 1]? = some y := ⟨_, List.getElem?_eq_getElem (by omega)⟩
      have hix := index_at s (2 * k) x hx
      have hiy := index_at s (2 * k + 1) y hy
      have hj1 : ((2 * k + 1 : Nat) : Int) = ((2 * k : Nat) : Int) + 1 := by omega
      rw [hj1] at hiy
      have cx := fun wq => cd wq x
      have cy := fun wq => cd wq y
      have hlt : ((2 * k : Nat) : Int) < (s.size : Int) := by omega
      have hj2 : ((2 * k : Nat) : Int) ≤ 3000000 := by omega
      have HJ : Aside0 (((2 * k : Nat) : Int) + 2 = ((2 * (k + 1) : Nat) : Int)) := ⟨by omega⟩
      have hmx : x ∈ s.data.toList := List.mem_of_getElem? hx
      have hmy : y ∈ s.data.toList := List.mem_of_getElem? hy
      have bad : isD true x = false ∨ isD true y = false → Aside0 (R = .tuple #[.string ⟨#[]⟩, .int .i64 160]) := fun h => ⟨HR2.out (by
        rw [List.all_eq_false]
        rcases h with h | h
        · exact ⟨x, hmx, by rw [h]; exact Bool.false_ne_true⟩
        · exact ⟨y, hmy, by rw [h]; exact Bool.false_ne_true⟩)⟩
      have neg : ∀ z, isD true z = false → digV true z < 0 := fun z h => by unfold digV; rw [if_neg (by rw [h]; exact Bool.false_ne_true)]; omega
      have pos : ∀ z, isD true z = true → digV true z = hv z ∧ hv z < 16 := fun z h => ⟨by unfold digV; rw [if_pos h], hv16 h⟩
      cases hdx : isD true x with
      | false =>
        have A := bad (Or.inl hdx)
        have n1 := neg x hdx
        clear bad neg pos hx hy hmx hmy hdx hA hown HJ cd hlen hsz
        obtain ⟨j, hj⟩ : ∃ j, 2 * k = j := ⟨_, rfl⟩
        rw [hj] at hix hiy hlt hj2 hj1 ⊢
        clear hj hj1
        have hsl : (j : Int) + 1 < (s.size : Int) ∨ True := Or.inr trivial
        clear hsl
        generalize digV true x = vx at cx n1
        generalize digV true y = vy at cy
        generalize x.toNat = xx at hix cx
        generalize y.toNat = yy at hiy cy
        go_wp2_with (first
          | (go_at_call 86; (with_reducible refine (cx _).mono ?_); rintro e w1 ⟨rfl, rfl⟩)
          | (go_at_call 86; (with_reducible refine (cy _).mono ?_); rintro e w1 ⟨rfl, rfl⟩))
        go_ret2
        exact ⟨by rw [A.out]; rfl, hB⟩
      | true =>
        cases hdy : isD true y with
        | false =>
          have A := bad (Or.inr hdy)
          have n1 := neg y hdy
          obtain ⟨p1, p2⟩ := pos x hdx
          have n0 : ¬ digV true x < 0 := by omega
          clear bad neg pos hx hy hmx hmy hdx hdy hA hown HJ cd hlen hsz p1 p2
          obtain ⟨j, hj⟩ : ∃ j, 2 * k = j := ⟨_, rfl⟩
          rw [hj] at hix hiy hlt hj2 hj1 ⊢
          clear hj hj1
          generalize digV true x = vx at cx n0
          generalize digV true y = vy at cy n1
          generalize x.toNat = xx at hix cx
          generalize y.toNat = yy at hiy cy
          go_wp2_with (first
            | (go_at_call 86; (with_reducible refine (cx _).mono ?_); rintro e w1 ⟨rfl, rfl⟩)
            | (go_at_call 86; (with_reducible refine (cy _).mono ?_); rintro e w1 ⟨rfl, rfl⟩))
          go_ret2
          exact ⟨by rw [A.out]; rfl, hB⟩
        | true =>
          obtain ⟨p1, p2⟩ := pos x hdx
          obtain ⟨q1, q2⟩ := pos y hdy
          have HP : Aside0 (pairs (s.data.toList.take (2 * (k + 1))) = pairs (s.data.toList.take (2 * k)) ++ [UInt8.ofNat (16 * hv x + hv y)]) := ⟨pairs_step k _ x y hx hy⟩
          have A1 : Aside0 ((s.data.toList.take (2 * (k + 1))).all (isD true) = true) := ⟨by
            rw [show 2 * (k + 1) = 2 * k + 1 + 1 by omega, take_next hy, take_next hx, List.all_append, List.all_append, hA.out]
            simp [hdx, hdy]⟩
          have hz : 16 * digV true x + digV true y = ((UInt8.ofNat (16 * hv x + hv y)).toNat : Int) := by
            rw [p1, q1, UInt8.toNat_ofNat']; omega
          have n0 : ¬ digV true x < 0 := by omega
          have n1 : ¬ digV true y < 0 := by omega
          have b0 : (0 : Int) ≤ digV true x := by omega
          have b1 : digV true x ≤ 15 := by omega
          have b2 : (0 : Int) ≤ digV true y := by omega
          have b3 : digV true y ≤ 15 := by omega
          have hz1 : ((UInt8.ofNat (16 * hv x + hv y)).toNat : Int) ≤ 255 := by have := (UInt8.ofNat (16 * hv x + hv y)).toNat_lt; omega
          have hk2 : k ≤ 1500000 := by omega
          clear bad neg pos hx hy hmx hmy hdx hdy hA cd hlen hsz p1 p2 q1 q2
          obtain ⟨j, hj⟩ : ∃ j, 2 * k = j := ⟨_, rfl⟩
          rw [hj] at hix hiy hlt hj2 hj1 hown HJ HP ⊢
          clear hj hj1
          generalize UInt8.ofNat (16 * hv x + hv y) = z at HP hz hz1
          generalize digV true x = vx at cx n0 b0 b1 hz
          generalize digV true y = vy at cy n1 b2 b3 hz
          generalize x.toNat = xx at hix cx
          generalize y.toNat = yy at hiy cy
          generalize pairs (s.data.toList.take j) = L at hown HP
          go_wp2_with (first
            | (go_at_call 86; (with_reducible refine (cx _).mono ?_); rintro e w1 ⟨rfl, rfl⟩)
            | (go_at_call 86; (with_reducible refine (cy _).mono ?_); rintro e w1 ⟨rfl, rfl⟩)
            | (at_builtin; (refine wpList_app rfl (.tmp 49) (.tmp 55) rfl w.heap.size k _ (us L) [z] (by simp) hown rfl rfl (by simp; omega) hB.size rfl ?_; intro v1 w3 own2 gr1; have bel1 := below_app rfl hB hown gr1)))
          go_roundg g
          case measure => omega
          case rel => exact ⟨k + 1, by rw [← HJ.out], by omega, by rw [HP.out, us_append]; exact own2, A1, bel1⟩
    · obtain rfl : k = n := by omega
      have hlt : ¬ ((2 * k : Nat) : Int) < (s.size : Int) := by omega
      rw [List.take_of_length_le (by omega)] at hown
      have hA' := hA.out
      rw [List.take_of_length_le (by omega)] at hA'
      have A : Aside0 (R = .tuple #[.string (B (pairs s.data.toList)), .int .i64 0]) := ⟨HR1.out hA'⟩
      obtain ⟨gg, cp, rfl, hconv⟩ := conv_own hown (own_pos hown (by omega))
      generalize B (pairs s.data.toList) = rr at hconv A
      clear hown hk hA hA' cd hlen hsz
      obtain ⟨j, hj⟩ : ∃ j, 2 * k = j := ⟨_, rfl⟩
      rw [hj] at hlt
      rw [hj]
      clear hj
      go_wp2
      go_ret2
      exact ⟨by rw [A.out]; rfl, hB⟩
/-- Bytes, the document's. -/
theorem rbytes_walk (w : World) (s : ByteArray) (hs : s.size ≤ 3000000) :
    Calls Tryd.prog 73 #[.string s] w fun e w' => e = .returned (.tuple #[.string (B ((bytesV s.data.toList).getD [])), .int .i64 (if (bytesV s.data.toList).isSome then 0 else 160)]) ∧ Below w.heap.size w w' := by
  have hlen : s.data.toList.length = s.size := by rw [Array.length_toList]; rfl
  by_cases h45 : s.data.toList = [45]
  · have e : bytesV s.data.toList = some [] := by unfold bytesV; rw [if_pos h45]
    rw [e, eq_of_toList h45]
    exact rbytes_dash w
  · have h45' : (s.toList == [45]) = false := by rw [bytes_eq_iff]; exact decide_eq_false h45
    cases hl : s.data.toList with
    | nil =>
      have e : bytesV [] = none := by decide
      rw [e, isEmpty_nil hl]
      exact rbytes_empty w
    | cons c t =>
      have hne := nonempty hl
      have hx := index0 hl
      have hsz := size_cons hl
      by_cases ht : t = []
      · have e : bytesV (c :: t) = none := by
          rw [← hl]
          unfold bytesV
          rw [if_neg h45, if_neg (by rw [hl, ht]; simp), if_neg (by rw [hl, ht]; simp)]
        rw [e]
        exact rbytes_one w s h45' hne (by rw [hsz, ht]; rfl)
      · have ht1 : 0 < t.length := List.length_pos_iff.2 ht
        by_cases h39 : c = 39
        · subst h39
          have e : bytesV (39 :: t) = some t := by
            rw [← hl]
            unfold bytesV
            rw [if_neg h45, if_pos (by rw [hl]; simpa using ht), hl]; rfl
          rw [e]
          have e1 : B t = s.extract 1 s.size := by rw [← extract1 hl, B_of]
          show Calls _ _ _ _ (fun e w' => e = .returned (.tuple #[.string (B t), .int .i64 0]) ∧ _)
          rw [e1]
          exact rbytes_quote w s h45' (by omega) hx
        · have hc : ((c.toNat : Int) == 39) = false := beq_eq_false_iff_ne.2 (fun e => h39 (by
            have h2 : c.toNat = (39 : UInt8).toNat := by
              have : (39 : UInt8).toNat = 39 := rfl
              omega
            exact UInt8.toNat_inj.1 h2))
          have hq : ¬ (s.data.toList.head? = some 39 ∧ s.data.toList.tail ≠ []) := by rw [hl]; simp [h39]
          by_cases ho : s.size % 2 = 1
          · have e : bytesV (c :: t) = none := by
              rw [← hl]
              unfold bytesV
              rw [if_neg h45, if_neg hq, if_neg (by omega)]
            rw [e]
            exact rbytes_odd w s h45' hne (by omega) c.toNat hx hc ho
          · rw [← hl]
            refine rbytes_hex w s hs h45' hne (by omega) c.toNat hx hc (s.size / 2) (by omega) _ (fun ha => ?_) (fun ha => ?_)
            · have e : bytesV s.data.toList = some (pairs s.data.toList) := by
                unfold bytesV
                rw [if_neg h45, if_neg hq, if_pos ⟨by unfold allD; rw [ha, hl]; rfl, by omega⟩]
              rw [e]; rfl
            · have e : bytesV s.data.toList = none := by
                unfold bytesV
                rw [if_neg h45, if_neg hq, if_neg (by unfold allD; rw [ha]; simp)]
              rw [e]; rfl
end Go.Proofs.YtigaacbaaopfmaaDoor.sh
/- Plain laws of numbers and bytes as text: what is printed is read. -/
namespace Go.Proofs.YtigaacbaaopfmaaDoor.sh
set_option linter.unusedVariables false
theorem valF_append (b : Bool) : ∀ (l m : List UInt8) (a : Nat), valF b a (l ++ m) = valF b (valF b a l) m
  | [], m, a => rfl
  | c :: r, m, a => valF_append b r m _
theorem dig_ok (u : Nat) (h : u < 10) : isD false (UInt8.ofNat (48 + u)) = true ∧ hv (UInt8.ofNat (48 + u)) = u := by
  have e : (UInt8.ofNat (48 + u)).toNat = 48 + u := by rw [UInt8.toNat_ofNat']; omega
  refine ⟨?_, ?_⟩
  · unfold isD; simp; omega
  · rw [hv_dig (by omega), e]; omega
theorem dec_ne (u : Nat) : Lib.decDigits u ≠ [] := by
  rw [Lib.decDigits]
  split <;> simp
theorem dec_all : ∀ (k u : Nat), u ≤ k → (Lib.decDigits u).all (isD false) = true
  | 0, u, h => by
    rw [Lib.decDigits, dif_pos (by omega)]
    have := (dig_ok u (by omega)).1
    simp only [List.all_cons, List.all_nil, Bool.and_true]
    exact this
  | k + 1, u, h => by
    rw [Lib.decDigits]
    split
    · next h1 =>
      have := (dig_ok u h1).1
      simp only [List.all_cons, List.all_nil, Bool.and_true]
      exact this
    · next h1 =>
      rw [List.all_append, dec_all k (u / 10) (by omega)]
      have := (dig_ok (u % 10) (by omega)).1
      simp only [List.all_cons, List.all_nil, Bool.and_true, Bool.true_and]
      exact this
theorem dec_val : ∀ (k u : Nat), u ≤ k → val false (Lib.decDigits u) = u
  | 0, u, h => by
    rw [Lib.decDigits, dif_pos (by omega)]
    have := (dig_ok u (by omega)).2
    show 0 * rad false + hv _ = u
    omega
  | k + 1, u, h => by
    rw [Lib.decDigits]
    split
    · next h1 =>
      have := (dig_ok u h1).2
      show 0 * rad false + hv _ = u
      omega
    · next h1 =>
      have ih := dec_val k (u / 10) (by omega)
      unfold val at ih ⊢
      rw [valF_append, ih]
      have := (dig_ok (u % 10) (by omega)).2
      show (u / 10) * 10 + hv _ = u
      omega
theorem dec_allD (u : Nat) : allD false (Lib.decDigits u) = true := by
  unfold allD
  rw [dec_all u u (Nat.le_refl _), Bool.and_true]
  have := dec_ne u
  cases h : Lib.decDigits u with
  | nil => exact absurd h this
  | cons _ _ => rfl
theorem numP_itoa (n : Int) (hn : In64 n) : numP (Lib.itoa n) = (n, 0) := by
  unfold In64 at hn
  unfold Lib.itoa
  by_cases h : n < 0
  · rw [if_pos h, numP, if_pos rfl, if_pos (dec_allD _), dec_val _ _ (Nat.le_refl _), if_pos (by omega)]
    congr 1; omega
  · rw [if_neg h]
    have hd := dec_allD n.toNat
    have hv := dec_val _ n.toNat (Nat.le_refl _)
    cases hl : Lib.decDigits n.toNat with
    | nil => exact absurd hl (dec_ne _)
    | cons c t =>
      rw [hl] at hd hv
      have hc : c ≠ 45 := by
        intro e
        subst e
        unfold allD at hd
        simp [isD] at hd
      rw [numP, if_neg hc, if_pos hd, hv, if_pos (by omega)]
      congr 1; omega
theorem strictN_itoa (n : Int) (hn : In64 n) : strictN (Lib.itoa n) = true := by
  unfold strictN; rw [numP_itoa n hn]; simp
theorem strictN_of {l : List UInt8} (h : strictN l = true) : Lib.itoa (numP l).1 = l := by
  unfold strictN at h
  simp at h
  exact h.2
theorem hexd_ok : ∀ v : Fin 16, isD true (hexd v.val) = true ∧ hv (hexd v.val) = v.val := by decide
theorem hexd_D (v : Nat) (h : v < 16) : isD true (hexd v) = true := (hexd_ok ⟨v, h⟩).1
theorem hexd_v (v : Nat) (h : v < 16) : hv (hexd v) = v := (hexd_ok ⟨v, h⟩).2
theorem hexL_all : ∀ l : List UInt8, (hexL l).all (isD true) = true
  | [] => rfl
  | c :: l => by
    have hc := c.toNat_lt
    show (hexd (c.toNat / 16) :: hexd (c.toNat % 16) :: hexL l).all (isD true) = true
    rw [List.all_cons, List.all_cons, hexd_D _ (by omega), hexd_D _ (by omega), hexL_all l]; rfl
theorem pairs_hexL : ∀ l : List UInt8, pairs (hexL l) = l
  | [] => rfl
  | c :: l => by
    have hc := c.toNat_lt
    show UInt8.ofNat (16 * hv (hexd (c.toNat / 16)) + hv (hexd (c.toNat % 16))) :: pairs (hexL l) = c :: l
    rw [hexd_v _ (by omega), hexd_v _ (by omega), pairs_hexL l]
    congr 1
    rw [show 16 * (c.toNat / 16) + c.toNat % 16 = c.toNat by omega]
    exact UInt8.ofNat_toNat
theorem bytesV_bytesL (l : List UInt8) : bytesV (bytesL l) = some l := by
  unfold bytesL
  by_cases h : l = []
  · subst h; rfl
  · rw [if_neg h]
    have hlen := hexL_length l
    have hp : 0 < l.length := List.length_pos_iff.2 h
    have hne : hexL l ≠ [45] := fun e => by rw [e] at hlen; simp at hlen; omega
    have hh : ¬ ((hexL l).head? = some 39 ∧ (hexL l).tail ≠ []) := fun e => by
      have ha := hexL_all l
      cases hl : hexL l with
      | nil => rw [hl] at e; simp at e
      | cons x t =>
        rw [hl] at e ha
        simp at e
        rw [List.all_cons, e.1] at ha
        revert ha
        simp [isD]
    have ha : allD true (hexL l) = true := by
      unfold allD
      rw [hexL_all, Bool.and_true]
      cases hl : hexL l with
      | nil => rw [hl] at hlen; simp at hlen; omega
      | cons _ _ => rfl
    unfold bytesV
    rw [if_neg hne, if_neg hh, if_pos ⟨ha, by omega⟩, pairs_hexL]
theorem strictB_bytesL (l : List UInt8) : strictB (bytesL l) = true := by
  unfold strictB; rw [bytesV_bytesL]; simp
theorem strictB_of {l : List UInt8} (h : strictB l = true) : bytesL ((bytesV l).getD []) = l := by
  unfold strictB at h
  simp at h
  exact h.2
/-- No blank in it. -/
def noB (l : List UInt8) : Bool := l.all fun c => c != 32
theorem noB_of {l : List UInt8} {b : Bool} (h : l.all (isD b) = true) : noB l = true := by
  unfold noB
  rw [List.all_eq_true] at h ⊢
  intro x hx
  have := h x hx
  simp only [bne_iff_ne, ne_eq]
  intro e
  subst e
  cases b <;> simp [isD] at this
theorem noB_itoa (n : Int) : noB (Lib.itoa n) = true := by
  unfold Lib.itoa
  have h := fun u => noB_of (dec_all u u (Nat.le_refl _))
  split
  · have h2 := h n.natAbs
    unfold noB at h2 ⊢
    rw [List.all_cons, h2]; rfl
  · exact h _
theorem noB_bytesL (l : List UInt8) : noB (bytesL l) = true := by
  unfold bytesL
  split
  · rfl
  · exact noB_of (hexL_all l)
theorem split_one : ∀ x : List UInt8, noB x = true → splitL x = [x]
  | [], _ => splitL_nil
  | c :: r, h => by
    unfold noB at h
    rw [List.all_cons, Bool.and_eq_true] at h
    have hc : c ≠ 32 := by simpa using h.1
    rw [splitL_cons, if_neg hc, split_one r h.2]; rfl
theorem split_more : ∀ (x r : List UInt8), noB x = true → splitL (x ++ 32 :: r) = x :: splitL r
  | [], r, _ => by rw [List.nil_append, splitL_cons, if_pos rfl]
  | c :: x, r, h => by
    unfold noB at h
    rw [List.all_cons, Bool.and_eq_true] at h
    have hc : c ≠ 32 := by simpa using h.1
    rw [List.cons_append, splitL_cons, if_neg hc, split_more x r h.2]; rfl
/-- Pieces put together again. -/
def joinL : List (List UInt8) → List UInt8
  | [] => []
  | [x] => x
  | x :: y :: r => x ++ 32 :: joinL (y :: r)
theorem join_pre (c : UInt8) (l : List (List UInt8)) (h : l ≠ []) : joinL (pre c l) = c :: joinL l := by
  match l, h with
  | [x], _ => rfl
  | x :: y :: r, _ => rfl
theorem join_split : ∀ l : List UInt8, joinL (splitL l) = l
  | [] => by rw [splitL_nil]; rfl
  | c :: r => by
    rw [splitL_cons]
    split
    · next h =>
      subst h
      have ih := join_split r
      cases hs : splitL r with
      | nil => exact absurd hs (splitL_ne r)
      | cons y ys =>
        rw [hs] at ih
        show [] ++ 32 :: joinL (y :: ys) = _
        rw [ih]; rfl
    · rw [join_pre _ _ (splitL_ne r), join_split r]
theorem findP_name : ∀ i : Fin 16, findP (names.getD i.val []) = i.val := by decide
theorem findP_of {l : List UInt8} {i : Nat} (h : findP l = (i : Int)) : names.getD i [] = l := by
  have key : ∀ g k, k + g = 16 → ∀ i : Nat, findFrom l k g = (i : Int) → names.getD i [] = l := by
    intro g
    induction g with
    | zero => intro k _ i h; unfold findFrom at h; omega
    | succ g ih =>
      intro k hk i h
      rw [findFrom] at h
      split at h
      · next e =>
        have : i = k := by omega
        rw [this]; exact e
      · exact ih (k + 1) (by omega) i h
  exact key 16 0 rfl i h
theorem noB_names : ∀ i : Fin 16, noB (names.getD i.val []) = true := by decide
end Go.Proofs.YtigaacbaaopfmaaDoor.sh
/- The document's pieces of a line: walked. -/
namespace Go.Proofs.YtigaacbaaopfmaaDoor.sh
open Go.RowKit
set_option linter.unusedVariables false
/-- An append of new elements, just boxed, to a row of the call's own. -/
theorem wpList_new {w W : World} {ops : Array Oper} {rest : List Oper} {o' : Oper} {a : Act} {Q : Exit → Act → World → Prop} {T E size bytes : Nat} {z : Value} (hgd : o'.guard = none) (s x : Operand)
    (ho : o'.op = .call { callee := .builtin .append, args := #[s, x], argTypes := #[T, T] }) (hT : Tryd.prog.underlying T = some (.slice E))
    (hE : (Tryd.prog.info? E).map (fun i => (i.zero, i.size, i.bytes)) = some (some z, size, bytes)) (hzs : z.cells.size = size) (hsz : 0 < size)
    (base n : Nat) (v : Value) (xs : List Value) (m c : Nat) (news : List Value) (hl : news.length = m * size) (hown : w.ownsRow base E size v n xs) (hsv : a.eval s = v) (hx : a.eval x = .slice (some ⟨w.heap.size, 0, none⟩) m c)
    (h1 : ∀ u ∈ news, u.oneCell' = true) (h63 : n + m ≤ maxLen) (hby : (n + m) * bytes ≤ 140737488355328) (hbase : base ≤ w.heap.size) (hW : W = w.alloc (.cells news.toArray E))
    (h : ∀ v' w', w'.ownsRow base E size v' (n + m) (xs ++ news) → (w.alloc (.cells news.toArray E)).grownBy w' v.ownBlock → wpList Tryd.prog ops Q rest (a.put o'.dst v') w') : wpList Tryd.prog ops Q (o' :: rest) a W := by
  subst hW
  obtain ⟨i, hi, hz0, hz1, hz2⟩ := info_parts hE
  refine wpList_append_own (P := Tryd.prog) _ hgd s x T ho base E i z size bytes hT hi hz0 hz1 hz2 hzs hsz v n xs hsv (hown.alloc _) ⟨w.heap.size, 0, none⟩ m c news hx hl (fun j u hj => ?_) h1 h63 hby (by simp; omega) (fun v' w' h2 h3 _ => h v' w' h2 h3)
  have hadd : (⟨w.heap.size, 0, none⟩ : Addr).add j = ⟨w.heap.size, j, none⟩ := by unfold Addr.add; split <;> simp_all
  rw [hadd]
  have hb : (w.alloc (.cells news.toArray E)).heap[w.heap.size]? = some (.cells news.toArray E) := Array.getElem?_push_size
  rw [cell_of_row _ _ _ _ _ _ hb]
  simpa using hj
theorem below_new {w wr w1 : World} {E size : Nat} {news : List Value} {v : Value} {n : Nat} {xs : List Value} {b : Nat} (hbw : b = w.heap.size) (hB : Below b w wr) (hown : wr.ownsRow b E size v n xs) (hg : (wr.alloc (.cells news.toArray E)).grownBy w1 v.ownBlock) : Below b w w1 := by
  have := hB.size
  refine Below.grown (hB.alloc (by omega) _) hg (by simp; omega) (fun k hk => (hown.lt k hk).1)
theorem info9 : (Tryd.prog.info? 9).map (fun i => (i.zero, i.size, i.bytes)) = some (some (.string ⟨#[]⟩), 1, 16) := by kernel_rfl
/-- Texts as cells. -/
def ss (l : List (List UInt8)) : List Value := l.map fun x => Value.string (B x)
theorem ss_append (a b : List (List UInt8)) : ss (a ++ b) = ss a ++ ss b := by simp [ss]
/-- A row of texts of the call's own: its texts lie there. -/
theorem texts_own {w : World} {base n : Nat} {v : Value} {l : List (List UInt8)} (h : w.ownsRow base 9 1 v n (ss l)) (hl : l ≠ []) : ∃ b c, v = .slice (some ⟨b, 0, none⟩) l.length c ∧ LT w b 0 l := by
  have hn : n = l.length := by have := h.1; rw [ss, List.length_map] at this; omega
  rcases h.2 with ⟨h1, h2⟩ | ⟨g, cap, cur, h1, h2, h3, h4, h5, h6, h7⟩
  · have : l.length = 0 := by omega
    exact absurd (List.eq_nil_of_length_eq_zero this) hl
  · subst hn
    refine ⟨g, cap, h1, fun j x hx => ?_⟩
    have hj : j < l.length := (List.getElem?_eq_some_iff.1 hx).1
    unfold World.cell?
    rw [h3]
    have e : (ss l)[j]? = some (.string (B x)) := by rw [ss, List.getElem?_map, hx]; rfl
    rw [← h7, List.getElem?_take, if_pos (by omega)] at e
    show cur[0 + j]? = _
    rw [Nat.zero_add]
    simpa using e
theorem noB_take {s : List UInt8} {f k : Nat} (h : noB ((s.drop f).take (k - f)) = true) (hf : f ≤ k) {c : UInt8} (hc : s[k]? = some c) (h32 : c ≠ 32) : noB ((s.drop f).take (k + 1 - f)) = true := by
  have e : k + 1 - f = (k - f) + 1 := by omega
  have hc2 : (s.drop f)[k - f]? = some c := by rw [List.getElem?_drop, show f + (k - f) = k by omega]; exact hc
  rw [e, take_next hc2]
  unfold noB at h ⊢
  rw [List.all_append, h]
  simp [h32]
theorem split_at {s : List UInt8} {f k : Nat} (h : noB ((s.drop f).take (k - f)) = true) (hf : f ≤ k) (hc : s[k]? = some 32) : splitL (s.drop f) = (s.drop f).take (k - f) :: splitL (s.drop (k + 1)) := by
  have hc2 : (s.drop f)[k - f]? = some 32 := by rw [List.getElem?_drop, show f + (k - f) = k by omega]; exact hc
  obtain ⟨h1, h2⟩ := List.getElem?_eq_some_iff.1 hc2
  have e : s.drop f = (s.drop f).take (k - f) ++ 32 :: s.drop (k + 1) := by
    have e1 := List.take_append_drop (k - f) (s.drop f)
    have e2 : (s.drop f).drop (k - f) = 32 :: s.drop (k + 1) := by
      rw [List.drop_eq_getElem_cons h1, h2, List.drop_drop]
      congr 2; omega
    rw [e2] at e1
    exact e1.symm
  conv => lhs; rw [e]
  exact split_more _ _ h
theorem extract_B (s : ByteArray) (f k : Nat) : s.extract f k = B ((s.data.toList.drop f).take (k - f)) := by
  rw [← B_of (s.extract f k), Lib.extract_data]
def PiecesP (ws : List (List UInt8)) (w : World) (e : Ending) (w' : World) : Prop := ∃ b c, e = .returned (.slice (some ⟨b, 0, none⟩) ws.length c) ∧ LT w' b 0 ws ∧ Below w.heap.size w w'
set_option maxHeartbeats 4000000 in
set_option maxRecDepth 100000 in
theorem pieces_walk (w : World) (s : ByteArray) (hs : s.size ≤ 3000000) : Calls Tryd.prog 54 #[.string s] w (PiecesP (splitL s.data.toList) w) := by
  have HL : Aside0 (s.data.toList.length = s.size) := ⟨by rw [Array.length_toList]; rfl⟩
  have hnil := World.ownsRow_nil w w.heap.size 9 1
  go_enter Tryd.func54, Tryd.ntmps54
  go_wp2
  go_loopg [3, 4, 5] s.size (fun g v3 v4 v5 wr => ∃ (k f : Nat) (done : List (List UInt8)), v5 = .int .i64 k ∧ v4 = .int .i64 f ∧ k + g = s.size ∧ f ≤ k ∧ done.length ≤ k ∧ wr.ownsRow w.heap.size 9 1 v3 done.length (ss done) ∧ Aside0 (splitL s.data.toList = done ++ splitL (s.data.toList.drop f) ∧ noB ((s.data.toList.drop f).take (k - f)) = true) ∧ Below w.heap.size w wr)
  case atStart => exact ⟨0, 0, [], rfl, rfl, by omega, Nat.le_refl _, Nat.le_refl _, hnil, ⟨by simp, by rw [Nat.sub_self, List.take_zero]; rfl⟩, Below.refl _ _⟩
  case round =>
    obtain ⟨k, f, done, rfl, rfl, hkg, hfk, hdk, hown, hA, hB⟩ := hrel
    clear hnil
    obtain ⟨hsp, hnb⟩ := hA.out
    have hlen := HL.out
    by_cases hk : k < s.size
    · obtain ⟨g, rfl⟩ : ∃ g, gk = g + 1 := ⟨gk - 1, by omega⟩
      have hlt : (k : Int) < (s.size : Int) := by omega
      obtain ⟨c, hc⟩ : ∃ c, s.data.toList[k]? = some c := ⟨_, List.getElem?_eq_getElem (by omega)⟩
      have hi := index_at s k c hc
      have hk1 : k ≤ 3000000 := by omega
      by_cases h32 : c = 32
      · subst h32
        obtain ⟨u, hu⟩ : ∃ u, s.extract f k = u := ⟨_, rfl⟩
        have hsl : ∀ W, (Instr.slice 9 (.string s) (some (.int .i64 (f : Int))) (some (.int .i64 (k : Int))) none).run Tryd.prog W = .ok (.string u) W := fun W => by
          rw [run_slice_string (h := Tryd.underlying9) (h0 := by omega) (h1 := by omega) (h2 := by omega), ← hu, Int.toNat_natCast, Int.toNat_natCast]
        have A1 : Aside0 (splitL s.data.toList = (done ++ [(s.data.toList.drop f).take (k - f)]) ++ splitL (s.data.toList.drop (k + 1)) ∧ noB ((s.data.toList.drop (k + 1)).take (k + 1 - (k + 1))) = true) := ⟨by rw [hsp, split_at hnb hfk hc]; simp, by rw [Nat.sub_self, List.take_zero]; rfl⟩
        have HU : Aside0 (ss [(s.data.toList.drop f).take (k - f)] = [Value.string u]) := ⟨by rw [← hu, extract_B]; rfl⟩
        have HD : Aside0 ((done ++ [(s.data.toList.drop f).take (k - f)]).length = done.length + 1) := ⟨by simp⟩
        clear hsp hnb hA hc hlen hu
        generalize (s.data.toList.drop f).take (k - f) = piece at A1 HU HD
        have hi : ∀ W, (Instr.index 9 (.string s) (.int .i64 (k : Int))).run Tryd.prog W = .ok (.int .u8 32) W := hi
        go_wp2_with (at_builtin; (refine wpList_new (T := 74) (E := 9) (size := 1) (bytes := 16) rfl (.tmp 16) (.tmp 21) rfl Tryd.underlying74 info9 rfl (by decide) w.heap.size done.length _ (ss done) 1 1 [.string u] rfl hown rfl rfl (by intro x hx; simp at hx; subst hx; rfl) (by unfold maxLen; omega) (by omega) hB.size rfl ?_; intro v1 w3 own2 gr1; have bel1 := below_new rfl hB hown gr1))
        go_roundg g
        case measure => omega
        case rel => exact ⟨k + 1, k + 1, done ++ [piece], by go_num, by go_num, by omega, Nat.le_refl _, by rw [HD.out]; omega, by rw [HD.out, ss_append, HU.out]; exact own2, A1, bel1⟩
      · have hne : ((c.toNat : Int) == 32) = false := beq_eq_false_iff_ne.2 (fun e => h32 (by
          have h2 : c.toNat = (32 : UInt8).toNat := by
            have : (32 : UInt8).toNat = 32 := rfl
            omega
          exact UInt8.toNat_inj.1 h2))
        have A1 : Aside0 (splitL s.data.toList = done ++ splitL (s.data.toList.drop f) ∧ noB ((s.data.toList.drop f).take (k + 1 - f)) = true) := ⟨hsp, noB_take hnb hfk hc h32⟩
        clear hsp hnb hA hc hlen h32
        generalize c.toNat = cc at hi hne
        go_wp2
        go_roundg g
        case measure => omega
        case rel => exact ⟨k + 1, f, done, by go_num, rfl, by omega, by omega, by omega, hown, A1, hB⟩
    · obtain rfl : k = s.size := by omega
      have hlt : ¬ (s.size : Int) < (s.size : Int) := by omega
      obtain ⟨u, hu⟩ : ∃ u, s.extract f s.size = u := ⟨_, rfl⟩
      have hsl : ∀ W, (Instr.slice 9 (.string s) (some (.int .i64 (f : Int))) none none).run Tryd.prog W = .ok (.string u) W := fun W => by
        rw [run_slice_string_l (ht := Tryd.underlying9) (h0 := by omega) (h1 := by omega), ← hu, Int.toNat_natCast]
      have hnb2 : noB (s.data.toList.drop f) = true := by
        rw [List.take_of_length_le (by rw [List.length_drop]; omega)] at hnb; exact hnb
      have A1 : Aside0 (splitL s.data.toList = done ++ [s.data.toList.drop f]) := ⟨by rw [hsp, split_one _ hnb2]⟩
      have HU : Aside0 (ss [s.data.toList.drop f] = [Value.string u]) := ⟨by rw [← hu, extract_B, List.take_of_length_le (by rw [List.length_drop]; omega)]; rfl⟩
      clear hsp hnb hnb2 hA hlen hu
      have hk1 : s.size ≤ 3000000 := hs
      go_wp2_with (at_builtin; (refine wpList_new (T := 74) (E := 9) (size := 1) (bytes := 16) rfl (.tmp 25) (.tmp 29) rfl Tryd.underlying74 info9 rfl (by decide) w.heap.size done.length _ (ss done) 1 1 [.string u] rfl hown rfl rfl (by intro x hx; simp at hx; subst hx; rfl) (by unfold maxLen; omega) (by omega) hB.size rfl ?_; intro v1 w3 own2 gr1; have bel1 := below_new rfl hB hown gr1))
      rw [← HU.out, ← ss_append] at own2
      obtain ⟨b, cp, rfl, hlt2⟩ := texts_own own2 (by simp)
      go_ret
      exact ⟨b, cp, by rw [A1.out]; rfl, by rw [A1.out]; exact hlt2, bel1⟩
end Go.Proofs.YtigaacbaaopfmaaDoor.sh
/- The program's lines of a text: walked. -/
namespace Go.Proofs.YtigaacbaaopfmaaDoor.sh
open Go.RowKit
set_option linter.unusedVariables false
/-- A rune that begins high is of high bytes alone. -/
theorem decode_span (s : ByteArray) (p : Nat) (hp : p < s.size) (ha : 128 ≤ (s.get! (p + 0)).toNat) :
    p + (Utf8.decode s p).2 ≤ s.size ∧ 1 ≤ (Utf8.decode s p).2 ∧ ∀ j, j < (Utf8.decode s p).2 → 128 ≤ (s.get! (p + j)).toNat := by
  have hn : ¬ (s.get! (p + 0)).toNat < 128 := by omega
  have one : p + 1 ≤ s.size ∧ 1 ≤ 1 ∧ ∀ j, j < 1 → 128 ≤ (s.get! (p + j)).toNat := by
    refine ⟨by omega, Nat.le_refl _, fun j hj => ?_⟩
    have : j = 0 := by omega
    subst this
    exact ha
  simp only [Utf8.decode, hn, if_false]
  split
  · next h1 =>
    simp only [Bool.and_eq_true, decide_eq_true_eq, beq_iff_eq] at h1
    split
    · refine ⟨by simp only; omega, by simp only; omega, fun j hj => ?_⟩
      simp only at hj
      match j, hj with
      | 0, _ => exact ha
      | 1, _ => omega
    · exact one
  · split
    · next h1 =>
      simp only [Bool.and_eq_true, decide_eq_true_eq, beq_iff_eq] at h1
      split
      · refine ⟨by simp only; omega, by simp only; omega, fun j hj => ?_⟩
        simp only at hj
        match j, hj with
        | 0, _ => exact ha
        | 1, _ => omega
        | 2, _ => omega
      · exact one
    · split
      · next h1 =>
        simp only [Bool.and_eq_true, decide_eq_true_eq, beq_iff_eq] at h1
        split
        · refine ⟨by simp only; omega, by simp only; omega, fun j hj => ?_⟩
          simp only at hj
          match j, hj with
          | 0, _ => exact ha
          | 1, _ => omega
          | 2, _ => omega
          | 3, _ => omega
        · exact one
      · exact one
/-- Lines: cut at byte 10; what is behind the last one is a line if it is not empty. -/
def linesG (cur : List UInt8) : List UInt8 → List (List UInt8)
  | [] => if cur = [] then [] else [cur]
  | c :: r => if c = 10 then cur :: linesG [] r else linesG (cur ++ [c]) r
def linesL (l : List UInt8) : List (List UInt8) := linesG [] l
theorem linesG_high : ∀ (k : Nat) (cur l : List UInt8), (∀ j, j < k → ∃ c, l[j]? = some c ∧ c ≠ 10) → linesG cur l = linesG (cur ++ l.take k) (l.drop k)
  | 0, cur, l, h => by simp
  | k + 1, cur, l, h => by
    obtain ⟨c, hc, h10⟩ := h 0 (by omega)
    cases l with
    | nil => simp at hc
    | cons x r =>
      simp at hc
      subst hc
      rw [linesG, if_neg h10, linesG_high k (cur ++ [x]) r (fun j hj => by simpa using h (j + 1) (by omega))]
      simp
theorem own_iterAt {w : World} {base k E size n p : Nat} {v : Value} {xs : List Value} {s : ByteArray} (h : w.ownsRow base E size v n xs) (hk : k < base) : (w.iterAt k s p).ownsRow base E size v n xs := by
  refine ⟨h.1, ?_⟩
  rcases h.2 with h1 | ⟨g, cap, cur, h1, h2, h3, h4⟩
  · exact .inl h1
  · exact .inr ⟨g, cap, cur, h1, h2, (Lib.iterAt_other w k g s p (by omega)).trans h3, h4⟩
theorem own_mono {w : World} {base b E size n : Nat} {v : Value} {xs : List Value} (h : w.ownsRow base E size v n xs) (hk : b ≤ base) : w.ownsRow b E size v n xs := by
  refine ⟨h.1, ?_⟩
  rcases h.2 with h1 | ⟨g, cap, cur, h1, h2, h3, h4⟩
  · exact .inl h1
  · exact .inr ⟨g, cap, cur, h1, by omega, h3, h4⟩
theorem own_ne {w : World} {base E size n k : Nat} {v : Value} {xs : List Value} (h : w.ownsRow base E size v n xs) (hk : k < base) : ¬ some k = v.ownBlock := by
  intro e
  have := (h.lt k e.symm).1
  omega
/-- The iterator, the list and what lay before: behind an append. -/
theorem iter_new {w w1 : World} {E size n k p : Nat} {v : Value} {xs news : List Value} {s : ByteArray} (hit : w.heap[k]? = some (.stringIter s p)) (h : w.ownsRow (k + 1) E size v n xs) (hg : (w.alloc (.cells news.toArray E)).grownBy w1 v.ownBlock) : w1.heap[k]? = some (.stringIter s p) := by
  have hlt : k < w.heap.size := (Array.getElem?_eq_some_iff.1 hit).1
  rw [hg.block k (by simp; omega) (own_ne h (by omega)), ← hit]
  exact heap_alloc_old w _ hlt
/-- The rune at p. -/
theorem rune_at (s : ByteArray) (p : Nat) (hp : p < s.size) : ∃ c R K, s.data.toList[p]? = some c ∧ Utf8.decode s p = (R, K) ∧ 1 ≤ K ∧ p + K ≤ s.size ∧
    ((c.toNat < 128 ∧ R = c.toNat ∧ K = 1) ∨ (128 ≤ R ∧ 128 ≤ c.toNat ∧ ∀ j, j < K → ∃ x, (s.data.toList.drop p)[j]? = some x ∧ 128 ≤ x.toNat)) := by
  have hc : s.data.toList[p]? = some (s[p]'hp) := by
    rw [List.getElem?_eq_getElem (by simpa using hp)]; rfl
  refine ⟨_, (Utf8.decode s p).1, (Utf8.decode s p).2, hc, rfl, ?_⟩
  by_cases ha : (s[p]'hp).toNat < 128
  · rw [decode_ascii s p hp ha]
    exact ⟨Nat.le_refl _, by simp only; omega, .inl ⟨ha, rfl, rfl⟩⟩
  · have hd := decode_high s p hp (by omega)
    have hsp := decode_span s p hp (by rw [get_at s p hp]; omega)
    refine ⟨hsp.2.1, hsp.1, .inr ⟨hd.1, by omega, fun j hj => ?_⟩⟩
    have h2 := hsp.2.2 j hj
    have hlt : p + j < s.size := by omega
    have e : s.get! (p + j) = s[p + j]'hlt := by
      have := get_at s (p + j) hlt
      simpa using this
    refine ⟨s[p + j]'hlt, ?_, by rw [← e]; exact h2⟩
    rw [List.getElem?_drop, List.getElem?_eq_getElem (by simpa using hlt)]; rfl
theorem cut_more {s : List UInt8} {f p K : Nat} (hf : f ≤ p) : (s.drop f).take (p - f) ++ (s.drop p).take K = (s.drop f).take (p + K - f) := by
  have e : s.drop p = (s.drop f).drop (p - f) := by rw [List.drop_drop]; congr 1; omega
  rw [e, ← List.take_add]
  congr 1; omega
theorem own_alloc_lt {w : World} {k : Nat} {s : ByteArray} : (w.iter s k).heap[w.heap.size]? = some (.stringIter s k) := World.iter_heap w s k
/-- What a function that gathers texts gives back. -/
def TextsP (ws : List (List UInt8)) (w : World) (e : Ending) (w' : World) : Prop := ∃ v, e = .returned v ∧ w'.ownsRow w.heap.size 9 1 v ws.length (ss ws) ∧ Below w.heap.size w w'
set_option maxHeartbeats 4000000 in
set_option maxRecDepth 100000 in
theorem lines_walk (w : World) (s : ByteArray) (hs : s.size ≤ 3000000) : Calls Tryd.prog 43 #[.string s] w (TextsP (linesL s.data.toList) w) := by
  have HL : Aside0 (s.data.toList.length = s.size) := ⟨by rw [Array.length_toList]; rfl⟩
  obtain ⟨k, hk⟩ : ∃ k, w.heap.size = k := ⟨_, rfl⟩
  have hit0 := own_alloc_lt (w := w) (k := 0) (s := s)
  have hb0 : Below k w (w.iter s 0) := by rw [← hk]; exact (Below.refl _ w).alloc (Nat.le_refl _) _
  have hnil := World.ownsRow_nil (w.iter s 0) (k + 1) 9 1
  have HF : Aside0 (∀ (e : Ending) (w' : World), (∃ v, e = .returned v ∧ w'.ownsRow (k + 1) 9 1 v (linesL s.data.toList).length (ss (linesL s.data.toList)) ∧ Below k w w') → TextsP (linesL s.data.toList) w e w') := ⟨fun e w' ⟨v, h1, h2, h3⟩ => by subst hk; exact ⟨v, h1, own_mono h2 (by omega), h3⟩⟩
  obtain ⟨Q, hQ⟩ : ∃ Q, TextsP (linesL s.data.toList) w = Q := ⟨_, rfl⟩
  rw [hQ] at HF ⊢
  obtain ⟨res, hres⟩ : ∃ r, linesL s.data.toList = r := ⟨_, rfl⟩
  rw [hres] at HF
  have HR : Aside0 (linesL s.data.toList = res) := ⟨hres⟩
  clear hQ hres
  rw [hk] at hit0
  go_enter Tryd.func43, Tryd.ntmps43
  go_wp2
  go_loopg [3, 4, 5, 6] s.size (fun g v3 v4 v5 v6 wr => ∃ (p f : Nat) (done : List (List UInt8)), v4 = .int .i64 f ∧ p + g = s.size ∧ f ≤ p ∧ done.length ≤ p ∧ wr.heap[k]? = some (.stringIter s p) ∧ wr.ownsRow (k + 1) 9 1 v3 done.length (ss done) ∧ Aside0 (res = done ++ linesG ((s.data.toList.drop f).take (p - f)) (s.data.toList.drop p)) ∧ Below k w wr)
  case atStart => exact ⟨0, 0, [], rfl, by omega, Nat.le_refl _, Nat.le_refl _, hit0, hnil, ⟨by rw [← HR.out]; simp [linesL]⟩, hb0⟩
  case round =>
    obtain ⟨p, f, done, rfl, hpg, hfp, hdp, hit, hown, hA, hB⟩ := hrel
    clear hnil hit0 hb0
    have hlen := HL.out
    by_cases hp : p < s.size
    · obtain ⟨c, R, K, hc, hdec, hK1, hK2, hcase⟩ := rune_at s p hp
      obtain ⟨g, rfl⟩ : ∃ g, gk = g + K := ⟨gk - K, by omega⟩
      have hnx : ∀ ty, (Instr.next (.pointer (some ⟨k, 0, none⟩)) true ty).run Tryd.prog wr = .ok (.tuple #[.bool true, .int .i64 p, .int .i32 (R : Int)]) (wr.iterAt k s (p + K)) := fun ty => by
        rw [Lib.run_next_any_at wr k s p ty hit hp, hdec]
      have hit2 := Lib.iterAt_heap wr k s p (p + K) hit
      have hB2 := Lib.below_iterAt hB (k := k) (Nat.le_refl _) s (p + K)
      have hown2 := own_iterAt (s := s) (p := p + K) hown (Nat.lt_succ_self k)
      have hsz : k < (wr.iterAt k s (p + K)).heap.size := (Array.getElem?_eq_some_iff.1 hit2).1
      generalize wr.iterAt k s (p + K) = W at hnx hit2 hB2 hown2 hsz
      have hp1 : p ≤ 3000000 := by omega
      by_cases h10 : c = 10
      · subst h10
        have hRK : R = 10 ∧ K = 1 := by
          rcases hcase with ⟨_, h1, h2⟩ | ⟨_, h1, _⟩
          · exact ⟨h1, h2⟩
          · exact absurd h1 (by decide)
        obtain ⟨rfl, rfl⟩ := hRK
        obtain ⟨u, hu⟩ : ∃ u, s.extract f p = u := ⟨_, rfl⟩
        have hsl : ∀ W, (Instr.slice 9 (.string s) (some (.int .i64 (f : Int))) (some (.int .i64 (p : Int))) none).run Tryd.prog W = .ok (.string u) W := fun W => by
          rw [run_slice_string (h := Tryd.underlying9) (h0 := by omega) (h1 := by omega) (h2 := by omega), ← hu, Int.toNat_natCast, Int.toNat_natCast]
        have hdr : s.data.toList.drop p = 10 :: s.data.toList.drop (p + 1) := by
          obtain ⟨h1, h2⟩ := List.getElem?_eq_some_iff.1 hc
          rw [List.drop_eq_getElem_cons h1, h2]
        have A1 : Aside0 (res = (done ++ [(s.data.toList.drop f).take (p - f)]) ++ linesG ((s.data.toList.drop (p + 1)).take (p + 1 - (p + 1))) (s.data.toList.drop (p + 1))) := ⟨by
          rw [hA.out, hdr, linesG, if_pos rfl, Nat.sub_self, List.take_zero]; simp⟩
        have HU : Aside0 (ss [(s.data.toList.drop f).take (p - f)] = [Value.string u]) := ⟨by rw [← hu, extract_B]; rfl⟩
        have HD : Aside0 ((done ++ [(s.data.toList.drop f).take (p - f)]).length = done.length + 1) := ⟨by simp⟩
        clear hA hc hlen hu hcase hdec hdr
        generalize (s.data.toList.drop f).take (p - f) = piece at A1 HU HD
        have hnx : ∀ ty, (Instr.next (.pointer (some ⟨k, 0, none⟩)) true ty).run Tryd.prog wr = .ok (.tuple #[.bool true, .int .i64 p, .int .i32 10]) W := hnx
        go_wp2_with (at_builtin; (refine wpList_new (T := 74) (E := 9) (size := 1) (bytes := 16) rfl (.tmp 15) (.tmp 20) rfl Tryd.underlying74 info9 rfl (by decide) (k + 1) done.length _ (ss done) 1 1 [.string u] rfl hown2 rfl rfl (by intro x hx; simp at hx; subst hx; rfl) (by unfold maxLen; omega) (by omega) hsz rfl ?_; intro v1 w3 own2 gr1; have it3 := iter_new hit2 hown2 gr1; have bel1 := Below.grown (hB2.alloc (by omega) _) gr1 (by simp; omega) (fun j hj => Nat.le_of_lt (hown2.lt j hj).1)))
        go_roundg g
        case measure => omega
        case rel => exact ⟨p + 1, p + 1, done ++ [piece], by go_num, by omega, Nat.le_refl _, by rw [HD.out]; omega, it3, by rw [HD.out, ss_append, HU.out]; exact own2, A1, bel1⟩
      · have hne : ((R : Int) == 10) = false := beq_eq_false_iff_ne.2 (fun e => by
          rcases hcase with ⟨_, h1, h2⟩ | ⟨h1, _, _⟩
          · exact h10 (UInt8.toNat_inj.1 (by have : (10 : UInt8).toNat = 10 := rfl
                                             omega))
          · omega)
        have A1 : Aside0 (res = done ++ linesG ((s.data.toList.drop f).take (p + K - f)) (s.data.toList.drop (p + K))) := ⟨by
          rw [hA.out, linesG_high K _ (s.data.toList.drop p) (fun j hj => ?_), cut_more hfp, List.drop_drop]
          rcases hcase with ⟨_, h1, h2⟩ | ⟨h1, _, h3⟩
          · have : j = 0 := by omega
            subst this
            exact ⟨c, by rw [List.getElem?_drop]; exact hc, h10⟩
          · obtain ⟨x, hx1, hx2⟩ := h3 j hj
            exact ⟨x, hx1, fun e => by subst e; exact absurd hx2 (by decide)⟩⟩
        clear hA hc hlen hcase hdec h10
        go_wp2
        go_roundg g
        case measure => omega
        case rel => exact ⟨p + K, f, done, rfl, by omega, by omega, by omega, hit2, hown2, A1, hB2⟩
    · have hps : p = s.size := by omega
      have hnx : ∀ ty, (Instr.next (.pointer (some ⟨k, 0, none⟩)) true ty).run Tryd.prog wr = .ok (.tuple #[.bool false]) wr := fun ty => Lib.run_next_end_at wr k s p ty hit hp
      have hsz : k < wr.heap.size := (Array.getElem?_eq_some_iff.1 hit).1
      have hA1 : res = done ++ linesG (s.data.toList.drop f) [] := by
        rw [hA.out, List.drop_eq_nil_of_le (by omega : s.data.toList.length ≤ p), List.take_of_length_le (by rw [List.length_drop]; omega)]
      clear hA
      by_cases hf : f < s.size
      · have hlt : (f : Int) < (s.size : Int) := by omega
        obtain ⟨u, hu⟩ : ∃ u, s.extract f s.size = u := ⟨_, rfl⟩
        have hsl : ∀ W, (Instr.slice 9 (.string s) (some (.int .i64 (f : Int))) none none).run Tryd.prog W = .ok (.string u) W := fun W => by
          rw [run_slice_string_l (ht := Tryd.underlying9) (h0 := by omega) (h1 := by omega), ← hu, Int.toNat_natCast]
        have hne : s.data.toList.drop f ≠ [] := fun e => by
          have := congrArg List.length e
          rw [List.length_drop, List.length_nil] at this; omega
        have A1 : Aside0 (res = done ++ [s.data.toList.drop f]) := ⟨by rw [hA1, linesG, if_neg hne]⟩
        have HU : Aside0 (ss [s.data.toList.drop f] = [Value.string u]) := ⟨by rw [← hu, extract_B, List.take_of_length_le (by rw [List.length_drop]; omega)]; rfl⟩
        clear hA1 hlen hu hne
        have hp1 : p ≤ 3000000 := by omega
        go_wp2_with (at_builtin; (refine wpList_new (T := 74) (E := 9) (size := 1) (bytes := 16) rfl (.tmp 28) (.tmp 32) rfl Tryd.underlying74 info9 rfl (by decide) (k + 1) done.length _ (ss done) 1 1 [.string u] rfl hown rfl rfl (by intro x hx; simp at hx; subst hx; rfl) (by unfold maxLen; omega) (by omega) hsz rfl ?_; intro v1 w3 own2 gr1; have bel1 := Below.grown (hB.alloc (by omega) _) gr1 (by simp; omega) (fun j hj => Nat.le_of_lt (hown.lt j hj).1)))
        rw [← HU.out, ← ss_append, ← A1.out] at own2
        have HD : res.length = done.length + 1 := by rw [A1.out]; simp
        exact HF.out _ _ ⟨_, rfl, by rw [HD]; exact own2, bel1⟩
      · have hlt : ¬ (f : Int) < (s.size : Int) := by omega
        have A1 : Aside0 (res = done) := ⟨by rw [hA1, List.drop_eq_nil_of_le (by omega)]; simp [linesG]⟩
        clear hA1
        go_wp2
        rw [← A1.out] at hown
        exact HF.out _ _ ⟨_, rfl, hown, hB⟩
end Go.Proofs.YtigaacbaaopfmaaDoor.sh
/- The program's words of a line: walked. -/
namespace Go.Proofs.YtigaacbaaopfmaaDoor.sh
open Go.RowKit
set_option linter.unusedVariables false
def blank (c : UInt8) : Bool := c == 32 || c == 9
/-- Words: up to one that would begin with a number sign. -/
def wordsG : Option (List UInt8) → List UInt8 → List (List UInt8)
  | none, [] => []
  | some x, [] => [x]
  | none, c :: r => if c = 35 then [] else if blank c then wordsG none r else wordsG (some [c]) r
  | some x, c :: r => if blank c then x :: wordsG none r else wordsG (some (x ++ [c])) r
def wordsL (l : List UInt8) : List (List UInt8) := wordsG none l
theorem wordsG_high : ∀ (k : Nat) (x l : List UInt8), (∀ j, j < k → ∃ c, l[j]? = some c ∧ blank c = false) → wordsG (some x) l = wordsG (some (x ++ l.take k)) (l.drop k)
  | 0, x, l, h => by simp
  | k + 1, x, l, h => by
    obtain ⟨c, hc, hb⟩ := h 0 (by omega)
    cases l with
    | nil => simp at hc
    | cons y r =>
      simp at hc
      subst hc
      rw [wordsG, hb, if_neg (by decide), wordsG_high k (x ++ [y]) r (fun j hj => by simpa using h (j + 1) (by omega))]
      simp
theorem wordsG_begin (k : Nat) (l : List UInt8) (hk : 1 ≤ k) (h : ∀ j, j < k → ∃ c, l[j]? = some c ∧ blank c = false) (h0 : l[0]? ≠ some 35) : wordsG none l = wordsG (some (l.take k)) (l.drop k) := by
  obtain ⟨k, rfl⟩ : ∃ m, k = m + 1 := ⟨k - 1, by omega⟩
  obtain ⟨c, hc, hb⟩ := h 0 (by omega)
  cases l with
  | nil => simp at hc
  | cons y r =>
    simp at hc h0
    subst hc
    rw [wordsG, if_neg h0, hb, if_neg (by decide), wordsG_high k [y] r (fun j hj => by simpa using h (j + 1) (by omega))]
    simp
/-- Where the walk of words stands: from f (-1: between words), at p. -/
def WAt (s : List UInt8) (res : List (List UInt8)) (done : List (List UInt8)) (p : Nat) : Option Nat → Prop
  | none => res = done ++ wordsG none (s.drop p)
  | some f => f ≤ p ∧ res = done ++ wordsG (some ((s.drop f).take (p - f))) (s.drop p)
def from' : Option Nat → Int
  | none => -1
  | some f => f

theorem rune_no' {s : List UInt8} {p R K : Nat} {c : UInt8} (hcase : (c.toNat < 128 ∧ R = c.toNat ∧ K = 1) ∨ (128 ≤ R ∧ 128 ≤ c.toNat ∧ ∀ j, j < K → ∃ x, (s.drop p)[j]? = some x ∧ 128 ≤ x.toNat)) (hb : ¬ (c = 32 ∨ c = 9)) :
    ((R : Int) == 32) = false ∧ ((R : Int) == 9) = false ∧ ∀ l, l.drop p = c :: l.drop (p + 1) → l = s → ∀ j, j < K → ∃ x, (l.drop p)[j]? = some x ∧ blank x = false := by
  have n (d : UInt8) (h : c ≠ d) (hd : d.toNat < 128) : ((R : Int) == (d.toNat : Int)) = false := beq_eq_false_iff_ne.2 (fun e => by
    rcases hcase with ⟨_, h1, _⟩ | ⟨h1, _, _⟩
    · exact h (UInt8.toNat_inj.1 (by omega))
    · omega)
  refine ⟨n 32 (fun e => hb (.inl e)) (by decide), n 9 (fun e => hb (.inr e)) (by decide), fun l hl e j hj => ?_⟩
  subst e
  rcases hcase with ⟨_, h1, h2⟩ | ⟨_, _, h3⟩
  · have : j = 0 := by omega
    subst this
    refine ⟨c, by rw [hl]; rfl, ?_⟩
    unfold blank
    simp only [Bool.or_eq_false_iff, beq_eq_false_iff_ne]
    exact ⟨fun e => hb (.inl e), fun e => hb (.inr e)⟩
  · obtain ⟨x, h4, h5⟩ := h3 j hj
    refine ⟨x, h4, ?_⟩
    unfold blank
    simp only [Bool.or_eq_false_iff, beq_eq_false_iff_ne]
    exact ⟨fun e => by subst e; exact absurd h5 (by decide), fun e => by subst e; exact absurd h5 (by decide)⟩
theorem rune_35 {s : List UInt8} {p R K : Nat} {c : UInt8} (hcase : (c.toNat < 128 ∧ R = c.toNat ∧ K = 1) ∨ (128 ≤ R ∧ 128 ≤ c.toNat ∧ ∀ j, j < K → ∃ x, (s.drop p)[j]? = some x ∧ 128 ≤ x.toNat)) (hb : ¬ c = 35) : ((R : Int) == 35) = false :=
  beq_eq_false_iff_ne.2 (fun e => by
    rcases hcase with ⟨_, h1, _⟩ | ⟨h1, _, _⟩
    · exact hb (UInt8.toNat_inj.1 (by have : (35 : UInt8).toNat = 35 := rfl
                                      omega))
    · omega)

set_option maxHeartbeats 4000000 in
set_option maxRecDepth 100000 in
theorem words_walk (w : World) (s : ByteArray) (hs : s.size ≤ 3000000) : Calls Tryd.prog 44 #[.string s] w (TextsP (wordsL s.data.toList) w) := by
  have HL : Aside0 (s.data.toList.length = s.size) := ⟨by rw [Array.length_toList]; rfl⟩
  obtain ⟨k, hk⟩ : ∃ k, w.heap.size = k := ⟨_, rfl⟩
  have hit0 := own_alloc_lt (w := w) (k := 0) (s := s)
  have hb0 : Below k w (w.iter s 0) := by rw [← hk]; exact (Below.refl _ w).alloc (Nat.le_refl _) _
  have hnil := World.ownsRow_nil (w.iter s 0) (k + 1) 9 1
  have HF : Aside0 (∀ (e : Ending) (w' : World), (∃ v, e = .returned v ∧ w'.ownsRow (k + 1) 9 1 v (wordsL s.data.toList).length (ss (wordsL s.data.toList)) ∧ Below k w w') → TextsP (wordsL s.data.toList) w e w') := ⟨fun e w' ⟨v, h1, h2, h3⟩ => by subst hk; exact ⟨v, h1, own_mono h2 (by omega), h3⟩⟩
  obtain ⟨Q, hQ⟩ : ∃ Q, TextsP (wordsL s.data.toList) w = Q := ⟨_, rfl⟩
  rw [hQ] at HF ⊢
  obtain ⟨res, hres⟩ : ∃ r, wordsL s.data.toList = r := ⟨_, rfl⟩
  rw [hres] at HF
  have HR : Aside0 (wordsL s.data.toList = res) := ⟨hres⟩
  clear hQ hres
  rw [hk] at hit0
  go_enter Tryd.func44, Tryd.ntmps44
  go_wp2
  go_loopg [3, 4, 5, 6, 7] s.size (fun g v3 v4 v5 v6 v7 wr => ∃ (p : Nat) (f : Option Nat) (done : List (List UInt8)), v4 = .int .i64 (from' f) ∧ p + g = s.size ∧ done.length ≤ p ∧ wr.heap[k]? = some (.stringIter s p) ∧ wr.ownsRow (k + 1) 9 1 v3 done.length (ss done) ∧ Aside0 (WAt s.data.toList res done p f) ∧ Below k w wr)
  case atStart => exact ⟨0, none, [], rfl, by omega, Nat.le_refl _, hit0, hnil, ⟨by rw [← HR.out]; simp [wordsL, WAt]⟩, hb0⟩
  case round =>
    obtain ⟨p, f, done, rfl, hpg, hdp, hit, hown, hA, hB⟩ := hrel
    clear hnil hit0 hb0
    have hlen := HL.out
    by_cases hp : p < s.size
    · obtain ⟨c, R, K, hc, hdec, hK1, hK2, hcase⟩ := rune_at s p hp
      obtain ⟨g, rfl⟩ : ∃ g, gk = g + K := ⟨gk - K, by omega⟩
      have hnx : ∀ ty, (Instr.next (.pointer (some ⟨k, 0, none⟩)) true ty).run Tryd.prog wr = .ok (.tuple #[.bool true, .int .i64 p, .int .i32 (R : Int)]) (wr.iterAt k s (p + K)) := fun ty => by
        rw [Lib.run_next_any_at wr k s p ty hit hp, hdec]
      have hit2 := Lib.iterAt_heap wr k s p (p + K) hit
      have hB2 := Lib.below_iterAt hB (k := k) (Nat.le_refl _) s (p + K)
      have hown2 := own_iterAt (s := s) (p := p + K) hown (Nat.lt_succ_self k)
      have hsz : k < (wr.iterAt k s (p + K)).heap.size := (Array.getElem?_eq_some_iff.1 hit2).1
      generalize wr.iterAt k s (p + K) = W at hnx hit2 hB2 hown2 hsz
      have hp1 : p ≤ 3000000 := by omega
      have hone : c.toNat < 128 → R = c.toNat ∧ K = 1 := fun h => by
        rcases hcase with ⟨_, h1, h2⟩ | ⟨_, h1, _⟩
        · exact ⟨h1, h2⟩
        · omega
      have hdr : s.data.toList.drop p = c :: s.data.toList.drop (p + 1) := by
        obtain ⟨h1, h2⟩ := List.getElem?_eq_some_iff.1 hc
        rw [List.drop_eq_getElem_cons h1, h2]
      cases f with
      | none =>
        have hA1 : res = done ++ wordsG none (s.data.toList.drop p) := hA.out
        clear hA
        by_cases h35 : c = 35
        · subst h35
          obtain ⟨rfl, rfl⟩ := hone (by decide)
          have A1 : Aside0 (res = done) := ⟨by rw [hA1, hdr, wordsG, if_pos rfl, List.append_nil]⟩
          clear hA1 hone hcase hdec hdr hc hlen
          have hnx : ∀ ty, (Instr.next (.pointer (some ⟨k, 0, none⟩)) true ty).run Tryd.prog wr = .ok (.tuple #[.bool true, .int .i64 p, .int .i32 35]) W := hnx
          unfold from'
          go_wp2
          rw [← A1.out] at hown2
          exact HF.out _ _ ⟨_, rfl, hown2, hB2⟩
        · by_cases hbl : blank c = true
          · have A1 : Aside0 (WAt s.data.toList res done (p + 1) none) := ⟨by
              show res = done ++ wordsG none (s.data.toList.drop (p + 1))
              rw [hA1, hdr, wordsG, if_neg h35, if_pos hbl]⟩
            have hc2 : c = 32 ∨ c = 9 := by simpa [blank] using hbl
            clear hA1 hdr hbl
            rcases hc2 with rfl | rfl
            · obtain ⟨rfl, rfl⟩ := hone (by decide)
              clear hone hcase hdec hc hlen h35
              have hnx : ∀ ty, (Instr.next (.pointer (some ⟨k, 0, none⟩)) true ty).run Tryd.prog wr = .ok (.tuple #[.bool true, .int .i64 p, .int .i32 32]) W := hnx
              unfold from'
              go_wp2
              go_roundg g
              case measure => omega
              case rel => exact ⟨p + 1, none, done, rfl, by omega, by omega, hit2, hown2, A1, hB2⟩
            · obtain ⟨rfl, rfl⟩ := hone (by decide)
              clear hone hcase hdec hc hlen h35
              have hnx : ∀ ty, (Instr.next (.pointer (some ⟨k, 0, none⟩)) true ty).run Tryd.prog wr = .ok (.tuple #[.bool true, .int .i64 p, .int .i32 9]) W := hnx
              unfold from'
              go_wp2
              go_roundg g
              case measure => omega
              case rel => exact ⟨p + 1, none, done, rfl, by omega, by omega, hit2, hown2, A1, hB2⟩
          · obtain ⟨r1, r2, hsp⟩ := rune_no' hcase (by simpa [blank] using hbl)
            have r3 := rune_35 hcase h35
            have A1 : Aside0 (WAt s.data.toList res done (p + K) (some p)) := ⟨by
              refine ⟨by omega, ?_⟩
              rw [hA1, wordsG_begin K (s.data.toList.drop p) hK1 (hsp s.data.toList hdr rfl) (by rw [hdr]; simpa using h35), List.drop_drop, show p + K - p = K by omega]⟩
            clear hA1 hdr hbl hsp hone hcase hdec hc hlen h35
            have hpz : ¬ (p : Int) < 0 := by omega
            have hpz2 : (0 : Int) ≤ p := by omega
            unfold from'
            go_wp2
            go_roundg g
            case measure => omega
            case rel => exact ⟨p + K, some p, done, rfl, by omega, by omega, hit2, hown2, A1, hB2⟩
      | some f =>
        obtain ⟨hfp, hA1⟩ := hA.out
        clear hA
        have hpz : ¬ (f : Int) < 0 := by omega
        have hpz2 : (0 : Int) ≤ f := by omega
        by_cases hbl : blank c = true
        · obtain ⟨u, hu⟩ : ∃ u, s.extract f p = u := ⟨_, rfl⟩
          have hsl : ∀ W, (Instr.slice 9 (.string s) (some (.int .i64 (f : Int))) (some (.int .i64 (p : Int))) none).run Tryd.prog W = .ok (.string u) W := fun W => by
            rw [run_slice_string (h := Tryd.underlying9) (h0 := by omega) (h1 := by omega) (h2 := by omega), ← hu, Int.toNat_natCast, Int.toNat_natCast]
          have A1 : Aside0 (WAt s.data.toList res (done ++ [(s.data.toList.drop f).take (p - f)]) (p + 1) none) := ⟨by
            show res = (done ++ [(s.data.toList.drop f).take (p - f)]) ++ wordsG none (s.data.toList.drop (p + 1))
            rw [hA1, hdr, wordsG, if_pos hbl]; simp⟩
          have HU : Aside0 (ss [(s.data.toList.drop f).take (p - f)] = [Value.string u]) := ⟨by rw [← hu, extract_B]; rfl⟩
          have HD : Aside0 ((done ++ [(s.data.toList.drop f).take (p - f)]).length = done.length + 1) := ⟨by simp⟩
          have hc2 : c = 32 ∨ c = 9 := by simpa [blank] using hbl
          clear hA1 hdr hbl hu hlen
          generalize (s.data.toList.drop f).take (p - f) = piece at A1 HU HD
          rcases hc2 with rfl | rfl
          · obtain ⟨rfl, rfl⟩ := hone (by decide)
            clear hone hcase hdec hc
            have hnx : ∀ ty, (Instr.next (.pointer (some ⟨k, 0, none⟩)) true ty).run Tryd.prog wr = .ok (.tuple #[.bool true, .int .i64 p, .int .i32 32]) W := hnx
            unfold from'
            go_wp2_with (at_builtin; (refine wpList_new (T := 74) (E := 9) (size := 1) (bytes := 16) rfl (.tmp 39) (.tmp 44) rfl Tryd.underlying74 info9 rfl (by decide) (k + 1) done.length _ (ss done) 1 1 [.string u] rfl hown2 rfl rfl (by intro x hx; simp at hx; subst hx; rfl) (by unfold maxLen; omega) (by omega) hsz rfl ?_; intro v1 w3 own2 gr1; have it3 := iter_new hit2 hown2 gr1; have bel1 := Below.grown (hB2.alloc (by omega) _) gr1 (by simp; omega) (fun j hj => Nat.le_of_lt (hown2.lt j hj).1)))
            go_roundg g
            case measure => omega
            case rel => exact ⟨p + 1, none, done ++ [piece], rfl, by omega, by rw [HD.out]; omega, it3, by rw [HD.out, ss_append, HU.out]; exact own2, A1, bel1⟩
          · obtain ⟨rfl, rfl⟩ := hone (by decide)
            clear hone hcase hdec hc
            have hnx : ∀ ty, (Instr.next (.pointer (some ⟨k, 0, none⟩)) true ty).run Tryd.prog wr = .ok (.tuple #[.bool true, .int .i64 p, .int .i32 9]) W := hnx
            unfold from'
            go_wp2_with (at_builtin; (refine wpList_new (T := 74) (E := 9) (size := 1) (bytes := 16) rfl (.tmp 39) (.tmp 44) rfl Tryd.underlying74 info9 rfl (by decide) (k + 1) done.length _ (ss done) 1 1 [.string u] rfl hown2 rfl rfl (by intro x hx; simp at hx; subst hx; rfl) (by unfold maxLen; omega) (by omega) hsz rfl ?_; intro v1 w3 own2 gr1; have it3 := iter_new hit2 hown2 gr1; have bel1 := Below.grown (hB2.alloc (by omega) _) gr1 (by simp; omega) (fun j hj => Nat.le_of_lt (hown2.lt j hj).1)))
            go_roundg g
            case measure => omega
            case rel => exact ⟨p + 1, none, done ++ [piece], rfl, by omega, by rw [HD.out]; omega, it3, by rw [HD.out, ss_append, HU.out]; exact own2, A1, bel1⟩
        · obtain ⟨r1, r2, hsp⟩ := rune_no' hcase (by simpa [blank] using hbl)
          have A1 : Aside0 (WAt s.data.toList res done (p + K) (some f)) := ⟨by
            refine ⟨by omega, ?_⟩
            rw [hA1, wordsG_high K _ (s.data.toList.drop p) (hsp s.data.toList hdr rfl), cut_more hfp, List.drop_drop]⟩
          clear hA1 hdr hbl hsp hone hcase hdec hc hlen
          unfold from'
          go_wp2
          go_roundg g
          case measure => omega
          case rel => exact ⟨p + K, some f, done, rfl, by omega, by omega, hit2, hown2, A1, hB2⟩
    · have hnx : ∀ ty, (Instr.next (.pointer (some ⟨k, 0, none⟩)) true ty).run Tryd.prog wr = .ok (.tuple #[.bool false]) wr := fun ty => Lib.run_next_end_at wr k s p ty hit hp
      have hsz : k < wr.heap.size := (Array.getElem?_eq_some_iff.1 hit).1
      have hp1 : p ≤ 3000000 := by omega
      cases f with
      | none =>
        have A1 : Aside0 (res = done) := ⟨by
          have := hA.out
          unfold WAt at this
          rw [this, List.drop_eq_nil_of_le (by omega), wordsG, List.append_nil]⟩
        clear hA
        unfold from'
        go_wp2
        rw [← A1.out] at hown
        exact HF.out _ _ ⟨_, rfl, hown, hB⟩
      | some f =>
        obtain ⟨hfp, hA1⟩ := hA.out
        clear hA
        have hpz2 : (0 : Int) ≤ f := by omega
        obtain ⟨u, hu⟩ : ∃ u, s.extract f s.size = u := ⟨_, rfl⟩
        have hsl : ∀ W, (Instr.slice 9 (.string s) (some (.int .i64 (f : Int))) none none).run Tryd.prog W = .ok (.string u) W := fun W => by
          rw [run_slice_string_l (ht := Tryd.underlying9) (h0 := by omega) (h1 := by omega), ← hu, Int.toNat_natCast]
        have A1 : Aside0 (res = done ++ [s.data.toList.drop f]) := ⟨by
          rw [hA1, List.drop_eq_nil_of_le (by omega : s.data.toList.length ≤ p), wordsG, List.take_of_length_le (by rw [List.length_drop]; omega)]⟩
        have HU : Aside0 (ss [s.data.toList.drop f] = [Value.string u]) := ⟨by rw [← hu, extract_B, List.take_of_length_le (by rw [List.length_drop]; omega)]; rfl⟩
        clear hA1 hlen hu
        unfold from'
        go_wp2_with (at_builtin; (refine wpList_new (T := 74) (E := 9) (size := 1) (bytes := 16) rfl (.tmp 48) (.tmp 52) rfl Tryd.underlying74 info9 rfl (by decide) (k + 1) done.length _ (ss done) 1 1 [.string u] rfl hown rfl rfl (by intro x hx; simp at hx; subst hx; rfl) (by unfold maxLen; omega) (by omega) hsz rfl ?_; intro v1 w3 own2 gr1; have bel1 := Below.grown (hB.alloc (by omega) _) gr1 (by simp; omega) (fun j hj => Nat.le_of_lt (hown.lt j hj).1)))
        rw [← HU.out, ← ss_append, ← A1.out] at own2
        have HD : res.length = done.length + 1 := by rw [A1.out]; simp
        exact HF.out _ _ ⟨_, rfl, by rw [HD]; exact own2, bel1⟩
end Go.Proofs.YtigaacbaaopfmaaDoor.sh
/- Scripts as plain data, how they lie in memory, what a text says: no walk here. -/
namespace Go.Proofs.YtigaacbaaopfmaaDoor.sh
open Go.RowKit
set_option linter.unusedVariables false
/-- A line's fields. -/
structure Fld where
  n : List Int
  w : List Nat
  b : List (List UInt8)
/-- A command. -/
structure Cm where
  op : Int
  h : Int
  fields : List Int
  hs : List Int
  u : Nat
  v : Nat
  n : Int
  key : List UInt8
  elem : List UInt8
deriving DecidableEq
/-- A script. -/
structure Sc where
  limit : Int
  over : List (List UInt8 × Nat)
  cmds : List Cm
deriving DecidableEq
def F0 : Fld := ⟨[], [], []⟩
def S0 : Sc := ⟨0, [], []⟩
def takeF (fm : UInt8) (s : List UInt8) (f : Fld) : Fld :=
  if fm = 110 then ⟨f.n ++ [(numP s).1], f.w, f.b⟩ else if fm = 119 then ⟨f.n, f.w ++ [(wordP s).1], f.b⟩ else ⟨f.n, f.w, f.b ++ [(bytesV s).getD []]⟩
def takeE (fm : UInt8) (s : List UInt8) : Int :=
  if fm = 110 then (numP s).2 else if fm = 119 then (wordP s).2 else if (bytesV s).isSome then 0 else 160
def fieldsG (form : List UInt8) : Nat → Fld → List (List UInt8) → Fld × Int
  | _, f, [] => (f, 0)
  | i, f, s :: r => if takeE (form.getD i 110) s = 0 then fieldsG form (i + 1) (takeF (form.getD i 110) s f) r else (takeF (form.getD i 110) s f, takeE (form.getD i 110) s)
def fitsF (k : Nat) (n : Nat) : Bool := decide ((forms.getD k []).length ≤ n) && (decide (n = (forms.getD k []).length) || moreOf k)
def readF (k : Nat) (ws : List (List UInt8)) : Fld × Int := if fitsF k ws.length = true then fieldsG (forms.getD k []) 0 F0 ws else (F0, 160)
def cmdF (op : Int) (f : Fld) : Cm :=
  if op = 1 then ⟨1, 0, f.n.tail, [], f.w.headD 0, 0, f.n.headD 0, [], []⟩
  else if op = 10 then ⟨10, 0, [], f.n, 0, 0, 0, [], []⟩
  else ⟨op, f.n.headD 0, [], [], f.w.headD 0, f.w.getD 1 0, 0, f.b.headD [], f.b.getD 1 []⟩
/-- The lines of a script from one on: the script, the line of the fault, its number. -/
def parseG : Nat → Bool → Sc → List (List UInt8) → Sc × Nat × Int
  | i, begun, sc, [] => if begun then (sc, 0, 0) else (S0, i + 1, 160)
  | i, begun, sc, l :: r =>
    match wordsL l with
    | [] => parseG (i + 1) begun sc r
    | x :: ws =>
      if findP x < 0 ∨ (decide (findP x = 0) = begun) ∨ (findP x = 15 ∧ sc.cmds ≠ []) then (S0, i + 1, 160)
      else if (readF (findP x).toNat ws).2 = 0 then
        (if findP x = 0 then parseG (i + 1) true ⟨(readF (findP x).toNat ws).1.n.headD 0, sc.over, sc.cmds⟩ r
        else if findP x = 15 then parseG (i + 1) begun ⟨sc.limit, sc.over ++ [((readF (findP x).toNat ws).1.b.headD [], (readF (findP x).toNat ws).1.w.headD 0)], sc.cmds⟩ r
        else parseG (i + 1) begun ⟨sc.limit, sc.over, sc.cmds ++ [cmdF (findP x) (readF (findP x).toNat ws).1]⟩ r)
      else (S0, i + 1, (readF (findP x).toNat ws).2)
def parseP (t : List UInt8) : Sc × Nat × Int := if 1048576 < t.length then (S0, 0, 160) else parseG 0 false S0 (linesL t)
/-- Numbers as cells. -/
def iv (l : List Int) : List Value := l.map fun x => Value.int .i64 x
def uv (l : List Nat) : List Value := l.map fun (x : Nat) => Value.int .u64 (x : Int)
theorem iv_append (a b : List Int) : iv (a ++ b) = iv a ++ iv b := by simp [iv]
theorem uv_append (a b : List Nat) : uv (a ++ b) = uv a ++ uv b := by simp [uv]
theorem iv_len (a : List Int) : (iv a).length = a.length := by simp [iv]
theorem uv_len (a : List Nat) : (uv a).length = a.length := by simp [uv]
theorem ss_len (a : List (List UInt8)) : (ss a).length = a.length := by simp [ss]
/-- A slice of elements of one cell lies there, in a block of type E that is base or later. -/
def SL (w : World) (E base : Nat) (v : Value) (xs : List Value) : Prop :=
  (v = .slice none 0 0 ∧ xs = []) ∨ ∃ g o c cur fr, v = .slice (some ⟨g, o, none⟩) xs.length c ∧ xs.length ≤ c ∧ base ≤ g ∧ w.heap[g]? = some (.cells cur E fr) ∧ ∀ (j : Nat) (u : Value), xs[j]? = some u → cur[o + j]? = some u
theorem SL.nil (w : World) (E base : Nat) : SL w E base (.slice none 0 0) [] := .inl ⟨rfl, rfl⟩
theorem SL.of_own {w : World} {E base n : Nat} {v : Value} {xs : List Value} (h : w.ownsRow base E 1 v n xs) : SL w E base v xs := by
  have hl : xs.length = n := by have := h.1; omega
  rcases h.2 with ⟨h1, h2⟩ | ⟨g, cap, cur, h1, h2, h3, h4, h5, h6, h7⟩
  · exact .inl ⟨h1, List.eq_nil_of_length_eq_zero (by omega)⟩
  · refine .inr ⟨g, 0, cap, cur, (0, 0), by rw [hl]; exact h1, by omega, h2, h3, fun j u hu => ?_⟩
    rw [Nat.mul_one] at h7
    rw [← h7, List.getElem?_take] at hu
    split at hu
    · rw [Nat.zero_add]; simpa using hu
    · cases hu
theorem SL.below {w w' : World} {E base k : Nat} {v : Value} {xs : List Value} (h : SL w E base v xs) (hb : Below k w w') (hk : w.heap.size ≤ k) : SL w' E base v xs := by
  rcases h with h | ⟨g, o, c, cur, fr, h1, h2, h3, h4, h5⟩
  · exact .inl h
  · have hlt : g < w.heap.size := (Array.getElem?_eq_some_iff.1 h4).1
    exact .inr ⟨g, o, c, cur, fr, h1, h2, h3, (hb.block g (by omega)).trans h4, h5⟩
theorem SL.mono {w : World} {E base b : Nat} {v : Value} {xs : List Value} (h : SL w E base v xs) (hb : b ≤ base) : SL w E b v xs := by
  rcases h with h | ⟨g, o, c, cur, fr, h1, h2, h3, h4⟩
  · exact .inl h
  · exact .inr ⟨g, o, c, cur, fr, h1, h2, by omega, h4⟩
/-- The row that grew is of another type. -/
theorem SL.grown {w w' : World} {E E' base : Nat} {v : Value} {xs : List Value} {row : Option Nat} (h : SL w E base v xs) (hg : w.grownBy w' row) (hr : ∀ g, row = some g → ∃ cur fr, w.heap[g]? = some (.cells cur E' fr)) (hE : E ≠ E') : SL w' E base v xs := by
  rcases h with h | ⟨g, o, c, cur, fr, h1, h2, h3, h4, h5⟩
  · exact .inl h
  · have hlt : g < w.heap.size := (Array.getElem?_eq_some_iff.1 h4).1
    refine .inr ⟨g, o, c, cur, fr, h1, h2, h3, (hg.block g hlt (fun e => ?_)).trans h4, h5⟩
    obtain ⟨cur2, fr2, h6⟩ := hr g e.symm
    rw [h4] at h6
    simp only [Option.some.injEq, Obj.cells.injEq] at h6
    exact hE h6.2.1
theorem own_type {w : World} {E base n size : Nat} {v : Value} {xs : List Value} (h : w.ownsRow base E size v n xs) : ∀ g, v.ownBlock = some g → ∃ cur fr, w.heap[g]? = some (.cells cur E fr) := by
  intro g hg
  rcases h.2 with ⟨h1, h2⟩ | ⟨g', cap, cur, h1, h2, h3, h4⟩
  · subst h1; cases hg
  · subst h1
    simp only [Value.ownBlock, Option.some.injEq] at hg
    subst hg
    exact ⟨cur, _, h3⟩
/-- Two rows of other types: one grows, the other stays. -/
theorem own_other {w w' : World} {E E' base base' n size n' size' : Nat} {v v' : Value} {xs xs' : List Value} (h : w.ownsRow base E size v n xs) (h' : w.ownsRow base' E' size' v' n' xs') (hE : E ≠ E') (hg : w.grownBy w' v'.ownBlock) : w'.ownsRow base E size v n xs := by
  refine h.kept hg ?_
  cases hv : v.ownBlock with
  | none => exact .inl rfl
  | some g =>
    refine .inr (fun e => ?_)
    obtain ⟨cur, fr, h1⟩ := own_type h g hv
    obtain ⟨cur2, fr2, h2⟩ := own_type h' g e.symm
    rw [h1] at h2
    simp only [Option.some.injEq, Obj.cells.injEq] at h2
    exact hE h2.2.1
/-- A cell of a slice. -/
theorem SL.split {w : World} {E base : Nat} {v : Value} {xs : List Value} (h : SL w E base v xs) : ∃ ao c, v = .slice ao xs.length c ∧ xs.length ≤ c ∧ ((ao = none ∧ c = 0 ∧ xs = []) ∨ ∃ g o, ao = some ⟨g, o, none⟩ ∧ base ≤ g ∧ g < w.heap.size ∧ ∀ (j : Nat) (u : Value), xs[j]? = some u → w.cell? ⟨g, o + j, none⟩ = some u) := by
  rcases h with ⟨h1, h2⟩ | ⟨g, o, c, cur, fr, h1, h2, h3, h4, h5⟩
  · subst h2
    exact ⟨none, 0, h1, Nat.le_refl _, .inl ⟨rfl, rfl, rfl⟩⟩
  · refine ⟨_, c, h1, h2, .inr ⟨g, o, rfl, h3, (Array.getElem?_eq_some_iff.1 h4).1, fun j u hu => ?_⟩⟩
    unfold World.cell?
    rw [h4]
    exact h5 j u hu
/-- All but the first of a row of the call's own. -/
theorem SL.tail {w : World} {E base n g c : Nat} {x : Value} {xs : List Value} (h : SL w E base (.slice (some ⟨g, 0, none⟩) n c) (x :: xs)) : SL w E base (.slice (some (if c = 1 then ⟨g, 0, none⟩ else ⟨g, 1, none⟩)) xs.length (c - 1)) xs := by
  rcases h with ⟨h1, h2⟩ | ⟨g', o, c', cur, fr, h1, h2, h3, h4, h5⟩
  · cases h1
  · simp only [Value.slice.injEq, Option.some.injEq, Addr.mk.injEq, and_true] at h1
    obtain ⟨⟨rfl, rfl⟩, rfl, rfl⟩ := h1
    rw [List.length_cons] at h2
    by_cases hc : c = 1
    · subst hc
      have hx : xs = [] := List.eq_nil_of_length_eq_zero (by omega)
      subst hx
      exact .inr ⟨g, 0, 0, cur, fr, by simp, by simp, h3, h4, fun j u hu => by simp at hu⟩
    · rw [if_neg hc]
      exact .inr ⟨g, 1, c - 1, cur, fr, rfl, by omega, h3, h4, fun j u hu => by
        have := h5 (j + 1) u (by simpa using hu)
        rw [show 1 + j = 0 + (j + 1) by omega]; exact this⟩
/-- The cells of a command. -/
def cmC (c : Cm) (vf vh : Value) : List Value := [.int .i64 c.op, .int .i64 c.h, vf, vh, .int .u64 (c.u : Int), .int .u64 (c.v : Int), .int .i64 c.n, .string (B c.key), .string (B c.elem)]
/-- Commands, one behind the other, in cells. -/
def CmA (w : World) (base : Nat) : List Value → List Cm → Prop
  | xs, [] => xs = []
  | xs, c :: r => ∃ vf vh rest, xs = cmC c vf vh ++ rest ∧ SL w 3 base vf (iv c.fields) ∧ SL w 3 base vh (iv c.hs) ∧ CmA w base rest r
theorem CmA.stay {w w' : World} {base : Nat} (h : ∀ v xs, SL w 3 base v xs → SL w' 3 base v xs) : ∀ {cs : List Cm} {xs : List Value}, CmA w base xs cs → CmA w' base xs cs
  | [], xs, k => k
  | c :: r, xs, ⟨vf, vh, rest, h1, h2, h3, h4⟩ => ⟨vf, vh, rest, h1, h _ _ h2, h _ _ h3, CmA.stay h h4⟩
theorem CmA.more {w : World} {base : Nat} {c : Cm} {vf vh : Value} (hf : SL w 3 base vf (iv c.fields)) (hh : SL w 3 base vh (iv c.hs)) : ∀ {cs : List Cm} {xs : List Value}, CmA w base xs cs → CmA w base (xs ++ cmC c vf vh) (cs ++ [c])
  | [], xs, k => by
    obtain rfl : xs = [] := k
    exact ⟨vf, vh, [], by simp, hf, hh, rfl⟩
  | d :: r, xs, ⟨vf', vh', rest, h1, h2, h3, h4⟩ => ⟨vf', vh', rest ++ cmC c vf vh, by rw [h1, List.append_assoc], h2, h3, CmA.more hf hh h4⟩
theorem CmA.len {w : World} {base : Nat} : ∀ {cs : List Cm} {xs : List Value}, CmA w base xs cs → xs.length = cs.length * 9
  | [], xs, k => by obtain rfl : xs = [] := k; rfl
  | d :: r, xs, ⟨vf', vh', rest, h1, h2, h3, h4⟩ => by
    have := CmA.len h4
    subst h1
    rw [List.length_append, this, List.length_cons]
    simp [cmC]
    omega
theorem CmA.at {w : World} {base : Nat} : ∀ {cs : List Cm} {xs : List Value} {i : Nat} {c : Cm}, CmA w base xs cs → cs[i]? = some c → ∃ vf vh, SL w 3 base vf (iv c.fields) ∧ SL w 3 base vh (iv c.hs) ∧ ∀ t, t < 9 → xs[i * 9 + t]? = (cmC c vf vh)[t]?
  | [], xs, i, c, k, h => by simp at h
  | d :: r, xs, 0, c, ⟨vf', vh', rest, h1, h2, h3, h4⟩, h => by
    simp at h
    subst h
    refine ⟨vf', vh', h2, h3, fun t ht => ?_⟩
    rw [h1, Nat.zero_mul, Nat.zero_add, List.getElem?_append_left (by simp [cmC]; omega)]
  | d :: r, xs, i + 1, c, ⟨vf', vh', rest, h1, h2, h3, h4⟩, h => by
    obtain ⟨vf, vh, k1, k2, k3⟩ := CmA.at (i := i) h4 (by simpa using h)
    refine ⟨vf, vh, k1, k2, fun t ht => ?_⟩
    have hl : (cmC d vf' vh').length = 9 := rfl
    rw [h1, List.getElem?_append_right (by rw [hl]; omega), hl, show (i + 1) * 9 + t - 9 = i * 9 + t by omega]
    exact k3 t ht
/-- The overrides, in cells. -/
def ovC (l : List (List UInt8 × Nat)) : List Value := l.flatMap fun x => [Value.string (B x.1), Value.int .u64 (x.2 : Int)]
theorem ovC_append (a b : List (List UInt8 × Nat)) : ovC (a ++ b) = ovC a ++ ovC b := by simp [ovC]
theorem ovC_len (a : List (List UInt8 × Nat)) : (ovC a).length = a.length * 2 := by
  induction a with
  | nil => rfl
  | cons x r ih => rw [ovC, List.flatMap_cons, List.length_append, ← ovC, ih]; simp; omega
theorem ovC_at : ∀ (a : List (List UInt8 × Nat)) (i : Nat) (x : List UInt8 × Nat), a[i]? = some x → (ovC a)[i * 2]? = some (.string (B x.1)) ∧ (ovC a)[i * 2 + 1]? = some (.int .u64 (x.2 : Int))
  | [], i, x, h => by simp at h
  | y :: r, 0, x, h => by
    simp at h
    subst h
    exact ⟨rfl, rfl⟩
  | y :: r, i + 1, x, h => by
    obtain ⟨h1, h2⟩ := ovC_at r i x (by simpa using h)
    have e : ovC (y :: r) = [Value.string (B y.1), Value.int .u64 (y.2 : Int)] ++ ovC r := rfl
    have hl : ([Value.string (B y.1), Value.int .u64 (y.2 : Int)] : List Value).length = 2 := rfl
    rw [e, List.getElem?_append_right (by rw [hl]; omega), List.getElem?_append_right (by rw [hl]; omega), hl, show (i + 1) * 2 - 2 = i * 2 by omega, show (i + 1) * 2 + 1 - 2 = i * 2 + 1 by omega]
    exact ⟨h1, h2⟩
end Go.Proofs.YtigaacbaaopfmaaDoor.sh
