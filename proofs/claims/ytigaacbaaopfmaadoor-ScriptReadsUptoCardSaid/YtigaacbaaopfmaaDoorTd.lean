/- The law's tidy, walked. -/
import Derived.Test.YtigaacbaaopfmaaDoorLn
namespace Go.Proofs.YtigaacbaaopfmaaDoor.sh
open Go.RowKit
set_option linter.unusedVariables false
def TidP (t : Ans) (ok : Bool) (w : World) (e : Ending) (w' : World) : Prop := e = .returned (.tuple #[t.v, .bool ok]) ∧ Below w.heap.size w w'
set_option maxHeartbeats 4000000 in
set_option maxRecDepth 100000 in
theorem tidy_lo (w : World) (op err : Int) (n off : Int) (yes : Bool) (key elem : ByteArray) (h : op < 1) : Calls Tryd.prog 27 #[.agg #[.int .i64 op, .int .i64 err, .int .i64 n, .int .i64 off, .bool yes, .string key, .string elem]] w (TidP ⟨0, 0, 0, 0, false, ⟨#[]⟩, ⟨#[]⟩⟩ false w) := by
  go_enter Tryd.func27, Tryd.ntmps27
  go_wp2
  exact bodyPost_ret (v := .tuple #[.agg #[.int .i64 0, .int .i64 0, .int .i64 0, .int .i64 0, .bool false, .string ⟨#[]⟩, .string ⟨#[]⟩], .bool false]) (by simp [results, Tryd.results27, go_sem]) rfl ⟨rfl, ((((Below.refl _ _).alloc (Nat.le_refl _) _).alloc (by simp) _).alloc (by simp; omega) _)⟩
set_option maxHeartbeats 4000000 in
set_option maxRecDepth 100000 in
theorem tidy_hi (w : World) (op err : Int) (n off : Int) (yes : Bool) (key elem : ByteArray) (h0 : ¬ op < 1) (h : op > 14) : Calls Tryd.prog 27 #[.agg #[.int .i64 op, .int .i64 err, .int .i64 n, .int .i64 off, .bool yes, .string key, .string elem]] w (TidP ⟨0, 0, 0, 0, false, ⟨#[]⟩, ⟨#[]⟩⟩ false w) := by
  go_enter Tryd.func27, Tryd.ntmps27
  go_wp2
  exact bodyPost_ret (v := .tuple #[.agg #[.int .i64 0, .int .i64 0, .int .i64 0, .int .i64 0, .bool false, .string ⟨#[]⟩, .string ⟨#[]⟩], .bool false]) (by simp [results, Tryd.results27, go_sem]) rfl ⟨rfl, ((((Below.refl _ _).alloc (Nat.le_refl _) _).alloc (by simp) _).alloc (by simp; omega) _)⟩
set_option maxHeartbeats 4000000 in
set_option maxRecDepth 100000 in
theorem tidy_err (w : World) (op err : Int) (n off : Int) (yes : Bool) (key elem : ByteArray) (h0 : ¬ op < 1) (h1 : ¬ op > 14) (h : (err != 0) = true) : Calls Tryd.prog 27 #[.agg #[.int .i64 op, .int .i64 err, .int .i64 n, .int .i64 off, .bool yes, .string key, .string elem]] w (TidP ⟨op, err, 0, 0, false, ⟨#[]⟩, ⟨#[]⟩⟩ true w) := by
  go_enter Tryd.func27, Tryd.ntmps27
  go_wp2
  exact bodyPost_ret (v := .tuple #[.agg #[.int .i64 op, .int .i64 err, .int .i64 0, .int .i64 0, .bool false, .string ⟨#[]⟩, .string ⟨#[]⟩], .bool true]) (by simp [results, Tryd.results27, go_sem]) rfl ⟨rfl, ((((Below.refl _ _).alloc (Nat.le_refl _) _).alloc (by simp) _).alloc (by simp; omega) _)⟩
set_option maxHeartbeats 4000000 in
set_option maxRecDepth 100000 in
theorem tidy_1 (w : World) (n off : Int) (yes : Bool) (key elem : ByteArray)  : Calls Tryd.prog 27 #[.agg #[.int .i64 1, .int .i64 0, .int .i64 n, .int .i64 off, .bool yes, .string key, .string elem]] w (TidP ⟨1, 0, n, 0, false, ⟨#[]⟩, ⟨#[]⟩⟩ true w) := by
  go_enter Tryd.func27, Tryd.ntmps27
  go_wp2
  exact bodyPost_ret (v := .tuple #[.agg #[.int .i64 1, .int .i64 0, .int .i64 n, .int .i64 0, .bool false, .string ⟨#[]⟩, .string ⟨#[]⟩], .bool true]) (by simp [results, Tryd.results27, go_sem]) rfl ⟨rfl, ((((Below.refl _ _).alloc (Nat.le_refl _) _).alloc (by simp) _).alloc (by simp; omega) _)⟩
set_option maxHeartbeats 4000000 in
set_option maxRecDepth 100000 in
theorem tidy_5 (w : World) (n off : Int) (yes : Bool) (key elem : ByteArray)  : Calls Tryd.prog 27 #[.agg #[.int .i64 5, .int .i64 0, .int .i64 n, .int .i64 off, .bool yes, .string key, .string elem]] w (TidP ⟨5, 0, n, 0, false, ⟨#[]⟩, ⟨#[]⟩⟩ true w) := by
  go_enter Tryd.func27, Tryd.ntmps27
  go_wp2
  exact bodyPost_ret (v := .tuple #[.agg #[.int .i64 5, .int .i64 0, .int .i64 n, .int .i64 0, .bool false, .string ⟨#[]⟩, .string ⟨#[]⟩], .bool true]) (by simp [results, Tryd.results27, go_sem]) rfl ⟨rfl, ((((Below.refl _ _).alloc (Nat.le_refl _) _).alloc (by simp) _).alloc (by simp; omega) _)⟩
set_option maxHeartbeats 4000000 in
set_option maxRecDepth 100000 in
theorem tidy_7 (w : World) (n off : Int) (yes : Bool) (key elem : ByteArray)  : Calls Tryd.prog 27 #[.agg #[.int .i64 7, .int .i64 0, .int .i64 n, .int .i64 off, .bool yes, .string key, .string elem]] w (TidP ⟨7, 0, n, 0, false, ⟨#[]⟩, ⟨#[]⟩⟩ true w) := by
  go_enter Tryd.func27, Tryd.ntmps27
  go_wp2
  exact bodyPost_ret (v := .tuple #[.agg #[.int .i64 7, .int .i64 0, .int .i64 n, .int .i64 0, .bool false, .string ⟨#[]⟩, .string ⟨#[]⟩], .bool true]) (by simp [results, Tryd.results27, go_sem]) rfl ⟨rfl, ((((Below.refl _ _).alloc (Nat.le_refl _) _).alloc (by simp) _).alloc (by simp; omega) _)⟩
set_option maxHeartbeats 4000000 in
set_option maxRecDepth 100000 in
theorem tidy_8 (w : World) (n off : Int) (yes : Bool) (key elem : ByteArray)  : Calls Tryd.prog 27 #[.agg #[.int .i64 8, .int .i64 0, .int .i64 n, .int .i64 off, .bool yes, .string key, .string elem]] w (TidP ⟨8, 0, n, 0, false, ⟨#[]⟩, ⟨#[]⟩⟩ true w) := by
  go_enter Tryd.func27, Tryd.ntmps27
  go_wp2
  exact bodyPost_ret (v := .tuple #[.agg #[.int .i64 8, .int .i64 0, .int .i64 n, .int .i64 0, .bool false, .string ⟨#[]⟩, .string ⟨#[]⟩], .bool true]) (by simp [results, Tryd.results27, go_sem]) rfl ⟨rfl, ((((Below.refl _ _).alloc (Nat.le_refl _) _).alloc (by simp) _).alloc (by simp; omega) _)⟩
set_option maxHeartbeats 4000000 in
set_option maxRecDepth 100000 in
theorem tidy_11 (w : World) (n off : Int) (yes : Bool) (key elem : ByteArray)  : Calls Tryd.prog 27 #[.agg #[.int .i64 11, .int .i64 0, .int .i64 n, .int .i64 off, .bool yes, .string key, .string elem]] w (TidP ⟨11, 0, n, 0, false, ⟨#[]⟩, ⟨#[]⟩⟩ true w) := by
  go_enter Tryd.func27, Tryd.ntmps27
  go_wp2
  exact bodyPost_ret (v := .tuple #[.agg #[.int .i64 11, .int .i64 0, .int .i64 n, .int .i64 0, .bool false, .string ⟨#[]⟩, .string ⟨#[]⟩], .bool true]) (by simp [results, Tryd.results27, go_sem]) rfl ⟨rfl, ((((Below.refl _ _).alloc (Nat.le_refl _) _).alloc (by simp) _).alloc (by simp; omega) _)⟩
set_option maxHeartbeats 4000000 in
set_option maxRecDepth 100000 in
theorem tidy_12 (w : World) (n off : Int) (yes : Bool) (key elem : ByteArray)  : Calls Tryd.prog 27 #[.agg #[.int .i64 12, .int .i64 0, .int .i64 n, .int .i64 off, .bool yes, .string key, .string elem]] w (TidP ⟨12, 0, n, 0, false, ⟨#[]⟩, ⟨#[]⟩⟩ true w) := by
  go_enter Tryd.func27, Tryd.ntmps27
  go_wp2
  exact bodyPost_ret (v := .tuple #[.agg #[.int .i64 12, .int .i64 0, .int .i64 n, .int .i64 0, .bool false, .string ⟨#[]⟩, .string ⟨#[]⟩], .bool true]) (by simp [results, Tryd.results27, go_sem]) rfl ⟨rfl, ((((Below.refl _ _).alloc (Nat.le_refl _) _).alloc (by simp) _).alloc (by simp; omega) _)⟩
set_option maxHeartbeats 4000000 in
set_option maxRecDepth 100000 in
theorem tidy_13 (w : World) (n off : Int) (yes : Bool) (key elem : ByteArray)  : Calls Tryd.prog 27 #[.agg #[.int .i64 13, .int .i64 0, .int .i64 n, .int .i64 off, .bool yes, .string key, .string elem]] w (TidP ⟨13, 0, n, 0, false, ⟨#[]⟩, ⟨#[]⟩⟩ true w) := by
  go_enter Tryd.func27, Tryd.ntmps27
  go_wp2
  exact bodyPost_ret (v := .tuple #[.agg #[.int .i64 13, .int .i64 0, .int .i64 n, .int .i64 0, .bool false, .string ⟨#[]⟩, .string ⟨#[]⟩], .bool true]) (by simp [results, Tryd.results27, go_sem]) rfl ⟨rfl, ((((Below.refl _ _).alloc (Nat.le_refl _) _).alloc (by simp) _).alloc (by simp; omega) _)⟩
set_option maxHeartbeats 4000000 in
set_option maxRecDepth 100000 in
theorem tidy_3 (w : World) (n off : Int) (yes : Bool) (key elem : ByteArray)  : Calls Tryd.prog 27 #[.agg #[.int .i64 3, .int .i64 0, .int .i64 n, .int .i64 off, .bool yes, .string key, .string elem]] w (TidP ⟨3, 0, 0, 0, yes, ⟨#[]⟩, ⟨#[]⟩⟩ true w) := by
  go_enter Tryd.func27, Tryd.ntmps27
  go_wp2
  exact bodyPost_ret (v := .tuple #[.agg #[.int .i64 3, .int .i64 0, .int .i64 0, .int .i64 0, .bool yes, .string ⟨#[]⟩, .string ⟨#[]⟩], .bool true]) (by simp [results, Tryd.results27, go_sem]) rfl ⟨rfl, ((((Below.refl _ _).alloc (Nat.le_refl _) _).alloc (by simp) _).alloc (by simp; omega) _)⟩
set_option maxHeartbeats 4000000 in
set_option maxRecDepth 100000 in
theorem tidy_4 (w : World) (n off : Int) (yes : Bool) (key elem : ByteArray)  : Calls Tryd.prog 27 #[.agg #[.int .i64 4, .int .i64 0, .int .i64 n, .int .i64 off, .bool yes, .string key, .string elem]] w (TidP ⟨4, 0, 0, 0, yes, ⟨#[]⟩, ⟨#[]⟩⟩ true w) := by
  go_enter Tryd.func27, Tryd.ntmps27
  go_wp2
  exact bodyPost_ret (v := .tuple #[.agg #[.int .i64 4, .int .i64 0, .int .i64 0, .int .i64 0, .bool yes, .string ⟨#[]⟩, .string ⟨#[]⟩], .bool true]) (by simp [results, Tryd.results27, go_sem]) rfl ⟨rfl, ((((Below.refl _ _).alloc (Nat.le_refl _) _).alloc (by simp) _).alloc (by simp; omega) _)⟩
set_option maxHeartbeats 4000000 in
set_option maxRecDepth 100000 in
theorem tidy_6 (w : World) (n off : Int) (yes : Bool) (key elem : ByteArray)  : Calls Tryd.prog 27 #[.agg #[.int .i64 6, .int .i64 0, .int .i64 n, .int .i64 off, .bool yes, .string key, .string elem]] w (TidP ⟨6, 0, 0, 0, false, ⟨#[]⟩, ⟨#[]⟩⟩ true w) := by
  go_enter Tryd.func27, Tryd.ntmps27
  go_wp2
  exact bodyPost_ret (v := .tuple #[.agg #[.int .i64 6, .int .i64 0, .int .i64 0, .int .i64 0, .bool false, .string ⟨#[]⟩, .string ⟨#[]⟩], .bool true]) (by simp [results, Tryd.results27, go_sem]) rfl ⟨rfl, ((((Below.refl _ _).alloc (Nat.le_refl _) _).alloc (by simp) _).alloc (by simp; omega) _)⟩
set_option maxHeartbeats 4000000 in
set_option maxRecDepth 100000 in
theorem tidy_10 (w : World) (n off : Int) (yes : Bool) (key elem : ByteArray)  : Calls Tryd.prog 27 #[.agg #[.int .i64 10, .int .i64 0, .int .i64 n, .int .i64 off, .bool yes, .string key, .string elem]] w (TidP ⟨10, 0, 0, 0, false, ⟨#[]⟩, ⟨#[]⟩⟩ true w) := by
  go_enter Tryd.func27, Tryd.ntmps27
  go_wp2
  exact bodyPost_ret (v := .tuple #[.agg #[.int .i64 10, .int .i64 0, .int .i64 0, .int .i64 0, .bool false, .string ⟨#[]⟩, .string ⟨#[]⟩], .bool true]) (by simp [results, Tryd.results27, go_sem]) rfl ⟨rfl, ((((Below.refl _ _).alloc (Nat.le_refl _) _).alloc (by simp) _).alloc (by simp; omega) _)⟩
set_option maxHeartbeats 4000000 in
set_option maxRecDepth 100000 in
theorem tidy_2y (w : World) (n off : Int) (key elem : ByteArray)  : Calls Tryd.prog 27 #[.agg #[.int .i64 2, .int .i64 0, .int .i64 n, .int .i64 off, .bool true, .string key, .string elem]] w (TidP ⟨2, 0, 0, 0, true, ⟨#[]⟩, elem⟩ true w) := by
  go_enter Tryd.func27, Tryd.ntmps27
  go_wp2
  exact bodyPost_ret (v := .tuple #[.agg #[.int .i64 2, .int .i64 0, .int .i64 0, .int .i64 0, .bool true, .string ⟨#[]⟩, .string elem], .bool true]) (by simp [results, Tryd.results27, go_sem]) rfl ⟨rfl, ((((Below.refl _ _).alloc (Nat.le_refl _) _).alloc (by simp) _).alloc (by simp; omega) _)⟩
set_option maxHeartbeats 4000000 in
set_option maxRecDepth 100000 in
theorem tidy_2n (w : World) (n off : Int) (key elem : ByteArray)  : Calls Tryd.prog 27 #[.agg #[.int .i64 2, .int .i64 0, .int .i64 n, .int .i64 off, .bool false, .string key, .string elem]] w (TidP ⟨2, 0, 0, 0, false, ⟨#[]⟩, ⟨#[]⟩⟩ true w) := by
  go_enter Tryd.func27, Tryd.ntmps27
  go_wp2
  exact bodyPost_ret (v := .tuple #[.agg #[.int .i64 2, .int .i64 0, .int .i64 0, .int .i64 0, .bool false, .string ⟨#[]⟩, .string ⟨#[]⟩], .bool true]) (by simp [results, Tryd.results27, go_sem]) rfl ⟨rfl, ((((Below.refl _ _).alloc (Nat.le_refl _) _).alloc (by simp) _).alloc (by simp; omega) _)⟩
set_option maxHeartbeats 4000000 in
set_option maxRecDepth 100000 in
theorem tidy_9y (w : World) (n off : Int) (key elem : ByteArray)  : Calls Tryd.prog 27 #[.agg #[.int .i64 9, .int .i64 0, .int .i64 n, .int .i64 off, .bool true, .string key, .string elem]] w (TidP ⟨9, 0, 0, 0, true, key, elem⟩ true w) := by
  go_enter Tryd.func27, Tryd.ntmps27
  go_wp2
  exact bodyPost_ret (v := .tuple #[.agg #[.int .i64 9, .int .i64 0, .int .i64 0, .int .i64 0, .bool true, .string key, .string elem], .bool true]) (by simp [results, Tryd.results27, go_sem]) rfl ⟨rfl, ((((Below.refl _ _).alloc (Nat.le_refl _) _).alloc (by simp) _).alloc (by simp; omega) _)⟩
set_option maxHeartbeats 4000000 in
set_option maxRecDepth 100000 in
theorem tidy_9n (w : World) (n off : Int) (key elem : ByteArray)  : Calls Tryd.prog 27 #[.agg #[.int .i64 9, .int .i64 0, .int .i64 n, .int .i64 off, .bool false, .string key, .string elem]] w (TidP ⟨9, 0, 0, 0, false, ⟨#[]⟩, ⟨#[]⟩⟩ true w) := by
  go_enter Tryd.func27, Tryd.ntmps27
  go_wp2
  exact bodyPost_ret (v := .tuple #[.agg #[.int .i64 9, .int .i64 0, .int .i64 0, .int .i64 0, .bool false, .string ⟨#[]⟩, .string ⟨#[]⟩], .bool true]) (by simp [results, Tryd.results27, go_sem]) rfl ⟨rfl, ((((Below.refl _ _).alloc (Nat.le_refl _) _).alloc (by simp) _).alloc (by simp; omega) _)⟩
set_option maxHeartbeats 4000000 in
set_option maxRecDepth 100000 in
theorem tidy_14z (w : World) (off : Int) (yes : Bool) (key elem : ByteArray)  : Calls Tryd.prog 27 #[.agg #[.int .i64 14, .int .i64 0, .int .i64 0, .int .i64 off, .bool yes, .string key, .string elem]] w (TidP ⟨14, 0, 0, 0, false, ⟨#[]⟩, ⟨#[]⟩⟩ true w) := by
  go_enter Tryd.func27, Tryd.ntmps27
  go_wp2
  exact bodyPost_ret (v := .tuple #[.agg #[.int .i64 14, .int .i64 0, .int .i64 0, .int .i64 0, .bool false, .string ⟨#[]⟩, .string ⟨#[]⟩], .bool true]) (by simp [results, Tryd.results27, go_sem]) rfl ⟨rfl, ((((Below.refl _ _).alloc (Nat.le_refl _) _).alloc (by simp) _).alloc (by simp; omega) _)⟩
set_option maxHeartbeats 4000000 in
set_option maxRecDepth 100000 in
theorem tidy_14 (w : World) (n off : Int) (yes : Bool) (key elem : ByteArray) (h : (n != 0) = true) : Calls Tryd.prog 27 #[.agg #[.int .i64 14, .int .i64 0, .int .i64 n, .int .i64 off, .bool yes, .string key, .string elem]] w (TidP ⟨14, 0, n, off, false, ⟨#[]⟩, ⟨#[]⟩⟩ true w) := by
  go_enter Tryd.func27, Tryd.ntmps27
  go_wp2
  exact bodyPost_ret (v := .tuple #[.agg #[.int .i64 14, .int .i64 0, .int .i64 n, .int .i64 off, .bool false, .string ⟨#[]⟩, .string ⟨#[]⟩], .bool true]) (by simp [results, Tryd.results27, go_sem]) rfl ⟨rfl, ((((Below.refl _ _).alloc (Nat.le_refl _) _).alloc (by simp) _).alloc (by simp; omega) _)⟩
theorem tidy_walk (w : World) (a : Ans) : Calls Tryd.prog 27 #[a.v] w (TidP ((tidyA a).getD (A0 0)) (tidyA a).isSome w) := by
  obtain ⟨op, err, n, off, yes, key, elem⟩ := a
  by_cases h1 : op < 1
  · have e : tidyA ⟨op, err, n, off, yes, key, elem⟩ = none := if_neg (by show ¬ (1 ≤ op ∧ op ≤ 14); omega)
    rw [e]; exact tidy_lo w op err n off yes key elem h1
  by_cases h2 : op > 14
  · have e : tidyA ⟨op, err, n, off, yes, key, elem⟩ = none := if_neg (by show ¬ (1 ≤ op ∧ op ≤ 14); omega)
    rw [e]; exact tidy_hi w op err n off yes key elem h1 h2
  have e : tidyA ⟨op, err, n, off, yes, key, elem⟩ = some (tidyC ⟨op, err, n, off, yes, key, elem⟩) := if_pos (by show 1 ≤ op ∧ op ≤ 14; omega)
  rw [e]
  by_cases h3 : err = 0
  · subst h3
    obtain ⟨k, rfl⟩ : ∃ k : Nat, op = k := ⟨op.toNat, by omega⟩
    rcases ops14 (k := k) (by omega) with rfl | rfl | rfl | rfl | rfl | rfl | rfl | rfl | rfl | rfl | rfl | rfl | rfl | rfl
    · exact tidy_1 w n off yes key elem
    · cases yes
      · exact tidy_2n w n off key elem
      · exact tidy_2y w n off key elem
    · exact tidy_3 w n off yes key elem
    · exact tidy_4 w n off yes key elem
    · exact tidy_5 w n off yes key elem
    · exact tidy_6 w n off yes key elem
    · exact tidy_7 w n off yes key elem
    · exact tidy_8 w n off yes key elem
    · cases yes
      · exact tidy_9n w n off key elem
      · exact tidy_9y w n off key elem
    · exact tidy_10 w n off yes key elem
    · exact tidy_11 w n off yes key elem
    · exact tidy_12 w n off yes key elem
    · exact tidy_13 w n off yes key elem
    · by_cases h4 : n = 0
      · subst h4; exact tidy_14z w off yes key elem
      · have e2 : tidyC ⟨14, 0, n, off, yes, key, elem⟩ = ⟨14, 0, n, off, false, ⟨#[]⟩, ⟨#[]⟩⟩ := by
          show (if n = 0 then _ else _) = _
          rw [if_neg h4]
        have e3 : (some (tidyC ⟨((14 : Nat) : Int), 0, n, off, yes, key, elem⟩)).getD (A0 0) = ⟨14, 0, n, off, false, ⟨#[]⟩, ⟨#[]⟩⟩ := e2
        rw [e3]
        exact tidy_14 w n off yes key elem (by simpa using h4)
  · have e2 : tidyC ⟨op, err, n, off, yes, key, elem⟩ = ⟨op, err, 0, 0, false, ⟨#[]⟩, ⟨#[]⟩⟩ := by
      unfold tidyC; rw [if_pos h3]
    rw [e2]
    exact tidy_err w op err n off yes key elem h1 h2 (by simpa using h3)
end Go.Proofs.YtigaacbaaopfmaaDoor.sh
