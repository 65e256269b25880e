/- ScriptAnswers' function, walked: whatever the answers, it answers true. -/
import Derived.Test.YtigaacbaaopfmaaDoorEq
namespace Go.Proofs.YtigaacbaaopfmaaDoor.sh
open Go.RowKit
set_option linter.unusedVariables false
/-- What an answer may be. -/
structure Fit (a : Ans) : Prop where
  e : In64 a.err
  n : In64 a.n
  o : In64 a.off
  s : a.key.size + a.elem.size ≤ 1100000
theorem bytesP_len2 (s : ByteArray) : (bytesP s).length ≤ 2 * s.size + 1 := by
  unfold bytesP
  split
  · simp
  · rw [hexL_length]
    have : s.data.toList.length = s.size := by rw [Array.length_toList]; rfl
    omega
theorem tailL_len (a : Ans) (h : Fit a) : (tailL a).length ≤ 2200400 := by
  have h1 := itoa_len h.e.1 h.e.2
  have h2 := itoa_len h.n.1 h.n.2
  have h3 := itoa_len h.o.1 h.o.2
  have h4 := bytesP_len2 a.key
  have h5 := bytesP_len2 a.elem
  have h6 := h.s
  unfold tailL
  repeat' split
  all_goals simp only [List.length_append, List.length_cons, List.length_nil]
  all_goals omega
theorem showL_len (a : Ans) (h : Fit a) : (showL a).length ≤ 3000000 := by
  have h1 := tailL_len a h
  have h2 := name_len a.op
  unfold showL
  split
  · simp
  · rw [List.length_append]; omega
theorem showL_none {a : Ans} (h : tidyA a = none) : showL a = [] := by
  unfold tidyA at h
  split at h
  · cases h
  · next hk => unfold showL nameL; rw [if_neg hk]; simp
theorem tidyA_some {a t : Ans} (h : tidyA a = some t) : t = tidyC a ∧ 1 ≤ a.op ∧ a.op ≤ 14 := by
  unfold tidyA at h
  split at h
  · next hk => exact ⟨(Option.some.inj h).symm, hk⟩
  · cases h
theorem showL_tidy {a : Ans} (h : Fit a) (hk : 1 ≤ a.op ∧ a.op ≤ 14) : showL (tidyC a) = showL a :=
  (show_read (read_show a ⟨h.e, h.n, h.o⟩ hk)).1
theorem alike_iff {a b : Ans} (ha : Fit a) (hb : Fit b) (ka : 1 ≤ a.op ∧ a.op ≤ 14) (kb : 1 ≤ b.op ∧ b.op ≤ 14) : beqA (tidyC a) (tidyC b) = decide (showL a = showL b) := by
  rw [Bool.eq_iff_iff, beqA_iff, decide_eq_true_eq]
  constructor
  · intro h
    rw [← showL_tidy ha ka, ← showL_tidy hb kb, h]
  · intro h
    have h1 := read_show a ⟨ha.e, ha.n, ha.o⟩ ka
    have h2 := read_show b ⟨hb.e, hb.n, hb.o⟩ kb
    rw [h] at h1
    exact Option.some.inj (h1.symm.trans h2)
theorem B_beq (l m : List UInt8) : ((B l).toList == (B m).toList) = decide (l = m) := by
  rw [B_toList, B_toList]
  by_cases h : l = m
  · rw [h]; simp
  · rw [decide_eq_false h]; exact beq_eq_false_iff_ne.2 h
set_option maxHeartbeats 4000000 in
set_option maxRecDepth 100000 in
theorem answers_none (w : World) (a b x y : Ans) (hx hy : Bool) (S T : ByteArray)
    (ct : ∀ wq, Calls Tryd.prog 27 #[a.v] wq (TidP x hx wq)) (cu : ∀ wq, Calls Tryd.prog 27 #[b.v] wq (TidP y hy wq))
    (cs : ∀ wq, Below w.heap.size w wq → Calls Tryd.prog 14 #[a.v] wq fun e w' => e = .returned (.string S) ∧ Below wq.heap.size wq w')
    (cv : ∀ wq, Below w.heap.size w wq → Calls Tryd.prog 14 #[b.v] wq fun e w' => e = .returned (.string T) ∧ Below wq.heap.size wq w') (h0 : hx = false) (hS : S = ⟨#[]⟩) : Calls Tryd.prog 12 #[a.v, b.v] w fun e w' => e = .returned (.bool true) ∧ Below w.heap.size w w' := by
  subst h0 hS
  simp only [TidP, Ans.v] at ct cu cs cv ⊢
  go_enter Tryd.func12, Tryd.ntmps12
  go_wp2_with fail
  refine (ct _).mono ?_
  rintro e w1 ⟨rfl, hB1⟩
  obtain ⟨hc1, hf1⟩ := bcell hB1
  have hs1 := hB1.size
  (try simp at hs1)
  have hz10 : w.heap.size < w1.heap.size := by omega
  have hz11 : w.heap.size + 1 < w1.heap.size := by omega
  go_wp2_with fail
  refine (cu _).mono ?_
  rintro e w2 ⟨rfl, hB2⟩
  obtain ⟨hc2, hf2⟩ := bcell hB2
  have hs2 := hB2.size
  (try simp at hs2)
  have hz20 : w.heap.size < w2.heap.size := by omega
  have hz21 : w.heap.size + 1 < w2.heap.size := by omega
  have hz22 : w1.heap.size < w2.heap.size := by omega
  go_wp2_with fail
  refine (cs _ ?_).mono ?_
  · repeat (first | with_reducible assumption | with_reducible refine below_set ?_ (by omega) _ | with_reducible refine Below.alloc ?_ (by first | omega | (simp; done) | (simp; omega)) _ | with_reducible refine Below.drew ?_ | with_reducible exact Below.refl _ _ | with_reducible refine below_two ?_ (by with_reducible assumption))
  rintro e w3 ⟨rfl, hB3⟩
  obtain ⟨hc3, hf3⟩ := bcell hB3
  have hs3 := hB3.size
  (try simp at hs3)
  have hz30 : w.heap.size < w3.heap.size := by omega
  have hz31 : w.heap.size + 1 < w3.heap.size := by omega
  have hz32 : w1.heap.size < w3.heap.size := by omega
  have hz33 : w2.heap.size < w3.heap.size := by omega
  go_wp2_with fail
  refine (cv _ ?_).mono ?_
  · repeat (first | with_reducible assumption | with_reducible refine below_set ?_ (by omega) _ | with_reducible refine Below.alloc ?_ (by first | omega | (simp; done) | (simp; omega)) _ | with_reducible refine Below.drew ?_ | with_reducible exact Below.refl _ _ | with_reducible refine below_two ?_ (by with_reducible assumption))
  rintro e w4 ⟨rfl, hB4⟩
  obtain ⟨hc4, hf4⟩ := bcell hB4
  have hs4 := hB4.size
  (try simp at hs4)
  have hz40 : w.heap.size < w4.heap.size := by omega
  have hz41 : w.heap.size + 1 < w4.heap.size := by omega
  have hz42 : w1.heap.size < w4.heap.size := by omega
  have hz43 : w2.heap.size < w4.heap.size := by omega
  go_wp2
  go_ret
  refine ⟨rfl, ?_⟩
  repeat (first | with_reducible assumption | with_reducible refine below_set ?_ (by omega) _ | with_reducible refine Below.alloc ?_ (by first | omega | (simp; done) | (simp; omega)) _ | with_reducible refine Below.drew ?_ | with_reducible exact Below.refl _ _ | with_reducible refine below_two ?_ (by with_reducible assumption))
set_option maxHeartbeats 4000000 in
set_option maxRecDepth 100000 in
theorem answers_one (w : World) (a b x y : Ans) (hx hy : Bool) (S T : ByteArray)
    (ct : ∀ wq, Calls Tryd.prog 27 #[a.v] wq (TidP x hx wq)) (cu : ∀ wq, Calls Tryd.prog 27 #[b.v] wq (TidP y hy wq))
    (cs : ∀ wq, Below w.heap.size w wq → Calls Tryd.prog 14 #[a.v] wq fun e w' => e = .returned (.string S) ∧ Below wq.heap.size wq w')
    (cv : ∀ wq, Below w.heap.size w wq → Calls Tryd.prog 14 #[b.v] wq fun e w' => e = .returned (.string T) ∧ Below wq.heap.size wq w') (h0 : hx = true) (cr : ∀ wq, Below w.heap.size w wq → Calls Tryd.prog 25 #[.string S] wq fun e w' => e = .returned (.tuple #[x.v, .int .i64 0]) ∧ Below wq.heap.size wq w') (hne : ∀ W, (binOp .neq 24 x.v x.v).run Tryd.prog W = .ok (.bool false) W) (h1 : hy = false) : Calls Tryd.prog 12 #[a.v, b.v] w fun e w' => e = .returned (.bool true) ∧ Below w.heap.size w w' := by
  subst h0 h1
  simp only [TidP, Ans.v] at ct cu cs cv cr hne ⊢
  go_enter Tryd.func12, Tryd.ntmps12
  go_wp2_with fail
  refine (ct _).mono ?_
  rintro e w1 ⟨rfl, hB1⟩
  obtain ⟨hc1, hf1⟩ := bcell hB1
  have hs1 := hB1.size
  (try simp at hs1)
  have hz10 : w.heap.size < w1.heap.size := by omega
  have hz11 : w.heap.size + 1 < w1.heap.size := by omega
  go_wp2_with fail
  refine (cu _).mono ?_
  rintro e w2 ⟨rfl, hB2⟩
  obtain ⟨hc2, hf2⟩ := bcell hB2
  have hs2 := hB2.size
  (try simp at hs2)
  have hz20 : w.heap.size < w2.heap.size := by omega
  have hz21 : w.heap.size + 1 < w2.heap.size := by omega
  have hz22 : w1.heap.size < w2.heap.size := by omega
  go_wp2_with fail
  refine (cs _ ?_).mono ?_
  · repeat (first | with_reducible assumption | with_reducible refine below_set ?_ (by omega) _ | with_reducible refine Below.alloc ?_ (by first | omega | (simp; done) | (simp; omega)) _ | with_reducible refine Below.drew ?_ | with_reducible exact Below.refl _ _ | with_reducible refine below_two ?_ (by with_reducible assumption))
  rintro e w3 ⟨rfl, hB3⟩
  obtain ⟨hc3, hf3⟩ := bcell hB3
  have hs3 := hB3.size
  (try simp at hs3)
  have hz30 : w.heap.size < w3.heap.size := by omega
  have hz31 : w.heap.size + 1 < w3.heap.size := by omega
  have hz32 : w1.heap.size < w3.heap.size := by omega
  have hz33 : w2.heap.size < w3.heap.size := by omega
  go_wp2_with fail
  refine (cv _ ?_).mono ?_
  · repeat (first | with_reducible assumption | with_reducible refine below_set ?_ (by omega) _ | with_reducible refine Below.alloc ?_ (by first | omega | (simp; done) | (simp; omega)) _ | with_reducible refine Below.drew ?_ | with_reducible exact Below.refl _ _ | with_reducible refine below_two ?_ (by with_reducible assumption))
  rintro e w4 ⟨rfl, hB4⟩
  obtain ⟨hc4, hf4⟩ := bcell hB4
  have hs4 := hB4.size
  (try simp at hs4)
  have hz40 : w.heap.size < w4.heap.size := by omega
  have hz41 : w.heap.size + 1 < w4.heap.size := by omega
  have hz42 : w1.heap.size < w4.heap.size := by omega
  have hz43 : w2.heap.size < w4.heap.size := by omega
  go_wp2_with fail
  refine (cr _ ?_).mono ?_
  · repeat (first | with_reducible assumption | with_reducible refine below_set ?_ (by omega) _ | with_reducible refine Below.alloc ?_ (by first | omega | (simp; done) | (simp; omega)) _ | with_reducible refine Below.drew ?_ | with_reducible exact Below.refl _ _ | with_reducible refine below_two ?_ (by with_reducible assumption))
  rintro e w5 ⟨rfl, hB5⟩
  obtain ⟨hc5, hf5⟩ := bcell hB5
  have hs5 := hB5.size
  (try simp at hs5)
  have hz50 : w.heap.size < w5.heap.size := by omega
  have hz51 : w.heap.size + 1 < w5.heap.size := by omega
  have hz52 : w1.heap.size < w5.heap.size := by omega
  have hz53 : w2.heap.size < w5.heap.size := by omega
  go_wp2
  go_ret
  refine ⟨rfl, ?_⟩
  repeat (first | with_reducible assumption | with_reducible refine below_set ?_ (by omega) _ | with_reducible refine Below.alloc ?_ (by first | omega | (simp; done) | (simp; omega)) _ | with_reducible refine Below.drew ?_ | with_reducible exact Below.refl _ _ | with_reducible refine below_two ?_ (by with_reducible assumption))
set_option maxHeartbeats 4000000 in
set_option maxRecDepth 100000 in
theorem answers_two (w : World) (a b x y : Ans) (hx hy : Bool) (S T : ByteArray)
    (ct : ∀ wq, Calls Tryd.prog 27 #[a.v] wq (TidP x hx wq)) (cu : ∀ wq, Calls Tryd.prog 27 #[b.v] wq (TidP y hy wq))
    (cs : ∀ wq, Below w.heap.size w wq → Calls Tryd.prog 14 #[a.v] wq fun e w' => e = .returned (.string S) ∧ Below wq.heap.size wq w')
    (cv : ∀ wq, Below w.heap.size w wq → Calls Tryd.prog 14 #[b.v] wq fun e w' => e = .returned (.string T) ∧ Below wq.heap.size wq w') (h0 : hx = true) (cr : ∀ wq, Below w.heap.size w wq → Calls Tryd.prog 25 #[.string S] wq fun e w' => e = .returned (.tuple #[x.v, .int .i64 0]) ∧ Below wq.heap.size wq w') (hne : ∀ W, (binOp .neq 24 x.v x.v).run Tryd.prog W = .ok (.bool false) W) (h1 : hy = true) (q : Bool) (heq : ∀ W, (binOp .eql 24 x.v y.v).run Tryd.prog W = .ok (.bool q) W) (hst : (S.toList == T.toList) = q) : Calls Tryd.prog 12 #[a.v, b.v] w fun e w' => e = .returned (.bool true) ∧ Below w.heap.size w w' := by
  subst h0 h1
  simp only [TidP, Ans.v] at ct cu cs cv cr hne heq ⊢
  go_enter Tryd.func12, Tryd.ntmps12
  go_wp2_with fail
  refine (ct _).mono ?_
  rintro e w1 ⟨rfl, hB1⟩
  obtain ⟨hc1, hf1⟩ := bcell hB1
  have hs1 := hB1.size
  (try simp at hs1)
  have hz10 : w.heap.size < w1.heap.size := by omega
  have hz11 : w.heap.size + 1 < w1.heap.size := by omega
  go_wp2_with fail
  refine (cu _).mono ?_
  rintro e w2 ⟨rfl, hB2⟩
  obtain ⟨hc2, hf2⟩ := bcell hB2
  have hs2 := hB2.size
  (try simp at hs2)
  have hz20 : w.heap.size < w2.heap.size := by omega
  have hz21 : w.heap.size + 1 < w2.heap.size := by omega
  have hz22 : w1.heap.size < w2.heap.size := by omega
  go_wp2_with fail
  refine (cs _ ?_).mono ?_
  · repeat (first | with_reducible assumption | with_reducible refine below_set ?_ (by omega) _ | with_reducible refine Below.alloc ?_ (by first | omega | (simp; done) | (simp; omega)) _ | with_reducible refine Below.drew ?_ | with_reducible exact Below.refl _ _ | with_reducible refine below_two ?_ (by with_reducible assumption))
  rintro e w3 ⟨rfl, hB3⟩
  obtain ⟨hc3, hf3⟩ := bcell hB3
  have hs3 := hB3.size
  (try simp at hs3)
  have hz30 : w.heap.size < w3.heap.size := by omega
  have hz31 : w.heap.size + 1 < w3.heap.size := by omega
  have hz32 : w1.heap.size < w3.heap.size := by omega
  have hz33 : w2.heap.size < w3.heap.size := by omega
  go_wp2_with fail
  refine (cv _ ?_).mono ?_
  · repeat (first | with_reducible assumption | with_reducible refine below_set ?_ (by omega) _ | with_reducible refine Below.alloc ?_ (by first | omega | (simp; done) | (simp; omega)) _ | with_reducible refine Below.drew ?_ | with_reducible exact Below.refl _ _ | with_reducible refine below_two ?_ (by with_reducible assumption))
  rintro e w4 ⟨rfl, hB4⟩
  obtain ⟨hc4, hf4⟩ := bcell hB4
  have hs4 := hB4.size
  (try simp at hs4)
  have hz40 : w.heap.size < w4.heap.size := by omega
  have hz41 : w.heap.size + 1 < w4.heap.size := by omega
  have hz42 : w1.heap.size < w4.heap.size := by omega
  have hz43 : w2.heap.size < w4.heap.size := by omega
  go_wp2_with fail
  refine (cr _ ?_).mono ?_
  · repeat (first | with_reducible assumption | with_reducible refine below_set ?_ (by omega) _ | with_reducible refine Below.alloc ?_ (by first | omega | (simp; done) | (simp; omega)) _ | with_reducible refine Below.drew ?_ | with_reducible exact Below.refl _ _ | with_reducible refine below_two ?_ (by with_reducible assumption))
  rintro e w5 ⟨rfl, hB5⟩
  obtain ⟨hc5, hf5⟩ := bcell hB5
  have hs5 := hB5.size
  (try simp at hs5)
  have hz50 : w.heap.size < w5.heap.size := by omega
  have hz51 : w.heap.size + 1 < w5.heap.size := by omega
  have hz52 : w1.heap.size < w5.heap.size := by omega
  have hz53 : w2.heap.size < w5.heap.size := by omega
  go_wp2
  go_ret
  refine ⟨rfl, ?_⟩
  repeat (first | with_reducible assumption | with_reducible refine below_set ?_ (by omega) _ | with_reducible refine Below.alloc ?_ (by first | omega | (simp; done) | (simp; omega)) _ | with_reducible refine Below.drew ?_ | with_reducible exact Below.refl _ _ | with_reducible refine below_two ?_ (by with_reducible assumption))
theorem answers_walk (w : World) (hb : Bs w) (hr : Rowz w) (a b : Ans) (fa : Fit a) (fb : Fit b) : Calls Tryd.prog 12 #[a.v, b.v] w fun e w' => e = .returned (.bool true) ∧ Below w.heap.size w w' := by
  have ct := fun wq => tidy_walk wq a
  have cu := fun wq => tidy_walk wq b
  have cs := fun wq (hq : Below w.heap.size w wq) => show_walk a wq (hb.below hq).b3.base fa.e fa.n fa.o (by have := fa.s; omega) (by have := fa.s; omega)
  have cv := fun wq (hq : Below w.heap.size w wq) => show_walk b wq (hb.below hq).b3.base fb.e fb.n fb.o (by have := fb.s; omega) (by have := fb.s; omega)
  cases h : tidyA a with
  | none =>
    rw [h] at ct
    exact answers_none w a b _ _ _ _ _ _ ct cu cs cv rfl (by rw [showL_none h]; rfl)
  | some x =>
    rw [h] at ct
    obtain ⟨rfl, ka⟩ := tidyA_some h
    have cr := fun wq (hq : Below w.heap.size w wq) => read_some wq (hb.below hq) (hr.below hq) (B (showL a)) (by rw [B_size]; exact showL_len a fa) (tidyC a) (by rw [B_data]; exact read_show a ⟨fa.e, fa.n, fa.o⟩ ka)
    have hne : ∀ W, (binOp .neq 24 (tidyC a).v (tidyC a).v).run Tryd.prog W = .ok (.bool false) W := fun W => by
      rw [neq24, (beqA_iff _ _).2 rfl]; rfl
    cases h2 : tidyA b with
    | none =>
      rw [h2] at cu
      exact answers_one w a b _ _ _ _ _ _ ct cu cs cv rfl cr hne rfl
    | some y =>
      rw [h2] at cu
      obtain ⟨rfl, kb⟩ := tidyA_some h2
      exact answers_two w a b _ _ _ _ _ _ ct cu cs cv rfl cr hne rfl _ (fun W => eq24 _ _ W) (by rw [B_beq]; exact (alike_iff fa fb ka kb).symm)
end Go.Proofs.YtigaacbaaopfmaaDoor.sh
