/- The document's Hash, and the law's handed, walked. -/
import Derived.Test.YtabdkfmfenpkjaaDoorHsNew
namespace Go.Proofs.YtabdkfmfenpkjaaDoor.ov
open Go.RowKit Go.Maps Go.Proofs.YtabdkfmfenpkjaaDoorW.PrintWords
set_option linter.unusedVariables false
/-- The hash of a key under a seed, with these overrides. -/
def hval (l : List Ov) (seed : Int) (s : ByteArray) : Int := if hasK l s then valK l s else Mix.imix seed s.data.toList
theorem valK_first {l : List Ov} {k : Nat} {x : Ov} (hx : l[k]? = some x) (hno : hasK (l.take k) x.1 = false) : hasK l x.1 = true ∧ valK l x.1 = x.2 := by
  have hk := (List.getElem?_eq_some_iff.1 hx).1
  have hl : l = l.take k ++ x :: l.drop (k + 1) := by
    rw [← (List.getElem?_eq_some_iff.1 hx).2, ← List.drop_eq_getElem_cons hk, List.take_append_drop]
  have hnone : (l.take k).find? (fun y => decide (y.1 = x.1)) = none := by
    rw [List.find?_eq_none]
    intro y hy hy'
    have : hasK (l.take k) x.1 = true := by unfold hasK; rw [List.any_eq_true]; exact ⟨y, hy, hy'⟩
    rw [hno] at this; cases this
  constructor
  · rw [hl, hasK_append]
    have : hasK (x :: l.drop (k + 1)) x.1 = true := by unfold hasK; simp
    rw [this, Bool.or_true]
  · rw [hl]; unfold valK
    rw [List.find?_append, hnone]
    simp
set_option maxHeartbeats 8000000 in
set_option maxRecDepth 100000 in
theorem refhash_walk (w : World) (p : Nat) (l : List Ov) (seed : Int) (s : ByteArray) (h : Rfo w p l) (hsd : ref.In64 seed) (hs : s.size < 9223372036854775807) (h63 : l.length < 1000000000000000) :
    Calls Tryd.prog 13 #[.pointer (some ⟨p, 0, none⟩), .int .u64 seed, .string s] w fun e w' => e = .returned (.int .u64 (hval l seed s)) ∧ Below w.heap.size w w' := by
  obtain ⟨ao, c, b, c0, hS⟩ := h
  obtain ⟨R, hR⟩ : ∃ R, hval l seed s = R := ⟨_, rfl⟩
  rw [hR]
  have HR : Aside0 (hval l seed s = R) := ⟨hR⟩
  obtain ⟨M, hM⟩ : ∃ M, Mix.imix seed s.data.toList = M := ⟨_, rfl⟩
  have HM : Aside0 (Mix.imix seed s.data.toList = M) := ⟨hM⟩
  have cm := fun n => ref.mix_walk seed s (w.drewN n) hsd hs
  rw [hM] at cm
  clear hR hM hsd
  obtain ⟨nn, hnn⟩ : ∃ nn, l.length = nn := ⟨_, rfl⟩
  rw [hnn] at c0
  go_enter Tryd.func13, Tryd.ntmps13
  go_wp2
  go_loopg [7] nn (fun g v wr => ∃ k : Nat, v = .int .i64 k ∧ k + g = nn ∧ Drawn0 w wr ∧ hasK (l.take k) s = false)
  case atStart => exact ⟨0, rfl, by omega, Drawn0.refl _, rfl⟩
  case round =>
    obtain ⟨k, rfl, hkg, ⟨nq, rfl⟩, hno⟩ := hrel
    by_cases hk : k < nn
    · have hlt : (k : Int) < (nn : Int) := by omega
      obtain ⟨g, rfl⟩ : ∃ g, gk = g + 1 := ⟨gk - 1, by omega⟩
      obtain ⟨x, hx⟩ : ∃ x, l[k]? = some x := ⟨_, List.getElem?_eq_getElem (by omega)⟩
      have ha : ao = some ⟨b, 0, none⟩ := by rcases hS.to with e | e; (subst e; simp at hx); exact e
      subst ha
      have e1 := hS.key k x hx
      have e2 := hS.hash k x hx
      rw [Nat.zero_add] at e1 e2
      have hst := hasK_take l s k x hx
      rw [hno, Bool.false_or, ← bytes_eq] at hst
      have hfirst : x.1 = s → R = x.2 := fun e => by
        have := valK_first hx (by rw [e]; exact hno)
        rw [e] at this
        rw [← HR.out, hval, if_pos this.1, this.2]
      have HF : Aside0 (x.1 = s → R = x.2) := ⟨hfirst⟩
      have HST : Aside0 (hasK (l.take (k + 1)) s = (x.1.toList == s.toList)) := ⟨hst⟩
      clear hst hfirst hx hno
      obtain ⟨t, u⟩ := x
      simp only at e1 e2 HST HF
      obtain ⟨bb, hbb⟩ : ∃ bb, (t.toList == s.toList) = bb := ⟨_, rfl⟩
      have HBB : Aside0 ((t.toList == s.toList) = bb) := ⟨hbb⟩
      cases bb with
      | true =>
        go_wp2
        go_ret
        exact ⟨by rw [HF.out (of_decide_eq_true (by rw [← bytes_eq, HBB.out]))]; rfl, Drawn0.below ⟨_, rfl⟩⟩
      | false =>
        go_wp2
        go_roundg g
        case measure => omega
        case rel => exact ⟨k + 1, by go_num, by omega, ⟨_, rfl⟩, by rw [HST.out, HBB.out]⟩
    · obtain rfl : k = nn := by omega
      have hlt : ¬ (k : Int) < (k : Int) := by omega
      rw [← hnn, List.take_length] at hno
      have HQ : Aside0 (R = M) := ⟨by rw [← HR.out, hval, if_neg (by rw [hno]; decide), HM.out]⟩
      clear hno
      go_wp2_with (go_at_call 9; (with_reducible refine (cm _).mono ?_); rintro e w' ⟨rfl, hb⟩)
      go_ret
      exact ⟨by rw [HQ.out]; rfl, (Drawn0.below ⟨_, rfl⟩).trans hb⟩
/-- The hash, of the program's oracle. -/
theorem hash_walk (w : World) (p m : Nat) (l : List Ov) (seed : Int) (s : ByteArray) (h : Orc w p m l) (hs : s.size < 9223372036854775807)
    (h0 : w.cell? ⟨0, 0, none⟩ = some (.int .u64 13234230157428861123)) (h1 : w.cell? ⟨0, 1, none⟩ = some (.int .u64 11329751410908088055)) :
    Calls Tryd.prog 12 #[.pointer (some ⟨p, 0, none⟩), .int .u64 seed, .string s] w fun e w' => e = .returned (.int .u64 (hval l seed s)) ∧ Below w.heap.size w w' := by
  cases hk : hasK l s with
  | true =>
    have := hash_found w p m l seed s h (by unfold maxLen; omega) hk
    rw [hval, if_pos hk]
    exact this.mono fun e w' ⟨he, hw⟩ => ⟨he, hw ▸ Below.refl _ _⟩
  | false =>
    have := hash_mix w p m l seed s h hs hk h0 h1
    rw [hval, if_neg (by rw [hk]; decide)]
    exact this.mono fun e w' ⟨he, hw⟩ => ⟨he, hw.below⟩
end Go.Proofs.YtabdkfmfenpkjaaDoor.ov
