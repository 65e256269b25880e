/- An oracle's Hash, and the law's fault, walked. -/
import Derived.Test.YtabdkfmfenpkjaaDoorOvNew
import Derived.Test.YtabdkfmfenpkjaaDoorMix
namespace Go.Proofs.YtabdkfmfenpkjaaDoor.ov
open Go.RowKit Go.Maps Go.Proofs.YtabdkfmfenpkjaaDoorW.PrintWords
set_option linter.unusedVariables false
theorem Orc.drewN {w : World} {p m : Nat} {l : List Ov} (h : Orc w p m l) (n : Nat) : Orc (w.drewN n) p m l := ⟨h.cell, h.map, h.distinct⟩
set_option maxHeartbeats 8000000 in
theorem hash_found (w : World) (p m : Nat) (l : List Ov) (seed : Int) (s : ByteArray) (h : Orc w p m l) (hs : s.size ≤ maxLen) (hk : hasK l s = true) :
    Calls Tryd.prog 12 #[.pointer (some ⟨p, 0, none⟩), .int .u64 seed, .string s] w fun e w' => e = .returned (.int .u64 (valK l s)) ∧ w' = w := by
  have hlook := h.map.look h.distinct s hs
  rw [hk] at hlook
  have c0 := h.cell
  go_enter Tryd.func12, Tryd.ntmps12
  go_wp2
  go_ret
  exact ⟨rfl, rfl⟩
set_option maxHeartbeats 8000000 in
theorem hash_mix (w : World) (p m : Nat) (l : List Ov) (seed : Int) (s : ByteArray) (h : Orc w p m l) (hs : s.size < 9223372036854775807) (hk : hasK l s = false)
    (h0 : w.cell? ⟨0, 0, none⟩ = some (.int .u64 13234230157428861123)) (h1 : w.cell? ⟨0, 1, none⟩ = some (.int .u64 11329751410908088055)) :
    Calls Tryd.prog 12 #[.pointer (some ⟨p, 0, none⟩), .int .u64 seed, .string s] w fun e w' => e = .returned (.int .u64 (Mix.imix seed s.data.toList)) ∧ Drawn0 w w' := by
  have hlook := h.map.look h.distinct s (by unfold maxLen; omega)
  rw [hk] at hlook
  have c0 := h.cell
  have cm := Mix.calls seed _ s w rfl (by omega) h0 h1
  clear h0 h1
  go_enter Tryd.func12, Tryd.ntmps12
  go_wp2_with (go_at_call 8; (with_reducible refine cm.mono ?_); rintro e w' ⟨rfl, ⟨nd, rfl⟩⟩)
  go_ret
  exact ⟨rfl, ⟨_, rfl⟩⟩
theorem hasK_take (l : List Ov) (s : ByteArray) (j : Nat) (x : Ov) (hx : l[j]? = some x) : hasK (l.take (j + 1)) s = (hasK (l.take j) s || decide (x.1 = s)) := by
  have hj := (List.getElem?_eq_some_iff.1 hx).1
  rw [List.take_succ_eq_append_getElem hj, hasK_append, hasK_one, (List.getElem?_eq_some_iff.1 hx).2]
theorem bytes_eq (a b : ByteArray) : (a.toList == b.toList) = decide (a = b) := by
  rw [ByteArray.toList_eq, ByteArray.toList_eq, Bool.eq_iff_iff, beq_iff_eq, decide_eq_true_iff]
  constructor
  · intro h; cases a; cases b; simp only [ByteArray.mk.injEq]; exact Array.toList_inj.1 h
  · intro h; rw [h]
set_option maxHeartbeats 8000000 in
set_option maxRecDepth 100000 in
theorem fault_walk (w : World) (ao : Option Addr) (l : List Ov) (c b o : Nat) (i : Nat) (x : Ov) (hs : Sov w ao l c b o) (hx : l[i]? = some x) (h63 : l.length < 1000000000000000) :
    Calls Tryd.prog 15 #[.slice ao l.length c, .int .i64 i] w fun e w' => e = .returned (.int .i64 (fcode (l.take i) x)) ∧ Drawn0 w w' := by
  have hi := (List.getElem?_eq_some_iff.1 hx).1
  have hi' : (i : Int) < (l.length : Int) := by omega
  have ha : ao = some ⟨b, o, none⟩ := by rcases hs.to with e | e; (subst e; simp at hx); exact e
  subst ha
  have e1 := hs.key i x hx
  obtain ⟨s, h⟩ := x
  by_cases h0 : s.toList = []
  · have hbad : fcode (l.take i) (s, h) = 41 := by unfold fcode; rw [if_pos (.inl ((toList_nil s).1 h0))]
    rw [hbad]
    clear hx
    go_enter Tryd.func15, Tryd.ntmps15
    go_wp2
    go_ret
    exact ⟨rfl, Drawn0.refl _⟩
  by_cases h1 : 128 < s.size
  · have h1' : (128 : Int) < (s.size : Int) := by omega
    have h0' : s.toList.isEmpty = false := by simpa using h0
    have hbad : fcode (l.take i) (s, h) = 41 := by unfold fcode; rw [if_pos (.inr h1)]
    rw [hbad]
    clear hx
    go_enter Tryd.func15, Tryd.ntmps15
    go_wp2
    go_ret
    exact ⟨rfl, Drawn0.refl _⟩
  have h1' : (s.size : Int) ≤ 128 := by omega
  have h0' : s.toList.isEmpty = false := by simpa using h0
  have hfc : fcode (l.take i) (s, h) = if hasK (l.take i) s then 42 else 0 := by
    unfold fcode
    rw [if_neg]
    rintro (h' | h')
    · exact h0 ((toList_nil s).2 h')
    · exact h1 h'
  obtain ⟨fc, hfcv⟩ : ∃ fc, fcode (l.take i) (s, h) = fc := ⟨_, rfl⟩
  rw [hfcv] at hfc ⊢
  have HFC : Aside0 (fc = if hasK (l.take i) s then 42 else 0) := ⟨hfc⟩
  clear hfc hx hfcv
  go_enter Tryd.func15, Tryd.ntmps15
  go_wp2
  go_loopg [5] i (fun g v wr => ∃ j : Nat, v = .int .i64 j ∧ j + g = i ∧ Drawn0 w wr ∧ hasK (l.take j) s = false)
  case atStart => exact ⟨0, rfl, by omega, Drawn0.refl _, rfl⟩
  case round =>
    obtain ⟨j, rfl, hjg, ⟨nq0, rfl⟩, hno⟩ := hrel
    by_cases hj : j < i
    · have hlt : (j : Int) < (i : Int) := by omega
      have hjl : (j : Int) < (l.length : Int) := by omega
      obtain ⟨g, rfl⟩ : ∃ g, gk = g + 1 := ⟨gk - 1, by omega⟩
      obtain ⟨y, hy⟩ : ∃ y, l[j]? = some y := ⟨_, List.getElem?_eq_getElem (by omega)⟩
      have e2 := hs.key j y hy
      have hst := hasK_take l s j y hy
      have hup : hasK (l.take (j + 1)) s = true → hasK (l.take i) s = true := fun e => by
        unfold hasK at e ⊢
        rw [List.any_eq_true] at e ⊢
        obtain ⟨z, hz, hz'⟩ := e
        have hsub : (l.take (j + 1)) = (l.take i).take (j + 1) := by rw [List.take_take]; congr 1; omega
        rw [hsub] at hz
        exact ⟨z, List.mem_of_mem_take hz, hz'⟩
      rw [hno, Bool.false_or, ← bytes_eq] at hst
      have HST : Aside0 (hasK (l.take (j + 1)) s = (y.1.toList == s.toList)) := ⟨hst⟩
      have HUP : Aside0 (hasK (l.take (j + 1)) s = true → hasK (l.take i) s = true) := ⟨hup⟩
      clear hst hup hy hno
      obtain ⟨t, u⟩ := y
      simp only at e2 HST
      obtain ⟨bb, hbb⟩ : ∃ bb, (t.toList == s.toList) = bb := ⟨_, rfl⟩
      have HBB : Aside0 ((t.toList == s.toList) = bb) := ⟨hbb⟩
      go_wp2
      go_quiet (fail)
      clear hbb
      cases bb with
      | true =>
        go_wp2
        go_ret
        exact ⟨by rw [HFC.out, if_pos (HUP.out (by rw [HST.out, HBB.out]))]; rfl, Drawn0.step ⟨_, rfl⟩ _⟩
      | false =>
        go_wp2
        go_roundg g
        case measure => omega
        case rel => exact ⟨j + 1, by go_num, by omega, ⟨_, rfl⟩, by rw [HST.out, HBB.out]⟩
    · obtain rfl : j = i := by omega
      have hlt : ¬ (j : Int) < (j : Int) := by omega
      have HNO : Aside0 (hasK (l.take j) s = false) := ⟨hno⟩
      clear hno
      go_wp2
      go_ret
      exact ⟨by rw [HFC.out, HNO.out]; rfl, ⟨_, rfl⟩⟩
end Go.Proofs.YtabdkfmfenpkjaaDoor.ov
