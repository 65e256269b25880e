/- The document's bare digits and their value: walked. -/
import Derived.Test.YtigaacbaaopfmaaDoorDg
namespace Go.Proofs.YtigaacbaaopfmaaDoor.sh
open Go.RowKit
set_option linter.unusedVariables false
/-- Without the zeros in front. -/
def strip0 : List UInt8 → List UInt8
  | a :: c :: r => if a = 48 then strip0 (c :: r) else a :: c :: r
  | l => l
theorem strip0_go (c : UInt8) (r : List UInt8) : strip0 (48 :: c :: r) = strip0 (c :: r) := by rw [strip0, if_pos rfl]
theorem strip0_end {l : List UInt8} (h : l.length ≤ 1 ∨ l.head? ≠ some 48) : strip0 l = l := by
  match l with
  | [] => rfl
  | [a] => rfl
  | a :: c :: r =>
    rw [strip0, if_neg]
    intro e
    subst e
    rcases h with h | h
    · simp at h
    · exact h rfl
theorem ne48 {a : UInt8} (h : a ≠ 48) : ((a.toNat : Int) == 48) = false := beq_eq_false_iff_ne.2 (fun e => h (by
  have h2 : a.toNat = (48 : UInt8).toNat := by
    have : (48 : UInt8).toNat = 48 := rfl
    omega
  exact UInt8.toNat_inj.1 h2))
theorem index_at (s : ByteArray) (k : Nat) (c : UInt8) (h : s.data.toList[k]? = some c) (W : World) : (Instr.index 9 (.string s) (.int .i64 (k : Int))).run Tryd.prog W = .ok (.int .u8 (c.toNat : Int)) W := by
  obtain ⟨hk, e⟩ := List.getElem?_eq_some_iff.1 h
  have hk' : k < s.size := by rw [Array.length_toList] at hk; exact hk
  rw [run_index_string (h := Tryd.underlying9), dif_pos (by omega), ← e]
  rfl
set_option maxHeartbeats 4000000 in
set_option maxRecDepth 100000 in
theorem bare_walk (w : World) (b : Bool) (s : ByteArray) (hs : s.size ≤ 3000000) :
    Calls Tryd.prog 84 #[.string s, .int .i64 (base b)] w fun e w' => e = .returned (.tuple #[.string (B (if allD b s.data.toList = true then strip0 s.data.toList else [])), .bool (allD b s.data.toList)]) ∧ w = w' := by
  obtain ⟨bb, hbb⟩ : ∃ x, base b = x := ⟨_, rfl⟩
  have cd := fun wq c => digit_walk wq b c
  rw [hbb] at cd ⊢
  clear hbb
  by_cases h0 : s.data.toList = []
  · have e : allD b s.data.toList = false := by rw [h0]; rfl
    rw [e]
    obtain rfl := isEmpty_nil h0
    go_enter Tryd.func84, Tryd.ntmps84
    go_wp2
    go_ret2
    exact ⟨rfl, rfl⟩
  · have hne : s.toList.isEmpty = false := by rw [← isEmpty_iff]; simpa using h0
    have hlen : s.data.toList.length = s.size := by rw [Array.length_toList]; rfl
    obtain ⟨q, hq⟩ : ∃ q, allD b s.data.toList = q := ⟨_, rfl⟩
    rw [hq]
    have HQ : Aside0 (allD b s.data.toList = q) := ⟨hq⟩
    obtain ⟨R, hR⟩ : ∃ R, B (if q = true then strip0 s.data.toList else []) = R := ⟨_, rfl⟩
    rw [hR]
    have HR : Aside0 (B (if q = true then strip0 s.data.toList else []) = R) := ⟨hR⟩
    have HL : Aside0 (s.data.toList.length = s.size) := ⟨hlen⟩
    have H0 : Aside0 (¬ s.data.toList = []) := ⟨h0⟩
    clear hq hR hlen h0
    go_enter Tryd.func84, Tryd.ntmps84
    go_wp2
    go_loopg [6] s.size (fun g v6 wr => ∃ k : Nat, v6 = .int .i64 k ∧ k + g = s.size ∧ w = wr ∧ Aside0 ((s.data.toList.take k).all (isD b) = true))
    case atStart => exact ⟨0, rfl, by omega, rfl, ⟨by simp⟩⟩
    case round =>
      obtain ⟨k, rfl, hkg, rfl, hA⟩ := hrel
      by_cases hk : k < s.size
      · obtain ⟨g, rfl⟩ : ∃ g, gk = g + 1 := ⟨gk - 1, by omega⟩
        have hlt : (k : Int) < (s.size : Int) := by omega
        obtain ⟨c, hc⟩ : ∃ c, s.data.toList[k]? = some c := ⟨_, List.getElem?_eq_getElem (by have := HL.out; omega)⟩
        have hi := index_at s k c hc
        have c1 := fun wq => cd wq c
        have hcs : s[k]'hk = c := by
          have : s[k]'hk = s.data.toList[k]'(by simpa using hk) := rfl
          rw [this]
          rw [List.getElem?_eq_getElem (by simpa using hk)] at hc
          exact Option.some.inj hc
        by_cases hd : isD b c = true
        · have hv : digV b c = hv c := by unfold digV; rw [if_pos hd]
          have hge : ¬ (digV b c) < 0 := by rw [hv]; omega
          have A : Aside0 ((s.data.toList.take (k + 1)).all (isD b) = true) := ⟨all_step hk (by rw [hcs]; exact hd) hA.out⟩
          clear hc hcs hd hv hA
          generalize digV b c = v at c1 hge
          generalize c.toNat = cc at hi c1
          go_wp2_with (go_at_call 86; (with_reducible refine (c1 _).mono ?_); rintro e w1 ⟨rfl, rfl⟩)
          go_roundg g
          case measure => omega
          case rel => exact ⟨k + 1, by go_num, by omega, rfl, A⟩
        · have hv : digV b c = -1 := by unfold digV; rw [if_neg hd]
          have hlt0 : digV b c < 0 := by rw [hv]; omega
          have hq : q = false := by rw [← HQ.out]; exact all_no hk (by rw [hcs]; simpa using hd)
          have A : Aside0 (R = ⟨#[]⟩ ∧ q = false) := ⟨by rw [← HR.out, if_neg (by rw [hq]; exact Bool.false_ne_true)]; rfl, hq⟩
          clear hc hcs hd hv hA hq
          generalize digV b c = v at c1 hlt0
          generalize c.toNat = cc at hi c1
          go_wp2_with (go_at_call 86; (with_reducible refine (c1 _).mono ?_); rintro e w1 ⟨rfl, rfl⟩)
          go_ret2
          exact ⟨by rw [A.out.1, A.out.2]; rfl, rfl⟩
      · obtain rfl : k = s.size := by omega
        obtain rfl : gk = 0 := by omega
        have hlt : ¬ (s.size : Int) < (s.size : Int) := by omega
        have hq : q = true := by rw [← HQ.out, all_yes hA.out]; have := H0.out; cases hl : s.data.toList <;> simp_all
        have A : Aside0 (R = B (strip0 s.data.toList) ∧ q = true) := ⟨by rw [← HR.out, if_pos hq], hq⟩
        clear hA hq cd
        go_wp2
        go_loopg [0] s.size (fun g v0 wr => ∃ t : ByteArray, v0 = .string t ∧ t.size = g ∧ t.size ≤ 3000000 ∧ w = wr ∧ Aside0 (strip0 s.data.toList = strip0 t.data.toList))
        case atStart => exact ⟨s, rfl, rfl, hs, rfl, ⟨rfl⟩⟩
        case round =>
          obtain ⟨t, rfl, rfl, ht, rfl, hT⟩ := hrel
          have htl : t.data.toList.length = t.size := by rw [Array.length_toList]; rfl
          by_cases h1 : 1 < t.size
          · have k1 : (t.size : Int) > 1 := by omega
            obtain ⟨a, c, r, hacr⟩ : ∃ a c r, t.data.toList = a :: c :: r := by
              match hl : t.data.toList with
              | [] => rw [hl] at htl; simp at htl; omega
              | [_] => rw [hl] at htl; simp at htl; omega
              | a :: c :: r => exact ⟨a, c, r, rfl⟩
            have hi := index0 hacr
            by_cases ha : a = 48
            · subst ha
              have e1 := extract1 hacr
              have hsz1 : (t.extract 1 t.size).size = t.size - 1 := by simp
              have T : Aside0 (strip0 s.data.toList = strip0 (t.extract 1 t.size).data.toList) := ⟨by rw [hT.out, hacr, strip0_go, e1]⟩
              have hz1 : (t.extract 1 t.size).size < t.size := by omega
              have hz2 : (t.extract 1 t.size).size ≤ 3000000 := by omega
              have h2 : 1 ≤ t.size := by omega
              clear hacr e1 hT htl hsz1
              go_wp2
              go_roundg (t.extract 1 t.size).size
              case measure => omega
              case rel => exact ⟨_, rfl, rfl, hz2, rfl, T⟩
            · have hne2 := ne48 ha
              have T : Aside0 (R = t) := ⟨by rw [A.out.1, hT.out, strip0_end (Or.inr (by rw [hacr]; simpa using ha)), B_of]⟩
              clear hacr hT htl ha
              generalize a.toNat = aa at hi hne2
              go_wp2
              go_ret2
              exact ⟨by rw [T.out, A.out.2]; rfl, rfl⟩
          · have k1 : ¬ (t.size : Int) > 1 := by omega
            have T : Aside0 (R = t) := ⟨by rw [A.out.1, hT.out, strip0_end (Or.inl (by omega)), B_of]⟩
            clear hT htl
            go_wp2
            go_ret2
            exact ⟨by rw [T.out, A.out.2]; rfl, rfl⟩
end Go.Proofs.YtigaacbaaopfmaaDoor.sh
