/- Strict numbers and bytes, names found: the program's, walked. -/
import Derived.Test.YtigaacbaaopfmaaDoorPx
namespace Go.Proofs.YtigaacbaaopfmaaDoor.sh
open Go.RowKit
set_option linter.unusedVariables false
def strictN (l : List UInt8) : Bool := decide ((numP l).2 = 0) && decide (Lib.itoa (numP l).1 = l)
def bytesL (l : List UInt8) : List UInt8 := if l = [] then [45] else hexL l
theorem bytesP_B (l : List UInt8) : bytesP (B l) = bytesL l := by
  unfold bytesP bytesL
  rw [B_size]
  by_cases h : l = []
  · subst h; rfl
  · have : ¬ l.length = 0 := fun e => h (List.eq_nil_of_length_eq_zero e)
    rw [if_neg this, if_neg h]; rfl
def strictB (l : List UInt8) : Bool := (bytesV l).isSome && decide (bytesL ((bytesV l).getD []) = l)
theorem blank_eq (r s : ByteArray) (l : List UInt8) (hr : r = B (32 :: l)) : (r.toList == ((⟨#[32]⟩ : ByteArray) ++ s).toList) = decide (l = s.data.toList) := by
  have e : ((⟨#[32]⟩ : ByteArray) ++ s) = B (32 :: s.data.toList) := by
    rw [← B_of s]
    show B [32] ++ B s.data.toList = _
    rw [B_add]
    simp [B]
  rw [e, hr, B_toList, B_toList]
  by_cases h : l = s.data.toList
  · simp [h]
  · simp [h]
theorem numP_in (l : List UInt8) : In64 (numP l).1 ∧ ((numP l).2 = 0 ∨ (numP l).2 = 160 ∨ (numP l).2 = 161) := by
  unfold In64
  cases l with
  | nil => exact ⟨⟨by decide, by decide⟩, by decide⟩
  | cons c t =>
    unfold numP
    dsimp only
    split
    · split
      · split <;> constructor <;> simp <;> omega
      · constructor <;> simp
    · split
      · split <;> constructor <;> simp <;> omega
      · constructor <;> simp
set_option maxHeartbeats 4000000 in
theorem strictNumber_walk (w : World) (hb : Bs w) (s : ByteArray) (hs : s.size ≤ 3000000) :
    Calls Tryd.prog 70 #[.string s] w fun e w' => e = .returned (.tuple #[.int .i64 (numP s.data.toList).1, .bool (strictN s.data.toList)]) ∧ Below w.heap.size w w' := by
  have cn := number_walk w hb s hs
  obtain ⟨hi, her⟩ := numP_in s.data.toList
  obtain ⟨q, hq⟩ : ∃ q, strictN s.data.toList = q := ⟨_, rfl⟩
  rw [hq]
  unfold strictN at hq
  generalize numP s.data.toList = p at cn hi her hq ⊢
  obtain ⟨v, er⟩ := p
  dsimp only at cn hi her hq ⊢
  obtain ⟨r, hr⟩ : ∃ r, showN v = r := ⟨_, rfl⟩
  have hbl := blank_eq r s (Lib.itoa v) hr.symm
  have cs := fun wq (h : Below w.heap.size w wq) => (show_num (hb.below h).b3.base v hi r hr).2 wq (Below.refl _ _)
  clear hr
  by_cases h0 : er = 0
  · subst h0
    have hk : (r.toList == ((⟨#[32]⟩ : ByteArray) ++ s).toList) = q := by rw [hbl, ← hq]; simp
    clear hbl hq her
    go_enter Tryd.func70, Tryd.ntmps70
    go_wp2_with (first
      | (go_at_call 78; (with_reducible refine cn.mono ?_); rintro e w1 ⟨rfl, hB⟩)
      | (go_at_call 29; (with_reducible refine (cs _ hB).mono ?_); rintro e w2 ⟨rfl, hB2⟩))
    go_ret2
    exact ⟨rfl, below_next hB hB2⟩
  · have hz : (er == 0) = false := beq_eq_false_iff_ne.2 h0
    have HQ : Aside0 (q = false) := ⟨by rw [← hq, decide_eq_false h0]; rfl⟩
    clear hq hbl h0
    go_enter Tryd.func70, Tryd.ntmps70
    go_wp2_with (first
      | (go_at_call 78; (with_reducible refine cn.mono ?_); rintro e w1 ⟨rfl, hB⟩))
    go_ret2
    exact ⟨by rw [HQ.out]; rfl, hB⟩
theorem pairs_len : ∀ l : List UInt8, (pairs l).length ≤ l.length
  | [] => by simp [pairs]
  | [a] => by simp [pairs]
  | a :: b :: r => by
    have := pairs_len r
    simp only [pairs, List.length_cons]
    omega
theorem bytesV_len (l : List UInt8) : ((bytesV l).getD []).length ≤ l.length := by
  unfold bytesV
  split
  · simp
  · split
    · simp
    · split
      · exact pairs_len l
      · simp
set_option maxHeartbeats 4000000 in
theorem strictBytes_walk (w : World) (s : ByteArray) (hs : s.size ≤ 3000000) :
    Calls Tryd.prog 71 #[.string s] w fun e w' => e = .returned (.tuple #[.string (B ((bytesV s.data.toList).getD [])), .bool (strictB s.data.toList)]) ∧ Below w.heap.size w w' := by
  have cn := fromHex_walk w s hs
  obtain ⟨q, hq⟩ : ∃ q, strictB s.data.toList = q := ⟨_, rfl⟩
  rw [hq]
  unfold strictB at hq
  have hl : (B ((bytesV s.data.toList).getD [])).size ≤ 3000000 := by
    rw [B_size]
    have h1 := bytesV_len s.data.toList
    have h2 : s.data.toList.length = s.size := by rw [Array.length_toList]; rfl
    omega
  generalize hb : bytesV s.data.toList = p at cn hq hl ⊢
  obtain ⟨v, hv⟩ : ∃ v, B (p.getD []) = v := ⟨_, rfl⟩
  have hvl : bytesP v = bytesL (p.getD []) := by rw [← hv, bytesP_B]
  rw [hv] at hl cn ⊢
  obtain ⟨r, hr⟩ : ∃ r, showB v = r := ⟨_, rfl⟩
  have hbl := blank_eq r s (bytesL (p.getD [])) (by rw [← hr, showB, hvl])
  have cs := fun wq => (show_byt (w := wq) v hl r hr).2 wq (Below.refl _ _)
  clear hr hvl hv hl hb
  cases p with
  | some x =>
    have hk : (r.toList == ((⟨#[32]⟩ : ByteArray) ++ s).toList) = q := by rw [hbl, ← hq]; simp
    have cn : Calls Tryd.prog 80 #[.string s] w fun e w' => e = .returned (.tuple #[.string v, .int .i64 0]) ∧ Below w.heap.size w w' := cn
    clear hbl hq
    go_enter Tryd.func71, Tryd.ntmps71
    go_wp2_with (first
      | (go_at_call 80; (with_reducible refine cn.mono ?_); rintro e w1 ⟨rfl, hB⟩)
      | (go_at_call 30; (with_reducible refine (cs _).mono ?_); rintro e w2 ⟨rfl, hB2⟩))
    go_ret2
    exact ⟨rfl, below_next hB hB2⟩
  | none =>
    have HQ : Aside0 (q = false) := ⟨by rw [← hq]; rfl⟩
    have cn : Calls Tryd.prog 80 #[.string s] w fun e w' => e = .returned (.tuple #[.string v, .int .i64 160]) ∧ Below w.heap.size w w' := cn
    clear hq hbl
    go_enter Tryd.func71, Tryd.ntmps71
    go_wp2_with (first
      | (go_at_call 80; (with_reducible refine cn.mono ?_); rintro e w1 ⟨rfl, hB⟩))
    go_ret2
    exact ⟨by rw [HQ.out]; rfl, hB⟩
end Go.Proofs.YtigaacbaaopfmaaDoor.sh
