/- The value of the document's digits: walked. -/
import Derived.Test.YtigaacbaaopfmaaDoorBr
namespace Go.Proofs.YtigaacbaaopfmaaDoor.sh
open Go.RowKit
set_option linter.unusedVariables false
set_option maxHeartbeats 4000000 in
set_option maxRecDepth 100000 in
theorem value_d (w : World) (s : ByteArray) (hs : s.size ≤ 3000000) (hall : s.data.toList.all (isD false) = true) (V : Nat) (hV : val false s.data.toList = V) (hV2 : V ≤ 18446744073709551615) :
    Calls Tryd.prog 85 #[.string s, .int .i64 10] w fun e w' => e = .returned (.int .u64 V) ∧ w = w' := by
  have cd : ∀ wq c, Calls Tryd.prog 86 #[.int .u8 ((c : UInt8).toNat : Int), .int .i64 10] wq fun e w' => e = .returned (.int .i64 (digV false c)) ∧ wq = w' := fun wq c => digit_walk wq false c
  have HL : Aside0 (s.data.toList.length = s.size ∧ V ≤ 18446744073709551615) := ⟨by rw [Array.length_toList]; rfl, hV2⟩
  have HV : Aside0 (valF false 0 s.data.toList = V) := ⟨hV⟩
  obtain ⟨VI, hVI⟩ : ∃ x : Int, (V : Int) = x := ⟨_, rfl⟩
  rw [hVI]
  have HI : Aside0 ((V : Int) = VI) := ⟨hVI⟩
  clear hV hV2 hVI
  go_enter Tryd.func85, Tryd.ntmps85
  go_wp2
  go_loopg [5, 6] s.size (fun g v5 v6 wr => ∃ (k acc : Nat) (a : Int), v5 = .int .u64 a ∧ v6 = .int .i64 k ∧ k + g = s.size ∧ w = wr ∧ Aside0 (a = (acc : Int) ∧ valF false acc (s.data.toList.drop k) = V))
  case atStart => exact ⟨0, 0, 0, rfl, rfl, by omega, rfl, ⟨rfl, HV.out⟩⟩
  case round =>
    obtain ⟨k, acc, a, rfl, rfl, hkg, rfl, hA⟩ := hrel
    clear HV
    by_cases hk : k < s.size
    · obtain ⟨g, rfl⟩ : ∃ g, gk = g + 1 := ⟨gk - 1, by omega⟩
      have hlt : (k : Int) < (s.size : Int) := by omega
      have hlen := HL.out.1
      obtain ⟨c, hc⟩ : ∃ c, s.data.toList[k]? = some c := ⟨_, List.getElem?_eq_getElem (by omega)⟩
      have hi := index_at s k c hc
      have c1 := fun wq => cd wq c
      have hd : isD false c = true := List.all_eq_true.1 hall c (List.mem_of_getElem? hc)
      have hv : digV false c = hv c := by unfold digV; rw [if_pos hd]
      have hdr : s.data.toList.drop k = c :: s.data.toList.drop (k + 1) := by
        obtain ⟨h1, h2⟩ := List.getElem?_eq_some_iff.1 hc
        rw [List.drop_eq_getElem_cons h1, h2]
      obtain ⟨ha, hw⟩ := hA.out
      rw [hdr] at hw
      have hge := valF_ge1 false c (s.data.toList.drop (k + 1)) acc
      rw [hw] at hge
      have hge : acc * 10 + Go.Proofs.YtigaacbaaopfmaaDoor.sh.hv c ≤ V := hge
      have hw : valF false (acc * 10 + Go.Proofs.YtigaacbaaopfmaaDoor.sh.hv c) (s.data.toList.drop (k + 1)) = V := hw
      have hm := HL.out.2
      rw [hv] at c1
      generalize Go.Proofs.YtigaacbaaopfmaaDoor.sh.hv c = d at c1 hge hw
      have A : Aside0 (a * 10 + (d : Int) = ((acc * 10 + d : Nat) : Int) ∧ valF false (acc * 10 + d) (s.data.toList.drop (k + 1)) = V) := ⟨by omega, hw⟩
      have k0 : 0 ≤ a := by omega
      have k1 : a * 10 ≤ 18446744073709551615 := by omega
      have k2 : a * 10 + (d : Int) ≤ 18446744073709551615 := by omega
      have k3 : a ≤ 18446744073709551615 := by omega
      have k4 : (d : Int) ≤ 18446744073709551615 := by omega
      have k5 : (0 : Int) ≤ (d : Int) := by omega
      clear hc hd hv hdr ha hw hge hm hA cd hlen
      generalize c.toNat = cc at hi c1
      generalize (d : Int) = dd at c1 A k2 k4 k5
      go_wp2_with (go_at_call 86; (with_reducible refine (c1 _).mono ?_); rintro e w1 ⟨rfl, rfl⟩)
      go_roundg g
      case measure => omega
      case rel => exact ⟨k + 1, acc * 10 + d, a * 10 + dd, rfl, by go_num, by omega, rfl, A⟩
    · obtain rfl : k = s.size := by omega
      have hlt : ¬ (s.size : Int) < (s.size : Int) := by omega
      have A : Aside0 (a = VI) := ⟨by
        obtain ⟨ha, hw⟩ := hA.out
        rw [List.drop_eq_nil_of_le (by have := HL.out.1; omega)] at hw
        have hw : acc = V := hw
        rw [ha, hw, HI.out]⟩
      clear hA cd
      go_wp2
      go_ret
      exact ⟨by rw [← A.out]; rfl, rfl⟩
set_option maxHeartbeats 4000000 in
set_option maxRecDepth 100000 in
theorem value_h (w : World) (s : ByteArray) (hs : s.size ≤ 3000000) (hall : s.data.toList.all (isD true) = true) (V : Nat) (hV : val true s.data.toList = V) (hV2 : V ≤ 18446744073709551615) :
    Calls Tryd.prog 85 #[.string s, .int .i64 16] w fun e w' => e = .returned (.int .u64 V) ∧ w = w' := by
  have cd : ∀ wq c, Calls Tryd.prog 86 #[.int .u8 ((c : UInt8).toNat : Int), .int .i64 16] wq fun e w' => e = .returned (.int .i64 (digV true c)) ∧ wq = w' := fun wq c => digit_walk wq true c
  have HL : Aside0 (s.data.toList.length = s.size ∧ V ≤ 18446744073709551615) := ⟨by rw [Array.length_toList]; rfl, hV2⟩
  have HV : Aside0 (valF true 0 s.data.toList = V) := ⟨hV⟩
  obtain ⟨VI, hVI⟩ : ∃ x : Int, (V : Int) = x := ⟨_, rfl⟩
  rw [hVI]
  have HI : Aside0 ((V : Int) = VI) := ⟨hVI⟩
  clear hV hV2 hVI
  go_enter Tryd.func85, Tryd.ntmps85
  go_wp2
  go_loopg [5, 6] s.size (fun g v5 v6 wr => ∃ (k acc : Nat) (a : Int), v5 = .int .u64 a ∧ v6 = .int .i64 k ∧ k + g = s.size ∧ w = wr ∧ Aside0 (a = (acc : Int) ∧ valF true acc (s.data.toList.drop k) = V))
  case atStart => exact ⟨0, 0, 0, rfl, rfl, by omega, rfl, ⟨rfl, HV.out⟩⟩
  case round =>
    obtain ⟨k, acc, a, rfl, rfl, hkg, rfl, hA⟩ := hrel
    clear HV
    by_cases hk : k < s.size
    · obtain ⟨g, rfl⟩ : ∃ g, gk = g + 1 := ⟨gk - 1, by omega⟩
      have hlt : (k : Int) < (s.size : Int) := by omega
      have hlen := HL.out.1
      obtain ⟨c, hc⟩ : ∃ c, s.data.toList[k]? = some c := ⟨_, List.getElem?_eq_getElem (by omega)⟩
      have hi := index_at s k c hc
      have c1 := fun wq => cd wq c
      have hd : isD true c = true := List.all_eq_true.1 hall c (List.mem_of_getElem? hc)
      have hv : digV true c = hv c := by unfold digV; rw [if_pos hd]
      have hdr : s.data.toList.drop k = c :: s.data.toList.drop (k + 1) := by
        obtain ⟨h1, h2⟩ := List.getElem?_eq_some_iff.1 hc
        rw [List.drop_eq_getElem_cons h1, h2]
      obtain ⟨ha, hw⟩ := hA.out
      rw [hdr] at hw
      have hge := valF_ge1 true c (s.data.toList.drop (k + 1)) acc
      rw [hw] at hge
      have hge : acc * 16 + Go.Proofs.YtigaacbaaopfmaaDoor.sh.hv c ≤ V := hge
      have hw : valF true (acc * 16 + Go.Proofs.YtigaacbaaopfmaaDoor.sh.hv c) (s.data.toList.drop (k + 1)) = V := hw
      have hm := HL.out.2
      rw [hv] at c1
      generalize Go.Proofs.YtigaacbaaopfmaaDoor.sh.hv c = d at c1 hge hw
      have A : Aside0 (a * 16 + (d : Int) = ((acc * 16 + d : Nat) : Int) ∧ valF true (acc * 16 + d) (s.data.toList.drop (k + 1)) = V) := ⟨by omega, hw⟩
      have k0 : 0 ≤ a := by omega
      have k1 : a * 16 ≤ 18446744073709551615 := by omega
      have k2 : a * 16 + (d : Int) ≤ 18446744073709551615 := by omega
      have k3 : a ≤ 18446744073709551615 := by omega
      have k4 : (d : Int) ≤ 18446744073709551615 := by omega
      have k5 : (0 : Int) ≤ (d : Int) := by omega
      clear hc hd hv hdr ha hw hge hm hA cd hlen
      generalize c.toNat = cc at hi c1
      generalize (d : Int) = dd at c1 A k2 k4 k5
      go_wp2_with (go_at_call 86; (with_reducible refine (c1 _).mono ?_); rintro e w1 ⟨rfl, rfl⟩)
      go_roundg g
      case measure => omega
      case rel => exact ⟨k + 1, acc * 16 + d, a * 16 + dd, rfl, by go_num, by omega, rfl, A⟩
    · obtain rfl : k = s.size := by omega
      have hlt : ¬ (s.size : Int) < (s.size : Int) := by omega
      have A : Aside0 (a = VI) := ⟨by
        obtain ⟨ha, hw⟩ := hA.out
        rw [List.drop_eq_nil_of_le (by have := HL.out.1; omega)] at hw
        have hw : acc = V := hw
        rw [ha, hw, HI.out]⟩
      clear hA cd
      go_wp2
      go_ret
      exact ⟨by rw [← A.out]; rfl, rfl⟩
end Go.Proofs.YtigaacbaaopfmaaDoor.sh
