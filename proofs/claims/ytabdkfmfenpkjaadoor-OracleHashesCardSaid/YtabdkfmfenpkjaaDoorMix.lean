/- oracle.Mix: the answer as a fold over the key's bytes, where the cells of odd read as laid. -/
import Derived.Test.YtabdkfmfenpkjaaDoorProg
import Derived.Test.YtabdkfmfenpkjaaDoorWWords
namespace Go.Proofs.YtabdkfmfenpkjaaDoor.Mix
open Go.RowKit Go.Proofs.YtabdkfmfenpkjaaDoorW.PrintWords
def istep (h : Int) (c : UInt8) : Int :=
  bits .xor .u64 (IntKind.u64.wrap (bits .xor .u64 h (IntKind.u64.wrap c.toNat) * 11329751410908088055)) (IntKind.u64.wrap (bits .xor .u64 h (IntKind.u64.wrap c.toNat) * 11329751410908088055) / 2147483648)
def iend (h : Int) : Int :=
  bits .xor .u64 (IntKind.u64.wrap (bits .xor .u64 h (h / 536870912) * 13234230157428861123)) (IntKind.u64.wrap (bits .xor .u64 h (h / 536870912) * 13234230157428861123) / 4294967296)
def istart (seed : Int) (n : Nat) : Int := bits .xor .u64 seed (IntKind.u64.wrap (13234230157428861123 * IntKind.u64.wrap (wrap64 (1 + (n : Int)))))
def imix (seed : Int) (l : List UInt8) : Int := iend (l.foldl istep (istart seed l.length))
theorem size_list (k : ByteArray) : k.data.toList.length = k.size := rfl
set_option maxHeartbeats 8000000 in
set_option maxRecDepth 100000 in
theorem calls (seed r : Int) (key : ByteArray) (w : World) (hr : imix seed key.data.toList = r) (hk : key.size < 9223372036854775808) (h0 : w.cell? ⟨0, 0, none⟩ = some (.int .u64 13234230157428861123)) (h1 : w.cell? ⟨0, 1, none⟩ = some (.int .u64 11329751410908088055)) :
    Calls Tryd.prog 8 #[.int .u64 seed, .string key] w fun e w' => e = .returned (.int .u64 r) ∧ Drawn0 w w' := by
  go_enter Tryd.func8, Tryd.ntmps8
  go_wp2
  go_loopg [5, 6] (key.size) (fun kq v5 v6 w' => ∃ (x6 : Nat), v5 = .int .u64 ((key.data.toList.take x6).foldl istep (istart seed key.size)) ∧ v6 = .int .i64 x6 ∧ x6 + kq = key.size ∧ Drawn0 w w')
  case atStart => 
    exact ⟨0, rfl, rfl, by omega, Drawn0.refl _⟩
  case round =>
    obtain ⟨x6, rfl, rfl, HA, ⟨m2, rfl⟩⟩ := hrel
    by_cases hc : x6 < key.size
    · have hd : decide ((x6 : Int) < (key.size : Int)) = true := decide_eq_true (by omega)
      have hidx : ∀ W, (Instr.index 9 (.string key) (.int .i64 x6)).run Tryd.prog W = .ok (.int .u8 (key.data.toList[x6]'hc).toNat) W := by
        intro W
        rw [run_index_string (h := Tryd.underlying9), dif_pos (by omega)]
        rfl
      obtain ⟨gk, rfl⟩ : ∃ g, gk = g + 1 := ⟨gk - 1, by omega⟩
      have hstep : (key.data.toList.take (x6 + 1)).foldl istep (istart seed key.size) = istep ((key.data.toList.take x6).foldl istep (istart seed key.size)) (key.data.toList[x6]'hc) := by
        rw [List.take_succ_eq_append_getElem hc, List.foldl_append]; rfl
      generalize (key.data.toList.take x6).foldl istep (istart seed key.size) = x5 at hstep ⊢
      generalize key.data.toList[x6]'hc = c at hstep hidx
      go_wp2
      go_quiet (fail)
      go_wp2
      go_roundg gk
      case measure => omega
      case rel => exact ⟨x6 + 1, by rw [hstep]; rfl, by simp, by omega, by repeat (first | exact Drawn0.refl _ | apply Drawn0.step)⟩
    · have hd : decide ((x6 : Int) < (key.size : Int)) = false := decide_eq_false (by omega)
      have hx : key.data.toList.take x6 = key.data.toList := List.take_of_length_le (by rw [size_list]; omega)
      have hm : imix seed key.data.toList = iend ((key.data.toList.take x6).foldl istep (istart seed key.size)) := by rw [hx]; rfl
      rw [hr] at hm
      generalize (key.data.toList.take x6).foldl istep (istart seed key.size) = x5 at hm ⊢
      go_wp2
      go_ret
      exact ⟨by rw [hm]; unfold iend; rfl, ⟨_, rfl⟩⟩
#print axioms calls
end Go.Proofs.YtabdkfmfenpkjaaDoor.Mix
