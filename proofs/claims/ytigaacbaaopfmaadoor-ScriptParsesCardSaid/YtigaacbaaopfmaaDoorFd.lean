/- A name found in the table of rows: the program's, walked. -/
import Derived.Test.YtigaacbaaopfmaaDoorRd
import Derived.Laws.Rows
namespace Go.Proofs.YtigaacbaaopfmaaDoor.sh
open Go.RowKit
set_option linter.unusedVariables false
def opOf (i : Nat) : Int := if i = 0 ∨ i = 15 then 0 else (i : Int)
def forms : List (List UInt8) := [[110], [119, 110], [110, 98], [110, 98, 98], [110, 98], [110], [110, 119], [110], [110, 119, 119], [110], [], [], [110, 98], [110], [], [98, 119]]
def formOf (i : Nat) : ByteArray := B (forms.getD i [])
def moreOf (i : Nat) : Bool := i == 1 || i == 10
/-- The program's table. -/
def Rowz (w : World) : Prop := ∃ cs t fr, w.heap[0]? = some (.cells cs t fr) ∧ cs.size = 64 ∧ ∀ i, i < 16 →
  cs[i * 4]? = some (.string (nm i)) ∧ cs[i * 4 + 1]? = some (.int .i64 (opOf i)) ∧ cs[i * 4 + 2]? = some (.string (formOf i)) ∧ cs[i * 4 + 3]? = some (.bool (moreOf i))
theorem Rowz.below {w w' : World} (h : Rowz w) (k : Below w.heap.size w w') : Rowz w' := by
  obtain ⟨cs, t, fr, h1, h2⟩ := h
  refine ⟨cs, t, fr, ?_, h2⟩
  have hl : 0 < w.heap.size := by
    rcases Nat.lt_or_ge 0 w.heap.size with h | h
    · exact h
    · rw [Array.getElem?_eq_none h] at h1; cases h1
  exact (k.block 0 hl).trans h1
theorem index_row (W : World) (cs : Array Value) (hs : cs.size = 64) (i : Nat) (hi : i < 16) (a b c d : Value) (h0 : cs[i * 4]? = some a) (h1 : cs[i * 4 + 1]? = some b) (h2 : cs[i * 4 + 2]? = some c) (h3 : cs[i * 4 + 3]? = some d) :
    (Instr.index 83 (.agg cs) (.int .i64 (i : Int))).run Tryd.prog W = .ok (.agg #[a, b, c, d]) W := by
  have e : cs.extract (i * 4) (i * 4 + 4) = #[a, b, c, d] := by
    apply Array.ext_getElem?
    intro j
    rw [Array.getElem?_extract]
    match j with
    | 0 => rw [if_pos (by omega)]; exact h0
    | 1 => rw [if_pos (by omega)]; exact h1
    | 2 => rw [if_pos (by omega)]; exact h2
    | 3 => rw [if_pos (by omega)]; exact h3
    | j + 4 => rw [if_neg (by omega)]; rfl
  have hlt : (0 : Int) ≤ (i : Int) ∧ (i : Int) < 16 := by omega
  simp [Instr.index, run_underlying Tryd.underlying83, asIntOf, hlt, part, go_sem]
  rw [if_pos hi, e]
/-- The place of a name; -1: there is none. -/
def findFrom (l : List UInt8) (k : Nat) : Nat → Int
  | 0 => -1
  | g + 1 => if names.getD k [] = l then (k : Int) else findFrom l (k + 1) g
def findP (l : List UInt8) : Int := findFrom l 0 16
theorem findFrom_yes (l : List UInt8) (k g : Nat) (h : names.getD k [] = l) : findFrom l k (g + 1) = (k : Int) := by rw [findFrom, if_pos h]
theorem findFrom_no (l : List UInt8) (k g : Nat) (h : ¬ names.getD k [] = l) : findFrom l k (g + 1) = findFrom l (k + 1) g := by rw [findFrom, if_neg h]
theorem nm_eq (i : Nat) (s : ByteArray) : ((nm i).toList == s.toList) = decide (names.getD i [] = s.data.toList) := by
  unfold nm
  rw [B_toList, ByteArray.toList_eq]
  by_cases h : names.getD i [] = s.data.toList
  · rw [h]; simp
  · rw [decide_eq_false h]; exact beq_eq_false_iff_ne.2 h
set_option maxHeartbeats 8000000 in
set_option maxRecDepth 100000 in
theorem find_walk (w : World) (s : ByteArray) (hr : Rowz w) : Calls Tryd.prog 45 #[.string s] w fun e w' => e = .returned (.int .i64 (findP s.data.toList)) ∧ Below w.heap.size w w' := by
  obtain ⟨cs, t, fr, hg, hsz, hrow⟩ := hr
  have hload : ∀ (ops : Array Oper) (rest : List Oper) (o : Oper) (a : Act) (Q : Exit → Act → World → Prop) (x : Operand), o.guard = none → o.op = .load 83 x → a.eval x = .pointer (some ⟨0, 0, none⟩) →
      wpList Tryd.prog ops Q rest (a.put o.dst (.agg cs)) w → wpList Tryd.prog ops Q (o :: rest) a w := fun ops rest o a Q x h1 h2 h3 h => by
    exact wpList_load_row h1 83 x h2 0 h3 t cs fr _ hg Tryd.underlying83 rfl (by rw [hsz]; kernel_rfl) h
  obtain ⟨R, hR⟩ : ∃ R, findP s.data.toList = R := ⟨_, rfl⟩
  rw [hR]
  have HR : Aside0 (findFrom s.data.toList 0 16 = R) := ⟨hR⟩
  have HS : Aside0 (cs.size = 64) := ⟨hsz⟩
  clear hR hg hsz
  go_enter Tryd.func45, Tryd.ntmps45
  go_wp2_with (refine hload _ _ _ _ _ _ rfl rfl rfl ?_)
  go_loopg [6] 16 (fun g v6 wr => ∃ k : Nat, v6 = .int .i64 k ∧ k + g = 16 ∧ Aside0 (findFrom s.data.toList k g = R) ∧ Below w.heap.size w wr)
  case atStart => exact ⟨0, rfl, by omega, HR, Below.refl _ _⟩
  case round =>
    obtain ⟨k, rfl, hkg, hF, hB⟩ := hrel
    clear HR
    by_cases hk : k < 16
    · obtain ⟨g, rfl⟩ : ∃ g, gk = g + 1 := ⟨gk - 1, by omega⟩
      have hlt : (k : Int) < 16 := by omega
      obtain ⟨h0, h1, h2, h3⟩ := hrow k hk
      have hidx := fun W => index_row W cs HS.out k hk _ _ _ _ h0 h1 h2 h3
      clear h0 h1 h2 h3 hrow
      by_cases hq : names.getD k [] = s.data.toList
      · have hc : ((nm k).toList == s.toList) = true := by rw [nm_eq]; exact decide_eq_true hq
        have HK : Aside0 (R = (k : Int)) := ⟨by rw [← hF.out, findFrom_yes _ _ _ hq]⟩
        clear hF hq
        go_wp2
        go_ret
        exact ⟨by rw [HK.out]; rfl, hB.alloc hB.size _⟩
      · have hc : ((nm k).toList == s.toList) = false := by rw [nm_eq]; exact decide_eq_false hq
        have HK : Aside0 (findFrom s.data.toList (k + 1) g = R) := ⟨by rw [← hF.out, findFrom_no _ _ _ hq]⟩
        clear hF hq
        go_wp2
        go_roundg g
        case measure => omega
        case rel => exact ⟨k + 1, by go_num, by omega, HK, hB.alloc hB.size _⟩
    · obtain rfl : k = 16 := by omega
      obtain rfl : gk = 0 := by omega
      have HK : Aside0 (R = -1) := ⟨by rw [← hF.out]; rfl⟩
      clear hF hrow
      go_wp2
      go_ret
      exact ⟨by rw [HK.out]; rfl, hB⟩
end Go.Proofs.YtigaacbaaopfmaaDoor.sh
