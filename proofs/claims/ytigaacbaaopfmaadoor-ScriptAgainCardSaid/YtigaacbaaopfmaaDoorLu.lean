/- The two closed texts of ScriptAgain; Parse's answer as ScriptAgain takes it. -/
import Derived.Test.YtigaacbaaopfmaaDoorLt
import Derived.Test.YtigaacbaaopfmaaDoorRn10
set_option linter.unusedSimpArgs false
namespace Go.Proofs.YtigaacbaaopfmaaDoor.sh
open Go.RowKit
set_option linter.unusedVariables false
theorem parse_c1 : parseP [108, 105, 109, 105, 116, 32, 57, 10, 9, 104, 97, 115, 104, 32, 39, 98, 32, 48, 88, 70, 10, 108, 101, 110, 32, 51] = (S0, 2, 160) := by decide +kernel
def S2 : Sc := ⟨9, [([98], 15)], [⟨5, -3, [], [], 0, 0, 0, [], []⟩]⟩
theorem parse_c2 : parseP [32, 108, 105, 109, 105, 116, 32, 48, 48, 57, 32, 35, 32, 115, 111, 10, 9, 104, 97, 115, 104, 32, 39, 98, 32, 48, 120, 70, 10, 10, 108, 101, 110, 32, 45, 51] = (S2, 0, 0) := by decide +kernel
theorem print_c2 : printL S2 = [108, 105, 109, 105, 116, 32, 57, 10, 104, 97, 115, 104, 32, 54, 50, 32, 48, 120, 102, 10, 108, 101, 110, 32, 45, 51, 10] := by decide +kernel
theorem S2_ok : S2.Ok := by
  have := parseP_inv [32, 108, 105, 109, 105, 116, 32, 48, 48, 57, 32, 35, 32, 115, 111, 10, 9, 104, 97, 115, 104, 32, 39, 98, 32, 48, 120, 70, 10, 10, 108, 101, 110, 32, 45, 51]
  rw [parse_c2] at this
  rcases this with ⟨_, _, h, _⟩ | ⟨h, _⟩
  · exact h
  · cases h
theorem ScO.set {w : World} {base p i : Nat} {v u : Value} {s : Sc} (h : ScO w base v s) (hp : p < base) : ScO (w.setCell ⟨p, i, none⟩ u) base v s := by
  obtain ⟨vo, vc, cs, h1, h2, h3, h4⟩ := h
  exact ⟨vo, vc, cs, h1, own_set h2 hp, own_set h3 hp, h4.stay fun v xs h => h.set hp⟩
theorem full3' {w : World} {g : Nat} {t : TypeId} {x0 x1 x2 : Value} (h1 : w.heap[g]? = some (.cells #[x0, x1, x2] t (0, 0))) (a0 a1 a2 : Value) :
    (((w.setCell ⟨g, 0, none⟩ a0).setCell ⟨g, 1, none⟩ a1).setCell ⟨g, 2, none⟩ a2).heap[g]? = some (.cells #[a0, a1, a2] t (0, 0)) := by
  have e0 : (w.setCell ⟨g, 0, none⟩ a0).heap[g]? = some (.cells #[a0, x1, x2] t (0, 0)) := heap_setCell_same w g 0 #[x0, x1, x2] t a0 h1
  have e1 : ((w.setCell ⟨g, 0, none⟩ a0).setCell ⟨g, 1, none⟩ a1).heap[g]? = some (.cells #[a0, a1, x2] t (0, 0)) := heap_setCell_same (w.setCell ⟨g, 0, none⟩ a0) g 1 #[a0, x1, x2] t a1 e0
  exact heap_setCell_same ((w.setCell ⟨g, 0, none⟩ a0).setCell ⟨g, 1, none⟩ a1) g 2 #[a0, a1, x2] t a2 e1
theorem parse_is (w : World) (hb : Bs w) (hr : Rowz w) (s : ByteArray) (sc : Sc) (ln : Nat) (er : Int) (h : parseP s.data.toList = (sc, ln, er)) :
    Calls Tryd.prog 21 #[.string s] w fun e w' => ∃ ao co ac cc, e = .returned (.tuple #[.agg #[.int .i64 sc.limit, .slice ao sc.over.length co, .slice ac sc.cmds.length cc], .int .i64 (ln : Int), .int .i64 er]) ∧
      ScO w' w.heap.size (.agg #[.int .i64 sc.limit, .slice ao sc.over.length co, .slice ac sc.cmds.length cc]) sc ∧ Below w.heap.size w w' := by
  have hp := parse_walk w hb hr s
  rw [h] at hp
  refine hp.mono fun e w' h => ?_
  obtain ⟨v, rfl, ⟨vo, vc, cs, rfl, ho, hc, hm⟩, hb⟩ := h
  obtain ⟨ao, co, rfl⟩ := own_slice ho
  obtain ⟨ac, cc, rfl⟩ := own_slice hc
  exact ⟨ao, co, ac, cc, rfl, ⟨_, _, cs, rfl, ho, hc, hm⟩, hb⟩
end Go.Proofs.YtigaacbaaopfmaaDoor.sh
