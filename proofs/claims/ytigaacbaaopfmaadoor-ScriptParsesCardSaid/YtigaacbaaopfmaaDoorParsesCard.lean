/- THE TIED CARD OF ScriptParses: the row proved, and the six tables' laying tied to the program's text. -/
import Derived.Test.YtigaacbaaopfmaaDoorCards
import Derived.Test.YtigaacbaaopfmaaDoorTie
import Derived.Test.YtigaacbaaopfmaaDoorPz
namespace Go.Proofs.YtigaacbaaopfmaaDoor
open Go
theorem scriptParses_card : Rows.ScriptParsesCardSaid :=
  Claim7.holds_tied_plain_at .later [] _ _ _ _
    scriptParses_holds (fun _ h => by cases h) (by kernel_rfl) (fun _ h => by cases h) scriptParses_row_tie rfl ⟨rfl, rfl⟩ (by kernel_rfl) rfl
    (fun f fn hf hfn => by
      obtain rfl : f = 5 := Option.some.inj ((show Tryd.prog.funcNamed "larder/larderlaw16.ScriptParses" = some 5 by kernel_rfl).symm.trans hf) |>.symm
      obtain rfl : fn = Tryd.f5 := (Option.some.inj (Tryd.func5.symm.trans hfn)).symm
      exact ⟨by kernel_rfl, fun j t ht => by
        rw [Tryd.params5] at ht
        have hm : t ∈ [9, 35] := by simpa using Array.mem_of_getElem? ht
        have hall : ([9, 35].all fun u => !Tryd.prog.wantsStandIn u) = true := by kernel_rfl
        exact (show Tryd.prog.wantsStandIn t = false by simpa using List.all_eq_true.1 hall t hm)⟩)
    (by kernel_rfl)
#print axioms scriptParses_card
end Go.Proofs.YtigaacbaaopfmaaDoor
