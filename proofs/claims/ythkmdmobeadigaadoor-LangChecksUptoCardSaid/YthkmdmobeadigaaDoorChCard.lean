/- THE TIED CARD OF LangChecks, the second form: the row proved, and the three tables' laying tied to the program's text. -/
import Derived.Test.YthkmdmobeadigaaDoorCards
import Derived.Test.YthkmdmobeadigaaDoorTie
import Derived.Test.YthkmdmobeadigaaDoorYr
namespace Go.Proofs.YthkmdmobeadigaaDoor
open Go
theorem langChecksUpto_card : Rows.LangChecksUptoCardSaid :=
  Claim7.holds_tied_plain_at .later [] _ _ _ _
    langChecksUpto_holds (fun _ h => by cases h) (by kernel_rfl) (fun _ h => by cases h) langChecksUpto_row_tie rfl ⟨rfl, rfl⟩ (by kernel_rfl) rfl
    (fun f fn hf hfn => by
      obtain rfl : f = 3 := Option.some.inj ((show Tryd.prog.funcNamed "larder/larderlaw23.LangChecks" = some 3 by kernel_rfl).symm.trans hf) |>.symm
      obtain rfl : fn = Tryd.f3 := (Option.some.inj (Tryd.func3.symm.trans hfn)).symm
      exact ⟨by kernel_rfl, fun j t ht => by
        rw [Tryd.params3] at ht
        have hm : t ∈ [25] := by simpa using Array.mem_of_getElem? ht
        have hall : ([25].all fun u => !Tryd.prog.wantsStandIn u) = true := by kernel_rfl
        exact (show Tryd.prog.wantsStandIn t = false by simpa using List.all_eq_true.1 hall t hm)⟩)
    (by kernel_rfl)
#print axioms langChecksUpto_card
end Go.Proofs.YthkmdmobeadigaaDoor
