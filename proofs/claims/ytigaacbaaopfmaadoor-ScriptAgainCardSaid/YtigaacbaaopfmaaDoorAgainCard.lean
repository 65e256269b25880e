/- THE TIED CARD OF ScriptAgain: the row proved, and the six tables' laying tied to the program's text. -/
import Derived.Test.YtigaacbaaopfmaaDoorCards
import Derived.Test.YtigaacbaaopfmaaDoorTie
import Derived.Test.YtigaacbaaopfmaaDoorRr8
set_option linter.unusedSimpArgs false
namespace Go.Proofs.YtigaacbaaopfmaaDoor
open Go
theorem scriptAgain_card : Rows.ScriptAgainCardSaid :=
  Claim7.holds_tied_plain_at .later [] _ _ _ _
    scriptAgain_holds (fun _ h => by cases h) (by kernel_rfl) (fun _ h => by cases h) scriptAgain_row_tie rfl ⟨rfl, rfl⟩ (by kernel_rfl) rfl
    (fun f fn hf hfn => by
      obtain rfl : f = 8 := Option.some.inj ((show Tryd.prog.funcNamed "larder/larderlaw16.ScriptAgain" = some 8 by kernel_rfl).symm.trans hf) |>.symm
      obtain rfl : fn = Tryd.f8 := (Option.some.inj (Tryd.func8.symm.trans hfn)).symm
      exact ⟨by kernel_rfl, fun j t ht => by
        rw [Tryd.params8] at ht
        have hm : t ∈ [9] := by simpa using Array.mem_of_getElem? ht
        have hall : ([9].all fun u => !Tryd.prog.wantsStandIn u) = true := by kernel_rfl
        exact (show Tryd.prog.wantsStandIn t = false by simpa using List.all_eq_true.1 hall t hm)⟩)
    (by kernel_rfl)
#print axioms scriptAgain_card
end Go.Proofs.YtigaacbaaopfmaaDoor
