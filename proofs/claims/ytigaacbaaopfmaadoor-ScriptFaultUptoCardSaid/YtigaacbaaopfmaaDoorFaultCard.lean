/- THE TIED CARD OF ScriptFault, the second form: the row proved, and the six tables' laying tied to the program's text. -/
import Derived.Test.YtigaacbaaopfmaaDoorCards
import Derived.Test.YtigaacbaaopfmaaDoorTie
import Derived.Test.YtigaacbaaopfmaaDoorRr10
set_option linter.unusedSimpArgs false
namespace Go.Proofs.YtigaacbaaopfmaaDoor
open Go
theorem scriptFaultUpto_card : Rows.ScriptFaultUptoCardSaid :=
  Claim7.holds_tied_plain_at .later [] _ _ _ _
    scriptFaultUpto_holds (fun _ h => by cases h) (by kernel_rfl) (fun _ h => by cases h) scriptFaultUpto_row_tie rfl ⟨rfl, rfl⟩ (by kernel_rfl) rfl
    (fun f fn hf hfn => by
      obtain rfl : f = 10 := Option.some.inj ((show Tryd.prog.funcNamed "larder/larderlaw16.ScriptFault" = some 10 by kernel_rfl).symm.trans hf) |>.symm
      obtain rfl : fn = Tryd.f10 := (Option.some.inj (Tryd.func10.symm.trans hfn)).symm
      exact ⟨by kernel_rfl, fun j t ht => by
        rw [Tryd.params10] at ht
        have hm : t ∈ [30, 3, 9, 9] := by simpa using Array.mem_of_getElem? ht
        have hall : ([30, 3, 9, 9].all fun u => !Tryd.prog.wantsStandIn u) = true := by kernel_rfl
        exact (show Tryd.prog.wantsStandIn t = false by simpa using List.all_eq_true.1 hall t hm)⟩)
    (by kernel_rfl)
#print axioms scriptFaultUpto_card
end Go.Proofs.YtigaacbaaopfmaaDoor
