/- THE TIED CARD OF ScriptAnswers, the second form: the row proved, and the eight tables' laying tied to the program's text. -/
import Derived.Test.YtigaacbaaopfmaaDoorCards
import Derived.Test.YtigaacbaaopfmaaDoorTie
import Derived.Test.YtigaacbaaopfmaaDoorAi
namespace Go.Proofs.YtigaacbaaopfmaaDoor
open Go
theorem scriptAnswersUpto_card : Rows.ScriptAnswersUptoCardSaid :=
  Claim7.holds_tied_plain_at .later [] _ _ _ _
    scriptAnswersUpto_holds (fun _ h => by cases h) (by kernel_rfl) (fun _ h => by cases h) scriptAnswersUpto_row_tie rfl ⟨rfl, rfl⟩ (by kernel_rfl) rfl
    (fun f fn hf hfn => by
      obtain rfl : f = 12 := Option.some.inj ((show Tryd.prog.funcNamed "larder/larderlaw16.ScriptAnswers" = some 12 by kernel_rfl).symm.trans hf) |>.symm
      obtain rfl : fn = Tryd.f12 := (Option.some.inj (Tryd.func12.symm.trans hfn)).symm
      exact ⟨by kernel_rfl, fun j t ht => by
        rw [Tryd.params12] at ht
        obtain rfl : t = 24 := by simpa using Array.mem_of_getElem? ht
        exact (show Tryd.prog.wantsStandIn 24 = false by kernel_rfl)⟩)
    (by kernel_rfl)
#print axioms scriptAnswersUpto_card
end Go.Proofs.YtigaacbaaopfmaaDoor
