/- THE TIED CARD OF ScriptLine, the second form: the row proved, and the eight tables' laying tied to the program's text. -/
import Derived.Test.YtigaacbaaopfmaaDoorCards
import Derived.Test.YtigaacbaaopfmaaDoorTie
import Derived.Test.YtigaacbaaopfmaaDoorLi
namespace Go.Proofs.YtigaacbaaopfmaaDoor
open Go
theorem scriptLineUpto_card : Rows.ScriptLineUptoCardSaid :=
  Claim7.holds_tied_plain_at .later [] _ _ _ _
    scriptLineUpto_holds (fun _ h => by cases h) (by kernel_rfl) (fun _ h => by cases h) scriptLineUpto_row_tie rfl ⟨rfl, rfl⟩ (by kernel_rfl) rfl
    (fun f fn hf hfn => by
      obtain rfl : f = 13 := Option.some.inj ((show Tryd.prog.funcNamed "larder/larderlaw16.ScriptLine" = some 13 by kernel_rfl).symm.trans hf) |>.symm
      obtain rfl : fn = Tryd.f13 := (Option.some.inj (Tryd.func13.symm.trans hfn)).symm
      exact ⟨by kernel_rfl, fun j t ht => by
        rw [Tryd.params13] at ht
        obtain rfl : t = 9 := by simpa using Array.mem_of_getElem? ht
        exact (show Tryd.prog.wantsStandIn 9 = false by kernel_rfl)⟩)
    (by kernel_rfl)
#print axioms scriptLineUpto_card
end Go.Proofs.YtigaacbaaopfmaaDoor
