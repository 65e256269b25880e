/- THE TIED CARD OF ScriptReads, the second form: the row proved, and the eight tables' laying tied to the program's text. -/
import Derived.Test.YtigaacbaaopfmaaDoorCards
import Derived.Test.YtigaacbaaopfmaaDoorTie
import Derived.Test.YtigaacbaaopfmaaDoorRi
namespace Go.Proofs.YtigaacbaaopfmaaDoor
open Go
theorem scriptReadsUpto_card : Rows.ScriptReadsUptoCardSaid :=
  Claim7.holds_tied_plain_at .later [] _ _ _ _
    scriptReadsUpto_holds (fun _ h => by cases h) (by kernel_rfl) (fun _ h => by cases h) scriptReadsUpto_row_tie rfl ⟨rfl, rfl⟩ (by kernel_rfl) rfl
    (fun f fn hf hfn => by
      obtain rfl : f = 11 := Option.some.inj ((show Tryd.prog.funcNamed "larder/larderlaw16.ScriptReads" = some 11 by kernel_rfl).symm.trans hf) |>.symm
      obtain rfl : fn = Tryd.f11 := (Option.some.inj (Tryd.func11.symm.trans hfn)).symm
      exact ⟨by kernel_rfl, fun j t ht => by
        rw [Tryd.params11] at ht
        obtain rfl : t = 9 := by simpa using Array.mem_of_getElem? ht
        exact (show Tryd.prog.wantsStandIn 9 = false by kernel_rfl)⟩)
    (by kernel_rfl)
#print axioms scriptReadsUpto_card
end Go.Proofs.YtigaacbaaopfmaaDoor
