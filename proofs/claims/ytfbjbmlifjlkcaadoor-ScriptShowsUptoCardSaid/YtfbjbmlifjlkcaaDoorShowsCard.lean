/- THE TIED CARD OF ScriptShows, the second form: the row proved, and the four tables' laying tied to the program's text. -/
import Derived.Test.YtfbjbmlifjlkcaaDoorCards
import Derived.Test.YtfbjbmlifjlkcaaDoorTie
import Derived.Test.YtfbjbmlifjlkcaaDoorShows
namespace Go.Proofs.YtfbjbmlifjlkcaaDoor
open Go
theorem scriptShowsUpto_card : Rows.ScriptShowsUptoCardSaid :=
  Claim7.holds_tied_plain_at .later [] _ _ _ _
    scriptShowsUpto_holds (fun _ h => by cases h) (by kernel_rfl) (fun _ h => by cases h) scriptShowsUpto_row_tie rfl ⟨rfl, rfl⟩ (by kernel_rfl) rfl
    (fun f fn hf hfn => by
      obtain rfl : f = 3 := Option.some.inj ((show Tryd.prog.funcNamed "larder/larderlaw16.ScriptShows" = some 3 by kernel_rfl).symm.trans hf) |>.symm
      obtain rfl : fn = Tryd.f3 := (Option.some.inj (Tryd.func3.symm.trans hfn)).symm
      exact ⟨by kernel_rfl, fun j t ht => by
        rw [Tryd.params3] at ht
        obtain rfl : t = 24 := by simpa using Array.mem_of_getElem? ht
        exact (show Tryd.prog.wantsStandIn 24 = false by kernel_rfl)⟩)
    (by kernel_rfl)
#print axioms scriptShowsUpto_card
end Go.Proofs.YtfbjbmlifjlkcaaDoor
