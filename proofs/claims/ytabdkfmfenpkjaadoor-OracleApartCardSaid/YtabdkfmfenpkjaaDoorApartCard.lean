/- THE TIED CARD OF OracleApart: the row proved, and the multipliers' laying tied to the program's text. -/
import Derived.Test.YtabdkfmfenpkjaaDoorCards
import Derived.Test.YtabdkfmfenpkjaaDoorTie
import Derived.Test.YtabdkfmfenpkjaaDoorApart
namespace Go.Proofs.YtabdkfmfenpkjaaDoor
open Go
theorem oracleApart_card : Rows.OracleApartCardSaid :=
  Claim7.holds_tied_plain_at .later [] [.data] true (true, "8dd901a847048f5d584aecb1e230664c4a3f0f7ba7b6aba4204aad3189153ba4") false
    oracleApart_holds (fun _ h => by cases h) (by kernel_rfl) (fun _ h => by cases h) oracleApart_row_tie rfl ⟨rfl, rfl⟩ (by kernel_rfl) rfl
    (fun f fn hf hfn => by
      obtain rfl : f = 4 := Option.some.inj ((show Tryd.prog.funcNamed "larder/larderlaw04.OracleApart" = some 4 by kernel_rfl).symm.trans hf) |>.symm
      obtain rfl : fn = Tryd.f4 := (Option.some.inj (Tryd.func4.symm.trans hfn)).symm
      exact ⟨by kernel_rfl, fun j t ht => by
        rw [Tryd.params4] at ht
        have hm : t ∈ [22, 22, 9] := by simpa using Array.mem_of_getElem? ht
        have hall : ([22, 22, 9].all fun u => !Tryd.prog.wantsStandIn u) = true := by kernel_rfl
        exact (show Tryd.prog.wantsStandIn t = false by simpa using List.all_eq_true.1 hall t hm)⟩)
    (by kernel_rfl)
#print axioms oracleApart_card
end Go.Proofs.YtabdkfmfenpkjaaDoor
