/- THE TIED CARD OF OracleHashes: the row proved, and the multipliers' laying tied to the program's text. -/
import Derived.Test.YtabdkfmfenpkjaaDoorCards
import Derived.Test.YtabdkfmfenpkjaaDoorTie
import Derived.Test.YtabdkfmfenpkjaaDoorHashes
namespace Go.Proofs.YtabdkfmfenpkjaaDoor
open Go
theorem oracleHashes_card : Rows.OracleHashesCardSaid :=
  Claim7.holds_tied_plain_at .later [] [.data] true (true, "8dd901a847048f5d584aecb1e230664c4a3f0f7ba7b6aba4204aad3189153ba4") false
    oracleHashes_holds (fun _ h => by cases h) (by kernel_rfl) (fun _ h => by cases h) oracleHashes_row_tie rfl ⟨rfl, rfl⟩ (by kernel_rfl) rfl
    (fun f fn hf hfn => by
      obtain rfl : f = 6 := Option.some.inj ((show Tryd.prog.funcNamed "larder/larderlaw04.OracleHashes" = some 6 by kernel_rfl).symm.trans hf) |>.symm
      obtain rfl : fn = Tryd.f6 := (Option.some.inj (Tryd.func6.symm.trans hfn)).symm
      exact ⟨by kernel_rfl, fun j t ht => by
        rw [Tryd.params6] at ht
        have hm : t ∈ [28, 28, 29] := by simpa using Array.mem_of_getElem? ht
        have hall : ([28, 28, 29].all fun u => !Tryd.prog.wantsStandIn u) = true := by kernel_rfl
        exact (show Tryd.prog.wantsStandIn t = false by simpa using List.all_eq_true.1 hall t hm)⟩)
    (by kernel_rfl)
#print axioms oracleHashes_card
end Go.Proofs.YtabdkfmfenpkjaaDoor
