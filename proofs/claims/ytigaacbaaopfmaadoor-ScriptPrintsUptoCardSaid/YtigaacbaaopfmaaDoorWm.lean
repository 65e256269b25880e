/- A region that draws its order: several steps may come up. No walk here. -/
import Derived.Test.YtigaacbaaopfmaaDoorWl
set_option linter.unusedSimpArgs false
namespace Go.Proofs.YtigaacbaaopfmaaDoor.sh
open Go
set_option linter.unusedVariables false
section
variable {P : Program} {ops : Array Oper} {Q : Exit → Act → World → Prop} {md : Region.Mode} {C0 C1 : World → Prop} {B : Nat}
/-- Each of these steps comes up next. -/
def AllL (P : Program) (md : Region.Mode) (ops : Array Oper) (Q : Exit → Act → World → Prop) (C0 C1 : World → Prop) (B : Nat) (fuel : Nat) (listed : Array Bool) (a : Act) (w : World) (rs : List Nat) : Prop :=
  ∀ i ∈ rs, wpOp P ops Q i (fun a' w' => SB C0 C1 B (listed.setIfInBounds i true) w' ∧ anyL P md ops Q C0 C1 B fuel (listed.setIfInBounds i true) a' w') a w
theorem AllL.nil {fuel : Nat} {listed : Array Bool} {a : Act} {w : World} : AllL P md ops Q C0 C1 B fuel listed a w [] := fun _ h => by cases h
theorem AllL.cons {fuel : Nat} {listed : Array Bool} {a : Act} {w : World} {i : Nat} {o : Oper} {rs : List Nat} (ho : ops[i]? = some o) (hr : (Region.ready md ops listed).contains i = true) (hsh : Shutd md ops listed)
    (h : ∀ K' : Act → World → Prop, Shut (∀ a w, SB C0 C1 B (listed.setIfInBounds i true) w → (Shutd md ops (listed.setIfInBounds i true) → SB C0 C1 B (listed.setIfInBounds i true) w → anyL P md ops Q C0 C1 B fuel (listed.setIfInBounds i true) a w) → K' a w) → if Region.wanted o (yielded ops a.tmps) = true then Oper.wp P o a w K' Q else K' (a.put o.dst undef) w)
    (hs : AllL P md ops Q C0 C1 B fuel listed a w rs) : AllL P md ops Q C0 C1 B fuel listed a w (i :: rs) := fun j hj => by
  rcases List.mem_cons.1 hj with rfl | hj
  · exact wpOp_step ho (fun K' hK => h K' (fun a w hS hW => hK a w ⟨hS, hW (hsh.next (by simpa using hr)) hS⟩))
  · exact hs j hj
theorem anyL_ready {rs : List Nat} {fuel : Nat} {listed : Array Bool} {a : Act} {w : World} (hr : Region.ready md ops listed = rs) (hne : rs ≠ []) (h : AllL P md ops Q C0 C1 B fuel listed a w rs) : anyL P md ops Q C0 C1 B (fuel + 1) listed a w :=
  ⟨fun h0 => absurd (hr ▸ h0) hne, hr ▸ h⟩
end
end Go.Proofs.YtigaacbaaopfmaaDoor.sh
