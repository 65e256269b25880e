/- What the six listed tables give; the world in which they are laid. -/
import Derived.Test.YtigaacbaaopfmaaDoorOs
import Derived.Lib.LaidU8
namespace Go.Proofs.YtigaacbaaopfmaaDoor.sh
open Go.ChangeShapes Go.WideShapes Go.ChangeAt Go.RowKit
set_option linter.unusedVariables false
set_option linter.unusedSimpArgs false
theorem of_laidU {W : World} (h : laidMetH Tryd.prog Rows.scriptRoundUptoRow.laid W) (hsh : W.ShapedOpen Tryd.prog) : Bs W ∧ Rowz W := by
  rw [MakeChecks.laidMetH_plain _ _ _ (by kernel_rfl)] at h
  obtain ⟨ps, ⟨_, _, _, _, _, _, _, _, _, _, ⟨g2, t2, cs2, f2, p2, q2, hg2, ht2, hv2, hd2, ⟨g3, t3, cs3, f3, p3, q3, hg3, ht3, hv3, hd3, ⟨g5, t5, cs5, f5, p5, q5, hg5, ht5, hv5, hd5, ⟨_, _, _, _, _, _, _, _, _, _, ⟨g7, t7, cs7, f7, p7, q7, hg7, ht7, hv7, hd7, _⟩, _⟩, _⟩, _⟩, _⟩, _⟩, _, _⟩ := h
  obtain rfl := Option.some.inj (gDb.symm.trans hg2)
  obtain rfl := Option.some.inj (tDb.symm.trans ht2)
  obtain rfl := Option.some.inj (gPow.symm.trans hg3)
  obtain rfl := Option.some.inj (tPow.symm.trans ht3)
  obtain rfl := Option.some.inj (gEr.symm.trans hg5)
  obtain rfl := Option.some.inj (tEr.symm.trans ht5)
  obtain rfl := Option.some.inj (gRows.symm.trans hg7)
  obtain rfl := Option.some.inj (tRows.symm.trans ht7)
  have hz := rowz_of hv7 hd7
  have hc3 := Lib.cells_of_tab (zs := Lib.pow10Tab) Tryd.underlying158 Tryd.underlying32 cells32 cells158 (show DataW.trod _ Tryd.prog W 0 _ false f3 158 _ = some (Lib.tabData .u64 Lib.pow10Tab, p3) from hd3)
  refine ⟨⟨⟨⟨fun i hi => ?_, ?_⟩, ?_⟩, ?_, Tryd.laysM219.s1_3 W hsh⟩, hz⟩
  · obtain ⟨cs, t, fr, h1, h2, h3⟩ := hz
    unfold World.cell?
    rw [h1]
    exact (h3 i hi).1
  · show W.var? Tryd.prog "internal/strconv.uint64pow10" = _
    rw [hv3, ← hc3]
  · have hc2 := Lib.cells_of_tab (zs := (Lib.deBruijn64tab.map fun z : Nat => (z : Int))) Tryd.underlying178 Tryd.underlying5 cells5 cells178 (show DataW.trod _ Tryd.prog W 0 _ false f2 178 _ = some (Lib.tabData .u8 (Lib.deBruijn64tab.map fun z : Nat => (z : Int)), p2) from hd2)
    have := World.var?_cell hg2 hv2 15
    rw [this]
    have e2 : cs2[15]? = cs2.toList[15]? := by simp
    rw [e2, hc2]
    rfl
  · obtain ⟨u, v, e⟩ := iface_of Tryd.underlying65 hd5
    refine ⟨u, v, ?_⟩
    have := World.var?_cell hg5 hv5 0
    rw [this]
    have e2 : cs5[0]? = cs5.toList[0]? := by simp
    rw [e2, e]; rfl
theorem bulk_one {H : Type} {d : DataW H} (h : Rows.uptoSmall H [d] = true) : Rows.uptoBulk d ≤ 1048576 := by
  have h : Rows.uptoBulkAll [d] ≤ 1048576 := of_decide_eq_true h
  simp only [Rows.uptoBulkAll] at h
  omega
noncomputable def lgWorld (os : Os) : World := World.doorLaid Tryd.prog 4000 os
end Go.Proofs.YtigaacbaaopfmaaDoor.sh
