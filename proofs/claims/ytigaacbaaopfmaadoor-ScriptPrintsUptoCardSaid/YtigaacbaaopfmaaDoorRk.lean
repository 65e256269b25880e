/- A cleaned script fits, too. Plain Lean. -/
import Derived.Test.YtigaacbaaopfmaaDoorLh
set_option linter.unusedSimpArgs false
namespace Go.Proofs.YtigaacbaaopfmaaDoor.sh
open Go.RowKit
set_option linter.unusedVariables false
theorem ok_fin {s : Sc} (h : s.Ok) : s.Fin := by
  have e1 := ovsW_len s.over
  have e2 := cmsW_len s.cmds
  have e3 := h.wt
  exact ⟨by omega, by omega, fun c hc => ⟨by have := (h.cm c hc).fl; omega, by have := (h.cm c hc).hl; omega⟩⟩
theorem zeroU : (0 : Nat) < 18446744073709551616 := by decide
theorem zero64 : In64 0 := ⟨by decide, by decide⟩
theorem clC_fits {c : Cm} (h : c.Fits) : (clC c).Fits ∧ cmW (clC c) ≤ cmW c := by
  have z := zero64
  have n0 : Ins [] := fun x hx => by cases hx
  have h1 := h.h
  have h2 := h.n
  have h3 := h.u
  have h4 := h.v
  have h5 := h.key
  have h6 := h.elem
  have h7 := h.fi
  have h8 := h.fl
  have h9 := h.hi
  have h10 := h.hl
  unfold clC
  split
  · exact ⟨⟨z, h2, h3, zeroU, by simp, by simp, h7, h8, n0, by simp⟩, by simp only [cmW, List.length_nil]; omega⟩
  · split
    · exact ⟨⟨z, z, zeroU, zeroU, by simp, by simp, n0, by simp, h9, h10⟩, by simp only [cmW, List.length_nil]; omega⟩
    · split
      · exact ⟨⟨z, z, zeroU, zeroU, by simp, by simp, n0, by simp, n0, by simp⟩, by simp only [cmW, List.length_nil]; omega⟩
      · refine ⟨⟨h1, z, ?_, ?_, ?_, ?_, n0, by simp, n0, by simp⟩, ?_⟩
        · show (if _ then _ else _) < _; split <;> omega
        · show (if _ then _ else _) < _; split <;> omega
        · show List.length (if _ then _ else _) ≤ _; split <;> simp_all
        · show List.length (if _ then _ else _) ≤ _; split <;> simp_all
        · simp only [cmW, List.length_nil]
          have e1 : (if c.op = 2 ∨ c.op = 4 ∨ c.op = 12 ∨ c.op = 3 then c.key else []).length ≤ c.key.length := by split <;> simp
          have e2 : (if c.op = 3 then c.elem else []).length ≤ c.elem.length := by split <;> simp
          omega
theorem clean_cmsW : ∀ {l : List Cm}, (∀ c ∈ l, c.Fits) → cmsW ((l.filter hasLine).map clC) ≤ cmsW l
  | [], _ => by simp [cmsW]
  | c :: l, h => by
    have ih := clean_cmsW (l := l) (fun y hy => h y (List.mem_cons_of_mem _ hy))
    have hc := (clC_fits (h c (List.mem_cons_self ..))).2
    rw [List.filter_cons]
    split
    · simp only [List.map_cons, cmsW]; omega
    · simp only [cmsW]; omega
theorem cleanS_ok {s : Sc} (h : s.Ok) : (cleanS s).Ok := by
  have e := clean_cmsW h.cm
  have e2 := h.wt
  refine ⟨h.lim, ?_, h.ov, fun c hc => ?_⟩
  · show ovsW s.over + cmsW ((s.cmds.filter hasLine).map clC) ≤ 3000000
    omega
  · obtain ⟨d, hd, rfl⟩ := List.mem_map.1 hc
    exact (clC_fits (h.cm d (List.mem_filter.1 hd).1)).1
end Go.Proofs.YtigaacbaaopfmaaDoor.sh
