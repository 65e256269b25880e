/- The document's small words: among, none; walked. -/
import Derived.Test.YthkmdmobeadigaaDoorXd
namespace Go.Proofs.YthkmdmobeadigaaDoor.lg
open Go.RowKit
set_option linter.unusedVariables false
set_option linter.unusedSimpArgs false
set_option maxHeartbeats 2000000 in
set_option maxRecDepth 100000 in
theorem among_walk (ms : List ByteArray) (vm vs : Value) (nm : ByteArray) (w : World) (hml : ms.length ≤ 3000000) (hV : SV w 1 vm ms.length (nsC ms)) (hvs : ∃ a n c, vs = .slice a n c) :
    Calls Tryd.prog 28 #[.agg #[vm, vs], .string nm] w (IsY ((nsL ms).contains nm.data.toList) w) := by
  obtain ⟨R, hR⟩ : ∃ R, (nsL ms).contains nm.data.toList = R := ⟨_, rfl⟩
  rw [hR]
  have HR : Aside0 ((nsL ms).contains nm.data.toList = R) := ⟨hR⟩
  obtain ⟨am, cm, gm, om, rfl, hW⟩ := hV
  obtain ⟨as1, ns, cs, rfl⟩ := hvs
  obtain ⟨n, hn⟩ : ∃ n, ms.length = n := ⟨_, rfl⟩
  rw [hn] at hW hml ⊢
  have HW : Aside0 (SW w 1 am n cm gm om (nsC ms) ∧ ms.length = n) := ⟨hW, hn⟩
  have HT : Aside0 (∀ s : ByteArray, s.toList = s.data.toList) := ⟨toList_data⟩
  obtain ⟨W1, hW1⟩ : ∃ W, w.alloc (.cells #[.slice am n cm, .slice as1 ns cs] 25) = W := ⟨_, rfl⟩
  have hB1 : Below w.heap.size w W1 := by rw [← hW1]; exact (Below.refl _ _).alloc (Nat.le_refl _) _
  have k0 : W1.cell? ⟨w.heap.size, 0, none⟩ = some (.slice am n cm) := by rw [← hW1]; simp
  clear hR hW hn
  go_enter Tryd.func28, Tryd.ntmps28
  go_wp2
  clear hW1
  go_loopg [5] n (fun g v wr => W1 = wr ∧ ∃ i : Nat, v = .int .i64 i ∧ i + g = n ∧ Aside0 (∀ j x, j < i → ms[j]? = some x → x.data.toList ≠ nm.data.toList))
  case atStart => exact ⟨rfl, 0, rfl, by omega, ⟨fun j x hj => by omega⟩⟩
  case round =>
    obtain ⟨rfl, i, rfl, hig, hF⟩ := hrel
    by_cases hi : i < n
    · have hlt : (i : Int) < (n : Int) := by omega
      obtain ⟨q, rfl⟩ : ∃ q, gk = q + 1 := ⟨gk - 1, by omega⟩
      obtain ⟨x, hx⟩ : ∃ x, ms[i]? = some x := ⟨_, List.getElem?_eq_getElem (by rw [HW.out.2]; exact hi)⟩
      have hcx := (HW.out.1.below hB1 (Nat.le_refl _)).cells i _ (nsC_at hx)
      have hao : am = some ⟨gm, om, none⟩ := by rcases HW.out.1.lead with e | e; (omega); exact e
      have HX : Aside0 (ms[i]? = some x) := ⟨hx⟩
      subst hao
      clear hx
      by_cases he : x.data.toList = nm.data.toList
      · have hb : (x.toList == nm.toList) = true := by rw [HT.out, HT.out]; simpa using he
        have A : Aside0 (R = true) := ⟨by
          rw [← HR.out, List.contains_eq_mem, decide_eq_true_eq, ← he]
          exact List.mem_of_getElem? (nsL_at HX.out)⟩
        clear he
        go_wp2
        go_ret
        exact ⟨ret_bool A.out.symm, hB1⟩
      · have hb : (x.toList == nm.toList) = false := by rw [HT.out, HT.out]; simpa using he
        have HE' : Aside0 (¬ x.data.toList = nm.data.toList) := ⟨he⟩
        clear he
        go_wp2
        go_roundg q
        case measure => omega
        case rel => exact ⟨rfl, i + 1, by go_num, by omega, ⟨fun j y hj hy => by
          by_cases e : j = i
          · subst e; obtain rfl := Option.some.inj (hy.symm.trans HX.out); exact HE'.out
          · exact hF.out j y (by omega) hy⟩⟩
    · obtain rfl : i = n := by omega
      have hlt : ¬ (i : Int) < (i : Int) := by omega
      have A : Aside0 (R = false) := ⟨by
        rw [← HR.out, List.contains_eq_mem, decide_eq_false_iff_not]
        intro hmem
        obtain ⟨x, hx, e⟩ := List.mem_map.1 hmem
        obtain ⟨j, hj⟩ := List.mem_iff_getElem?.1 hx
        exact hF.out j x (by have := (List.getElem?_eq_some_iff.1 hj).1; rw [HW.out.2] at this; exact this) hj e⟩
      go_wp2
      go_ret
      exact ⟨ret_bool A.out.symm, hB1⟩
set_option maxHeartbeats 2000000 in
set_option maxRecDepth 100000 in
theorem none_walk (l : List ByteArray) (v : Value) (w : World) (hl : l.length ≤ 3000000) (hV : SV w 1 v l.length (nsC l)) : Calls Tryd.prog 81 #[v] w (IsB (l.all fun s => s.data.toList.isEmpty) w) := by
  obtain ⟨R, hR⟩ : ∃ R, (l.all fun s => s.data.toList.isEmpty) = R := ⟨_, rfl⟩
  rw [hR]
  have HR : Aside0 ((l.all fun s => s.data.toList.isEmpty) = R) := ⟨hR⟩
  obtain ⟨am, cm, gm, om, rfl, hW⟩ := hV
  obtain ⟨n, hn⟩ : ∃ n, l.length = n := ⟨_, rfl⟩
  rw [hn] at hW hl ⊢
  have HW : Aside0 (SW w 1 am n cm gm om (nsC l) ∧ l.length = n) := ⟨hW, hn⟩
  clear hR hW hn
  go_enter Tryd.func81, Tryd.ntmps81
  go_wp2
  go_loopg [3] n (fun g v wr => w = wr ∧ ∃ i : Nat, v = .int .i64 i ∧ i + g = n ∧ Aside0 (∀ (j : Nat) (x : ByteArray), j < i → l[j]? = some x → x.data.toList.isEmpty = true))
  case atStart => exact ⟨rfl, 0, rfl, by omega, ⟨fun j x hj => by omega⟩⟩
  case round =>
    obtain ⟨rfl, i, rfl, hig, hF⟩ := hrel
    by_cases hi : i < n
    · have hlt : (i : Int) < (n : Int) := by omega
      obtain ⟨q, rfl⟩ : ∃ q, gk = q + 1 := ⟨gk - 1, by omega⟩
      obtain ⟨x, hx⟩ : ∃ x, l[i]? = some x := ⟨_, List.getElem?_eq_getElem (by rw [HW.out.2]; exact hi)⟩
      have hcx := HW.out.1.cells i _ (nsC_at hx)
      have hao : am = some ⟨gm, om, none⟩ := by rcases HW.out.1.lead with e | e; (omega); exact e
      have HX : Aside0 (l[i]? = some x) := ⟨hx⟩
      subst hao
      clear hx
      by_cases he : x.toList = []
      · have HE' : Aside0 (x.data.toList.isEmpty = true) := ⟨by rw [← toList_data, he]; rfl⟩
        go_wp2
        go_roundg q
        case measure => omega
        case rel => exact ⟨rfl, i + 1, by go_num, by omega, ⟨fun j y hj hy => by
          by_cases e : j = i
          · subst e; obtain rfl := Option.some.inj (hy.symm.trans HX.out); exact HE'.out
          · exact hF.out j y (by omega) hy⟩⟩
      · have he' : x.toList.isEmpty = false := by simpa using he
        have A : Aside0 (R = false) := ⟨by
          rw [← HR.out, List.all_eq_false]
          exact ⟨x, List.mem_of_getElem? HX.out, by rw [← toList_data, he']; decide⟩⟩
        go_wp2
        go_ret
        exact ⟨ret_bool A.out.symm, rfl⟩
    · obtain rfl : i = n := by omega
      have hlt : ¬ (i : Int) < (i : Int) := by omega
      have A : Aside0 (R = true) := ⟨by
        rw [← HR.out, List.all_eq_true]
        intro x hx
        obtain ⟨j, hj⟩ := List.mem_iff_getElem?.1 hx
        exact hF.out j x (by have := (List.getElem?_eq_some_iff.1 hj).1; rw [HW.out.2] at this; exact this) hj⟩
      go_wp2
      go_ret
      exact ⟨ret_bool A.out.symm, rfl⟩
end Go.Proofs.YthkmdmobeadigaaDoor.lg
