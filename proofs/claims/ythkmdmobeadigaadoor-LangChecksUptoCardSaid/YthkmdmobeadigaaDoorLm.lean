/- A map from names to numbers, as a plain list of names. No walk here. -/
import Derived.Test.YthkmdmobeadigaaDoorLp
import Derived.Maps.OwnSet
import Derived.Test.YthkmdmobeadigaaDoorLb
import Derived.StringKeys
namespace Go.Proofs.YthkmdmobeadigaaDoor.lg
open Go.RowKit Go.Maps Go.WideMaps
set_option linter.unusedVariables false
abbrev Nv := ByteArray × Int
def hasK (l : List Nv) (s : ByteArray) : Bool := l.any fun x => decide (x.1 = s)
theorem hasK_append (l r : List Nv) (s : ByteArray) : hasK (l ++ r) s = (hasK l s || hasK r s) := by simp [hasK]
theorem hasK_one (x : Nv) (s : ByteArray) : hasK [x] s = decide (x.1 = s) := by simp [hasK]
/-- A key as a map's literal. -/
def kl (s : ByteArray) : Lit := .string s.data.toList
theorem kl_key (s : ByteArray) : WideAt.IsKeyLit (kl s) := by unfold kl; exact trivial
theorem bytes_inj {s t : ByteArray} (h1 : s.data.toList = t.data.toList) : s = t := by
  cases s; cases t
  simp only [ByteArray.mk.injEq]
  exact Array.toList_inj.1 h1
theorem kl_inj {s t : ByteArray} (h : kl s = kl t) : s = t := bytes_inj (by simpa [kl] using h)
def Dm (l : List Nv) : DataW Unit := l.foldl (fun D x => D.put (kl x.1) (.lit (.int .i64 x.2))) (.map [])
theorem Dm_snoc (l : List Nv) (x : Nv) : Dm (l ++ [x]) = (Dm l).put (kl x.1) (.lit (.int .i64 x.2)) := by
  unfold Dm; rw [List.foldl_append]; rfl
theorem isMap_put {D : DataW Unit} (h : IsMap D) (k : Lit) (d : DataW Unit) : IsMap (D.put k d) := by
  obtain ⟨es, rfl⟩ := h
  exact ⟨_, rfl⟩
theorem snoc_ind {α : Type} {p : List α → Prop} (h0 : p []) (h1 : ∀ l x, p l → p (l ++ [x])) (l : List α) : p l := by
  have : ∀ r : List α, p r.reverse := by
    intro r
    induction r with
    | nil => exact h0
    | cons x r ih => rw [List.reverse_cons]; exact h1 _ _ ih
  have h := this l.reverse
  rwa [List.reverse_reverse] at h
theorem Dm_isMap (l : List Nv) : IsMap (Dm l) := by
  refine snoc_ind (p := fun l => IsMap (Dm l)) isMap_empty (fun l x ih => ?_) l
  show IsMap (Dm (l ++ [x]))
  rw [Dm_snoc]; exact isMap_put ih _ _
theorem Dm_has (l : List Nv) (s : ByteArray) : Maps.has (Dm l) (kl s) = hasK l s := by
  refine snoc_ind (p := fun l => Maps.has (Dm l) (kl s) = hasK l s) rfl (fun l x ih => ?_) l
  show Maps.has (Dm (l ++ [x])) (kl s) = hasK (l ++ [x]) s
  rw [Dm_snoc, hasK_append, hasK_one]
  by_cases e : x.1 = s
  · rw [← e, has_put_same (Dm_isMap l) (kl_key _)]; simp
  · rw [has_put_other (fun h => e (kl_inj h).symm), ih, decide_eq_false e, Bool.or_false]
theorem lawStr : Keyed Tryd.prog 9 := string_keyed Tryd.underlying9
theorem zeroInt (w : World) : (zeroValue 3).run Tryd.prog w = .ok (.int .i64 0) w := by kernel_rfl
theorem hkey (s : ByteArray) (h : s.size ≤ maxLen) : keyOf Tryd.prog 9 (.string s) = some (kl s) := keyOf_string_mk Tryd.underlying9 h
/-- Block m is a map that holds the names l. -/
def Om (w : World) (m : Nat) (l : List Nv) : Prop := w.ownsMap (H := Unit) Tryd.prog 9 (plainElem Tryd.prog 3) m l.length (Dm l)
theorem Om.look {w : World} {m : Nat} {l : List Nv} (h : Om w m l) (s : ByteArray) (hs : s.size ≤ maxLen) :
    ∃ c, (Instr.lookup 61 (.map (some m)) (.string s) true).run Tryd.prog w = .ok (.tuple #[.int .i64 c, .bool (hasK l s)]) w := by
  obtain ⟨v, ps, hrun, hv⟩ := World.ownsMap.look_ok h lawStr Tryd.underlying61 (zeroInt w) (plainElem_int Tryd.underlying3 (by decide)) (hkey s hs)
  obtain ⟨c, rfl, hc, hwc⟩ := plainElem_int_inv Tryd.underlying3 hv
  exact ⟨c, by rw [hrun, Dm_has]⟩
theorem Om.drewN {w : World} {m : Nat} {l : List Nv} (h : Om w m l) (n : Nat) : Om (w.drewN n) m l := h
theorem Om.update {w : World} {m : Nat} {l : List Nv} (h : Om w m l) (x : Nv) (hs : x.1.size ≤ maxLen) (hw : (Lit.int .i64 x.2).wf = true) (hl : l.length < maxLen) :
    ∃ w', (Instr.mapUpdate 61 (.map (some m)) (.string x.1) (.int .i64 x.2)).run Tryd.prog w = .ok () w' ∧ Om w' m (l ++ [x]) ∧ w.grownBy w' (some m) := by
  obtain ⟨w', h1, h2, h3⟩ := World.ownsMap.update h lawStr Tryd.underlying61 hl (hkey x.1 hs) (plainElem_int Tryd.underlying3 hw)
  refine ⟨w', h1, ?_, h3⟩
  unfold Om
  rw [Dm_snoc, List.length_append]
  exact h2
theorem Om.of {w w' : World} {m : Nat} {l : List Nv} (h : Om w m l) (hb : w'.heap[m]? = w.heap[m]?) : Om w' m l := by
  obtain ⟨es, clock, h1, h2, h3, h4⟩ := h
  exact ⟨es, clock, hb.trans h1, h2, h3, h4⟩
theorem Om.lt {w : World} {m : Nat} {l : List Nv} (h : Om w m l) : m < w.heap.size := World.ownsMap.lt h
theorem Om.below {w w' : World} {m B : Nat} {l : List Nv} (h : Om w m l) (k : Below B w w') (hB : w.heap.size ≤ B) : Om w' m l := h.of (k.block _ (Nat.lt_of_lt_of_le h.lt hB))
/-- The names as lists of bytes. -/
def keysL (l : List Nv) : List (List UInt8) := l.map fun x => x.1.data.toList
theorem hasK_keys (l : List Nv) (s : ByteArray) : hasK l s = (keysL l).contains s.data.toList := by
  induction l with
  | nil => rfl
  | cons x l ih =>
    show (decide (x.1 = s) || hasK l s) = _
    rw [ih]
    simp only [keysL, List.map_cons, List.contains_cons]
    congr 1
    rw [Bool.eq_iff_iff, decide_eq_true_eq, beq_iff_eq]
    exact ⟨fun h => by rw [h], fun h => bytes_inj h.symm⟩
end Go.Proofs.YthkmdmobeadigaaDoor.lg
