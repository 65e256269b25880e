/- Overrides as plain lists: which is refused with which error; what a map of them holds. -/
import Derived.Test.YtabdkfmfenpkjaaDoorProg
import Derived.Maps.OwnSet
import Derived.Below
import Derived.KernelRfl
namespace Go.Proofs.YtabdkfmfenpkjaaDoor.ov
open Go.RowKit Go.Maps
/-- An override: its key, its hash. -/
abbrev Ov := ByteArray × Int
def hasK (l : List Ov) (s : ByteArray) : Bool := l.any fun x => decide (x.1 = s)
def valK (l : List Ov) (s : ByteArray) : Int := match l.find? fun x => decide (x.1 = s) with | some x => x.2 | none => 0
def Distinct : List Ov → Prop
  | [] => True
  | x :: l => hasK l x.1 = false ∧ Distinct l
/-- One override behind the others: its error. -/
def fcode (pre : List Ov) (x : Ov) : Int := if x.1.size = 0 ∨ 128 < x.1.size then 41 else if hasK pre x.1 then 42 else 0
def first : List Ov → List Ov → Int
  | _, [] => 0
  | pre, x :: l => if fcode pre x = 0 then first (pre ++ [x]) l else fcode pre x
def ncode (l : List Ov) : Int := if 64 < l.length then 40 else first [] l
theorem hasK_append (l r : List Ov) (s : ByteArray) : hasK (l ++ r) s = (hasK l s || hasK r s) := by simp [hasK]
theorem hasK_one (x : Ov) (s : ByteArray) : hasK [x] s = decide (x.1 = s) := by simp [hasK]
theorem distinct_snoc : ∀ {l : List Ov} {x : Ov}, Distinct l → hasK l x.1 = false → Distinct (l ++ [x])
  | [], x, _, _ => ⟨rfl, trivial⟩
  | y :: l, x, h, k => by
    have hk : decide (y.1 = x.1) = false ∧ hasK l x.1 = false := by simpa [hasK, List.any_cons, Bool.or_eq_false_iff] using k
    refine ⟨?_, distinct_snoc h.2 hk.2⟩
    show hasK (l ++ [x]) y.1 = false
    rw [hasK_append, hasK_one, h.1, Bool.false_or]
    have := hk.1
    simp only [decide_eq_false_iff_not] at this ⊢
    exact fun e => this e.symm
theorem valK_snoc (l : List Ov) (x : Ov) (s : ByteArray) : valK (l ++ [x]) s = if hasK l s then valK l s else if x.1 = s then x.2 else 0 := by
  unfold valK hasK
  rw [List.find?_append]
  cases h : l.find? fun x => decide (x.1 = s) with
  | some y =>
    have : (l.any fun x => decide (x.1 = s)) = true := by
      rw [List.any_eq_true]
      exact ⟨y, List.mem_of_find?_eq_some h, by have := List.find?_some h; exact this⟩
    simp [this]
  | none =>
    have : (l.any fun x => decide (x.1 = s)) = false := by
      rw [List.any_eq_false]
      exact fun y hy => List.find?_eq_none.1 h y hy
    rw [this]
    by_cases e : x.1 = s <;> simp [e]
theorem valK_get : ∀ {l : List Ov}, Distinct l → ∀ {j : Nat} {x : Ov}, l[j]? = some x → hasK l x.1 = true ∧ valK l x.1 = x.2
  | [], _, j, x, hj => by simp at hj
  | y :: l, hd, 0, x, hj => by
    simp at hj; subst hj
    simp [hasK, valK]
  | y :: l, hd, j + 1, x, hj => by
    have h := valK_get hd.2 (j := j) (x := x) (by simpa using hj)
    have hne : ¬ y.1 = x.1 := fun e => by
      have := hd.1
      rw [e, h.1] at this
      cases this
    refine ⟨?_, ?_⟩
    · show ((decide (y.1 = x.1)) || hasK l x.1) = true
      rw [h.1, Bool.or_true]
    · unfold valK
      rw [List.find?_cons, decide_eq_false hne]
      exact h.2
/-- A key as a map's literal. -/
def kl (s : ByteArray) : Lit := .string s.data.toList
theorem kl_key (s : ByteArray) : WideAt.IsKeyLit (kl s) := by unfold kl; exact trivial
theorem kl_inj {s t : ByteArray} (h : kl s = kl t) : s = t := by
  have h1 : s.data.toList = t.data.toList := by simpa [kl] using h
  cases s; cases t
  simp only [ByteArray.mk.injEq]
  exact Array.toList_inj.1 h1
def Dm (l : List Ov) : DataW Unit := l.foldl (fun D x => D.put (kl x.1) (.lit (.int .u64 x.2))) (.map [])
theorem Dm_snoc (l : List Ov) (x : Ov) : Dm (l ++ [x]) = (Dm l).put (kl x.1) (.lit (.int .u64 x.2)) := by
  unfold Dm; rw [List.foldl_append]; rfl
theorem isMap_put {D : DataW Unit} (h : IsMap D) (k : Lit) (d : DataW Unit) : IsMap (D.put k d) := by
  obtain ⟨es, rfl⟩ := h
  exact ⟨_, rfl⟩
theorem snoc_ind {p : List Ov → Prop} (h0 : p []) (h1 : ∀ l x, p l → p (l ++ [x])) (l : List Ov) : p l := by
  have : ∀ r : List Ov, p r.reverse := by
    intro r
    induction r with
    | nil => exact h0
    | cons x r ih => rw [List.reverse_cons]; exact h1 _ _ ih
  have h := this l.reverse
  rwa [List.reverse_reverse] at h
theorem Dm_isMap (l : List Ov) : IsMap (Dm l) := by
  refine snoc_ind (p := fun l => IsMap (Dm l)) isMap_empty (fun l x ih => ?_) l
  show IsMap (Dm (l ++ [x]))
  rw [Dm_snoc]; exact isMap_put ih _ _
theorem Dm_has (l : List Ov) (s : ByteArray) : Maps.has (Dm l) (kl s) = hasK l s := by
  refine snoc_ind (p := fun l => Maps.has (Dm l) (kl s) = hasK l s) rfl (fun l x ih => ?_) l
  show Maps.has (Dm (l ++ [x])) (kl s) = hasK (l ++ [x]) s
  rw [Dm_snoc, hasK_append, hasK_one]
  by_cases e : x.1 = s
  · rw [← e, has_put_same (Dm_isMap l) (kl_key _)]; simp
  · rw [has_put_other (fun h => e (kl_inj h).symm), ih, decide_eq_false e, Bool.or_false]
theorem Dm_val (l : List Ov) (hd : Distinct l) (s : ByteArray) : (Dm l).atKey (kl s) (.lit (.int .u64 0)) = .lit (.int .u64 (valK l s)) := by
  have : ∀ l : List Ov, (∀ (a : List Ov) (x : Ov) (b : List Ov), l = a ++ x :: b → hasK a x.1 = false) → (Dm l).atKey (kl s) (.lit (.int .u64 0)) = .lit (.int .u64 (valK l s)) := by
    intro l
    refine snoc_ind (p := fun l => (∀ (a : List Ov) (x : Ov) (b : List Ov), l = a ++ x :: b → hasK a x.1 = false) → (Dm l).atKey (kl s) (.lit (.int .u64 0)) = .lit (.int .u64 (valK l s))) (fun _ => rfl) (fun l x ih h => ?_) l
    show (Dm (l ++ [x])).atKey (kl s) (.lit (.int .u64 0)) = .lit (.int .u64 (valK (l ++ [x]) s))
    have hx := h l x [] rfl
    have ih' := ih (fun a y b e => h a y (b ++ [x]) (by rw [e]; simp))
    rw [Dm_snoc, valK_snoc]
    by_cases e : x.1 = s
    · rw [← e, atKey_put_same (Dm_isMap l) (kl_key _), hx]; simp
    · rw [atKey_put_other (fun h => e (kl_inj h).symm), ih', if_neg e]
      by_cases hh : hasK l s = true
      · rw [if_pos hh]
      · rw [if_neg hh]
        have : l.find? (fun x => decide (x.1 = s)) = none := by
          rw [List.find?_eq_none]
          intro y hy hys
          exact hh (by unfold hasK; rw [List.any_eq_true]; exact ⟨y, hy, hys⟩)
        unfold valK; rw [this]
  refine this l (fun a x b e => ?_)
  subst e
  induction a with
  | nil => rfl
  | cons y a ih =>
    have h1 := hd.1
    show (decide (y.1 = x.1) || hasK a x.1) = false
    rw [ih hd.2, Bool.or_false]
    rw [show a.append (x :: b) = a ++ x :: b from rfl, hasK_append] at h1
    have h2 : hasK (x :: b) y.1 = false := (Bool.or_eq_false_iff.1 h1).2
    have h3 : (decide (x.1 = y.1) || hasK b y.1) = false := h2
    have h4 := (Bool.or_eq_false_iff.1 h3).1
    simp only [decide_eq_false_iff_not] at h4 ⊢
    exact fun e => h4 e.symm
end Go.Proofs.YtabdkfmfenpkjaaDoor.ov
