/- A region that draws its order, loads beside an append and a store that writes what one of them read: the loads are taken first; the cells that they read are asked for only till the step B has come up. No walk here. -/
import Derived.Deep.RegionHeld
import Derived.Deep.RegionLaw
set_option linter.unusedSimpArgs false
namespace Go.Proofs.YtigaacbaaopfmaaDoor.sh
open Go
set_option linter.unusedVariables false
section
variable {P : Program} {ops : Array Oper} {Q : Exit → Act → World → Prop} {md : Region.Mode} {C0 C1 : World → Prop} {B : Nat}
/-- What is asked of the world: C0 always, C1 till step B has come up. -/
def SB (C0 C1 : World → Prop) (B : Nat) (listed : Array Bool) (w : World) : Prop := C0 w ∧ (listed.getD B true = false → C1 w)
def anyL (P : Program) (md : Region.Mode) (ops : Array Oper) (Q : Exit → Act → World → Prop) (C0 C1 : World → Prop) (B : Nat) : Nat → Array Bool → Act → World → Prop
  | 0, listed, a, w => Region.ready md ops listed = [] ∧ Q .normal a w
  | fuel + 1, listed, a, w => (Region.ready md ops listed = [] → Q .normal a w) ∧ ∀ i ∈ Region.ready md ops listed, wpOp P ops Q i (fun a' w' => SB C0 C1 B (listed.setIfInBounds i true) w' ∧ anyL P md ops Q C0 C1 B fuel (listed.setIfInBounds i true) a' w') a w
theorem any_of_L : ∀ (fuel : Nat) (listed : Array Bool) (a : Act) (w : World), anyL P md ops Q C0 C1 B fuel listed a w → wpAny P md ops Q fuel listed a w
  | 0, _, _, _, h => h
  | fuel + 1, _, _, _, h => ⟨h.1, fun i hi => wpOp_mono (fun a' w' h' => any_of_L fuel _ a' w' h'.2) (h.2 i hi)⟩
/-- Whatever has come up, what it waits for has. -/
def Shutd (md : Region.Mode) (ops : Array Oper) (listed : Array Bool) : Prop := listed.size = ops.size ∧ ∀ (j : Nat) (oj : Oper), ops[j]? = some oj → listed.getD j false = true → ∀ e ∈ oj.after, Region.binds md e = true → listed.getD e.on false = true
theorem Shutd.start : Shutd md ops (Array.replicate ops.size false) := ⟨by simp, fun j oj hj h => by
  have hlt := (Array.getElem?_eq_some_iff.1 hj).1
  simp [hlt] at h⟩
theorem Shutd.next {listed : Array Bool} {i : Nat} (h : Shutd md ops listed) (hi : i ∈ Region.ready md ops listed) : Shutd md ops (listed.setIfInBounds i true) := by
  obtain ⟨h0, o, ho, hall⟩ := mem_ready.1 hi
  refine ⟨by simpa using h.1, fun j oj hj hl e he hb => ?_⟩
  by_cases hij : i = j
  · subst hij
    obtain rfl := Option.some.inj (hj.symm.trans ho)
    exact getD_set_true (hall e he hb)
  · rw [getD_set_ne false hij] at hl
    exact getD_set_true (h.2 j oj hj hl e he hb)
/-- Does step B wait for step i, it may be through others? -/
def waits (md : Region.Mode) (ops : Array Oper) (i : Nat) : Nat → Nat → Bool
  | 0, _ => false
  | n + 1, B => match ops[B]? with
    | some o => o.after.any fun e => Region.binds md e && (e.on == i || waits md ops i n e.on)
    | none => false
theorem waits_listed {listed : Array Bool} {i : Nat} (h : Shutd md ops listed) : ∀ (n B : Nat), waits md ops i n B = true → listed.getD B false = true → listed.getD i false = true
  | 0, B, hw, _ => by cases hw
  | n + 1, B, hw, hB => by
    unfold waits at hw
    split at hw
    · next o ho =>
      obtain ⟨e, he, hb⟩ := Array.any_eq_true'.1 hw
      simp only [Bool.and_eq_true, Bool.or_eq_true, beq_iff_eq] at hb
      have h1 := h.2 B o ho hB e he hb.1
      rcases hb.2 with h2 | h2
      · rw [← h2]; exact h1
      · exact waits_listed h n e.on h2 h1
    · cases hw
theorem waits_some {i : Nat} : ∀ (n B : Nat), waits md ops i n B = true → B < ops.size
  | 0, B, hw => by cases hw
  | n + 1, B, hw => by
    unfold waits at hw
    split at hw
    · next o ho => exact (Array.getElem?_eq_some_iff.1 ho).1
    · cases hw
theorem unlisted {listed : Array Bool} {i n : Nat} (h : Shutd md ops listed) (hw : waits md ops i n B = true) (hi : listed.getD i true = false) : listed.getD B true = false := by
  have hlt : B < listed.size := by rw [h.1]; exact waits_some n B hw
  cases hB : listed.getD B true with
  | false => rfl
  | true =>
    have hB2 : listed.getD B false = true := by simp [hlt] at hB ⊢; exact hB
    have := waits_listed h n B hw hB2
    rcases Nat.lt_or_ge i listed.size with h' | h'
    · simp [h'] at this hi; rw [hi] at this; cases this
    · simp [Array.getElem?_eq_none h'] at hi
theorem anyL_first {S0 : World → Prop} {i : Nat} {oi : Oper} {v : Value} (hi : ops[i]? = some oi) (hsel : ∀ (j : Nat) (o : Oper) cs b, ops[j]? = some o → o.op ≠ .select cs b)
    (hQ : ∀ c a w, Q (.panic c) (a.put oi.dst v) w → Q (.panic c) a w) (hiB : i ≠ B)
    (h0 : ∀ listed w, Shutd md ops listed → listed.getD i true = false → SB C0 C1 B listed w → S0 w) :
    ∀ (fuel : Nat) (listed : Array Bool) (a : Act) (w : World), Shutd md ops listed →
      (∀ j oj, ops[j]? = some oj → j ≠ i → listed.getD j true = false → (∀ e ∈ oj.after, Region.binds md e = true → e.on ≠ i) → oi.apart ops oj = true) →
      i ∈ Region.ready md ops listed → YieldsIf P ops S0 oi v a → SB C0 C1 B listed w →
      anyL P md ops Q C0 C1 B fuel (listed.setIfInBounds i true) (a.put oi.dst v) w → anyL P md ops Q C0 C1 B (fuel + 1) listed a w := by
  have same : ∀ (listed : Array Bool) w, SB C0 C1 B (listed.setIfInBounds i true) w ↔ SB C0 C1 B listed w := fun listed w => by
    unfold SB; rw [getD_set_ne true hiB]
  intro fuel
  induction fuel with
  | zero =>
    intro listed a w hsh _ hr hy hS H
    refine ⟨fun h => (by rw [h] at hr; cases hr), fun j hj => ?_⟩
    by_cases hji : j = i
    · subst hji; exact hy.wpOp hi (h0 _ _ hsh (mem_ready.1 hr).1 hS) ⟨(same _ _).2 hS, H⟩
    · have := ready_mono hj hji
      rw [H.1] at this
      cases this
  | succ fuel ih =>
    intro listed a w hsh hfree hr hy hS H
    refine ⟨fun h => (by rw [h] at hr; cases hr), fun j hj => ?_⟩
    by_cases hji : j = i
    · subst hji; exact hy.wpOp hi (h0 _ _ hsh (mem_ready.1 hr).1 hS) ⟨(same _ _).2 hS, H⟩
    · have h1 := H.2 j (ready_mono hj hji)
      obtain ⟨hjun, oj, hoj, hall⟩ := mem_ready.1 hj
      have hnot : ∀ e ∈ oj.after, Region.binds md e = true → e.on ≠ i := fun e he hb heq => by
        have h1 := hall e he hb
        have h0 := (mem_ready.1 hr).1
        rw [heq] at h1
        rcases Nat.lt_or_ge i listed.size with h' | h'
        · simp [h'] at h0 h1; rw [h0] at h1; cases h1
        · simp [Array.getElem?_eq_none h'] at h1
      have h2 := wpOp_putIf hoj (hfree j oj hoj hji hjun hnot) (fun cs b => hsel i oi cs b hi) (fun cs b => hsel j oj cs b hoj) hQ hy h1
      have hfree' : ∀ k ok, ops[k]? = some ok → k ≠ i → (listed.setIfInBounds j true).getD k true = false →
          (∀ e ∈ ok.after, Region.binds md e = true → e.on ≠ i) → oi.apart ops ok = true := fun k ok hk hki hun hno => by
        refine hfree k ok hk hki ?_ hno
        by_cases hjk : j = k
        · subst hjk; exact hjun
        · rw [getD_set_ne true hjk] at hun; exact hun
      refine wpOp_mono (fun a' w' h3 => ?_) h2
      have e := Array.setIfInBounds_comm (xs := listed) true true hji
      obtain ⟨q1, q2, q3⟩ := h3
      rw [← e] at q2 q3
      exact ⟨(same _ _).1 q2, ih (listed.setIfInBounds j true) a' w' (hsh.next hj) hfree' (ready_mono hr (Ne.symm hji)) q1 ((same _ _).1 q2) q3⟩
/-- Step i, which reads what C0 tells, is taken first. -/
theorem anyL_take {i : Nat} {oi : Oper} {v : Value} {fuel : Nat} {listed : Array Bool} {a : Act} {w : World} (hi : ops[i]? = some oi)
    (hs : Region.noSelect ops = true) (hf : Region.free md ops listed i = true) (hr : (Region.ready md ops listed).contains i = true) (hiB : i ≠ B) (hsh : Shutd md ops listed)
    (hQ : ∀ c a w, Q (.panic c) (a.put oi.dst v) w → Q (.panic c) a w) (hy : YieldsIf P ops C0 oi v a) (hS : SB C0 C1 B listed w)
    (h : Shutd md ops (listed.setIfInBounds i true) → SB C0 C1 B (listed.setIfInBounds i true) w → anyL P md ops Q C0 C1 B fuel (listed.setIfInBounds i true) (a.put oi.dst v) w) : anyL P md ops Q C0 C1 B (fuel + 1) listed a w :=
  anyL_first hi (Region.noSelect_spec hs) hQ hiB (fun l w' _ _ h => h.1) fuel listed a w hsh (Region.free_spec hi hf) (by simpa using hr) hy hS (h (hsh.next (by simpa using hr)) (by unfold SB at hS ⊢; rw [getD_set_ne true hiB]; exact hS))
/-- Step i, which reads what C1 tells, is taken first: step B waits for it. -/
theorem anyL_take1 (n : Nat) {i : Nat} {oi : Oper} {v : Value} {fuel : Nat} {listed : Array Bool} {a : Act} {w : World} (hi : ops[i]? = some oi)
    (hs : Region.noSelect ops = true) (hf : Region.free md ops listed i = true) (hr : (Region.ready md ops listed).contains i = true) (hiB : i ≠ B) (hwt : waits md ops i n B = true) (hsh : Shutd md ops listed)
    (hQ : ∀ c a w, Q (.panic c) (a.put oi.dst v) w → Q (.panic c) a w) (hy : YieldsIf P ops C1 oi v a) (hS : SB C0 C1 B listed w)
    (h : Shutd md ops (listed.setIfInBounds i true) → SB C0 C1 B (listed.setIfInBounds i true) w → anyL P md ops Q C0 C1 B fuel (listed.setIfInBounds i true) (a.put oi.dst v) w) : anyL P md ops Q C0 C1 B (fuel + 1) listed a w :=
  anyL_first hi (Region.noSelect_spec hs) hQ hiB (fun l w' hl hu h => h.2 (unlisted hl hwt hu)) fuel listed a w hsh (Region.free_spec hi hf) (by simpa using hr) hy hS (h (hsh.next (by simpa using hr)) (by unfold SB at hS ⊢; rw [getD_set_ne true hiB]; exact hS))
/-- One step alone may come up. -/
theorem anyL_one {i : Nat} {o : Oper} {fuel : Nat} {listed : Array Bool} {a : Act} {w : World} (hr : Region.ready md ops listed = [i]) (ho : ops[i]? = some o) (hsh : Shutd md ops listed)
    (h : ∀ K' : Act → World → Prop, Shut (∀ a w, SB C0 C1 B (listed.setIfInBounds i true) w → (Shutd md ops (listed.setIfInBounds i true) → SB C0 C1 B (listed.setIfInBounds i true) w → anyL P md ops Q C0 C1 B fuel (listed.setIfInBounds i true) a w) → K' a w) → if Region.wanted o (yielded ops a.tmps) = true then Oper.wp P o a w K' Q else K' (a.put o.dst undef) w) : anyL P md ops Q C0 C1 B (fuel + 1) listed a w := by
  refine ⟨fun h0 => absurd (h0.symm.trans hr) (by simp), fun j hj => ?_⟩
  rw [hr] at hj
  obtain rfl : j = i := by simpa using hj
  exact wpOp_step ho (fun K' hK => h K' (fun a w hS hW => hK a w ⟨hS, hW (hsh.next (by rw [hr]; simp)) hS⟩))
theorem anyL_done {listed : Array Bool} {a : Act} {w : World} (hr : Region.ready md ops listed = []) (h : Q .normal a w) : ∀ fuel, anyL P md ops Q C0 C1 B fuel listed a w
  | 0 => ⟨hr, h⟩
  | _ + 1 => ⟨fun _ => h, by rw [hr]; simp⟩
/-- The beginning. -/
theorem wp_region_L {id : Nat} {a : Act} {w : World} (C0 C1 : World → Prop) (B : Nat) (hm : P.follows .mixedOrders = true) (h0 : C0 w.drew) (h1 : C1 w.drew)
    (h : Shutd .any ops (Array.replicate ops.size false) → SB C0 C1 B (Array.replicate ops.size false) w.drew → anyL P .any ops Q C0 C1 B ops.size (Array.replicate ops.size false) a w.drew) : (Code.region id ops true).wp P Q a w :=
  wp_region_any hm (any_of_L _ _ _ _ (h .start ⟨h0, fun _ => h1⟩))
theorem cell_alloc {w : World} {a : Addr} {u : Value} (o : Obj) (h : w.cell? a = some u) : (w.alloc o).cell? a = some u := by
  rw [World.cell?_alloc_some _ _ _ (by simp [h])]; exact h
end
end Go.Proofs.YtigaacbaaopfmaaDoor.sh
