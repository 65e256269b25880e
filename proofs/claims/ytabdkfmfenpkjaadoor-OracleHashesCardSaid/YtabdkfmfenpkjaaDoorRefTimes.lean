/- The document's product of two numbers of four digits, walked: its digits as a fold. -/
import Derived.Test.YtabdkfmfenpkjaaDoorRef
import Derived.Deep.LoopGhost
import Derived.Deep.OwnRows
namespace Go.Proofs.YtabdkfmfenpkjaaDoor.ref
open Go.RowKit Go.Proofs.YtabdkfmfenpkjaaDoorW.PrintWords
set_option linter.unusedVariables false
/-- One step of the product: at digit i + j. -/
def tval (A B : Nat → Int) (i j : Nat) (s : (Nat → Int) × Int) : Int := s.1 (i + j) + A i * B j + s.2
def tstep (A B : Nat → Int) (i j : Nat) (s : (Nat → Int) × Int) : (Nat → Int) × Int :=
  (fun k => if k = i + j then tval A B i j s % 65536 else s.1 k, tval A B i j s / 65536)
def inner (A B : Nat → Int) (i : Nat) (s : (Nat → Int) × Int) : Nat → (Nat → Int) × Int
  | 0 => s
  | j + 1 => tstep A B i j (inner A B i s j)
def outer (A B : Nat → Int) : Nat → Nat → Int
  | 0 => fun _ => 0
  | i + 1 => (inner A B i (outer A B i, 0) (4 - i)).1
def Digs (A : Nat → Int) : Prop := ∀ k, 0 ≤ A k ∧ A k < 65536
theorem prodb {a b : Int} (ha : 0 ≤ a ∧ a < 65536) (hb : 0 ≤ b ∧ b < 65536) : 0 ≤ a * b ∧ a * b ≤ 4294836225 := by
  refine ⟨Int.mul_nonneg ha.1 hb.1, ?_⟩
  have h1 : a * b ≤ 65535 * b := Int.mul_le_mul_of_nonneg_right (by omega) hb.1
  omega
theorem tstep_ok {A B : Nat → Int} (hA : Digs A) (hB : Digs B) {i j : Nat} {s : (Nat → Int) × Int} (h : Digs s.1 ∧ 0 ≤ s.2 ∧ s.2 < 65536) :
    Digs (tstep A B i j s).1 ∧ 0 ≤ (tstep A B i j s).2 ∧ (tstep A B i j s).2 < 65536 := by
  have hp := prodb (hA i) (hB j)
  have hc := h.1 (i + j)
  have hv : tval A B i j s = s.1 (i + j) + A i * B j + s.2 := rfl
  refine ⟨fun k => ?_, ?_, ?_⟩
  · show 0 ≤ (if k = i + j then tval A B i j s % 65536 else s.1 k) ∧ (if k = i + j then tval A B i j s % 65536 else s.1 k) < 65536
    split
    · omega
    · exact h.1 k
  · show 0 ≤ tval A B i j s / 65536
    rw [hv]; omega
  · show tval A B i j s / 65536 < 65536
    rw [hv]; omega
theorem inner_ok {A B : Nat → Int} (hA : Digs A) (hB : Digs B) {i : Nat} {s : (Nat → Int) × Int} (h : Digs s.1 ∧ 0 ≤ s.2 ∧ s.2 < 65536) : ∀ j, Digs (inner A B i s j).1 ∧ 0 ≤ (inner A B i s j).2 ∧ (inner A B i s j).2 < 65536
  | 0 => h
  | j + 1 => tstep_ok hA hB (inner_ok hA hB h j)
theorem outer_ok {A B : Nat → Int} (hA : Digs A) (hB : Digs B) : ∀ i, Digs (outer A B i)
  | 0 => fun _ => ⟨Int.le_refl _, by unfold outer; decide⟩
  | i + 1 => (inner_ok hA hB ⟨outer_ok hA hB i, Int.le_refl _, (by decide : (0:Int) < 65536)⟩ _).1
def iv (f : Nat → Int) : Nat → Value := fun k => .int .i64 (f k)
/-- What holds of the world in the loops: the two arguments' copies, the result's cell, the digits so far. -/
structure Tm (w wr : World) (A B C : Nat → Int) : Prop where
  below : Below w.heap.size w wr
  ra : wr.rowIs w.heap.size 49 4 (iv A)
  rb : wr.rowIs (w.heap.size + 1) 49 4 (iv B)
  rr : wr.rowIs (w.heap.size + 1 + 1) 49 4 (iv fun _ => 0)
  rc : wr.rowIs (w.heap.size + 1 + 1 + 1) 49 4 (iv C)
theorem four (f : Nat → Value) (i : Nat) (h : i < (#[f 0, f 1, f 2, f 3] : Array Value).size) : (#[f 0, f 1, f 2, f 3] : Array Value)[i]? = some (f i) := by
  have h4 : i < 4 := h
  match i, h4 with
  | 0, _ => rfl
  | 1, _ => rfl
  | 2, _ => rfl
  | 3, _ => rfl
theorem row4 {w : World} {b : Nat} {t : TypeId} {f : Nat → Value} (h : w.rowIs b t 4 f) : w.heap[b]? = some (.cells #[f 0, f 1, f 2, f 3] t (0, 0)) := by
  obtain ⟨c, hb, hn, hc⟩ := h
  rw [hb]
  have : c = #[f 0, f 1, f 2, f 3] := by
    apply Array.ext (by simpa using hn)
    intro i h1 h2
    have e := hc i (by omega)
    rw [Array.getElem?_eq_getElem h1, ← four f i h2, Array.getElem?_eq_getElem h2] at e
    exact Option.some.inj e
  rw [this]
theorem Tm.start (w : World) (A B : Nat → Int) : Tm w ((((w.alloc (.cells #[.int .i64 (A 0), .int .i64 (A 1), .int .i64 (A 2), .int .i64 (A 3)] 49)).alloc (.cells #[.int .i64 (B 0), .int .i64 (B 1), .int .i64 (B 2), .int .i64 (B 3)] 49)).alloc
    (.cells #[.int .i64 0, .int .i64 0, .int .i64 0, .int .i64 0] 49)).alloc (.cells #[.int .i64 0, .int .i64 0, .int .i64 0, .int .i64 0] 49)) A B (outer A B 0) := by
  refine ⟨((((Below.refl _ _).alloc (Nat.le_refl _) _).alloc (by simp) _).alloc (by simp; omega) _).alloc (by simp; omega) _, ?_, ?_, ?_, ?_⟩
  · exact (((World.rowIs_alloc w _ 49 (iv A) (four (iv A))).alloc _).alloc _).alloc _
  · have h := ((World.rowIs_alloc (w.alloc (.cells #[.int .i64 (A 0), .int .i64 (A 1), .int .i64 (A 2), .int .i64 (A 3)] 49)) _ 49 (iv B) (four (iv B))).alloc (.cells #[.int .i64 0, .int .i64 0, .int .i64 0, .int .i64 0] 49)).alloc (.cells #[.int .i64 0, .int .i64 0, .int .i64 0, .int .i64 0] 49)
    rw [show (w.alloc (.cells #[.int .i64 (A 0), .int .i64 (A 1), .int .i64 (A 2), .int .i64 (A 3)] 49)).heap.size = w.heap.size + 1 by simp] at h
    exact h
  · have h := (World.rowIs_alloc ((w.alloc (.cells #[.int .i64 (A 0), .int .i64 (A 1), .int .i64 (A 2), .int .i64 (A 3)] 49)).alloc (.cells #[.int .i64 (B 0), .int .i64 (B 1), .int .i64 (B 2), .int .i64 (B 3)] 49)) _ 49 (iv fun _ => 0) (four (iv fun _ => 0))).alloc (.cells #[.int .i64 0, .int .i64 0, .int .i64 0, .int .i64 0] 49)
    rw [show ((w.alloc (.cells #[.int .i64 (A 0), .int .i64 (A 1), .int .i64 (A 2), .int .i64 (A 3)] 49)).alloc (.cells #[.int .i64 (B 0), .int .i64 (B 1), .int .i64 (B 2), .int .i64 (B 3)] 49)).heap.size = w.heap.size + 1 + 1 by simp] at h
    exact h
  · have h := World.rowIs_alloc (((w.alloc (.cells #[.int .i64 (A 0), .int .i64 (A 1), .int .i64 (A 2), .int .i64 (A 3)] 49)).alloc (.cells #[.int .i64 (B 0), .int .i64 (B 1), .int .i64 (B 2), .int .i64 (B 3)] 49)).alloc (.cells #[.int .i64 0, .int .i64 0, .int .i64 0, .int .i64 0] 49)) _ 49 (iv fun _ => 0) (four (iv fun _ => 0))
    rw [show (((w.alloc (.cells #[.int .i64 (A 0), .int .i64 (A 1), .int .i64 (A 2), .int .i64 (A 3)] 49)).alloc (.cells #[.int .i64 (B 0), .int .i64 (B 1), .int .i64 (B 2), .int .i64 (B 3)] 49)).alloc (.cells #[.int .i64 0, .int .i64 0, .int .i64 0, .int .i64 0] 49)).heap.size = w.heap.size + 1 + 1 + 1 by simp] at h
    exact h
theorem Tm.set {w wr : World} {A B C C' : Nat → Int} (h : Tm w wr A B C) (k : Nat) (v : Int) (e : ∀ i, i < 4 → C' i = if i = k then v else C i) : Tm w (wr.setCell ⟨w.heap.size + 1 + 1 + 1, k, none⟩ (.int .i64 v)).drew A B C' :=
  ⟨(h.below.setCell (by show w.heap.size ≤ w.heap.size + 1 + 1 + 1; omega) _).drew, (h.ra.setOther (by show w.heap.size ≠ w.heap.size + 1 + 1 + 1; omega) _).drew, (h.rb.setOther (by show w.heap.size + 1 ≠ w.heap.size + 1 + 1 + 1; omega) _).drew,
    (h.rr.setOther (by show w.heap.size + 1 + 1 ≠ w.heap.size + 1 + 1 + 1; omega) _).drew, ((h.rc.set k _).congr (fun i hi => by unfold iv; rw [e i hi]; split <;> rfl)).drew⟩
set_option maxHeartbeats 8000000 in
set_option maxRecDepth 100000 in
theorem times_walk (A B : Nat → Int) (hA : Digs A) (hB : Digs B) (w : World) :
    Calls Tryd.prog 18 #[num (A 0) (A 1) (A 2) (A 3), num (B 0) (B 1) (B 2) (B 3)] w fun e w' => e = .returned (num (outer A B 4 0) (outer A B 4 1) (outer A B 4 2) (outer A B 4 3)) ∧ Below w.heap.size w w' := by
  have hst := Tm.start w A B
  go_enter Tryd.func18, Tryd.ntmps18
  go_wp2
  go_loopg [6] 4 (fun g i wr => ∃ k : Nat, k ≤ 4 ∧ g = 4 - k ∧ i = .int .i64 k ∧ Tm w wr A B (outer A B k))
  case atStart => exact ⟨0, by omega, rfl, rfl, hst⟩
  case round =>
    obtain ⟨i, hi, rfl, rfl, hT⟩ := hrel
    clear hst
    by_cases h4 : i < 4
    · have hd : decide ((i : Int) < 4) = true := decide_eq_true (by omega)
      go_wp2
      go_loopg [7, 8] (4 - i) (fun g c j wi => ∃ m : Nat, m ≤ 4 - i ∧ g = 4 - i - m ∧ c = .int .i64 (inner A B i (outer A B i, 0) m).2 ∧ j = .int .i64 m ∧ Tm w wi A B (inner A B i (outer A B i, 0) m).1)
      case atStart => exact ⟨0, by omega, rfl, rfl, rfl, hT⟩
      case round =>
        obtain ⟨m, hm, rfl, rfl, rfl, hI⟩ := hrel
        clear hT
        have hok := inner_ok hA hB (i := i) (s := (outer A B i, 0)) ⟨outer_ok hA hB i, Int.le_refl _, (by decide : (0:Int) < 65536)⟩ m
        have hnext : inner A B i (outer A B i, 0) (m + 1) = tstep A B i m (inner A B i (outer A B i, 0) m) := rfl
        have hlast : 4 - i = m → outer A B (i + 1) = (inner A B i (outer A B i, 0) m).1 := fun e => by rw [← e]; rfl
        obtain ⟨S', hTT⟩ : ∃ S', inner A B i (outer A B i, 0) (m + 1) = S' := ⟨_, rfl⟩
        rw [hTT] at hnext
        generalize inner A B i (outer A B i, 0) m = S at hI hok hnext hlast ⊢
        by_cases hlt : i + m < 4
        · have hd2 : decide ((i : Int) + (m : Int) < 4) = true := decide_eq_true (by omega)
          have hlt' : ((i + m : Nat) : Int) < 4 := by omega
          have hc1 : wr.cell? ⟨w.heap.size + 1 + 1 + 1, i + m, none⟩ = some (.int .i64 (S.1 (i + m))) := hI.rc.cell hlt
          have ha1 : wr.cell? ⟨w.heap.size, i, none⟩ = some (.int .i64 (A i)) := hI.ra.cell h4
          have hb1 : wr.cell? ⟨w.heap.size + 1, m, none⟩ = some (.int .i64 (B m)) := hI.rb.cell (by omega)
          have hf1 : wr.frozen? ⟨w.heap.size + 1 + 1 + 1, i + m, none⟩ = false := hI.rc.frozen _
          have hset := fun v => hI.set (C' := S'.1) (i + m) v
          obtain ⟨bc0, bc1⟩ := hok.1 (i + m)
          obtain ⟨by0, by1⟩ := hok.2
          obtain ⟨bp0, bp1⟩ := prodb (hA i) (hB m)
          have hv : tval A B i m S = S.1 (i + m) + A i * B m + S.2 := rfl
          have hS' : S'.2 = tval A B i m S / 65536 := by rw [hnext]; rfl
          have hS1 : ∀ k, S'.1 k = if k = i + m then tval A B i m S % 65536 else S.1 k := fun k => by rw [hnext]; rfl
          generalize tval A B i m S = t at hv hS' hS1
          obtain ⟨C, cy⟩ := S
          simp only at hc1 hset bc0 bc1 by0 by1 hv hS1
          obtain ⟨x, hx⟩ : ∃ x, C (i + m) = x := ⟨_, rfl⟩
          obtain ⟨y, hy⟩ : ∃ y, A i = y := ⟨_, rfl⟩
          obtain ⟨z, hz⟩ : ∃ z, B m = z := ⟨_, rfl⟩
          rw [hx] at hc1 bc0 bc1 hv
          rw [hy] at ha1 bp0 bp1 hv
          rw [hz] at hb1 bp0 bp1 hv
          obtain ⟨q, hq⟩ : ∃ q, y * z = q := ⟨_, rfl⟩
          rw [hq] at bp0 bp1 hv
          have hv' : x + q + cy = t := hv.symm
          have HN : Aside (S'.2 = t / 65536 ∧ (∀ k, S'.1 k = if k = i + m then t % 65536 else C k) ∧ (4 - i = m → outer A B (i + 1) = C) ∧ (∀ v, (∀ (k : Nat), k < 4 → S'.1 k = if k = i + m then v else C k) → Tm w (wr.setCell ⟨w.heap.size + 1 + 1 + 1, i + m, none⟩ (.int .i64 v)).drew A B S'.1)) := ⟨hS', hS1, hlast, hset⟩
          clear hS' hS1 hlast hset hI hok hnext hv hx hy hz
          go_wp2
          have ht0 : 0 ≤ t := by omega
          go_region
          go_wp2
          go_roundg (4 - i - (m + 1))
          case measure => omega
          case rel =>
            obtain ⟨k1, k2, k3, k4⟩ := HN.out
            refine ⟨m + 1, by omega, rfl, ?_, rfl, ?_⟩
            · rw [hTT]; exact congrArg _ k1.symm
            · rw [hTT]; exact k4 _ (fun k _ => k2 k)
        · have hd2 : decide ((i : Int) + (m : Int) < 4) = false := decide_eq_false (by omega)
          have hI' := hlast (by omega)
          go_wp2
          go_roundg (4 - (i + 1))
          case measure => omega
          case rel => exact ⟨i + 1, by omega, rfl, rfl, by rw [hI']; exact hI⟩
    · have hd : decide ((i : Int) < 4) = false := decide_eq_false (by omega)
      obtain rfl : i = 4 := by omega
      have c0 := hT.rc.cell (i := 0) (by decide)
      have c1 := hT.rc.cell (i := 1) (by decide)
      have c2 := hT.rc.cell (i := 2) (by decide)
      have c3 := hT.rc.cell (i := 3) (by decide)
      have r0 := hT.rr.cell (i := 0) (by decide)
      have r1 := hT.rr.cell (i := 1) (by decide)
      have r2 := hT.rr.cell (i := 2) (by decide)
      have r3 := hT.rr.cell (i := 3) (by decide)
      have f0 := hT.rr.frozen 0
      have f1 := hT.rr.frozen 1
      have f2 := hT.rr.frozen 2
      have f3 := hT.rr.frozen 3
      unfold iv at c0 c1 c2 c3 r0 r1 r2 r3
      go_wp2
      (try simp only [Exit.inBlock, Exit.then])
      have hrow := (((hT.rr.set 0 (.int .i64 (outer A B 4 0))).set 1 (.int .i64 (outer A B 4 1))).set 2 (.int .i64 (outer A B 4 2))).set 3 (.int .i64 (outer A B 4 3))
      refine bodyPost_ret (results_cell_row rfl _ _ (w.heap.size + 1 + 1) 49 #[.int .i64 (outer A B 4 0), .int .i64 (outer A B 4 1), .int .i64 (outer A B 4 2), .int .i64 (outer A B 4 3)] (0, 0) _ rfl (row4 hrow) Tryd.underlying49 rfl (by kernel_rfl)) rfl ?_
      exact ⟨rfl, (((hT.below.setCell (by show w.heap.size ≤ w.heap.size + 1 + 1; omega) _).setCell (by show w.heap.size ≤ w.heap.size + 1 + 1; omega) _).setCell (by show w.heap.size ≤ w.heap.size + 1 + 1; omega) _).setCell (by show w.heap.size ≤ w.heap.size + 1 + 1; omega) _⟩
end Go.Proofs.YtabdkfmfenpkjaaDoor.ref
