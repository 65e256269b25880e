import Derived.Test.YtigaacbaaopfmaaDoorMb
import Derived.OneCell
import Derived.Deep.RegionHeld3
import Derived.Test.YtigaacbaaopfmaaDoorRows
import Derived.ProofKit
import Derived.OpenShut
import Derived.ShutString
import Derived.ChangeOld
import Derived.SizedLaws
import Derived.LaidMore
import Derived.Stop.Joined
import Derived.MakeChecks
import Derived.Deep.DeepHandedRow
import Derived.Deep.DeepWitnessRowRef
import Derived.Lib.LaidTab
import Derived.Lib.TrailingZeros
set_option linter.unusedSimpArgs false
/- The rest of an answer's line: the program's, walked. -/
namespace Go.Proofs.YtigaacbaaopfmaaDoor.sh
open Go.RowKit
set_option linter.unusedVariables false
theorem bcell {W w1 : World} (hb : Below W.heap.size W w1) : (∀ b o, b < W.heap.size → w1.cell? ⟨b, o, none⟩ = W.cell? ⟨b, o, none⟩) ∧ (∀ b o, b < W.heap.size → w1.frozen? ⟨b, o, none⟩ = W.frozen? ⟨b, o, none⟩) :=
  ⟨fun b o h => hb.cell (p := ⟨b, o, none⟩) h, fun b o h => hb.frozen (p := ⟨b, o, none⟩) h⟩
abbrev A0 (op : Int) : Ans := ⟨op, 0, 0, 0, false, ⟨#[]⟩, ⟨#[]⟩⟩
def RestP (r : Option Ans) (w : World) (e : Ending) (w' : World) : Prop := ∃ (a : Ans) (ok : Bool), e = .returned (.tuple #[a.v, .bool ok]) ∧ Below w.heap.size w w' ∧ ok = r.isSome ∧ ∀ x, r = some x → a = x
theorem rfin {r : Option Ans} {w w' : World} {a : Ans} {ok : Bool} (hB : Below w.heap.size w w') (h : r = if ok then some a else none) : RestP r w (.returned (.tuple #[a.v, .bool ok])) w' := by
  refine ⟨a, ok, rfl, hB, ?_, ?_⟩
  · rw [h]; cases ok <;> rfl
  · intro x hx; rw [h] at hx; cases ok
    · cases hx
    · exact Option.some.inj hx
/-- Two worlds apart by new blocks and by stores into the new one. -/
theorem below_two {w W w1 : World} (h : Below w.heap.size w W) (k : Below W.heap.size W w1) : Below w.heap.size w w1 := h.trans (k.mono h.size)
theorem results_cell_tmp {P : Program} {fn : Func} {p q : Tmp} {ty : TypeId} (h : fn.results = #[.cell p ty, .tmp q]) (tmps : Array Value) (w : World) (g : Nat) (t : TypeId) (cs : Array Value) (fr : Nat × Nat) (d : TypeDesc) (v : Value)
    (hp : tmps.getD p undef = .pointer (some ⟨g, 0, none⟩)) (hv : tmps.getD q undef = v) (hg : w.heap[g]? = some (.cells cs t fr))
    (hu : P.underlying ty = some d) (hd : (match d with | .struct _ | .array _ _ => true | _ => false) = true) (hi : (P.info? ty).map (·.size) = some cs.size) :
    (results fn tmps).run P w = .ok (.tuple #[.agg cs, v]) w := by
  have hp' : tmps[p]?.getD undef = .pointer (some ⟨g, 0, none⟩) := by simpa using hp
  have hv' : tmps[q]?.getD undef = v := by simpa using hv
  simp [results, h, hp', hv', asAddr, run_loadVar_row w g t ty cs fr d hg hu hd hi]
theorem below_set {B b i : Nat} {a w : World} (h : Below B a w) (hp : B ≤ b) (u : Value) : Below B a (w.setCell ⟨b, i, none⟩ u) := h.setCell hp u
/-- A block of n cells of this type. -/
def Bx (w : World) (g n : Nat) (t : TypeId) : Prop := ∃ cs, w.heap[g]? = some (.cells cs t (0, 0)) ∧ cs.size = n
theorem Bx.new (w : World) (cs : Array Value) (t : TypeId) (n : Nat) (h : cs.size = n) : Bx (w.alloc (.cells cs t)) w.heap.size n t := ⟨cs, heap_alloc_new w _, h⟩
theorem Bx.old {w : World} {g n : Nat} {t : TypeId} (h : Bx w g n t) (o : Obj) : Bx (w.alloc o) g n t := by
  obtain ⟨cs, h1, h2⟩ := h
  have hl : g < w.heap.size := by
    rcases Nat.lt_or_ge g w.heap.size with h | h
    · exact h
    · rw [Array.getElem?_eq_none h] at h1; cases h1
  exact ⟨cs, ((Below.refl w.heap.size w).alloc (Nat.le_refl _) o |>.block g hl).trans h1, h2⟩
theorem Bx.below {w w' : World} {g n : Nat} {t : TypeId} (h : Bx w g n t) (k : Below w.heap.size w w') : Bx w' g n t := by
  obtain ⟨cs, h1, h2⟩ := h
  have hl : g < w.heap.size := by
    rcases Nat.lt_or_ge g w.heap.size with h | h
    · exact h
    · rw [Array.getElem?_eq_none h] at h1; cases h1
  exact ⟨cs, (k.block g hl).trans h1, h2⟩
theorem Bx.set {w : World} {g n : Nat} {t : TypeId} (h : Bx w g n t) (i : Nat) (v : Value) : Bx (w.setCell ⟨g, i, none⟩ v) g n t := by
  obtain ⟨cs, h1, h2⟩ := h
  exact ⟨_, heap_setCell_same w g i cs t v h1, by simpa using h2⟩
theorem Bx.full7 {w : World} {g : Nat} {t : TypeId} (h : Bx w g 7 t) (a0 a1 a2 a3 a4 a5 a6 : Value) :
    (((((((w.setCell ⟨g, 0, none⟩ a0).setCell ⟨g, 1, none⟩ a1).setCell ⟨g, 2, none⟩ a2).setCell ⟨g, 3, none⟩ a3).setCell ⟨g, 4, none⟩ a4).setCell ⟨g, 5, none⟩ a5).setCell ⟨g, 6, none⟩ a6).heap[g]? = some (.cells #[a0, a1, a2, a3, a4, a5, a6] t (0, 0)) := by
  obtain ⟨⟨l⟩, h1, h2⟩ := h
  match l, h2, h1 with
  | [x0, x1, x2, x3, x4, x5, x6], _, h1 =>
    have e0 : (w.setCell ⟨g, 0, none⟩ a0).heap[g]? = some (.cells #[a0, x1, x2, x3, x4, x5, x6] t (0, 0)) := heap_setCell_same w g 0 #[x0, x1, x2, x3, x4, x5, x6] t a0 h1
    have e1 : ((w.setCell ⟨g, 0, none⟩ a0).setCell ⟨g, 1, none⟩ a1).heap[g]? = some (.cells #[a0, a1, x2, x3, x4, x5, x6] t (0, 0)) := heap_setCell_same (w.setCell ⟨g, 0, none⟩ a0) g 1 #[a0, x1, x2, x3, x4, x5, x6] t a1 e0
    have e2 : (((w.setCell ⟨g, 0, none⟩ a0).setCell ⟨g, 1, none⟩ a1).setCell ⟨g, 2, none⟩ a2).heap[g]? = some (.cells #[a0, a1, a2, x3, x4, x5, x6] t (0, 0)) := heap_setCell_same ((w.setCell ⟨g, 0, none⟩ a0).setCell ⟨g, 1, none⟩ a1) g 2 #[a0, a1, x2, x3, x4, x5, x6] t a2 e1
    have e3 : ((((w.setCell ⟨g, 0, none⟩ a0).setCell ⟨g, 1, none⟩ a1).setCell ⟨g, 2, none⟩ a2).setCell ⟨g, 3, none⟩ a3).heap[g]? = some (.cells #[a0, a1, a2, a3, x4, x5, x6] t (0, 0)) := heap_setCell_same (((w.setCell ⟨g, 0, none⟩ a0).setCell ⟨g, 1, none⟩ a1).setCell ⟨g, 2, none⟩ a2) g 3 #[a0, a1, a2, x3, x4, x5, x6] t a3 e2
    have e4 : (((((w.setCell ⟨g, 0, none⟩ a0).setCell ⟨g, 1, none⟩ a1).setCell ⟨g, 2, none⟩ a2).setCell ⟨g, 3, none⟩ a3).setCell ⟨g, 4, none⟩ a4).heap[g]? = some (.cells #[a0, a1, a2, a3, a4, x5, x6] t (0, 0)) := heap_setCell_same ((((w.setCell ⟨g, 0, none⟩ a0).setCell ⟨g, 1, none⟩ a1).setCell ⟨g, 2, none⟩ a2).setCell ⟨g, 3, none⟩ a3) g 4 #[a0, a1, a2, a3, x4, x5, x6] t a4 e3
    have e5 : ((((((w.setCell ⟨g, 0, none⟩ a0).setCell ⟨g, 1, none⟩ a1).setCell ⟨g, 2, none⟩ a2).setCell ⟨g, 3, none⟩ a3).setCell ⟨g, 4, none⟩ a4).setCell ⟨g, 5, none⟩ a5).heap[g]? = some (.cells #[a0, a1, a2, a3, a4, a5, x6] t (0, 0)) := heap_setCell_same (((((w.setCell ⟨g, 0, none⟩ a0).setCell ⟨g, 1, none⟩ a1).setCell ⟨g, 2, none⟩ a2).setCell ⟨g, 3, none⟩ a3).setCell ⟨g, 4, none⟩ a4) g 5 #[a0, a1, a2, a3, a4, x5, x6] t a5 e4
    have e6 : (((((((w.setCell ⟨g, 0, none⟩ a0).setCell ⟨g, 1, none⟩ a1).setCell ⟨g, 2, none⟩ a2).setCell ⟨g, 3, none⟩ a3).setCell ⟨g, 4, none⟩ a4).setCell ⟨g, 5, none⟩ a5).setCell ⟨g, 6, none⟩ a6).heap[g]? = some (.cells #[a0, a1, a2, a3, a4, a5, a6] t (0, 0)) := heap_setCell_same ((((((w.setCell ⟨g, 0, none⟩ a0).setCell ⟨g, 1, none⟩ a1).setCell ⟨g, 2, none⟩ a2).setCell ⟨g, 3, none⟩ a3).setCell ⟨g, 4, none⟩ a4).setCell ⟨g, 5, none⟩ a5) g 6 #[a0, a1, a2, a3, a4, a5, x6] t a6 e5
    exact e6
theorem size24 : (Tryd.prog.info? 24).map (·.size) = some 7 := by kernel_rfl
set_option maxHeartbeats 2000000 in
set_option maxRecDepth 100000 in
theorem rest0_6 (w : World)  (r : Option Ans) (ao : Option Addr) (c : Nat) 
    (hr : r = if true then some (A0 (6)) else none) : Calls Tryd.prog 52 #[.int .i64 6, .slice ao 0 c] w (RestP r w) := by
  have HR : Aside0 (r = if true then some (A0 (6)) else none) := ⟨hr⟩
  clear hr
  go_enter Tryd.func52, Tryd.ntmps52
  go_wp2
  refine bodyPost_ret (v := .tuple #[(A0 (6)).v, .bool (true)]) (by simp [results, Tryd.results52, go_sem]) rfl (rfin ?_ HR.out)
  exact ((Below.refl _ _).alloc (Nat.le_refl _) _)
set_option maxHeartbeats 2000000 in
set_option maxRecDepth 100000 in
theorem rest0_10 (w : World)  (r : Option Ans) (ao : Option Addr) (c : Nat) 
    (hr : r = if true then some (A0 (10)) else none) : Calls Tryd.prog 52 #[.int .i64 10, .slice ao 0 c] w (RestP r w) := by
  have HR : Aside0 (r = if true then some (A0 (10)) else none) := ⟨hr⟩
  clear hr
  go_enter Tryd.func52, Tryd.ntmps52
  go_wp2
  refine bodyPost_ret (v := .tuple #[(A0 (10)).v, .bool (true)]) (by simp [results, Tryd.results52, go_sem]) rfl (rfin ?_ HR.out)
  exact ((Below.refl _ _).alloc (Nat.le_refl _) _)
set_option maxHeartbeats 2000000 in
set_option maxRecDepth 100000 in
theorem rest0_x (w : World) (op : Int) (r : Option Ans) (ao : Option Addr) (c : Nat) (h6 : (op == 6) = false) (h10 : (op == 10) = false)
    (hr : r = if false then some (A0 (op)) else none) : Calls Tryd.prog 52 #[.int .i64 op, .slice ao 0 c] w (RestP r w) := by
  have HR : Aside0 (r = if false then some (A0 (op)) else none) := ⟨hr⟩
  clear hr
  go_enter Tryd.func52, Tryd.ntmps52
  go_wp2
  refine bodyPost_ret (v := .tuple #[(A0 (op)).v, .bool (false)]) (by simp [results, Tryd.results52, go_sem]) rfl (rfin ?_ HR.out)
  exact ((Below.refl _ _).alloc (Nat.le_refl _) _)
set_option maxHeartbeats 2000000 in
set_option maxRecDepth 100000 in
theorem rest1_6 (w : World)  (r : Option Ans) (b o c : Nat) (s0 : ByteArray) (c0 : w.cell? ⟨b, o, none⟩ = some (.string s0)) 
    (hr : r = if false then some (A0 (6)) else none) : Calls Tryd.prog 52 #[.int .i64 6, .slice (some ⟨b, o, none⟩) 1 c] w (RestP r w) := by
  have HR : Aside0 (r = if false then some (A0 (6)) else none) := ⟨hr⟩
  clear hr
  have hbl : b < w.heap.size := World.block_lt_of_cell? _ _ c0
  go_enter Tryd.func52, Tryd.ntmps52
  go_wp2
  refine bodyPost_ret (v := .tuple #[(A0 (6)).v, .bool (false)]) (by simp [results, Tryd.results52, go_sem]) rfl (rfin ?_ HR.out)
  exact ((Below.refl _ _).alloc (Nat.le_refl _) _)
set_option maxHeartbeats 2000000 in
set_option maxRecDepth 100000 in
theorem rest1_10 (w : World)  (r : Option Ans) (b o c : Nat) (s0 : ByteArray) (c0 : w.cell? ⟨b, o, none⟩ = some (.string s0)) 
    (hr : r = if false then some (A0 (10)) else none) : Calls Tryd.prog 52 #[.int .i64 10, .slice (some ⟨b, o, none⟩) 1 c] w (RestP r w) := by
  have HR : Aside0 (r = if false then some (A0 (10)) else none) := ⟨hr⟩
  clear hr
  have hbl : b < w.heap.size := World.block_lt_of_cell? _ _ c0
  go_enter Tryd.func52, Tryd.ntmps52
  go_wp2
  refine bodyPost_ret (v := .tuple #[(A0 (10)).v, .bool (false)]) (by simp [results, Tryd.results52, go_sem]) rfl (rfin ?_ HR.out)
  exact ((Below.refl _ _).alloc (Nat.le_refl _) _)
set_option maxHeartbeats 2000000 in
set_option maxRecDepth 100000 in
theorem rest1_2 (w : World)  (r : Option Ans) (b o c : Nat) (s0 : ByteArray) (c0 : w.cell? ⟨b, o, none⟩ = some (.string s0)) (q : Bool) (hq : (s0.toList == [110, 111]) = q)
    (hr : r = if q then some (A0 (2)) else none) : Calls Tryd.prog 52 #[.int .i64 2, .slice (some ⟨b, o, none⟩) 1 c] w (RestP r w) := by
  have HR : Aside0 (r = if q then some (A0 (2)) else none) := ⟨hr⟩
  clear hr
  have hbl : b < w.heap.size := World.block_lt_of_cell? _ _ c0
  go_enter Tryd.func52, Tryd.ntmps52
  go_wp2
  refine bodyPost_ret (v := .tuple #[(A0 (2)).v, .bool (q)]) (by simp [results, Tryd.results52, go_sem]) rfl (rfin ?_ HR.out)
  exact ((Below.refl _ _).alloc (Nat.le_refl _) _)
set_option maxHeartbeats 2000000 in
set_option maxRecDepth 100000 in
theorem rest1_9 (w : World)  (r : Option Ans) (b o c : Nat) (s0 : ByteArray) (c0 : w.cell? ⟨b, o, none⟩ = some (.string s0)) (q : Bool) (hq : (s0.toList == [100, 111, 110, 101]) = q)
    (hr : r = if q then some (A0 (9)) else none) : Calls Tryd.prog 52 #[.int .i64 9, .slice (some ⟨b, o, none⟩) 1 c] w (RestP r w) := by
  have HR : Aside0 (r = if q then some (A0 (9)) else none) := ⟨hr⟩
  clear hr
  have hbl : b < w.heap.size := World.block_lt_of_cell? _ _ c0
  go_enter Tryd.func52, Tryd.ntmps52
  go_wp2
  refine bodyPost_ret (v := .tuple #[(A0 (9)).v, .bool (q)]) (by simp [results, Tryd.results52, go_sem]) rfl (rfin ?_ HR.out)
  exact ((Below.refl _ _).alloc (Nat.le_refl _) _)
set_option maxHeartbeats 2000000 in
set_option maxRecDepth 100000 in
theorem rest1_14 (w : World)  (r : Option Ans) (b o c : Nat) (s0 : ByteArray) (c0 : w.cell? ⟨b, o, none⟩ = some (.string s0)) (q : Bool) (hq : (s0.toList == [102, 105, 110, 101]) = q)
    (hr : r = if q then some (A0 (14)) else none) : Calls Tryd.prog 52 #[.int .i64 14, .slice (some ⟨b, o, none⟩) 1 c] w (RestP r w) := by
  have HR : Aside0 (r = if q then some (A0 (14)) else none) := ⟨hr⟩
  clear hr
  have hbl : b < w.heap.size := World.block_lt_of_cell? _ _ c0
  go_enter Tryd.func52, Tryd.ntmps52
  go_wp2
  refine bodyPost_ret (v := .tuple #[(A0 (14)).v, .bool (q)]) (by simp [results, Tryd.results52, go_sem]) rfl (rfin ?_ HR.out)
  exact ((Below.refl _ _).alloc (Nat.le_refl _) _)
set_option maxHeartbeats 2000000 in
set_option maxRecDepth 100000 in
theorem rest1_4y (w : World)  (r : Option Ans) (b o c : Nat) (s0 : ByteArray) (c0 : w.cell? ⟨b, o, none⟩ = some (.string s0)) (hq : (s0.toList == [121, 101, 115]) = true)
    (hr : r = if true then some ({ A0 (4) with yes := true }) else none) : Calls Tryd.prog 52 #[.int .i64 4, .slice (some ⟨b, o, none⟩) 1 c] w (RestP r w) := by
  have HR : Aside0 (r = if true then some ({ A0 (4) with yes := true }) else none) := ⟨hr⟩
  clear hr
  have hbl : b < w.heap.size := World.block_lt_of_cell? _ _ c0
  go_enter Tryd.func52, Tryd.ntmps52
  go_wp2
  refine bodyPost_ret (v := .tuple #[({ A0 (4) with yes := true }).v, .bool (true)]) (by simp [results, Tryd.results52, go_sem]) rfl (rfin ?_ HR.out)
  exact ((Below.refl _ _).alloc (Nat.le_refl _) _)
set_option maxHeartbeats 2000000 in
set_option maxRecDepth 100000 in
theorem rest1_4n (w : World)  (r : Option Ans) (b o c : Nat) (s0 : ByteArray) (c0 : w.cell? ⟨b, o, none⟩ = some (.string s0)) (q : Bool) (hq1 : (s0.toList == [121, 101, 115]) = false) (hq : (s0.toList == [110, 111]) = q)
    (hr : r = if q then some (A0 (4)) else none) : Calls Tryd.prog 52 #[.int .i64 4, .slice (some ⟨b, o, none⟩) 1 c] w (RestP r w) := by
  have HR : Aside0 (r = if q then some (A0 (4)) else none) := ⟨hr⟩
  clear hr
  have hbl : b < w.heap.size := World.block_lt_of_cell? _ _ c0
  go_enter Tryd.func52, Tryd.ntmps52
  go_wp2
  refine bodyPost_ret (v := .tuple #[(A0 (4)).v, .bool (q)]) (by simp [results, Tryd.results52, go_sem]) rfl (rfin ?_ HR.out)
  exact ((Below.refl _ _).alloc (Nat.le_refl _) _)
set_option maxHeartbeats 2000000 in
set_option maxRecDepth 100000 in
theorem rest1_3y (w : World)  (r : Option Ans) (b o c : Nat) (s0 : ByteArray) (c0 : w.cell? ⟨b, o, none⟩ = some (.string s0)) (hq : (s0.toList == [110, 101, 119]) = true)
    (hr : r = if true then some ({ A0 (3) with yes := true }) else none) : Calls Tryd.prog 52 #[.int .i64 3, .slice (some ⟨b, o, none⟩) 1 c] w (RestP r w) := by
  have HR : Aside0 (r = if true then some ({ A0 (3) with yes := true }) else none) := ⟨hr⟩
  clear hr
  have hbl : b < w.heap.size := World.block_lt_of_cell? _ _ c0
  go_enter Tryd.func52, Tryd.ntmps52
  go_wp2
  refine bodyPost_ret (v := .tuple #[({ A0 (3) with yes := true }).v, .bool (true)]) (by simp [results, Tryd.results52, go_sem]) rfl (rfin ?_ HR.out)
  exact ((Below.refl _ _).alloc (Nat.le_refl _) _)
set_option maxHeartbeats 2000000 in
set_option maxRecDepth 100000 in
theorem rest1_3n (w : World)  (r : Option Ans) (b o c : Nat) (s0 : ByteArray) (c0 : w.cell? ⟨b, o, none⟩ = some (.string s0)) (q : Bool) (hq1 : (s0.toList == [110, 101, 119]) = false) (hq : (s0.toList == [111, 108, 100]) = q)
    (hr : r = if q then some (A0 (3)) else none) : Calls Tryd.prog 52 #[.int .i64 3, .slice (some ⟨b, o, none⟩) 1 c] w (RestP r w) := by
  have HR : Aside0 (r = if q then some (A0 (3)) else none) := ⟨hr⟩
  clear hr
  have hbl : b < w.heap.size := World.block_lt_of_cell? _ _ c0
  go_enter Tryd.func52, Tryd.ntmps52
  go_wp2
  refine bodyPost_ret (v := .tuple #[(A0 (3)).v, .bool (q)]) (by simp [results, Tryd.results52, go_sem]) rfl (rfin ?_ HR.out)
  exact ((Below.refl _ _).alloc (Nat.le_refl _) _)
set_option maxHeartbeats 2000000 in
set_option maxRecDepth 100000 in
theorem rest1_x (w : World) (op : Int) (r : Option Ans) (b o c : Nat) (s0 : ByteArray) (c0 : w.cell? ⟨b, o, none⟩ = some (.string s0)) (x0 : Int) (k0 : Bool) (d0 : ∀ wq, Below w.heap.size w wq → Calls Tryd.prog 70 #[.string s0] wq fun e w' => e = .returned (.tuple #[.int .i64 x0, .bool k0]) ∧ Below wq.heap.size wq w') (h6 : (op == 6) = false) (h10 : (op == 10) = false) (h2 : (op == 2) = false) (h4 : (op == 4) = false) (h3 : (op == 3) = false) (h9 : (op == 9) = false) (h14 : (op == 14) = false)
    (hr : r = if k0 then some ({ A0 (op) with n := x0 }) else none) : Calls Tryd.prog 52 #[.int .i64 op, .slice (some ⟨b, o, none⟩) 1 c] w (RestP r w) := by
  have HR : Aside0 (r = if k0 then some ({ A0 (op) with n := x0 }) else none) := ⟨hr⟩
  clear hr
  have hbl : b < w.heap.size := World.block_lt_of_cell? _ _ c0
  go_enter Tryd.func52, Tryd.ntmps52
  go_wp2_with fail
  refine (d0 _ ?_).mono ?_
  · repeat (first | with_reducible assumption | with_reducible refine below_set ?_ (Nat.le_refl _) _ | with_reducible refine Below.alloc ?_ (Nat.le_refl _) _ | with_reducible exact Below.refl _ _ | with_reducible refine below_two ?_ (by with_reducible assumption))
  rintro e v0 ⟨rfl, hB0⟩
  obtain ⟨hc0, hf0⟩ := bcell hB0
  have hz0 : w.heap.size < v0.heap.size := by have := hB0.size; (try simp at this); omega
  go_wp2
  refine bodyPost_ret (v := .tuple #[.agg #[.int .i64 op, .int .i64 0, .int .i64 x0, .int .i64 0, .bool false, .string ⟨#[]⟩, .string ⟨#[]⟩], .bool k0]) ?res rfl (rfin (a := { A0 (op) with n := x0 }) (ok := k0) ?_ HR.out)
  case res =>
    refine results_cell_tmp (p := 4) (q := 5) (ty := 24) rfl _ _ w.heap.size 24 #[.int .i64 op, .int .i64 0, .int .i64 x0, .int .i64 0, .bool false, .string ⟨#[]⟩, .string ⟨#[]⟩] (0, 0) _ _ rfl rfl ?_ Tryd.underlying24 rfl size24
    refine Bx.full7 ?_ _ _ _ _ _ _ _
    repeat (first | with_reducible refine Bx.set ?_ _ _ | with_reducible refine Bx.below ?_ (by with_reducible assumption) | exact Bx.new _ _ _ _ rfl | with_reducible refine Bx.old ?_ _)
  repeat (first | with_reducible assumption | with_reducible refine below_set ?_ (Nat.le_refl _) _ | with_reducible refine Below.alloc ?_ (Nat.le_refl _) _ | with_reducible exact Below.refl _ _ | with_reducible refine below_two ?_ (by with_reducible assumption))
set_option maxHeartbeats 2000000 in
set_option maxRecDepth 100000 in
theorem rest2_err (w : World) (op : Int) (r : Option Ans) (b o c : Nat) (s0 : ByteArray) (c0 : w.cell? ⟨b, o, none⟩ = some (.string s0)) (s1 : ByteArray) (c1 : w.cell? ⟨b, o + 1, none⟩ = some (.string s1)) (x1 : Int) (k1 : Bool) (d1 : ∀ wq, Below w.heap.size w wq → Calls Tryd.prog 70 #[.string s1] wq fun e w' => e = .returned (.tuple #[.int .i64 x1, .bool k1]) ∧ Below wq.heap.size wq w') (hq : (s0.toList == [101, 114, 114, 111, 114]) = true)
    (hr : r = if (k1 && (x1 != 0)) then some ({ A0 (op) with err := x1 }) else none) : Calls Tryd.prog 52 #[.int .i64 op, .slice (some ⟨b, o, none⟩) 2 c] w (RestP r w) := by
  have HR : Aside0 (r = if (k1 && (x1 != 0)) then some ({ A0 (op) with err := x1 }) else none) := ⟨hr⟩
  clear hr
  have hbl : b < w.heap.size := World.block_lt_of_cell? _ _ c0
  cases k1
  · go_enter Tryd.func52, Tryd.ntmps52
    go_wp2_with fail
    refine (d1 _ ?_).mono ?_
    · repeat (first | with_reducible assumption | with_reducible refine below_set ?_ (Nat.le_refl _) _ | with_reducible refine Below.alloc ?_ (Nat.le_refl _) _ | with_reducible exact Below.refl _ _ | with_reducible refine below_two ?_ (by with_reducible assumption))
    rintro e v1 ⟨rfl, hB1⟩
    obtain ⟨hc1, hf1⟩ := bcell hB1
    have hz1 : w.heap.size < v1.heap.size := by have := hB1.size; (try simp at this); omega
    go_wp2
    refine bodyPost_ret (v := .tuple #[.agg #[.int .i64 op, .int .i64 x1, .int .i64 0, .int .i64 0, .bool false, .string ⟨#[]⟩, .string ⟨#[]⟩], .bool false]) ?res rfl (rfin (a := { A0 (op) with err := x1 }) (ok := false) ?_ HR.out)
    case res =>
      refine results_cell_tmp (p := 4) (q := 5) (ty := 24) rfl _ _ w.heap.size 24 #[.int .i64 op, .int .i64 x1, .int .i64 0, .int .i64 0, .bool false, .string ⟨#[]⟩, .string ⟨#[]⟩] (0, 0) _ _ rfl rfl ?_ Tryd.underlying24 rfl size24
      refine Bx.full7 ?_ _ _ _ _ _ _ _
      repeat (first | with_reducible refine Bx.set ?_ _ _ | with_reducible refine Bx.below ?_ (by with_reducible assumption) | exact Bx.new _ _ _ _ rfl | with_reducible refine Bx.old ?_ _)
    repeat (first | with_reducible assumption | with_reducible refine below_set ?_ (Nat.le_refl _) _ | with_reducible refine Below.alloc ?_ (Nat.le_refl _) _ | with_reducible exact Below.refl _ _ | with_reducible refine below_two ?_ (by with_reducible assumption))
  · go_enter Tryd.func52, Tryd.ntmps52
    go_wp2_with fail
    refine (d1 _ ?_).mono ?_
    · repeat (first | with_reducible assumption | with_reducible refine below_set ?_ (Nat.le_refl _) _ | with_reducible refine Below.alloc ?_ (Nat.le_refl _) _ | with_reducible exact Below.refl _ _ | with_reducible refine below_two ?_ (by with_reducible assumption))
    rintro e v1 ⟨rfl, hB1⟩
    obtain ⟨hc1, hf1⟩ := bcell hB1
    have hz1 : w.heap.size < v1.heap.size := by have := hB1.size; (try simp at this); omega
    go_wp2
    refine bodyPost_ret (v := .tuple #[.agg #[.int .i64 op, .int .i64 x1, .int .i64 0, .int .i64 0, .bool false, .string ⟨#[]⟩, .string ⟨#[]⟩], .bool (x1 != 0)]) ?res rfl (rfin (a := { A0 (op) with err := x1 }) (ok := (x1 != 0)) ?_ HR.out)
    case res =>
      refine results_cell_tmp (p := 4) (q := 5) (ty := 24) rfl _ _ w.heap.size 24 #[.int .i64 op, .int .i64 x1, .int .i64 0, .int .i64 0, .bool false, .string ⟨#[]⟩, .string ⟨#[]⟩] (0, 0) _ _ rfl rfl ?_ Tryd.underlying24 rfl size24
      refine Bx.full7 ?_ _ _ _ _ _ _ _
      repeat (first | with_reducible refine Bx.set ?_ _ _ | with_reducible refine Bx.below ?_ (by with_reducible assumption) | exact Bx.new _ _ _ _ rfl | with_reducible refine Bx.old ?_ _)
    repeat (first | with_reducible assumption | with_reducible refine below_set ?_ (Nat.le_refl _) _ | with_reducible refine Below.alloc ?_ (Nat.le_refl _) _ | with_reducible exact Below.refl _ _ | with_reducible refine below_two ?_ (by with_reducible assumption))
set_option maxHeartbeats 2000000 in
set_option maxRecDepth 100000 in
theorem rest2_2y (w : World)  (r : Option Ans) (b o c : Nat) (s0 : ByteArray) (c0 : w.cell? ⟨b, o, none⟩ = some (.string s0)) (s1 : ByteArray) (c1 : w.cell? ⟨b, o + 1, none⟩ = some (.string s1)) (x1 : ByteArray) (k1 : Bool) (d1 : ∀ wq, Below w.heap.size w wq → Calls Tryd.prog 71 #[.string s1] wq fun e w' => e = .returned (.tuple #[.string x1, .bool k1]) ∧ Below wq.heap.size wq w') (hq0 : (s0.toList == [101, 114, 114, 111, 114]) = false) (hq : (s0.toList == [121, 101, 115]) = true)
    (hr : r = if k1 then some ({ A0 (2) with yes := true, elem := x1 }) else none) : Calls Tryd.prog 52 #[.int .i64 2, .slice (some ⟨b, o, none⟩) 2 c] w (RestP r w) := by
  have HR : Aside0 (r = if k1 then some ({ A0 (2) with yes := true, elem := x1 }) else none) := ⟨hr⟩
  clear hr
  have hbl : b < w.heap.size := World.block_lt_of_cell? _ _ c0
  go_enter Tryd.func52, Tryd.ntmps52
  go_wp2_with fail
  refine (d1 _ ?_).mono ?_
  · repeat (first | with_reducible assumption | with_reducible refine below_set ?_ (Nat.le_refl _) _ | with_reducible refine Below.alloc ?_ (Nat.le_refl _) _ | with_reducible exact Below.refl _ _ | with_reducible refine below_two ?_ (by with_reducible assumption))
  rintro e v1 ⟨rfl, hB1⟩
  obtain ⟨hc1, hf1⟩ := bcell hB1
  have hz1 : w.heap.size < v1.heap.size := by have := hB1.size; (try simp at this); omega
  go_wp2
  refine bodyPost_ret (v := .tuple #[.agg #[.int .i64 2, .int .i64 0, .int .i64 0, .int .i64 0, .bool true, .string ⟨#[]⟩, .string x1], .bool k1]) ?res rfl (rfin (a := { A0 (2) with yes := true, elem := x1 }) (ok := k1) ?_ HR.out)
  case res =>
    refine results_cell_tmp (p := 4) (q := 5) (ty := 24) rfl _ _ w.heap.size 24 #[.int .i64 2, .int .i64 0, .int .i64 0, .int .i64 0, .bool true, .string ⟨#[]⟩, .string x1] (0, 0) _ _ rfl rfl ?_ Tryd.underlying24 rfl size24
    refine Bx.full7 ?_ _ _ _ _ _ _ _
    repeat (first | with_reducible refine Bx.set ?_ _ _ | with_reducible refine Bx.below ?_ (by with_reducible assumption) | exact Bx.new _ _ _ _ rfl | with_reducible refine Bx.old ?_ _)
  repeat (first | with_reducible assumption | with_reducible refine below_set ?_ (Nat.le_refl _) _ | with_reducible refine Below.alloc ?_ (Nat.le_refl _) _ | with_reducible exact Below.refl _ _ | with_reducible refine below_two ?_ (by with_reducible assumption))
set_option maxHeartbeats 2000000 in
set_option maxRecDepth 100000 in
theorem rest2_2n (w : World)  (r : Option Ans) (b o c : Nat) (s0 : ByteArray) (c0 : w.cell? ⟨b, o, none⟩ = some (.string s0)) (s1 : ByteArray) (c1 : w.cell? ⟨b, o + 1, none⟩ = some (.string s1)) (hq0 : (s0.toList == [101, 114, 114, 111, 114]) = false) (hq : (s0.toList == [121, 101, 115]) = false)
    (hr : r = if false then some (A0 (2)) else none) : Calls Tryd.prog 52 #[.int .i64 2, .slice (some ⟨b, o, none⟩) 2 c] w (RestP r w) := by
  have HR : Aside0 (r = if false then some (A0 (2)) else none) := ⟨hr⟩
  clear hr
  have hbl : b < w.heap.size := World.block_lt_of_cell? _ _ c0
  go_enter Tryd.func52, Tryd.ntmps52
  go_wp2
  refine bodyPost_ret (v := .tuple #[(A0 (2)).v, .bool (false)]) (by simp [results, Tryd.results52, go_sem]) rfl (rfin ?_ HR.out)
  exact ((Below.refl _ _).alloc (Nat.le_refl _) _)
set_option maxHeartbeats 2000000 in
set_option maxRecDepth 100000 in
theorem rest2_9 (w : World)  (r : Option Ans) (b o c : Nat) (s0 : ByteArray) (c0 : w.cell? ⟨b, o, none⟩ = some (.string s0)) (s1 : ByteArray) (c1 : w.cell? ⟨b, o + 1, none⟩ = some (.string s1)) (hq0 : (s0.toList == [101, 114, 114, 111, 114]) = false)
    (hr : r = if false then some (A0 (9)) else none) : Calls Tryd.prog 52 #[.int .i64 9, .slice (some ⟨b, o, none⟩) 2 c] w (RestP r w) := by
  have HR : Aside0 (r = if false then some (A0 (9)) else none) := ⟨hr⟩
  clear hr
  have hbl : b < w.heap.size := World.block_lt_of_cell? _ _ c0
  go_enter Tryd.func52, Tryd.ntmps52
  go_wp2
  refine bodyPost_ret (v := .tuple #[(A0 (9)).v, .bool (false)]) (by simp [results, Tryd.results52, go_sem]) rfl (rfin ?_ HR.out)
  exact ((Below.refl _ _).alloc (Nat.le_refl _) _)
set_option maxHeartbeats 2000000 in
set_option maxRecDepth 100000 in
theorem rest2_14 (w : World)  (r : Option Ans) (b o c : Nat) (s0 : ByteArray) (c0 : w.cell? ⟨b, o, none⟩ = some (.string s0)) (s1 : ByteArray) (c1 : w.cell? ⟨b, o + 1, none⟩ = some (.string s1)) (hq0 : (s0.toList == [101, 114, 114, 111, 114]) = false)
    (hr : r = if false then some (A0 (14)) else none) : Calls Tryd.prog 52 #[.int .i64 14, .slice (some ⟨b, o, none⟩) 2 c] w (RestP r w) := by
  have HR : Aside0 (r = if false then some (A0 (14)) else none) := ⟨hr⟩
  clear hr
  have hbl : b < w.heap.size := World.block_lt_of_cell? _ _ c0
  go_enter Tryd.func52, Tryd.ntmps52
  go_wp2
  refine bodyPost_ret (v := .tuple #[(A0 (14)).v, .bool (false)]) (by simp [results, Tryd.results52, go_sem]) rfl (rfin ?_ HR.out)
  exact ((Below.refl _ _).alloc (Nat.le_refl _) _)
set_option maxHeartbeats 2000000 in
set_option maxRecDepth 100000 in
theorem rest2_x (w : World) (op : Int) (r : Option Ans) (b o c : Nat) (s0 : ByteArray) (c0 : w.cell? ⟨b, o, none⟩ = some (.string s0)) (s1 : ByteArray) (c1 : w.cell? ⟨b, o + 1, none⟩ = some (.string s1)) (h2 : (op == 2) = false) (h9 : (op == 9) = false) (h14 : (op == 14) = false) (hq0 : (s0.toList == [101, 114, 114, 111, 114]) = false)
    (hr : r = if false then some (A0 (op)) else none) : Calls Tryd.prog 52 #[.int .i64 op, .slice (some ⟨b, o, none⟩) 2 c] w (RestP r w) := by
  have HR : Aside0 (r = if false then some (A0 (op)) else none) := ⟨hr⟩
  clear hr
  have hbl : b < w.heap.size := World.block_lt_of_cell? _ _ c0
  go_enter Tryd.func52, Tryd.ntmps52
  go_wp2
  refine bodyPost_ret (v := .tuple #[(A0 (op)).v, .bool (false)]) (by simp [results, Tryd.results52, go_sem]) rfl (rfin ?_ HR.out)
  exact ((Below.refl _ _).alloc (Nat.le_refl _) _)
set_option maxHeartbeats 2000000 in
set_option maxRecDepth 100000 in
theorem rest3_9y (w : World)  (r : Option Ans) (b o c : Nat) (s0 : ByteArray) (c0 : w.cell? ⟨b, o, none⟩ = some (.string s0)) (s1 : ByteArray) (c1 : w.cell? ⟨b, o + 1, none⟩ = some (.string s1)) (s2 : ByteArray) (c2 : w.cell? ⟨b, o + 2, none⟩ = some (.string s2)) (x1 : ByteArray) (k1 : Bool) (d1 : ∀ wq, Below w.heap.size w wq → Calls Tryd.prog 71 #[.string s1] wq fun e w' => e = .returned (.tuple #[.string x1, .bool k1]) ∧ Below wq.heap.size wq w') (x2 : ByteArray) (k2 : Bool) (d2 : ∀ wq, Below w.heap.size w wq → Calls Tryd.prog 71 #[.string s2] wq fun e w' => e = .returned (.tuple #[.string x2, .bool k2]) ∧ Below wq.heap.size wq w') (hq : (s0.toList == [112, 97, 105, 114]) = true)
    (hr : r = if (k1 && k2) then some ({ A0 (9) with yes := true, key := x1, elem := x2 }) else none) : Calls Tryd.prog 52 #[.int .i64 9, .slice (some ⟨b, o, none⟩) 3 c] w (RestP r w) := by
  have HR : Aside0 (r = if (k1 && k2) then some ({ A0 (9) with yes := true, key := x1, elem := x2 }) else none) := ⟨hr⟩
  clear hr
  have hbl : b < w.heap.size := World.block_lt_of_cell? _ _ c0
  cases k1
  · go_enter Tryd.func52, Tryd.ntmps52
    go_wp2_with fail
    refine (d1 _ ?_).mono ?_
    · repeat (first | with_reducible assumption | with_reducible refine below_set ?_ (Nat.le_refl _) _ | with_reducible refine Below.alloc ?_ (Nat.le_refl _) _ | with_reducible exact Below.refl _ _ | with_reducible refine below_two ?_ (by with_reducible assumption))
    rintro e v1 ⟨rfl, hB1⟩
    obtain ⟨hc1, hf1⟩ := bcell hB1
    have hz1 : w.heap.size < v1.heap.size := by have := hB1.size; (try simp at this); omega
    go_wp2_with fail
    refine (d2 _ ?_).mono ?_
    · repeat (first | with_reducible assumption | with_reducible refine below_set ?_ (Nat.le_refl _) _ | with_reducible refine Below.alloc ?_ (Nat.le_refl _) _ | with_reducible exact Below.refl _ _ | with_reducible refine below_two ?_ (by with_reducible assumption))
    rintro e v2 ⟨rfl, hB2⟩
    obtain ⟨hc2, hf2⟩ := bcell hB2
    have hz2 : w.heap.size < v2.heap.size := by have := hB2.size; (try simp at this); omega
    go_wp2
    refine bodyPost_ret (v := .tuple #[.agg #[.int .i64 9, .int .i64 0, .int .i64 0, .int .i64 0, .bool true, .string x1, .string x2], .bool false]) ?res rfl (rfin (a := { A0 (9) with yes := true, key := x1, elem := x2 }) (ok := false) ?_ HR.out)
    case res =>
      refine results_cell_tmp (p := 4) (q := 5) (ty := 24) rfl _ _ w.heap.size 24 #[.int .i64 9, .int .i64 0, .int .i64 0, .int .i64 0, .bool true, .string x1, .string x2] (0, 0) _ _ rfl rfl ?_ Tryd.underlying24 rfl size24
      refine Bx.full7 ?_ _ _ _ _ _ _ _
      repeat (first | with_reducible refine Bx.set ?_ _ _ | with_reducible refine Bx.below ?_ (by with_reducible assumption) | exact Bx.new _ _ _ _ rfl | with_reducible refine Bx.old ?_ _)
    repeat (first | with_reducible assumption | with_reducible refine below_set ?_ (Nat.le_refl _) _ | with_reducible refine Below.alloc ?_ (Nat.le_refl _) _ | with_reducible exact Below.refl _ _ | with_reducible refine below_two ?_ (by with_reducible assumption))
  · go_enter Tryd.func52, Tryd.ntmps52
    go_wp2_with fail
    refine (d1 _ ?_).mono ?_
    · repeat (first | with_reducible assumption | with_reducible refine below_set ?_ (Nat.le_refl _) _ | with_reducible refine Below.alloc ?_ (Nat.le_refl _) _ | with_reducible exact Below.refl _ _ | with_reducible refine below_two ?_ (by with_reducible assumption))
    rintro e v1 ⟨rfl, hB1⟩
    obtain ⟨hc1, hf1⟩ := bcell hB1
    have hz1 : w.heap.size < v1.heap.size := by have := hB1.size; (try simp at this); omega
    go_wp2_with fail
    refine (d2 _ ?_).mono ?_
    · repeat (first | with_reducible assumption | with_reducible refine below_set ?_ (Nat.le_refl _) _ | with_reducible refine Below.alloc ?_ (Nat.le_refl _) _ | with_reducible exact Below.refl _ _ | with_reducible refine below_two ?_ (by with_reducible assumption))
    rintro e v2 ⟨rfl, hB2⟩
    obtain ⟨hc2, hf2⟩ := bcell hB2
    have hz2 : w.heap.size < v2.heap.size := by have := hB2.size; (try simp at this); omega
    go_wp2
    refine bodyPost_ret (v := .tuple #[.agg #[.int .i64 9, .int .i64 0, .int .i64 0, .int .i64 0, .bool true, .string x1, .string x2], .bool k2]) ?res rfl (rfin (a := { A0 (9) with yes := true, key := x1, elem := x2 }) (ok := k2) ?_ HR.out)
    case res =>
      refine results_cell_tmp (p := 4) (q := 5) (ty := 24) rfl _ _ w.heap.size 24 #[.int .i64 9, .int .i64 0, .int .i64 0, .int .i64 0, .bool true, .string x1, .string x2] (0, 0) _ _ rfl rfl ?_ Tryd.underlying24 rfl size24
      refine Bx.full7 ?_ _ _ _ _ _ _ _
      repeat (first | with_reducible refine Bx.set ?_ _ _ | with_reducible refine Bx.below ?_ (by with_reducible assumption) | exact Bx.new _ _ _ _ rfl | with_reducible refine Bx.old ?_ _)
    repeat (first | with_reducible assumption | with_reducible refine below_set ?_ (Nat.le_refl _) _ | with_reducible refine Below.alloc ?_ (Nat.le_refl _) _ | with_reducible exact Below.refl _ _ | with_reducible refine below_two ?_ (by with_reducible assumption))
set_option maxHeartbeats 2000000 in
set_option maxRecDepth 100000 in
theorem rest3_9n (w : World)  (r : Option Ans) (b o c : Nat) (s0 : ByteArray) (c0 : w.cell? ⟨b, o, none⟩ = some (.string s0)) (s1 : ByteArray) (c1 : w.cell? ⟨b, o + 1, none⟩ = some (.string s1)) (s2 : ByteArray) (c2 : w.cell? ⟨b, o + 2, none⟩ = some (.string s2)) (hq : (s0.toList == [112, 97, 105, 114]) = false)
    (hr : r = if false then some (A0 (9)) else none) : Calls Tryd.prog 52 #[.int .i64 9, .slice (some ⟨b, o, none⟩) 3 c] w (RestP r w) := by
  have HR : Aside0 (r = if false then some (A0 (9)) else none) := ⟨hr⟩
  clear hr
  have hbl : b < w.heap.size := World.block_lt_of_cell? _ _ c0
  go_enter Tryd.func52, Tryd.ntmps52
  go_wp2
  refine bodyPost_ret (v := .tuple #[(A0 (9)).v, .bool (false)]) (by simp [results, Tryd.results52, go_sem]) rfl (rfin ?_ HR.out)
  exact ((Below.refl _ _).alloc (Nat.le_refl _) _)
set_option maxHeartbeats 2000000 in
set_option maxRecDepth 100000 in
theorem rest3_14y (w : World)  (r : Option Ans) (b o c : Nat) (s0 : ByteArray) (c0 : w.cell? ⟨b, o, none⟩ = some (.string s0)) (s1 : ByteArray) (c1 : w.cell? ⟨b, o + 1, none⟩ = some (.string s1)) (s2 : ByteArray) (c2 : w.cell? ⟨b, o + 2, none⟩ = some (.string s2)) (x1 : Int) (k1 : Bool) (d1 : ∀ wq, Below w.heap.size w wq → Calls Tryd.prog 70 #[.string s1] wq fun e w' => e = .returned (.tuple #[.int .i64 x1, .bool k1]) ∧ Below wq.heap.size wq w') (x2 : Int) (k2 : Bool) (d2 : ∀ wq, Below w.heap.size w wq → Calls Tryd.prog 70 #[.string s2] wq fun e w' => e = .returned (.tuple #[.int .i64 x2, .bool k2]) ∧ Below wq.heap.size wq w') (hq : (s0.toList == [114, 117, 108, 101]) = true)
    (hr : r = if (k1 && k2 && (x1 != 0)) then some ({ A0 (14) with n := x1, off := x2 }) else none) : Calls Tryd.prog 52 #[.int .i64 14, .slice (some ⟨b, o, none⟩) 3 c] w (RestP r w) := by
  have HR : Aside0 (r = if (k1 && k2 && (x1 != 0)) then some ({ A0 (14) with n := x1, off := x2 }) else none) := ⟨hr⟩
  clear hr
  have hbl : b < w.heap.size := World.block_lt_of_cell? _ _ c0
  cases k1 <;> cases k2
  · go_enter Tryd.func52, Tryd.ntmps52
    go_wp2_with fail
    refine (d1 _ ?_).mono ?_
    · repeat (first | with_reducible assumption | with_reducible refine below_set ?_ (Nat.le_refl _) _ | with_reducible refine Below.alloc ?_ (Nat.le_refl _) _ | with_reducible exact Below.refl _ _ | with_reducible refine below_two ?_ (by with_reducible assumption))
    rintro e v1 ⟨rfl, hB1⟩
    obtain ⟨hc1, hf1⟩ := bcell hB1
    have hz1 : w.heap.size < v1.heap.size := by have := hB1.size; (try simp at this); omega
    go_wp2_with fail
    refine (d2 _ ?_).mono ?_
    · repeat (first | with_reducible assumption | with_reducible refine below_set ?_ (Nat.le_refl _) _ | with_reducible refine Below.alloc ?_ (Nat.le_refl _) _ | with_reducible exact Below.refl _ _ | with_reducible refine below_two ?_ (by with_reducible assumption))
    rintro e v2 ⟨rfl, hB2⟩
    obtain ⟨hc2, hf2⟩ := bcell hB2
    have hz2 : w.heap.size < v2.heap.size := by have := hB2.size; (try simp at this); omega
    go_wp2
    refine bodyPost_ret (v := .tuple #[.agg #[.int .i64 14, .int .i64 0, .int .i64 x1, .int .i64 x2, .bool false, .string ⟨#[]⟩, .string ⟨#[]⟩], .bool false]) ?res rfl (rfin (a := { A0 (14) with n := x1, off := x2 }) (ok := false) ?_ HR.out)
    case res =>
      refine results_cell_tmp (p := 4) (q := 5) (ty := 24) rfl _ _ w.heap.size 24 #[.int .i64 14, .int .i64 0, .int .i64 x1, .int .i64 x2, .bool false, .string ⟨#[]⟩, .string ⟨#[]⟩] (0, 0) _ _ rfl rfl ?_ Tryd.underlying24 rfl size24
      refine Bx.full7 ?_ _ _ _ _ _ _ _
      repeat (first | with_reducible refine Bx.set ?_ _ _ | with_reducible refine Bx.below ?_ (by with_reducible assumption) | exact Bx.new _ _ _ _ rfl | with_reducible refine Bx.old ?_ _)
    repeat (first | with_reducible assumption | with_reducible refine below_set ?_ (Nat.le_refl _) _ | with_reducible refine Below.alloc ?_ (Nat.le_refl _) _ | with_reducible exact Below.refl _ _ | with_reducible refine below_two ?_ (by with_reducible assumption))
  · go_enter Tryd.func52, Tryd.ntmps52
    go_wp2_with fail
    refine (d1 _ ?_).mono ?_
    · repeat (first | with_reducible assumption | with_reducible refine below_set ?_ (Nat.le_refl _) _ | with_reducible refine Below.alloc ?_ (Nat.le_refl _) _ | with_reducible exact Below.refl _ _ | with_reducible refine below_two ?_ (by with_reducible assumption))
    rintro e v1 ⟨rfl, hB1⟩
    obtain ⟨hc1, hf1⟩ := bcell hB1
    have hz1 : w.heap.size < v1.heap.size := by have := hB1.size; (try simp at this); omega
    go_wp2_with fail
    refine (d2 _ ?_).mono ?_
    · repeat (first | with_reducible assumption | with_reducible refine below_set ?_ (Nat.le_refl _) _ | with_reducible refine Below.alloc ?_ (Nat.le_refl _) _ | with_reducible exact Below.refl _ _ | with_reducible refine below_two ?_ (by with_reducible assumption))
    rintro e v2 ⟨rfl, hB2⟩
    obtain ⟨hc2, hf2⟩ := bcell hB2
    have hz2 : w.heap.size < v2.heap.size := by have := hB2.size; (try simp at this); omega
    go_wp2
    refine bodyPost_ret (v := .tuple #[.agg #[.int .i64 14, .int .i64 0, .int .i64 x1, .int .i64 x2, .bool false, .string ⟨#[]⟩, .string ⟨#[]⟩], .bool false]) ?res rfl (rfin (a := { A0 (14) with n := x1, off := x2 }) (ok := false) ?_ HR.out)
    case res =>
      refine results_cell_tmp (p := 4) (q := 5) (ty := 24) rfl _ _ w.heap.size 24 #[.int .i64 14, .int .i64 0, .int .i64 x1, .int .i64 x2, .bool false, .string ⟨#[]⟩, .string ⟨#[]⟩] (0, 0) _ _ rfl rfl ?_ Tryd.underlying24 rfl size24
      refine Bx.full7 ?_ _ _ _ _ _ _ _
      repeat (first | with_reducible refine Bx.set ?_ _ _ | with_reducible refine Bx.below ?_ (by with_reducible assumption) | exact Bx.new _ _ _ _ rfl | with_reducible refine Bx.old ?_ _)
    repeat (first | with_reducible assumption | with_reducible refine below_set ?_ (Nat.le_refl _) _ | with_reducible refine Below.alloc ?_ (Nat.le_refl _) _ | with_reducible exact Below.refl _ _ | with_reducible refine below_two ?_ (by with_reducible assumption))
  · go_enter Tryd.func52, Tryd.ntmps52
    go_wp2_with fail
    refine (d1 _ ?_).mono ?_
    · repeat (first | with_reducible assumption | with_reducible refine below_set ?_ (Nat.le_refl _) _ | with_reducible refine Below.alloc ?_ (Nat.le_refl _) _ | with_reducible exact Below.refl _ _ | with_reducible refine below_two ?_ (by with_reducible assumption))
    rintro e v1 ⟨rfl, hB1⟩
    obtain ⟨hc1, hf1⟩ := bcell hB1
    have hz1 : w.heap.size < v1.heap.size := by have := hB1.size; (try simp at this); omega
    go_wp2_with fail
    refine (d2 _ ?_).mono ?_
    · repeat (first | with_reducible assumption | with_reducible refine below_set ?_ (Nat.le_refl _) _ | with_reducible refine Below.alloc ?_ (Nat.le_refl _) _ | with_reducible exact Below.refl _ _ | with_reducible refine below_two ?_ (by with_reducible assumption))
    rintro e v2 ⟨rfl, hB2⟩
    obtain ⟨hc2, hf2⟩ := bcell hB2
    have hz2 : w.heap.size < v2.heap.size := by have := hB2.size; (try simp at this); omega
    go_wp2
    refine bodyPost_ret (v := .tuple #[.agg #[.int .i64 14, .int .i64 0, .int .i64 x1, .int .i64 x2, .bool false, .string ⟨#[]⟩, .string ⟨#[]⟩], .bool false]) ?res rfl (rfin (a := { A0 (14) with n := x1, off := x2 }) (ok := false) ?_ HR.out)
    case res =>
      refine results_cell_tmp (p := 4) (q := 5) (ty := 24) rfl _ _ w.heap.size 24 #[.int .i64 14, .int .i64 0, .int .i64 x1, .int .i64 x2, .bool false, .string ⟨#[]⟩, .string ⟨#[]⟩] (0, 0) _ _ rfl rfl ?_ Tryd.underlying24 rfl size24
      refine Bx.full7 ?_ _ _ _ _ _ _ _
      repeat (first | with_reducible refine Bx.set ?_ _ _ | with_reducible refine Bx.below ?_ (by with_reducible assumption) | exact Bx.new _ _ _ _ rfl | with_reducible refine Bx.old ?_ _)
    repeat (first | with_reducible assumption | with_reducible refine below_set ?_ (Nat.le_refl _) _ | with_reducible refine Below.alloc ?_ (Nat.le_refl _) _ | with_reducible exact Below.refl _ _ | with_reducible refine below_two ?_ (by with_reducible assumption))
  · go_enter Tryd.func52, Tryd.ntmps52
    go_wp2_with fail
    refine (d1 _ ?_).mono ?_
    · repeat (first | with_reducible assumption | with_reducible refine below_set ?_ (Nat.le_refl _) _ | with_reducible refine Below.alloc ?_ (Nat.le_refl _) _ | with_reducible exact Below.refl _ _ | with_reducible refine below_two ?_ (by with_reducible assumption))
    rintro e v1 ⟨rfl, hB1⟩
    obtain ⟨hc1, hf1⟩ := bcell hB1
    have hz1 : w.heap.size < v1.heap.size := by have := hB1.size; (try simp at this); omega
    go_wp2_with fail
    refine (d2 _ ?_).mono ?_
    · repeat (first | with_reducible assumption | with_reducible refine below_set ?_ (Nat.le_refl _) _ | with_reducible refine Below.alloc ?_ (Nat.le_refl _) _ | with_reducible exact Below.refl _ _ | with_reducible refine below_two ?_ (by with_reducible assumption))
    rintro e v2 ⟨rfl, hB2⟩
    obtain ⟨hc2, hf2⟩ := bcell hB2
    have hz2 : w.heap.size < v2.heap.size := by have := hB2.size; (try simp at this); omega
    go_wp2
    refine bodyPost_ret (v := .tuple #[.agg #[.int .i64 14, .int .i64 0, .int .i64 x1, .int .i64 x2, .bool false, .string ⟨#[]⟩, .string ⟨#[]⟩], .bool (x1 != 0)]) ?res rfl (rfin (a := { A0 (14) with n := x1, off := x2 }) (ok := (x1 != 0)) ?_ HR.out)
    case res =>
      refine results_cell_tmp (p := 4) (q := 5) (ty := 24) rfl _ _ w.heap.size 24 #[.int .i64 14, .int .i64 0, .int .i64 x1, .int .i64 x2, .bool false, .string ⟨#[]⟩, .string ⟨#[]⟩] (0, 0) _ _ rfl rfl ?_ Tryd.underlying24 rfl size24
      refine Bx.full7 ?_ _ _ _ _ _ _ _
      repeat (first | with_reducible refine Bx.set ?_ _ _ | with_reducible refine Bx.below ?_ (by with_reducible assumption) | exact Bx.new _ _ _ _ rfl | with_reducible refine Bx.old ?_ _)
    repeat (first | with_reducible assumption | with_reducible refine below_set ?_ (Nat.le_refl _) _ | with_reducible refine Below.alloc ?_ (Nat.le_refl _) _ | with_reducible exact Below.refl _ _ | with_reducible refine below_two ?_ (by with_reducible assumption))
set_option maxHeartbeats 2000000 in
set_option maxRecDepth 100000 in
theorem rest3_14n (w : World)  (r : Option Ans) (b o c : Nat) (s0 : ByteArray) (c0 : w.cell? ⟨b, o, none⟩ = some (.string s0)) (s1 : ByteArray) (c1 : w.cell? ⟨b, o + 1, none⟩ = some (.string s1)) (s2 : ByteArray) (c2 : w.cell? ⟨b, o + 2, none⟩ = some (.string s2)) (hq : (s0.toList == [114, 117, 108, 101]) = false)
    (hr : r = if false then some (A0 (14)) else none) : Calls Tryd.prog 52 #[.int .i64 14, .slice (some ⟨b, o, none⟩) 3 c] w (RestP r w) := by
  have HR : Aside0 (r = if false then some (A0 (14)) else none) := ⟨hr⟩
  clear hr
  have hbl : b < w.heap.size := World.block_lt_of_cell? _ _ c0
  go_enter Tryd.func52, Tryd.ntmps52
  go_wp2
  refine bodyPost_ret (v := .tuple #[(A0 (14)).v, .bool (false)]) (by simp [results, Tryd.results52, go_sem]) rfl (rfin ?_ HR.out)
  exact ((Below.refl _ _).alloc (Nat.le_refl _) _)
set_option maxHeartbeats 2000000 in
set_option maxRecDepth 100000 in
theorem rest3_2 (w : World)  (r : Option Ans) (b o c : Nat) (s0 : ByteArray) (c0 : w.cell? ⟨b, o, none⟩ = some (.string s0)) (s1 : ByteArray) (c1 : w.cell? ⟨b, o + 1, none⟩ = some (.string s1)) (s2 : ByteArray) (c2 : w.cell? ⟨b, o + 2, none⟩ = some (.string s2)) 
    (hr : r = if false then some (A0 (2)) else none) : Calls Tryd.prog 52 #[.int .i64 2, .slice (some ⟨b, o, none⟩) 3 c] w (RestP r w) := by
  have HR : Aside0 (r = if false then some (A0 (2)) else none) := ⟨hr⟩
  clear hr
  have hbl : b < w.heap.size := World.block_lt_of_cell? _ _ c0
  go_enter Tryd.func52, Tryd.ntmps52
  go_wp2
  refine bodyPost_ret (v := .tuple #[(A0 (2)).v, .bool (false)]) (by simp [results, Tryd.results52, go_sem]) rfl (rfin ?_ HR.out)
  exact ((Below.refl _ _).alloc (Nat.le_refl _) _)
set_option maxHeartbeats 2000000 in
set_option maxRecDepth 100000 in
theorem rest3_x (w : World) (op : Int) (r : Option Ans) (b o c : Nat) (s0 : ByteArray) (c0 : w.cell? ⟨b, o, none⟩ = some (.string s0)) (s1 : ByteArray) (c1 : w.cell? ⟨b, o + 1, none⟩ = some (.string s1)) (s2 : ByteArray) (c2 : w.cell? ⟨b, o + 2, none⟩ = some (.string s2)) (h2 : (op == 2) = false) (h9 : (op == 9) = false) (h14 : (op == 14) = false)
    (hr : r = if false then some (A0 (op)) else none) : Calls Tryd.prog 52 #[.int .i64 op, .slice (some ⟨b, o, none⟩) 3 c] w (RestP r w) := by
  have HR : Aside0 (r = if false then some (A0 (op)) else none) := ⟨hr⟩
  clear hr
  have hbl : b < w.heap.size := World.block_lt_of_cell? _ _ c0
  go_enter Tryd.func52, Tryd.ntmps52
  go_wp2
  refine bodyPost_ret (v := .tuple #[(A0 (op)).v, .bool (false)]) (by simp [results, Tryd.results52, go_sem]) rfl (rfin ?_ HR.out)
  exact ((Below.refl _ _).alloc (Nat.le_refl _) _)
set_option maxHeartbeats 2000000 in
set_option maxRecDepth 100000 in
theorem restn_2 (w : World)  (r : Option Ans) (b o c : Nat) (n : Nat) (hn : 4 ≤ n) (hn2 : n ≤ 3000000) (s0 : ByteArray) (c0 : w.cell? ⟨b, o, none⟩ = some (.string s0)) 
    (hr : r = if false then some (A0 (2)) else none) : Calls Tryd.prog 52 #[.int .i64 2, .slice (some ⟨b, o, none⟩) n c] w (RestP r w) := by
  have HR : Aside0 (r = if false then some (A0 (2)) else none) := ⟨hr⟩
  clear hr
  have hbl : b < w.heap.size := World.block_lt_of_cell? _ _ c0
  have n0 : ((n : Int) == 0) = false := beq_eq_false_iff_ne.2 (by omega)
  have n2 : ((n : Int) == 2) = false := beq_eq_false_iff_ne.2 (by omega)
  have n3 : ((n : Int) == 3) = false := beq_eq_false_iff_ne.2 (by omega)
  have n1 : (n : Int) > 1 := by omega
  have n4 : (n : Int) > 0 := by omega
  have n5 : 0 < n := by omega
  clear hn hn2
  go_enter Tryd.func52, Tryd.ntmps52
  go_wp2
  refine bodyPost_ret (v := .tuple #[(A0 (2)).v, .bool (false)]) (by simp [results, Tryd.results52, go_sem]) rfl (rfin ?_ HR.out)
  exact ((Below.refl _ _).alloc (Nat.le_refl _) _)
set_option maxHeartbeats 2000000 in
set_option maxRecDepth 100000 in
theorem restn_9 (w : World)  (r : Option Ans) (b o c : Nat) (n : Nat) (hn : 4 ≤ n) (hn2 : n ≤ 3000000) (s0 : ByteArray) (c0 : w.cell? ⟨b, o, none⟩ = some (.string s0)) 
    (hr : r = if false then some (A0 (9)) else none) : Calls Tryd.prog 52 #[.int .i64 9, .slice (some ⟨b, o, none⟩) n c] w (RestP r w) := by
  have HR : Aside0 (r = if false then some (A0 (9)) else none) := ⟨hr⟩
  clear hr
  have hbl : b < w.heap.size := World.block_lt_of_cell? _ _ c0
  have n0 : ((n : Int) == 0) = false := beq_eq_false_iff_ne.2 (by omega)
  have n2 : ((n : Int) == 2) = false := beq_eq_false_iff_ne.2 (by omega)
  have n3 : ((n : Int) == 3) = false := beq_eq_false_iff_ne.2 (by omega)
  have n1 : (n : Int) > 1 := by omega
  have n4 : (n : Int) > 0 := by omega
  have n5 : 0 < n := by omega
  clear hn hn2
  go_enter Tryd.func52, Tryd.ntmps52
  go_wp2
  refine bodyPost_ret (v := .tuple #[(A0 (9)).v, .bool (false)]) (by simp [results, Tryd.results52, go_sem]) rfl (rfin ?_ HR.out)
  exact ((Below.refl _ _).alloc (Nat.le_refl _) _)
set_option maxHeartbeats 2000000 in
set_option maxRecDepth 100000 in
theorem restn_14 (w : World)  (r : Option Ans) (b o c : Nat) (n : Nat) (hn : 4 ≤ n) (hn2 : n ≤ 3000000) (s0 : ByteArray) (c0 : w.cell? ⟨b, o, none⟩ = some (.string s0)) 
    (hr : r = if false then some (A0 (14)) else none) : Calls Tryd.prog 52 #[.int .i64 14, .slice (some ⟨b, o, none⟩) n c] w (RestP r w) := by
  have HR : Aside0 (r = if false then some (A0 (14)) else none) := ⟨hr⟩
  clear hr
  have hbl : b < w.heap.size := World.block_lt_of_cell? _ _ c0
  have n0 : ((n : Int) == 0) = false := beq_eq_false_iff_ne.2 (by omega)
  have n2 : ((n : Int) == 2) = false := beq_eq_false_iff_ne.2 (by omega)
  have n3 : ((n : Int) == 3) = false := beq_eq_false_iff_ne.2 (by omega)
  have n1 : (n : Int) > 1 := by omega
  have n4 : (n : Int) > 0 := by omega
  have n5 : 0 < n := by omega
  clear hn hn2
  go_enter Tryd.func52, Tryd.ntmps52
  go_wp2
  refine bodyPost_ret (v := .tuple #[(A0 (14)).v, .bool (false)]) (by simp [results, Tryd.results52, go_sem]) rfl (rfin ?_ HR.out)
  exact ((Below.refl _ _).alloc (Nat.le_refl _) _)
set_option maxHeartbeats 2000000 in
set_option maxRecDepth 100000 in
theorem restn_x (w : World) (op : Int) (r : Option Ans) (b o c : Nat) (n : Nat) (hn : 4 ≤ n) (hn2 : n ≤ 3000000) (s0 : ByteArray) (c0 : w.cell? ⟨b, o, none⟩ = some (.string s0)) (h2 : (op == 2) = false) (h9 : (op == 9) = false) (h14 : (op == 14) = false)
    (hr : r = if false then some (A0 (op)) else none) : Calls Tryd.prog 52 #[.int .i64 op, .slice (some ⟨b, o, none⟩) n c] w (RestP r w) := by
  have HR : Aside0 (r = if false then some (A0 (op)) else none) := ⟨hr⟩
  clear hr
  have hbl : b < w.heap.size := World.block_lt_of_cell? _ _ c0
  have n0 : ((n : Int) == 0) = false := beq_eq_false_iff_ne.2 (by omega)
  have n2 : ((n : Int) == 2) = false := beq_eq_false_iff_ne.2 (by omega)
  have n3 : ((n : Int) == 3) = false := beq_eq_false_iff_ne.2 (by omega)
  have n1 : (n : Int) > 1 := by omega
  have n4 : (n : Int) > 0 := by omega
  have n5 : 0 < n := by omega
  clear hn hn2
  go_enter Tryd.func52, Tryd.ntmps52
  go_wp2
  refine bodyPost_ret (v := .tuple #[(A0 (op)).v, .bool (false)]) (by simp [results, Tryd.results52, go_sem]) rfl (rfin ?_ HR.out)
  exact ((Below.refl _ _).alloc (Nat.le_refl _) _)
end Go.Proofs.YtigaacbaaopfmaaDoor.sh
/- The rest of an answer's line as a plain function, and the program's walk against it. -/
namespace Go.Proofs.YtigaacbaaopfmaaDoor.sh
open Go.RowKit
set_option linter.unusedVariables false
def wNo : List UInt8 := [110, 111]
def wYes : List UInt8 := [121, 101, 115]
def wNew : List UInt8 := [110, 101, 119]
def wOld : List UInt8 := [111, 108, 100]
def wDone : List UInt8 := [100, 111, 110, 101]
def wFine : List UInt8 := [102, 105, 110, 101]
def wPair : List UInt8 := [112, 97, 105, 114]
def wRule : List UInt8 := [114, 117, 108, 101]
def wError : List UInt8 := [101, 114, 114, 111, 114]
def okA (b : Bool) (a : Ans) : Option Ans := if b = true then some a else none
def byt (l : List UInt8) : ByteArray := B ((bytesV l).getD [])
/-- The answer of the command op whose line goes on with these words. -/
def restO (op : Int) : List (List UInt8) → Option Ans
  | [] => okA (decide (op = 6 ∨ op = 10)) (A0 op)
  | [a] =>
    if op = 6 ∨ op = 10 then none
    else if op = 2 then okA (decide (a = wNo)) (A0 2)
    else if op = 9 then okA (decide (a = wDone)) (A0 9)
    else if op = 14 then okA (decide (a = wFine)) (A0 14)
    else if op = 4 then (if a = wYes then some { A0 4 with yes := true } else okA (decide (a = wNo)) (A0 4))
    else if op = 3 then (if a = wNew then some { A0 3 with yes := true } else okA (decide (a = wOld)) (A0 3))
    else okA (strictN a) { A0 op with n := (numP a).1 }
  | [a, b] =>
    if a = wError then okA (strictN b && ((numP b).1 != 0)) { A0 op with err := (numP b).1 }
    else if op = 2 ∧ a = wYes then okA (strictB b) { A0 2 with yes := true, elem := byt b }
    else none
  | [a, b, c] =>
    if op = 9 ∧ a = wPair then okA (strictB b && strictB c) { A0 9 with yes := true, key := byt b, elem := byt c }
    else if op = 14 ∧ a = wRule then okA (strictN b && strictN c && ((numP b).1 != 0)) { A0 14 with n := (numP b).1, off := (numP c).1 }
    else none
  | _ => none
/-- Texts l lie from ⟨b, o⟩ on. -/
def LT (w : World) (b o : Nat) (l : List (List UInt8)) : Prop := ∀ (j : Nat) (x : List UInt8), l[j]? = some x → w.cell? ⟨b, o + j, none⟩ = some (.string (B x))
theorem LT.below {k : Nat} {w w' : World} {b o : Nat} {l : List (List UInt8)} (h : LT w b o l) (hb : Below k w w') (hk : w.heap.size ≤ k) : LT w' b o l := fun j x hx => cell_below (h j x hx) hb hk
theorem B_data (l : List UInt8) : (B l).data.toList = l := rfl
theorem eqB (l m : List UInt8) : ((B l).toList == m) = decide (l = m) := by
  rw [B_toList]
  by_cases h : l = m
  · rw [h]; simp
  · rw [decide_eq_false h]; exact beq_eq_false_iff_ne.2 h
theorem callN {w : World} (hb : Bs w) (x : List UInt8) (hx : x.length ≤ 3000000) : ∀ wq, Below w.heap.size w wq → Calls Tryd.prog 70 #[.string (B x)] wq fun e w' => e = .returned (.tuple #[.int .i64 (numP x).1, .bool (strictN x)]) ∧ Below wq.heap.size wq w' :=
  fun wq h => strictNumber_walk wq (hb.below h) (B x) (by rw [B_size]; exact hx)
theorem callB {w : World} (x : List UInt8) (hx : x.length ≤ 3000000) : ∀ wq, Below w.heap.size w wq → Calls Tryd.prog 71 #[.string (B x)] wq fun e w' => e = .returned (.tuple #[.string (byt x), .bool (strictB x)]) ∧ Below wq.heap.size wq w' :=
  fun wq h => strictBytes_walk wq (B x) (by rw [B_size]; exact hx)
theorem rest_walk (w : World) (hb : Bs w) (op : Int) (ao : Option Addr) (b o c : Nat) (ws : List (List UInt8)) (hao : ws ≠ [] → ao = some ⟨b, o, none⟩) (hl : LT w b o ws) (hs : ∀ x ∈ ws, x.length ≤ 3000000) (hn : ws.length ≤ 3000000) :
    Calls Tryd.prog 52 #[.int .i64 op, .slice ao ws.length c] w (RestP (restO op ws) w) := by
  have F : ∀ k : Int, op ≠ k → (op == k) = false := fun k h => beq_eq_false_iff_ne.2 h
  match ws, hao, hl, hs, hn with
  | [], _, _, _, _ =>
    by_cases h6 : op = 6
    · subst h6; exact rest0_6 w _ ao c rfl
    · by_cases h10 : op = 10
      · subst h10; exact rest0_10 w _ ao c rfl
      · exact rest0_x w op _ ao c (F 6 h6) (F 10 h10) (by simp [restO, okA, h6, h10])
  | [x], hao, hl, hs, _ =>
    obtain rfl := hao (by simp)
    have c0 := hl 0 x rfl
    have hx : x.length ≤ 3000000 := hs x (by simp)
    by_cases h6 : op = 6
    · subst h6; exact rest1_6 w _ b o c _ c0 rfl
    by_cases h10 : op = 10
    · subst h10; exact rest1_10 w _ b o c _ c0 rfl
    by_cases h2 : op = 2
    · subst h2; exact rest1_2 w _ b o c _ c0 _ (eqB x _) rfl
    by_cases h9 : op = 9
    · subst h9; exact rest1_9 w _ b o c _ c0 _ (eqB x _) rfl
    by_cases h14 : op = 14
    · subst h14; exact rest1_14 w _ b o c _ c0 _ (eqB x _) rfl
    by_cases h4 : op = 4
    · subst h4
      by_cases hy : x = wYes
      · exact rest1_4y w _ b o c _ c0 ((eqB x _).trans (decide_eq_true hy)) (by simp [restO, hy])
      · exact rest1_4n w _ b o c _ c0 _ ((eqB x _).trans (decide_eq_false hy)) (eqB x _) (show restO 4 [x] = okA (decide (x = wNo)) (A0 4) by simp [restO, hy])
    by_cases h3 : op = 3
    · subst h3
      by_cases hy : x = wNew
      · exact rest1_3y w _ b o c _ c0 ((eqB x _).trans (decide_eq_true hy)) (by simp [restO, hy])
      · exact rest1_3n w _ b o c _ c0 _ ((eqB x _).trans (decide_eq_false hy)) (eqB x _) (show restO 3 [x] = okA (decide (x = wOld)) (A0 3) by simp [restO, hy])
    · exact rest1_x w op _ b o c _ c0 _ _ (callN hb x hx) (F _ h6) (F _ h10) (F _ h2) (F _ h4) (F _ h3) (F _ h9) (F _ h14) (by simp [restO, h6, h10, h2, h9, h14, h4, h3, okA])
  | [x, y], hao, hl, hs, _ =>
    obtain rfl := hao (by simp)
    have c0 := hl 0 x rfl
    have c1 := hl 1 y rfl
    have hy : y.length ≤ 3000000 := hs y (by simp)
    by_cases he : x = wError
    · exact rest2_err w op _ b o c _ c0 _ c1 _ _ (callN hb y hy) ((eqB x _).trans (decide_eq_true he)) (by simp [restO, he, okA])
    · have hq0 := (eqB x wError).trans (decide_eq_false he)
      by_cases h2 : op = 2
      · subst h2
        by_cases hz : x = wYes
        · exact rest2_2y w _ b o c _ c0 _ c1 _ _ (callB y hy) hq0 ((eqB x _).trans (decide_eq_true hz)) (by subst hz; simp [restO, okA, wYes, wError])
        · exact rest2_2n w _ b o c _ c0 _ c1 hq0 ((eqB x _).trans (decide_eq_false hz)) (by simp [restO, he, hz])
      by_cases h9 : op = 9
      · subst h9; exact rest2_9 w _ b o c _ c0 _ c1 hq0 (by simp [restO, he])
      by_cases h14 : op = 14
      · subst h14; exact rest2_14 w _ b o c _ c0 _ c1 hq0 (by simp [restO, he])
      · exact rest2_x w op _ b o c _ c0 _ c1 (F _ h2) (F _ h9) (F _ h14) hq0 (by simp [restO, he, h2])
  | [x, y, z], hao, hl, hs, _ =>
    obtain rfl := hao (by simp)
    have c0 := hl 0 x rfl
    have c1 := hl 1 y rfl
    have c2 := hl 2 z rfl
    have hy : y.length ≤ 3000000 := hs y (by simp)
    have hz : z.length ≤ 3000000 := hs z (by simp)
    by_cases h9 : op = 9
    · subst h9
      by_cases hp : x = wPair
      · exact rest3_9y w _ b o c _ c0 _ c1 _ c2 _ _ (callB y hy) _ _ (callB z hz) ((eqB x _).trans (decide_eq_true hp)) (by simp [restO, hp, okA])
      · exact rest3_9n w _ b o c _ c0 _ c1 _ c2 ((eqB x _).trans (decide_eq_false hp)) (by simp [restO, hp])
    by_cases h14 : op = 14
    · subst h14
      by_cases hp : x = wRule
      · exact rest3_14y w _ b o c _ c0 _ c1 _ c2 _ _ (callN hb y hy) _ _ (callN hb z hz) ((eqB x _).trans (decide_eq_true hp)) (by simp [restO, hp, okA])
      · exact rest3_14n w _ b o c _ c0 _ c1 _ c2 ((eqB x _).trans (decide_eq_false hp)) (by simp [restO, hp])
    by_cases h2 : op = 2
    · subst h2; exact rest3_2 w _ b o c _ c0 _ c1 _ c2 (by simp [restO])
    · exact rest3_x w op _ b o c _ c0 _ c1 _ c2 (F _ h2) (F _ h9) (F _ h14) (by simp [restO, h9, h14])
  | x :: y :: z :: u :: r, hao, hl, hs, hn =>
    obtain rfl := hao (by simp)
    have c0 := hl 0 x rfl
    have hr : restO op (x :: y :: z :: u :: r) = none := rfl
    have hlen : 4 ≤ (x :: y :: z :: u :: r).length := by simp
    rw [hr]
    generalize (x :: y :: z :: u :: r).length = n at hn hlen
    by_cases h2 : op = 2
    · subst h2; exact restn_2 w _ b o c n hlen hn _ c0 rfl
    by_cases h9 : op = 9
    · subst h9; exact restn_9 w _ b o c n hlen hn _ c0 rfl
    by_cases h14 : op = 14
    · subst h14; exact restn_14 w _ b o c n hlen hn _ c0 rfl
    · exact restn_x w op _ b o c n hlen hn _ c0 (F _ h2) (F _ h9) (F _ h14) rfl
end Go.Proofs.YtigaacbaaopfmaaDoor.sh
/- A line read as an answer: the program's Read, walked. -/
namespace Go.Proofs.YtigaacbaaopfmaaDoor.sh
open Go.RowKit
set_option linter.unusedVariables false
/-- A line's pieces. -/
def splitL (l : List UInt8) : List (List UInt8) := Lib.split l [32]
def pre (c : UInt8) : List (List UInt8) → List (List UInt8)
  | x :: xs => (c :: x) :: xs
  | [] => [[c]]
theorem splitL_nil : splitL [] = [[]] := by decide
theorem splitL_cons (c : UInt8) (r : List UInt8) : splitL (c :: r) = if c = 32 then [] :: splitL r else pre c (splitL r) := by
  unfold splitL Lib.split
  by_cases hc : c = 32
  · subst hc
    rw [if_pos rfl, Lib.count_cons_eq, Nat.add_comm, Lib.splitK]
    have hix : Lib.index (32 :: r) [32] = 0 := by rw [Lib.index]; simp [List.isPrefixOf]
    rw [hix]
    rfl
  · rw [if_neg hc, Lib.count_cons_ne _ _ _ hc]
    have hp : ([32] : List UInt8).isPrefixOf (c :: r) = false := by simp [List.isPrefixOf, Ne.symm hc]
    have hix : Lib.index (c :: r) [32] = if Lib.index r [32] == -1 then -1 else Lib.index r [32] + 1 := by rw [Lib.index, hp]; simp
    cases hk : Lib.count r [32] with
    | zero => rfl
    | succ k =>
      rw [Lib.splitK, Lib.splitK, hix]
      by_cases h1 : (Lib.index r [32] == -1) = true
      · rw [if_pos h1, if_pos h1]; rfl
      · have hge := Lib.index_ge r [32]
        have hne : Lib.index r [32] ≠ -1 := fun e => h1 (by rw [e]; rfl)
        obtain ⟨i, hi⟩ : ∃ i : Nat, Lib.index r [32] = i := ⟨(Lib.index r [32]).toNat, by omega⟩
        rw [if_neg h1, if_neg h1, hi]
        have h2 : ¬ ((((i : Int) + 1) == -1) = true) := fun e => by have := beq_iff_eq.1 e; omega
        rw [if_neg h2]
        have e1 : ((i : Int) + 1).toNat = i + 1 := by omega
        rw [e1, Int.toNat_natCast]
        simp [pre]
def readO (l : List UInt8) : Option Ans :=
  if 1 ≤ findP ((splitL l).headD []) ∧ findP ((splitL l).headD []) ≤ 14 then restO (findP ((splitL l).headD [])) (splitL l).tail else none
def ReadP (r : Option Ans) (w : World) (e : Ending) (w' : World) : Prop :=
  ∃ (a : Ans) (n : Int), e = .returned (.tuple #[a.v, .int .i64 n]) ∧ Below w.heap.size w w' ∧ (match r with | some x => a = x ∧ n = 0 | none => a = A0 0 ∧ n = 160)
theorem splitL_eq (s : ByteArray) : ((Lib.splitB ⟨#[32]⟩ 0 (Lib.countB s ⟨#[32]⟩) s).map Value.string) = (splitL s.data.toList).map fun x => Value.string (B x) := by
  have h := Lib.splitB_data ⟨#[32]⟩ 0 (Lib.countB s ⟨#[32]⟩) s
  have hc : Lib.countB s ⟨#[32]⟩ = Lib.count s.data.toList [32] := rfl
  have : splitL s.data.toList = (Lib.splitB ⟨#[32]⟩ 0 (Lib.countB s ⟨#[32]⟩) s).map (·.data.toList) := by
    rw [h, hc]; rfl
  rw [this, List.map_map]
  apply List.map_congr_left
  intro x _
  show Value.string x = Value.string (B x.data.toList)
  rw [B_of]
theorem pre_ne (c : UInt8) (l : List (List UInt8)) : pre c l ≠ [] := by cases l <;> simp [pre]
theorem splitL_ne : ∀ l : List UInt8, splitL l ≠ []
  | [] => by rw [splitL_nil]; simp
  | c :: r => by rw [splitL_cons]; split <;> simp [pre_ne]
theorem pre_len (c : UInt8) (l : List (List UInt8)) (h : l ≠ []) : (pre c l).length = l.length := by cases l <;> simp_all [pre]
theorem splitL_len : ∀ l : List UInt8, (splitL l).length ≤ l.length + 1
  | [] => by rw [splitL_nil]; simp
  | c :: r => by
    have := splitL_len r
    rw [splitL_cons]
    split
    · simp; omega
    · rw [pre_len _ _ (splitL_ne r)]; simp; omega
theorem splitL_mem : ∀ (l x : List UInt8), x ∈ splitL l → x.length ≤ l.length
  | [], x, h => by rw [splitL_nil] at h; simp at h; subst h; simp
  | c :: r, x, h => by
    rw [splitL_cons] at h
    split at h
    · rcases List.mem_cons.1 h with h | h
      · subst h; simp
      · have := splitL_mem r x h; simp; omega
    · cases hr : splitL r with
      | nil => exact absurd hr (splitL_ne r)
      | cons y ys =>
        rw [hr] at h
        rcases List.mem_cons.1 h with h | h
        · subst h
          have := splitL_mem r y (by rw [hr]; simp)
          simp; omega
        · have := splitL_mem r x (by rw [hr]; simp [h])
          simp; omega
/-- strings.Split of a line at blanks. -/
theorem split_walk (w : World) (hb : Bs w) (s : ByteArray) (hs : s.size ≤ 3000000) :
    Calls Tryd.prog 51 #[.string s, .string ⟨#[32]⟩] w fun e w' => e = .returned (.slice (some ⟨w.heap.size, 0, none⟩) (splitL s.data.toList).length (splitL s.data.toList).length) ∧ LT w' w.heap.size 0 (splitL s.data.toList) ∧ w.heap.size < w'.heap.size ∧ Below w.heap.size w w' := by
  obtain ⟨m, hm⟩ := hb.mx
  refine (Tryd.strings_Split s ⟨#[32]⟩ m w (by omega) hm (by decide)).mono ?_
  rintro e w' ⟨rfl, rfl⟩
  rw [splitL_eq]
  have hl : (splitL s.data.toList).length = Lib.countB s ⟨#[32]⟩ + 1 := by
    have h1 := congrArg List.length (splitL_eq s)
    rw [List.length_map, List.length_map, Lib.splitB_all ⟨#[32]⟩ (by decide) 0 _ s rfl] at h1
    exact h1.symm
  refine ⟨by rw [hl], fun j x hx => ?_, by simp, (Below.refl _ _).alloc (Nat.le_refl _) _⟩
  have h0 := heap_alloc_new w (.cells (List.map (fun x => Value.string (B x)) (splitL s.data.toList)).toArray 9)
  have : ((List.map (fun x => Value.string (B x)) (splitL s.data.toList)).toArray)[0 + j]? = some (.string (B x)) := by
    rw [List.getElem?_toArray, List.getElem?_map, Nat.zero_add, hx]; rfl
  unfold World.cell?
  rw [h0]
  exact this
theorem findP_in (l : List UInt8) : -1 ≤ findP l ∧ findP l < 16 := by
  have : ∀ g k, k + g = 16 → -1 ≤ findFrom l k g ∧ findFrom l k g < 16 := by
    intro g
    induction g with
    | zero => intro k _; simp [findFrom]
    | succ g ih =>
      intro k hk
      rw [findFrom]
      split
      · omega
      · exact ih (k + 1) (by omega)
  exact this 16 0 rfl
theorem headD_of {l : List (List UInt8)} (h : l ≠ []) : l[0]? = some (l.headD []) := by cases l <;> simp_all
theorem LT.cell0 {w : World} {b : Nat} {l : List (List UInt8)} (h : LT w b 0 l) (hl : l ≠ []) : w.cell? ⟨b, 0, none⟩ = some (.string (B (l.headD []))) := h 0 _ (headD_of hl)
theorem LT.tail {w : World} {b o : Nat} {l : List (List UInt8)} (h : LT w b o l) : LT w b (o + 1) l.tail := fun j x hx => by
  have : l[j + 1]? = some x := by cases l <;> simp_all
  have h2 := h (j + 1) x this
  rw [show o + 1 + j = o + (j + 1) by omega]; exact h2
theorem Rowz.op {w : World} (h : Rowz w) (i : Nat) (hi : i < 16) : w.cell? ⟨0, i * 4 + 1, none⟩ = some (.int .i64 (opOf i)) := by
  obtain ⟨cs, t, fr, h1, h2, h3⟩ := h
  unfold World.cell?
  rw [h1]
  exact (h3 i hi).2.1
theorem elem74 : Tryd.prog.elem 74 = 9 := by kernel_rfl
theorem under74 : Tryd.prog.underlying 74 = some (.slice (Tryd.prog.elem 74)) := by rw [elem74]; exact Tryd.underlying74
/-- All but the first. -/
theorem slice1 (W : World) (b n : Nat) : (Instr.slice 74 (.slice (some ⟨b, 0, none⟩) (n + 1) (n + 1)) (some (.int .i64 1)) none none).run Tryd.prog W = .ok (.slice (some ⟨b, if n = 0 then 0 else 1, none⟩) n n) W := by
  rw [run_slice_l (P := Tryd.prog) W 74 (some ⟨b, 0, none⟩) (n + 1) (n + 1) under74 .i64 1 (by decide) (by omega), elem74, Tryd.sizeOf9]
  simp [Result.andThen, sliced]
  by_cases h : n = 0
  · subst h; simp
  · simp [h, Addr.add]
theorem Bx.setO {w : World} {g n k : Nat} {t : TypeId} (h : Bx w g n t) (i : Nat) (v : Value) (hk : g ≠ k) : Bx (w.setCell ⟨k, i, none⟩ v) g n t := by
  obtain ⟨cs, h1, h2⟩ := h
  exact ⟨cs, (heap_setCell_other w ⟨k, i, none⟩ g v hk).trans h1, h2⟩
theorem Bx.drew {w : World} {g n : Nat} {t : TypeId} (h : Bx w g n t) : Bx w.drew g n t := h
theorem alsize (w : World) (o : Obj) : (w.alloc o).heap.size = w.heap.size + 1 := by simp
set_option maxHeartbeats 4000000 in
set_option maxRecDepth 100000 in
theorem read_no (w : World) (hb : Bs w) (hr : Rowz w) (s : ByteArray) (hs : s.size ≤ 3000000) (h : ¬ (1 ≤ findP ((splitL s.data.toList).headD []) ∧ findP ((splitL s.data.toList).headD []) ≤ 14)) :
    Calls Tryd.prog 25 #[.string s] w (ReadP none w) := by
  have cs := fun wq (h : Below w.heap.size w wq) => split_walk wq (hb.below h) s hs
  have hne := splitL_ne s.data.toList
  have hlen := splitL_len s.data.toList
  have hsz : s.data.toList.length = s.size := by rw [Array.length_toList]; rfl
  have hmem := splitL_mem s.data.toList
  generalize splitL s.data.toList = ws at *
  obtain ⟨h0, t, rfl⟩ := List.exists_cons_of_ne_nil hne
  simp only [List.headD_cons] at h
  have hcl : ∀ wq b, LT wq b 0 (h0 :: t) → wq.cell? ⟨b, 0, none⟩ = some (.string (B h0)) := fun wq b hl => hl 0 h0 rfl
  have cf := fun wq (hq : Rowz wq) => find_walk wq (B h0) hq
  rw [B_data] at cf
  obtain ⟨q, hq⟩ : ∃ q, findP h0 = q := ⟨_, rfl⟩
  rw [hq] at cf h
  obtain ⟨n, hn⟩ : ∃ n, t.length = n := ⟨_, rfl⟩
  rw [List.length_cons, hn] at cs hlen
  have hn1 : n ≤ 3000000 := by omega
  generalize B h0 = x0 at hcl cf
  clear hq hlen hsz hn hmem hne
  by_cases h1 : q < 1
  · clear h
    go_enter Tryd.func25, Tryd.ntmps25
    go_wp2_with fail
    refine (cs _ ((Below.refl _ _).alloc (Nat.le_refl _) _)).mono ?_
    rintro e w1 ⟨rfl, hl, hz, hB⟩
    have hb1 := below_two ((Below.refl _ _).alloc (Nat.le_refl _) _) hB
    have c0 := hcl _ _ hl
    have hr1 := hr.below hb1
    clear hb1
    obtain ⟨hc1, hf1⟩ := bcell hB
    have hz1 : w.heap.size < w1.heap.size := by have := hB.size; (try simp at this); omega
    simp only [alsize] at c0
    go_wp2_with fail
    refine (cf _ hr1).mono ?_
    rintro e w2 ⟨rfl, hB2⟩
    obtain ⟨hc2, hf2⟩ := bcell hB2
    have hz2 : w.heap.size < w2.heap.size := by have := hB2.size; omega
    clear cf cs hcl
    go_wp2
    refine bodyPost_ret (v := .tuple #[.agg #[.int .i64 0, .int .i64 0, .int .i64 0, .int .i64 0, .bool false, .string ⟨#[]⟩, .string ⟨#[]⟩], .int .i64 160]) ?res rfl ⟨A0 0, _, rfl, ?_, rfl, rfl⟩
    case res =>
      refine results_cell_tmp (p := 2) (q := 3) (ty := 24) rfl _ _ w.heap.size 24 #[.int .i64 0, .int .i64 0, .int .i64 0, .int .i64 0, .bool false, .string ⟨#[]⟩, .string ⟨#[]⟩] (0, 0) _ _ rfl rfl ?_ Tryd.underlying24 rfl size24
      refine Bx.full7 ?_ _ _ _ _ _ _ _
      repeat (first | with_reducible refine Bx.set ?_ _ _ | with_reducible refine Bx.below ?_ (by with_reducible assumption) | exact Bx.new _ _ _ _ rfl | with_reducible refine Bx.old ?_ _)
    repeat (first | with_reducible assumption | with_reducible refine below_set ?_ (Nat.le_refl _) _ | with_reducible refine Below.alloc ?_ (Nat.le_refl _) _ | with_reducible exact Below.refl _ _ | with_reducible refine below_two ?_ (by with_reducible assumption))
  · have h2 : q > 14 := by omega
    clear h
    go_enter Tryd.func25, Tryd.ntmps25
    go_wp2_with fail
    refine (cs _ ((Below.refl _ _).alloc (Nat.le_refl _) _)).mono ?_
    rintro e w1 ⟨rfl, hl, hz, hB⟩
    have hb1 := below_two ((Below.refl _ _).alloc (Nat.le_refl _) _) hB
    have c0 := hcl _ _ hl
    have hr1 := hr.below hb1
    clear hb1
    obtain ⟨hc1, hf1⟩ := bcell hB
    have hz1 : w.heap.size < w1.heap.size := by have := hB.size; (try simp at this); omega
    simp only [alsize] at c0
    go_wp2_with fail
    refine (cf _ hr1).mono ?_
    rintro e w2 ⟨rfl, hB2⟩
    obtain ⟨hc2, hf2⟩ := bcell hB2
    have hz2 : w.heap.size < w2.heap.size := by have := hB2.size; omega
    clear cf cs hcl
    go_wp2
    refine bodyPost_ret (v := .tuple #[.agg #[.int .i64 0, .int .i64 0, .int .i64 0, .int .i64 0, .bool false, .string ⟨#[]⟩, .string ⟨#[]⟩], .int .i64 160]) ?res rfl ⟨A0 0, _, rfl, ?_, rfl, rfl⟩
    case res =>
      refine results_cell_tmp (p := 2) (q := 3) (ty := 24) rfl _ _ w.heap.size 24 #[.int .i64 0, .int .i64 0, .int .i64 0, .int .i64 0, .bool false, .string ⟨#[]⟩, .string ⟨#[]⟩] (0, 0) _ _ rfl rfl ?_ Tryd.underlying24 rfl size24
      refine Bx.full7 ?_ _ _ _ _ _ _ _
      repeat (first | with_reducible refine Bx.set ?_ _ _ | with_reducible refine Bx.below ?_ (by with_reducible assumption) | exact Bx.new _ _ _ _ rfl | with_reducible refine Bx.old ?_ _)
    repeat (first | with_reducible assumption | with_reducible refine below_set ?_ (Nat.le_refl _) _ | with_reducible refine Below.alloc ?_ (Nat.le_refl _) _ | with_reducible exact Below.refl _ _ | with_reducible refine below_two ?_ (by with_reducible assumption))
end Go.Proofs.YtigaacbaaopfmaaDoor.sh
/- What the rows' listed tables give: the tables' cells. -/
namespace Go.Proofs.YtigaacbaaopfmaaDoor.sh
open Go.ChangeShapes Go.WideShapes Go.ChangeAt Go.RowKit
set_option linter.unusedVariables false
theorem gRows : Tryd.prog.globalNamed "larder/script.rows" = some 0 := by kernel_rfl
theorem tRows : (Tryd.prog.globals[0]?).map (·.type) = some 83 := by kernel_rfl
theorem gPow : Tryd.prog.globalNamed "internal/strconv.uint64pow10" = some 1 := by kernel_rfl
theorem tPow : (Tryd.prog.globals[1]?).map (·.type) = some 158 := by kernel_rfl
theorem gDb : Tryd.prog.globalNamed "math/bits.deBruijn64tab" = some 6 := by kernel_rfl
theorem tDb : (Tryd.prog.globals[6]?).map (·.type) = some 178 := by kernel_rfl
theorem gEr : Tryd.prog.globalNamed "strconv.ErrRange" = some 8 := by kernel_rfl
theorem tEr : (Tryd.prog.globals[8]?).map (·.type) = some 65 := by kernel_rfl
theorem cells158 : Tryd.prog.cellsOf 158 = 20 := by kernel_rfl
theorem cells178 : Tryd.prog.cellsOf 178 = 64 := by kernel_rfl
theorem cells32 : Tryd.prog.cellsOf 32 = 1 := by kernel_rfl
theorem cells5 : Tryd.prog.cellsOf 5 = 1 := by kernel_rfl
theorem cells82 : Tryd.prog.cellsOf 82 = 4 := by kernel_rfl
theorem cells24 : Tryd.prog.cellsOf 24 = 7 := by kernel_rfl
theorem cells9 : Tryd.prog.cellsOf 9 = 1 := by kernel_rfl
theorem cells3 : Tryd.prog.cellsOf 3 = 1 := by kernel_rfl
theorem cells4 : Tryd.prog.cellsOf 4 = 1 := by kernel_rfl
theorem cells22 : Tryd.prog.cellsOf 22 = 1 := by kernel_rfl
theorem own : ownKnob Tryd.prog.godebug = none := by kernel_rfl
theorem laidOut : laidOutB Tryd.prog = true := by kernel_rfl
theorem var_heap {W : World} {n : String} {g : Nat} {cs : Array Value} (hg : Tryd.prog.globalNamed n = some g) (h : W.var? Tryd.prog n = some cs) : ∃ t fr, W.heap[g]? = some (.cells cs t fr) := by
  unfold World.var? at h
  rw [hg] at h
  simp only [Option.bind_some] at h
  split at h
  · next cs' t fr e => rw [Option.some.inj h] at e; exact ⟨_, _, e⟩
  · cases h
def rowD (i : Nat) : DataW Unit := .agg [.lit (.string (names.getD i [])), .lit (.int .i64 (opOf i)), .lit (.string (forms.getD i [])), .lit (.bool (moreOf i))]
theorem rowAt : ∀ i, i < 16 → (match (Rows.laid_larder_script_rows (H := Unit)) with | .agg l => l[i]? | _ => none) = some (rowD i) := fun i hi => by
  match i, hi with
  | 0, _ => rfl
  | 1, _ => rfl
  | 2, _ => rfl
  | 3, _ => rfl
  | 4, _ => rfl
  | 5, _ => rfl
  | 6, _ => rfl
  | 7, _ => rfl
  | 8, _ => rfl
  | 9, _ => rfl
  | 10, _ => rfl
  | 11, _ => rfl
  | 12, _ => rfl
  | 13, _ => rfl
  | 14, _ => rfl
  | 15, _ => rfl
  | n + 16, hi => omega
theorem cell_at {cs : Array Value} {m k : Nat} {v : Value} (h : List.take 1 (List.drop k (List.take 4 (List.drop m cs.toList))) = [v]) (hk : k < 4) : cs[m + k]? = some v := by
  have h1 := congrArg (·[0]?) h
  simp only [List.getElem?_take, List.getElem?_drop, List.getElem?_cons_zero] at h1
  rw [if_pos (by omega), Nat.add_zero, if_pos hk] at h1
  simpa using h1
theorem rowz_of {W : World} {cs3 : Array Value} {f3 : Nat} {p3 : List MemPlace} (hv3 : W.var? Tryd.prog "larder/script.rows" = some cs3)
    (hd3 : DataW.trod (fun _ => ()) Tryd.prog W 0 (fun _ => true) false f3 83 cs3.toList = some (Rows.laid_larder_script_rows, p3)) : Rowz W := by
  obtain ⟨t, fr, hh⟩ := var_heap gRows hv3
  obtain ⟨xs, m1, rfl, hx1, hlen, hn3, hel⟩ := DataW.trod_array Tryd.underlying83 hd3
  refine ⟨cs3, t, fr, hh, ?_, fun i hi => ?_⟩
  · have h83 : Tryd.prog.cellsOf 83 = 64 := by kernel_rfl
    rw [h83] at hlen; simpa using hlen
  · have hi' := hel i hi
    rw [cells82] at hi'
    have hx : (xs.map (·.1))[i]? = some (rowD i) := by
      have e : Rows.laid_larder_script_rows = DataW.agg (xs.map (·.1)) := congrArg Prod.fst hx1
      have hr := rowAt i hi
      rw [e] at hr
      exact hr
    rw [List.getElem?_map] at hx
    obtain ⟨x, hxi, hxe⟩ := Option.map_eq_some_iff.1 hx
    rw [hxi] at hi'
    obtain ⟨ys, n, _, rfl, hl, hyl, hf⟩ := DataW.trod_struct Tryd.underlying82 hi'
    match ys, hyl, hf, hxe with
    | [y0, y1, y2, y3], _, hf, hxe =>
      have h0 := hf 0 _ rfl
      have h1 := hf 1 _ rfl
      have h2 := hf 2 _ rfl
      have h3 := hf 3 _ rfl
      replace h0 : DataW.trod (fun _ => ()) Tryd.prog W 0 (fun _ => true) false n 9 (List.take (Tryd.prog.cellsOf 9) (List.drop 0 (List.take 4 (List.drop (i * 4) cs3.toList)))) = some y0 := h0
      replace h1 : DataW.trod (fun _ => ()) Tryd.prog W 0 (fun _ => true) false n 3 (List.take (Tryd.prog.cellsOf 3) (List.drop 1 (List.take 4 (List.drop (i * 4) cs3.toList)))) = some y1 := h1
      replace h2 : DataW.trod (fun _ => ()) Tryd.prog W 0 (fun _ => true) false n 9 (List.take (Tryd.prog.cellsOf 9) (List.drop 2 (List.take 4 (List.drop (i * 4) cs3.toList)))) = some y2 := h2
      replace h3 : DataW.trod (fun _ => ()) Tryd.prog W 0 (fun _ => true) false n 4 (List.take (Tryd.prog.cellsOf 4) (List.drop 3 (List.take 4 (List.drop (i * 4) cs3.toList)))) = some y3 := h3
      rw [cells9] at h0 h2
      rw [cells3] at h1
      rw [cells4] at h3
      obtain ⟨s0, e0, d0, _⟩ := DataW.trod_string Tryd.underlying9 h0
      obtain ⟨n1, e1, d1, _⟩ := DataW.trod_int Tryd.underlying3 h1
      obtain ⟨s2, e2, d2, _⟩ := DataW.trod_string Tryd.underlying9 h2
      obtain ⟨b3, e3, d3⟩ := DataW.trod_bool Tryd.underlying4 h3
      unfold rowD at hxe
      simp only [List.map_cons, List.map_nil, DataW.agg.injEq, List.cons.injEq, and_true, d0, d1, d2, d3, DataW.lit.injEq, Lit.string.injEq, Lit.int.injEq, Lit.bool.injEq, true_and] at hxe
      obtain ⟨x0, x1, x2, x3⟩ := hxe
      have g0 := cell_at e0 (by omega)
      have g1 := cell_at e1 (by omega)
      have g2 := cell_at e2 (by omega)
      have g3 := cell_at e3 (by omega)
      refine ⟨?_, ?_, ?_, ?_⟩
      · rw [Nat.add_zero] at g0; rw [g0]; unfold nm; rw [← x0, B_of]
      · rw [g1, x1]
      · rw [g2]; unfold formOf; rw [← x2, B_of]
      · rw [g3, x3]
set_option maxRecDepth 100000 in
theorem iface_of {W : World} {fu t : Nat} {cs : List Value} {ms : Array (String × TypeId)} {nm : String} {d : DataW Unit} {p : List MemPlace} (ht : Tryd.prog.underlying t = some (.interface ms))
    (h : DataW.trod (fun _ => ()) Tryd.prog W 0 (fun _ => true) false fu t cs = some (.iface nm d, p)) : ∃ u v, cs = [.iface u v] := by
  cases fu with
  | zero => simp [DataW.trod] at h
  | succ n =>
    simp only [DataW.trod, ht] at h
    split at h <;> first | exact ⟨_, _, rfl⟩ | (cases h; done) | simp_all
/-- What a row's eight listed tables give. -/
theorem of_laid8 {W : World} (h : laidMetH Tryd.prog Rows.scriptLineUptoRow.laid W) (hsh : W.ShapedOpen Tryd.prog) : Bs W ∧ Rowz W := by
  rw [MakeChecks.laidMetH_plain _ _ _ (by kernel_rfl)] at h
  obtain ⟨ps, ⟨_, _, _, _, _, _, _, _, _, _, ⟨g2, t2, cs2, f2, p2, q2, hg2, ht2, hv2, hd2, ⟨g3, t3, cs3, f3, p3, q3, hg3, ht3, hv3, hd3, ⟨_, _, _, _, _, _, _, _, _, _, ⟨g5, t5, cs5, f5, p5, q5, hg5, ht5, hv5, hd5, ⟨_, _, _, _, _, _, _, _, _, _, ⟨g7, t7, cs7, f7, p7, q7, hg7, ht7, hv7, hd7, _, _⟩, _⟩, _⟩, _⟩, _⟩, _⟩, _⟩, _, _⟩ := h
  obtain rfl := Option.some.inj (gDb.symm.trans hg2)
  obtain rfl := Option.some.inj (tDb.symm.trans ht2)
  obtain rfl := Option.some.inj (gPow.symm.trans hg3)
  obtain rfl := Option.some.inj (tPow.symm.trans ht3)
  obtain rfl := Option.some.inj (gEr.symm.trans hg5)
  obtain rfl := Option.some.inj (tEr.symm.trans ht5)
  obtain rfl := Option.some.inj (gRows.symm.trans hg7)
  obtain rfl := Option.some.inj (tRows.symm.trans ht7)
  have hz := rowz_of hv7 hd7
  have hc3 := Lib.cells_of_tab (zs := Lib.pow10Tab) Tryd.underlying158 Tryd.underlying32 cells32 cells158 (show DataW.trod _ Tryd.prog W 0 _ false f3 158 _ = some (Lib.tabData .u64 Lib.pow10Tab, p3) from hd3)
  refine ⟨⟨⟨⟨fun i hi => ?_, ?_⟩, ?_⟩, ?_, Tryd.laysM219.s1_3 W hsh⟩, hz⟩
  · obtain ⟨cs, t, fr, h1, h2, h3⟩ := hz
    unfold World.cell?
    rw [h1]
    exact (h3 i hi).1
  · show W.var? Tryd.prog "internal/strconv.uint64pow10" = _
    rw [hv3, ← hc3]
  · have hc2 := Lib.cells_of_tab (zs := (Lib.deBruijn64tab.map fun z : Nat => (z : Int))) Tryd.underlying178 Tryd.underlying5 cells5 cells178 (show DataW.trod _ Tryd.prog W 0 _ false f2 178 _ = some (Lib.tabData .u8 (Lib.deBruijn64tab.map fun z : Nat => (z : Int)), p2) from hd2)
    have := World.var?_cell hg2 hv2 15
    rw [this]
    have e2 : cs2[15]? = cs2.toList[15]? := by simp
    rw [e2, hc2]
    rfl
  · obtain ⟨u, v, e⟩ := iface_of Tryd.underlying65 hd5
    refine ⟨u, v, ?_⟩
    have := World.var?_cell hg5 hv5 0
    rw [this]
    have e2 : cs5[0]? = cs5.toList[0]? := by simp
    rw [e2, e]; rfl
end Go.Proofs.YtigaacbaaopfmaaDoor.sh
