/- The rest of an answer's line: the program's, walked. -/
import Derived.Test.YtigaacbaaopfmaaDoorFd
import Derived.OneCell
namespace Go.Proofs.YtigaacbaaopfmaaDoor.sh
open Go.RowKit
set_option linter.unusedVariables false
theorem bcell {W w1 : World} (hb : Below W.heap.size W w1) : (∀ b o, b < W.heap.size → w1.cell? ⟨b, o, none⟩ = W.cell? ⟨b, o, none⟩) ∧ (∀ b o, b < W.heap.size → w1.frozen? ⟨b, o, none⟩ = W.frozen? ⟨b, o, none⟩) :=
  ⟨fun b o h => hb.cell (p := ⟨b, o, none⟩) h, fun b o h => hb.frozen (p := ⟨b, o, none⟩) h⟩
abbrev A0 (op : Int) : Ans := ⟨op, 0, 0, 0, false, ⟨#[]⟩, ⟨#[]⟩⟩
def RestP (r : Option Ans) (w : World) (e : Ending) (w' : World) : Prop := ∃ (a : Ans) (ok : Bool), e = .returned (.tuple #[a.v, .bool ok]) ∧ Below w.heap.size w w' ∧ ok = r.isSome ∧ ∀ x, r = some x → a = x
theorem rfin {r : Option Ans} {w w' : World} {a : Ans} {ok : Bool} (hB : Below w.heap.size w w') (h : r = if ok then some a else none) : RestP r w (.returned (.tuple #[a.v, .bool ok])) w' := by
  refine ⟨a, ok, rfl, hB, ?_, ?_⟩
  · rw [h]; cases ok <;> rfl
  · intro x hx; rw [h] at hx; cases ok
    · cases hx
    · exact Option.some.inj hx
/-- Two worlds apart by new blocks and by stores into the new one. -/
theorem below_two {w W w1 : World} (h : Below w.heap.size w W) (k : Below W.heap.size W w1) : Below w.heap.size w w1 := h.trans (k.mono h.size)
theorem results_cell_tmp {P : Program} {fn : Func} {p q : Tmp} {ty : TypeId} (h : fn.results = #[.cell p ty, .tmp q]) (tmps : Array Value) (w : World) (g : Nat) (t : TypeId) (cs : Array Value) (fr : Nat × Nat) (d : TypeDesc) (v : Value)
    (hp : tmps.getD p undef = .pointer (some ⟨g, 0, none⟩)) (hv : tmps.getD q undef = v) (hg : w.heap[g]? = some (.cells cs t fr))
    (hu : P.underlying ty = some d) (hd : (match d with | .struct _ | .array _ _ => true | _ => false) = true) (hi : (P.info? ty).map (·.size) = some cs.size) :
    (results fn tmps).run P w = .ok (.tuple #[.agg cs, v]) w := by
  have hp' : tmps[p]?.getD undef = .pointer (some ⟨g, 0, none⟩) := by simpa using hp
  have hv' : tmps[q]?.getD undef = v := by simpa using hv
  simp [results, h, hp', hv', asAddr, run_loadVar_row w g t ty cs fr d hg hu hd hi]
theorem below_set {B b i : Nat} {a w : World} (h : Below B a w) (hp : B ≤ b) (u : Value) : Below B a (w.setCell ⟨b, i, none⟩ u) := h.setCell hp u
/-- A block of n cells of this type. -/
def Bx (w : World) (g n : Nat) (t : TypeId) : Prop := ∃ cs, w.heap[g]? = some (.cells cs t (0, 0)) ∧ cs.size = n
theorem Bx.new (w : World) (cs : Array Value) (t : TypeId) (n : Nat) (h : cs.size = n) : Bx (w.alloc (.cells cs t)) w.heap.size n t := ⟨cs, heap_alloc_new w _, h⟩
theorem Bx.old {w : World} {g n : Nat} {t : TypeId} (h : Bx w g n t) (o : Obj) : Bx (w.alloc o) g n t := by
  obtain ⟨cs, h1, h2⟩ := h
  have hl : g < w.heap.size := by
    rcases Nat.lt_or_ge g w.heap.size with h | h
    · exact h
    · rw [Array.getElem?_eq_none h] at h1; cases h1
  exact ⟨cs, ((Below.refl w.heap.size w).alloc (Nat.le_refl _) o |>.block g hl).trans h1, h2⟩
theorem Bx.below {w w' : World} {g n : Nat} {t : TypeId} (h : Bx w g n t) (k : Below w.heap.size w w') : Bx w' g n t := by
  obtain ⟨cs, h1, h2⟩ := h
  have hl : g < w.heap.size := by
    rcases Nat.lt_or_ge g w.heap.size with h | h
    · exact h
    · rw [Array.getElem?_eq_none h] at h1; cases h1
  exact ⟨cs, (k.block g hl).trans h1, h2⟩
theorem Bx.set {w : World} {g n : Nat} {t : TypeId} (h : Bx w g n t) (i : Nat) (v : Value) : Bx (w.setCell ⟨g, i, none⟩ v) g n t := by
  obtain ⟨cs, h1, h2⟩ := h
  exact ⟨_, heap_setCell_same w g i cs t v h1, by simpa using h2⟩
theorem Bx.full7 {w : World} {g : Nat} {t : TypeId} (h : Bx w g 7 t) (a0 a1 a2 a3 a4 a5 a6 : Value) :
    (((((((w.setCell ⟨g, 0, none⟩ a0).setCell ⟨g, 1, none⟩ a1).setCell ⟨g, 2, none⟩ a2).setCell ⟨g, 3, none⟩ a3).setCell ⟨g, 4, none⟩ a4).setCell ⟨g, 5, none⟩ a5).setCell ⟨g, 6, none⟩ a6).heap[g]? = some (.cells #[a0, a1, a2, a3, a4, a5, a6] t (0, 0)) := by
  obtain ⟨⟨l⟩, h1, h2⟩ := h
  match l, h2, h1 with
  | [x0, x1, x2, x3, x4, x5, x6], _, h1 =>
    have e0 : (w.setCell ⟨g, 0, none⟩ a0).heap[g]? = some (.cells #[a0, x1, x2, x3, x4, x5, x6] t (0, 0)) := heap_setCell_same w g 0 #[x0, x1, x2, x3, x4, x5, x6] t a0 h1
    have e1 : ((w.setCell ⟨g, 0, none⟩ a0).setCell ⟨g, 1, none⟩ a1).heap[g]? = some (.cells #[a0, a1, x2, x3, x4, x5, x6] t (0, 0)) := heap_setCell_same (w.setCell ⟨g, 0, none⟩ a0) g 1 #[a0, x1, x2, x3, x4, x5, x6] t a1 e0
    have e2 : (((w.setCell ⟨g, 0, none⟩ a0).setCell ⟨g, 1, none⟩ a1).setCell ⟨g, 2, none⟩ a2).heap[g]? = some (.cells #[a0, a1, a2, x3, x4, x5, x6] t (0, 0)) := heap_setCell_same ((w.setCell ⟨g, 0, none⟩ a0).setCell ⟨g, 1, none⟩ a1) g 2 #[a0, a1, x2, x3, x4, x5, x6] t a2 e1
    have e3 : ((((w.setCell ⟨g, 0, none⟩ a0).setCell ⟨g, 1, none⟩ a1).setCell ⟨g, 2, none⟩ a2).setCell ⟨g, 3, none⟩ a3).heap[g]? = some (.cells #[a0, a1, a2, a3, x4, x5, x6] t (0, 0)) := heap_setCell_same (((w.setCell ⟨g, 0, none⟩ a0).setCell ⟨g, 1, none⟩ a1).setCell ⟨g, 2, none⟩ a2) g 3 #[a0, a1, a2, x3, x4, x5, x6] t a3 e2
    have e4 : (((((w.setCell ⟨g, 0, none⟩ a0).setCell ⟨g, 1, none⟩ a1).setCell ⟨g, 2, none⟩ a2).setCell ⟨g, 3, none⟩ a3).setCell ⟨g, 4, none⟩ a4).heap[g]? = some (.cells #[a0, a1, a2, a3, a4, x5, x6] t (0, 0)) := heap_setCell_same ((((w.setCell ⟨g, 0, none⟩ a0).setCell ⟨g, 1, none⟩ a1).setCell ⟨g, 2, none⟩ a2).setCell ⟨g, 3, none⟩ a3) g 4 #[a0, a1, a2, a3, x4, x5, x6] t a4 e3
    have e5 : ((((((w.setCell ⟨g, 0, none⟩ a0).setCell ⟨g, 1, none⟩ a1).setCell ⟨g, 2, none⟩ a2).setCell ⟨g, 3, none⟩ a3).setCell ⟨g, 4, none⟩ a4).setCell ⟨g, 5, none⟩ a5).heap[g]? = some (.cells #[a0, a1, a2, a3, a4, a5, x6] t (0, 0)) := heap_setCell_same (((((w.setCell ⟨g, 0, none⟩ a0).setCell ⟨g, 1, none⟩ a1).setCell ⟨g, 2, none⟩ a2).setCell ⟨g, 3, none⟩ a3).setCell ⟨g, 4, none⟩ a4) g 5 #[a0, a1, a2, a3, a4, x5, x6] t a5 e4
    have e6 : (((((((w.setCell ⟨g, 0, none⟩ a0).setCell ⟨g, 1, none⟩ a1).setCell ⟨g, 2, none⟩ a2).setCell ⟨g, 3, none⟩ a3).setCell ⟨g, 4, none⟩ a4).setCell ⟨g, 5, none⟩ a5).setCell ⟨g, 6, none⟩ a6).heap[g]? = some (.cells #[a0, a1, a2, a3, a4, a5, a6] t (0, 0)) := heap_setCell_same ((((((w.setCell ⟨g, 0, none⟩ a0).setCell ⟨g, 1, none⟩ a1).setCell ⟨g, 2, none⟩ a2).setCell ⟨g, 3, none⟩ a3).setCell ⟨g, 4, none⟩ a4).setCell ⟨g, 5, none⟩ a5) g 6 #[a0, a1, a2, a3, a4, a5, x6] t a6 e5
    exact e6
theorem size24 : (Tryd.prog.info? 24).map (·.size) = some 7 := by kernel_rfl
set_option maxHeartbeats 2000000 in
set_option maxRecDepth 100000 in
theorem rest0_6 (w : World)  (r : Option Ans) (ao : Option Addr) (c : Nat) 
    (hr : r = if true then some (A0 (6)) else none) : Calls Tryd.prog 52 #[.int .i64 6, .slice ao 0 c] w (RestP r w) := by
  have HR : Aside0 (r = if true then some (A0 (6)) else none) := ⟨hr⟩
  clear hr
  go_enter Tryd.func52, Tryd.ntmps52
  go_wp2
  refine bodyPost_ret (v := .tuple #[(A0 (6)).v, .bool (true)]) (by simp [results, Tryd.results52, go_sem]) rfl (rfin ?_ HR.out)
  exact ((Below.refl _ _).alloc (Nat.le_refl _) _)
set_option maxHeartbeats 2000000 in
set_option maxRecDepth 100000 in
theorem rest0_10 (w : World)  (r : Option Ans) (ao : Option Addr) (c : Nat) 
    (hr : r = if true then some (A0 (10)) else none) : Calls Tryd.prog 52 #[.int .i64 10, .slice ao 0 c] w (RestP r w) := by
  have HR : Aside0 (r = if true then some (A0 (10)) else none) := ⟨hr⟩
  clear hr
  go_enter Tryd.func52, Tryd.ntmps52
  go_wp2
  refine bodyPost_ret (v := .tuple #[(A0 (10)).v, .bool (true)]) (by simp [results, Tryd.results52, go_sem]) rfl (rfin ?_ HR.out)
  exact ((Below.refl _ _).alloc (Nat.le_refl _) _)
set_option maxHeartbeats 2000000 in
set_option maxRecDepth 100000 in
theorem rest0_x (w : World) (op : Int) (r : Option Ans) (ao : Option Addr) (c : Nat) (h6 : (op == 6) = false) (h10 : (op == 10) = false)
    (hr : r = if false then some (A0 (op)) else none) : Calls Tryd.prog 52 #[.int .i64 op, .slice ao 0 c] w (RestP r w) := by
  have HR : Aside0 (r = if false then some (A0 (op)) else none) := ⟨hr⟩
  clear hr
  go_enter Tryd.func52, Tryd.ntmps52
  go_wp2
  refine bodyPost_ret (v := .tuple #[(A0 (op)).v, .bool (false)]) (by simp [results, Tryd.results52, go_sem]) rfl (rfin ?_ HR.out)
  exact ((Below.refl _ _).alloc (Nat.le_refl _) _)
set_option maxHeartbeats 2000000 in
set_option maxRecDepth 100000 in
theorem rest1_6 (w : World)  (r : Option Ans) (b o c : Nat) (s0 : ByteArray) (c0 : w.cell? ⟨b, o, none⟩ = some (.string s0)) 
    (hr : r = if false then some (A0 (6)) else none) : Calls Tryd.prog 52 #[.int .i64 6, .slice (some ⟨b, o, none⟩) 1 c] w (RestP r w) := by
  have HR : Aside0 (r = if false then some (A0 (6)) else none) := ⟨hr⟩
  clear hr
  have hbl : b < w.heap.size := World.block_lt_of_cell? _ _ c0
  go_enter Tryd.func52, Tryd.ntmps52
  go_wp2
  refine bodyPost_ret (v := .tuple #[(A0 (6)).v, .bool (false)]) (by simp [results, Tryd.results52, go_sem]) rfl (rfin ?_ HR.out)
  exact ((Below.refl _ _).alloc (Nat.le_refl _) _)
set_option maxHeartbeats 2000000 in
set_option maxRecDepth 100000 in
theorem rest1_10 (w : World)  (r : Option Ans) (b o c : Nat) (s0 : ByteArray) (c0 : w.cell? ⟨b, o, none⟩ = some (.string s0)) 
    (hr : r = if false then some (A0 (10)) else none) : Calls Tryd.prog 52 #[.int .i64 10, .slice (some ⟨b, o, none⟩) 1 c] w (RestP r w) := by
  have HR : Aside0 (r = if false then some (A0 (10)) else none) := ⟨hr⟩
  clear hr
  have hbl : b < w.heap.size := World.block_lt_of_cell? _ _ c0
  go_enter Tryd.func52, Tryd.ntmps52
  go_wp2
  refine bodyPost_ret (v := .tuple #[(A0 (10)).v, .bool (false)]) (by simp [results, Tryd.results52, go_sem]) rfl (rfin ?_ HR.out)
  exact ((Below.refl _ _).alloc (Nat.le_refl _) _)
set_option maxHeartbeats 2000000 in
set_option maxRecDepth 100000 in
theorem rest1_2 (w : World)  (r : Option Ans) (b o c : Nat) (s0 : ByteArray) (c0 : w.cell? ⟨b, o, none⟩ = some (.string s0)) (q : Bool) (hq : (s0.toList == [110, 111]) = q)
    (hr : r = if q then some (A0 (2)) else none) : Calls Tryd.prog 52 #[.int .i64 2, .slice (some ⟨b, o, none⟩) 1 c] w (RestP r w) := by
  have HR : Aside0 (r = if q then some (A0 (2)) else none) := ⟨hr⟩
  clear hr
  have hbl : b < w.heap.size := World.block_lt_of_cell? _ _ c0
  go_enter Tryd.func52, Tryd.ntmps52
  go_wp2
  refine bodyPost_ret (v := .tuple #[(A0 (2)).v, .bool (q)]) (by simp [results, Tryd.results52, go_sem]) rfl (rfin ?_ HR.out)
  exact ((Below.refl _ _).alloc (Nat.le_refl _) _)
set_option maxHeartbeats 2000000 in
set_option maxRecDepth 100000 in
theorem rest1_9 (w : World)  (r : Option Ans) (b o c : Nat) (s0 : ByteArray) (c0 : w.cell? ⟨b, o, none⟩ = some (.string s0)) (q : Bool) (hq : (s0.toList == [100, 111, 110, 101]) = q)
    (hr : r = if q then some (A0 (9)) else none) : Calls Tryd.prog 52 #[.int .i64 9, .slice (some ⟨b, o, none⟩) 1 c] w (RestP r w) := by
  have HR : Aside0 (r = if q then some (A0 (9)) else none) := ⟨hr⟩
  clear hr
  have hbl : b < w.heap.size := World.block_lt_of_cell? _ _ c0
  go_enter Tryd.func52, Tryd.ntmps52
  go_wp2
  refine bodyPost_ret (v := .tuple #[(A0 (9)).v, .bool (q)]) (by simp [results, Tryd.results52, go_sem]) rfl (rfin ?_ HR.out)
  exact ((Below.refl _ _).alloc (Nat.le_refl _) _)
set_option maxHeartbeats 2000000 in
set_option maxRecDepth 100000 in
theorem rest1_14 (w : World)  (r : Option Ans) (b o c : Nat) (s0 : ByteArray) (c0 : w.cell? ⟨b, o, none⟩ = some (.string s0)) (q : Bool) (hq : (s0.toList == [102, 105, 110, 101]) = q)
    (hr : r = if q then some (A0 (14)) else none) : Calls Tryd.prog 52 #[.int .i64 14, .slice (some ⟨b, o, none⟩) 1 c] w (RestP r w) := by
  have HR : Aside0 (r = if q then some (A0 (14)) else none) := ⟨hr⟩
  clear hr
  have hbl : b < w.heap.size := World.block_lt_of_cell? _ _ c0
  go_enter Tryd.func52, Tryd.ntmps52
  go_wp2
  refine bodyPost_ret (v := .tuple #[(A0 (14)).v, .bool (q)]) (by simp [results, Tryd.results52, go_sem]) rfl (rfin ?_ HR.out)
  exact ((Below.refl _ _).alloc (Nat.le_refl _) _)
set_option maxHeartbeats 2000000 in
set_option maxRecDepth 100000 in
theorem rest1_4y (w : World)  (r : Option Ans) (b o c : Nat) (s0 : ByteArray) (c0 : w.cell? ⟨b, o, none⟩ = some (.string s0)) (hq : (s0.toList == [121, 101, 115]) = true)
    (hr : r = if true then some ({ A0 (4) with yes := true }) else none) : Calls Tryd.prog 52 #[.int .i64 4, .slice (some ⟨b, o, none⟩) 1 c] w (RestP r w) := by
  have HR : Aside0 (r = if true then some ({ A0 (4) with yes := true }) else none) := ⟨hr⟩
  clear hr
  have hbl : b < w.heap.size := World.block_lt_of_cell? _ _ c0
  go_enter Tryd.func52, Tryd.ntmps52
  go_wp2
  refine bodyPost_ret (v := .tuple #[({ A0 (4) with yes := true }).v, .bool (true)]) (by simp [results, Tryd.results52, go_sem]) rfl (rfin ?_ HR.out)
  exact ((Below.refl _ _).alloc (Nat.le_refl _) _)
set_option maxHeartbeats 2000000 in
set_option maxRecDepth 100000 in
theorem rest1_4n (w : World)  (r : Option Ans) (b o c : Nat) (s0 : ByteArray) (c0 : w.cell? ⟨b, o, none⟩ = some (.string s0)) (q : Bool) (hq1 : (s0.toList == [121, 101, 115]) = false) (hq : (s0.toList == [110, 111]) = q)
    (hr : r = if q then some (A0 (4)) else none) : Calls Tryd.prog 52 #[.int .i64 4, .slice (some ⟨b, o, none⟩) 1 c] w (RestP r w) := by
  have HR : Aside0 (r = if q then some (A0 (4)) else none) := ⟨hr⟩
  clear hr
  have hbl : b < w.heap.size := World.block_lt_of_cell? _ _ c0
  go_enter Tryd.func52, Tryd.ntmps52
  go_wp2
  refine bodyPost_ret (v := .tuple #[(A0 (4)).v, .bool (q)]) (by simp [results, Tryd.results52, go_sem]) rfl (rfin ?_ HR.out)
  exact ((Below.refl _ _).alloc (Nat.le_refl _) _)
set_option maxHeartbeats 2000000 in
set_option maxRecDepth 100000 in
theorem rest1_3y (w : World)  (r : Option Ans) (b o c : Nat) (s0 : ByteArray) (c0 : w.cell? ⟨b, o, none⟩ = some (.string s0)) (hq : (s0.toList == [110, 101, 119]) = true)
    (hr : r = if true then some ({ A0 (3) with yes := true }) else none) : Calls Tryd.prog 52 #[.int .i64 3, .slice (some ⟨b, o, none⟩) 1 c] w (RestP r w) := by
  have HR : Aside0 (r = if true then some ({ A0 (3) with yes := true }) else none) := ⟨hr⟩
  clear hr
  have hbl : b < w.heap.size := World.block_lt_of_cell? _ _ c0
  go_enter Tryd.func52, Tryd.ntmps52
  go_wp2
  refine bodyPost_ret (v := .tuple #[({ A0 (3) with yes := true }).v, .bool (true)]) (by simp [results, Tryd.results52, go_sem]) rfl (rfin ?_ HR.out)
  exact ((Below.refl _ _).alloc (Nat.le_refl _) _)
set_option maxHeartbeats 2000000 in
set_option maxRecDepth 100000 in
theorem rest1_3n (w : World)  (r : Option Ans) (b o c : Nat) (s0 : ByteArray) (c0 : w.cell? ⟨b, o, none⟩ = some (.string s0)) (q : Bool) (hq1 : (s0.toList == [110, 101, 119]) = false) (hq : (s0.toList == [111, 108, 100]) = q)
    (hr : r = if q then some (A0 (3)) else none) : Calls Tryd.prog 52 #[.int .i64 3, .slice (some ⟨b, o, none⟩) 1 c] w (RestP r w) := by
  have HR : Aside0 (r = if q then some (A0 (3)) else none) := ⟨hr⟩
  clear hr
  have hbl : b < w.heap.size := World.block_lt_of_cell? _ _ c0
  go_enter Tryd.func52, Tryd.ntmps52
  go_wp2
  refine bodyPost_ret (v := .tuple #[(A0 (3)).v, .bool (q)]) (by simp [results, Tryd.results52, go_sem]) rfl (rfin ?_ HR.out)
  exact ((Below.refl _ _).alloc (Nat.le_refl _) _)
set_option maxHeartbeats 2000000 in
set_option maxRecDepth 100000 in
theorem rest1_x (w : World) (op : Int) (r : Option Ans) (b o c : Nat) (s0 : ByteArray) (c0 : w.cell? ⟨b, o, none⟩ = some (.string s0)) (x0 : Int) (k0 : Bool) (d0 : ∀ wq, Below w.heap.size w wq → Calls Tryd.prog 70 #[.string s0] wq fun e w' => e = .returned (.tuple #[.int .i64 x0, .bool k0]) ∧ Below wq.heap.size wq w') (h6 : (op == 6) = false) (h10 : (op == 10) = false) (h2 : (op == 2) = false) (h4 : (op == 4) = false) (h3 : (op == 3) = false) (h9 : (op == 9) = false) (h14 : (op == 14) = false)
    (hr : r = if k0 then some ({ A0 (op) with n := x0 }) else none) : Calls Tryd.prog 52 #[.int .i64 op, .slice (some ⟨b, o, none⟩) 1 c] w (RestP r w) := by
  have HR : Aside0 (r = if k0 then some ({ A0 (op) with n := x0 }) else none) := ⟨hr⟩
  clear hr
  have hbl : b < w.heap.size := World.block_lt_of_cell? _ _ c0
  go_enter Tryd.func52, Tryd.ntmps52
  go_wp2_with fail
  refine (d0 _ ?_).mono ?_
  · repeat (first | with_reducible assumption | with_reducible refine below_set ?_ (Nat.le_refl _) _ | with_reducible refine Below.alloc ?_ (Nat.le_refl _) _ | with_reducible exact Below.refl _ _ | with_reducible refine below_two ?_ (by with_reducible assumption))
  rintro e v0 ⟨rfl, hB0⟩
  obtain ⟨hc0, hf0⟩ := bcell hB0
  have hz0 : w.heap.size < v0.heap.size := by have := hB0.size; (try simp at this); omega
  go_wp2
  refine bodyPost_ret (v := .tuple #[.agg #[.int .i64 op, .int .i64 0, .int .i64 x0, .int .i64 0, .bool false, .string ⟨#[]⟩, .string ⟨#[]⟩], .bool k0]) ?res rfl (rfin (a := { A0 (op) with n := x0 }) (ok := k0) ?_ HR.out)
  case res =>
    refine results_cell_tmp (p := 4) (q := 5) (ty := 24) rfl _ _ w.heap.size 24 #[.int .i64 op, .int .i64 0, .int .i64 x0, .int .i64 0, .bool false, .string ⟨#[]⟩, .string ⟨#[]⟩] (0, 0) _ _ rfl rfl ?_ Tryd.underlying24 rfl size24
    refine Bx.full7 ?_ _ _ _ _ _ _ _
    repeat (first | with_reducible refine Bx.set ?_ _ _ | with_reducible refine Bx.below ?_ (by with_reducible assumption) | exact Bx.new _ _ _ _ rfl | with_reducible refine Bx.old ?_ _)
  repeat (first | with_reducible assumption | with_reducible refine below_set ?_ (Nat.le_refl _) _ | with_reducible refine Below.alloc ?_ (Nat.le_refl _) _ | with_reducible exact Below.refl _ _ | with_reducible refine below_two ?_ (by with_reducible assumption))
set_option maxHeartbeats 2000000 in
set_option maxRecDepth 100000 in
theorem rest2_err (w : World) (op : Int) (r : Option Ans) (b o c : Nat) (s0 : ByteArray) (c0 : w.cell? ⟨b, o, none⟩ = some (.string s0)) (s1 : ByteArray) (c1 : w.cell? ⟨b, o + 1, none⟩ = some (.string s1)) (x1 : Int) (k1 : Bool) (d1 : ∀ wq, Below w.heap.size w wq → Calls Tryd.prog 70 #[.string s1] wq fun e w' => e = .returned (.tuple #[.int .i64 x1, .bool k1]) ∧ Below wq.heap.size wq w') (hq : (s0.toList == [101, 114, 114, 111, 114]) = true)
    (hr : r = if (k1 && (x1 != 0)) then some ({ A0 (op) with err := x1 }) else none) : Calls Tryd.prog 52 #[.int .i64 op, .slice (some ⟨b, o, none⟩) 2 c] w (RestP r w) := by
  have HR : Aside0 (r = if (k1 && (x1 != 0)) then some ({ A0 (op) with err := x1 }) else none) := ⟨hr⟩
  clear hr
  have hbl : b < w.heap.size := World.block_lt_of_cell? _ _ c0
  cases k1
  · go_enter Tryd.func52, Tryd.ntmps52
    go_wp2_with fail
    refine (d1 _ ?_).mono ?_
    · repeat (first | with_reducible assumption | with_reducible refine below_set ?_ (Nat.le_refl _) _ | with_reducible refine Below.alloc ?_ (Nat.le_refl _) _ | with_reducible exact Below.refl _ _ | with_reducible refine below_two ?_ (by with_reducible assumption))
    rintro e v1 ⟨rfl, hB1⟩
    obtain ⟨hc1, hf1⟩ := bcell hB1
    have hz1 : w.heap.size < v1.heap.size := by have := hB1.size; (try simp at this); omega
    go_wp2
    refine bodyPost_ret (v := .tuple #[.agg #[.int .i64 op, .int .i64 x1, .int .i64 0, .int .i64 0, .bool false, .string ⟨#[]⟩, .string ⟨#[]⟩], .bool false]) ?res rfl (rfin (a := { A0 (op) with err := x1 }) (ok := false) ?_ HR.out)
    case res =>
      refine results_cell_tmp (p := 4) (q := 5) (ty := 24) rfl _ _ w.heap.size 24 #[.int .i64 op, .int .i64 x1, .int .i64 0, .int .i64 0, .bool false, .string ⟨#[]⟩, .string ⟨#[]⟩] (0, 0) _ _ rfl rfl ?_ Tryd.underlying24 rfl size24
      refine Bx.full7 ?_ _ _ _ _ _ _ _
      repeat (first | with_reducible refine Bx.set ?_ _ _ | with_reducible refine Bx.below ?_ (by with_reducible assumption) | exact Bx.new _ _ _ _ rfl | with_reducible refine Bx.old ?_ _)
    repeat (first | with_reducible assumption | with_reducible refine below_set ?_ (Nat.le_refl _) _ | with_reducible refine Below.alloc ?_ (Nat.le_refl _) _ | with_reducible exact Below.refl _ _ | with_reducible refine below_two ?_ (by with_reducible assumption))
  · go_enter Tryd.func52, Tryd.ntmps52
    go_wp2_with fail
    refine (d1 _ ?_).mono ?_
    · repeat (first | with_reducible assumption | with_reducible refine below_set ?_ (Nat.le_refl _) _ | with_reducible refine Below.alloc ?_ (Nat.le_refl _) _ | with_reducible exact Below.refl _ _ | with_reducible refine below_two ?_ (by with_reducible assumption))
    rintro e v1 ⟨rfl, hB1⟩
    obtain ⟨hc1, hf1⟩ := bcell hB1
    have hz1 : w.heap.size < v1.heap.size := by have := hB1.size; (try simp at this); omega
    go_wp2
    refine bodyPost_ret (v := .tuple #[.agg #[.int .i64 op, .int .i64 x1, .int .i64 0, .int .i64 0, .bool false, .string ⟨#[]⟩, .string ⟨#[]⟩], .bool (x1 != 0)]) ?res rfl (rfin (a := { A0 (op) with err := x1 }) (ok := (x1 != 0)) ?_ HR.out)
    case res =>
      refine results_cell_tmp (p := 4) (q := 5) (ty := 24) rfl _ _ w.heap.size 24 #[.int .i64 op, .int .i64 x1, .int .i64 0, .int .i64 0, .bool false, .string ⟨#[]⟩, .string ⟨#[]⟩] (0, 0) _ _ rfl rfl ?_ Tryd.underlying24 rfl size24
      refine Bx.full7 ?_ _ _ _ _ _ _ _
      repeat (first | with_reducible refine Bx.set ?_ _ _ | with_reducible refine Bx.below ?_ (by with_reducible assumption) | exact Bx.new _ _ _ _ rfl | with_reducible refine Bx.old ?_ _)
    repeat (first | with_reducible assumption | with_reducible refine below_set ?_ (Nat.le_refl _) _ | with_reducible refine Below.alloc ?_ (Nat.le_refl _) _ | with_reducible exact Below.refl _ _ | with_reducible refine below_two ?_ (by with_reducible assumption))
set_option maxHeartbeats 2000000 in
set_option maxRecDepth 100000 in
theorem rest2_2y (w : World)  (r : Option Ans) (b o c : Nat) (s0 : ByteArray) (c0 : w.cell? ⟨b, o, none⟩ = some (.string s0)) (s1 : ByteArray) (c1 : w.cell? ⟨b, o + 1, none⟩ = some (.string s1)) (x1 : ByteArray) (k1 : Bool) (d1 : ∀ wq, Below w.heap.size w wq → Calls Tryd.prog 71 #[.string s1] wq fun e w' => e = .returned (.tuple #[.string x1, .bool k1]) ∧ Below wq.heap.size wq w') (hq0 : (s0.toList == [101, 114, 114, 111, 114]) = false) (hq : (s0.toList == [121, 101, 115]) = true)
    (hr : r = if k1 then some ({ A0 (2) with yes := true, elem := x1 }) else none) : Calls Tryd.prog 52 #[.int .i64 2, .slice (some ⟨b, o, none⟩) 2 c] w (RestP r w) := by
  have HR : Aside0 (r = if k1 then some ({ A0 (2) with yes := true, elem := x1 }) else none) := ⟨hr⟩
  clear hr
  have hbl : b < w.heap.size := World.block_lt_of_cell? _ _ c0
  go_enter Tryd.func52, Tryd.ntmps52
  go_wp2_with fail
  refine (d1 _ ?_).mono ?_
  · repeat (first | with_reducible assumption | with_reducible refine below_set ?_ (Nat.le_refl _) _ | with_reducible refine Below.alloc ?_ (Nat.le_refl _) _ | with_reducible exact Below.refl _ _ | with_reducible refine below_two ?_ (by with_reducible assumption))
  rintro e v1 ⟨rfl, hB1⟩
  obtain ⟨hc1, hf1⟩ := bcell hB1
  have hz1 : w.heap.size < v1.heap.size := by have := hB1.size; (try simp at this); omega
  go_wp2
  refine bodyPost_ret (v := .tuple #[.agg #[.int .i64 2, .int .i64 0, .int .i64 0, .int .i64 0, .bool true, .string ⟨#[]⟩, .string x1], .bool k1]) ?res rfl (rfin (a := { A0 (2) with yes := true, elem := x1 }) (ok := k1) ?_ HR.out)
  case res =>
    refine results_cell_tmp (p := 4) (q := 5) (ty := 24) rfl _ _ w.heap.size 24 #[.int .i64 2, .int .i64 0, .int .i64 0, .int .i64 0, .bool true, .string ⟨#[]⟩, .string x1] (0, 0) _ _ rfl rfl ?_ Tryd.underlying24 rfl size24
    refine Bx.full7 ?_ _ _ _ _ _ _ _
    repeat (first | with_reducible refine Bx.set ?_ _ _ | with_reducible refine Bx.below ?_ (by with_reducible assumption) | exact Bx.new _ _ _ _ rfl | with_reducible refine Bx.old ?_ _)
  repeat (first | with_reducible assumption | with_reducible refine below_set ?_ (Nat.le_refl _) _ | with_reducible refine Below.alloc ?_ (Nat.le_refl _) _ | with_reducible exact Below.refl _ _ | with_reducible refine below_two ?_ (by with_reducible assumption))
set_option maxHeartbeats 2000000 in
set_option maxRecDepth 100000 in
theorem rest2_2n (w : World)  (r : Option Ans) (b o c : Nat) (s0 : ByteArray) (c0 : w.cell? ⟨b, o, none⟩ = some (.string s0)) (s1 : ByteArray) (c1 : w.cell? ⟨b, o + 1, none⟩ = some (.string s1)) (hq0 : (s0.toList == [101, 114, 114, 111, 114]) = false) (hq : (s0.toList == [121, 101, 115]) = false)
    (hr : r = if false then some (A0 (2)) else none) : Calls Tryd.prog 52 #[.int .i64 2, .slice (some ⟨b, o, none⟩) 2 c] w (RestP r w) := by
  have HR : Aside0 (r = if false then some (A0 (2)) else none) := ⟨hr⟩
  clear hr
  have hbl : b < w.heap.size := World.block_lt_of_cell? _ _ c0
  go_enter Tryd.func52, Tryd.ntmps52
  go_wp2
  refine bodyPost_ret (v := .tuple #[(A0 (2)).v, .bool (false)]) (by simp [results, Tryd.results52, go_sem]) rfl (rfin ?_ HR.out)
  exact ((Below.refl _ _).alloc (Nat.le_refl _) _)
set_option maxHeartbeats 2000000 in
set_option maxRecDepth 100000 in
theorem rest2_9 (w : World)  (r : Option Ans) (b o c : Nat) (s0 : ByteArray) (c0 : w.cell? ⟨b, o, none⟩ = some (.string s0)) (s1 : ByteArray) (c1 : w.cell? ⟨b, o + 1, none⟩ = some (.string s1)) (hq0 : (s0.toList == [101, 114, 114, 111, 114]) = false)
    (hr : r = if false then some (A0 (9)) else none) : Calls Tryd.prog 52 #[.int .i64 9, .slice (some ⟨b, o, none⟩) 2 c] w (RestP r w) := by
  have HR : Aside0 (r = if false then some (A0 (9)) else none) := ⟨hr⟩
  clear hr
  have hbl : b < w.heap.size := World.block_lt_of_cell? _ _ c0
  go_enter Tryd.func52, Tryd.ntmps52
  go_wp2
  refine bodyPost_ret (v := .tuple #[(A0 (9)).v, .bool (false)]) (by simp [results, Tryd.results52, go_sem]) rfl (rfin ?_ HR.out)
  exact ((Below.refl _ _).alloc (Nat.le_refl _) _)
set_option maxHeartbeats 2000000 in
set_option maxRecDepth 100000 in
theorem rest2_14 (w : World)  (r : Option Ans) (b o c : Nat) (s0 : ByteArray) (c0 : w.cell? ⟨b, o, none⟩ = some (.string s0)) (s1 : ByteArray) (c1 : w.cell? ⟨b, o + 1, none⟩ = some (.string s1)) (hq0 : (s0.toList == [101, 114, 114, 111, 114]) = false)
    (hr : r = if false then some (A0 (14)) else none) : Calls Tryd.prog 52 #[.int .i64 14, .slice (some ⟨b, o, none⟩) 2 c] w (RestP r w) := by
  have HR : Aside0 (r = if false then some (A0 (14)) else none) := ⟨hr⟩
  clear hr
  have hbl : b < w.heap.size := World.block_lt_of_cell? _ _ c0
  go_enter Tryd.func52, Tryd.ntmps52
  go_wp2
  refine bodyPost_ret (v := .tuple #[(A0 (14)).v, .bool (false)]) (by simp [results, Tryd.results52, go_sem]) rfl (rfin ?_ HR.out)
  exact ((Below.refl _ _).alloc (Nat.le_refl _) _)
set_option maxHeartbeats 2000000 in
set_option maxRecDepth 100000 in
theorem rest2_x (w : World) (op : Int) (r : Option Ans) (b o c : Nat) (s0 : ByteArray) (c0 : w.cell? ⟨b, o, none⟩ = some (.string s0)) (s1 : ByteArray) (c1 : w.cell? ⟨b, o + 1, none⟩ = some (.string s1)) (h2 : (op == 2) = false) (h9 : (op == 9) = false) (h14 : (op == 14) = false) (hq0 : (s0.toList == [101, 114, 114, 111, 114]) = false)
    (hr : r = if false then some (A0 (op)) else none) : Calls Tryd.prog 52 #[.int .i64 op, .slice (some ⟨b, o, none⟩) 2 c] w (RestP r w) := by
  have HR : Aside0 (r = if false then some (A0 (op)) else none) := ⟨hr⟩
  clear hr
  have hbl : b < w.heap.size := World.block_lt_of_cell? _ _ c0
  go_enter Tryd.func52, Tryd.ntmps52
  go_wp2
  refine bodyPost_ret (v := .tuple #[(A0 (op)).v, .bool (false)]) (by simp [results, Tryd.results52, go_sem]) rfl (rfin ?_ HR.out)
  exact ((Below.refl _ _).alloc (Nat.le_refl _) _)
set_option maxHeartbeats 2000000 in
set_option maxRecDepth 100000 in
theorem rest3_9y (w : World)  (r : Option Ans) (b o c : Nat) (s0 : ByteArray) (c0 : w.cell? ⟨b, o, none⟩ = some (.string s0)) (s1 : ByteArray) (c1 : w.cell? ⟨b, o + 1, none⟩ = some (.string s1)) (s2 : ByteArray) (c2 : w.cell? ⟨b, o + 2, none⟩ = some (.string s2)) (x1 : ByteArray) (k1 : Bool) (d1 : ∀ wq, Below w.heap.size w wq → Calls Tryd.prog 71 #[.string s1] wq fun e w' => e = .returned (.tuple #[.string x1, .bool k1]) ∧ Below wq.heap.size wq w') (x2 : ByteArray) (k2 : Bool) (d2 : ∀ wq, Below w.heap.size w wq → Calls Tryd.prog 71 #[.string s2] wq fun e w' => e = .returned (.tuple #[.string x2, .bool k2]) ∧ Below wq.heap.size wq w') (hq : (s0.toList == [112, 97, 105, 114]) = true)
    (hr : r = if (k1 && k2) then some ({ A0 (9) with yes := true, key := x1, elem := x2 }) else none) : Calls Tryd.prog 52 #[.int .i64 9, .slice (some ⟨b, o, none⟩) 3 c] w (RestP r w) := by
  have HR : Aside0 (r = if (k1 && k2) then some ({ A0 (9) with yes := true, key := x1, elem := x2 }) else none) := ⟨hr⟩
  clear hr
  have hbl : b < w.heap.size := World.block_lt_of_cell? _ _ c0
  cases k1
  · go_enter Tryd.func52, Tryd.ntmps52
    go_wp2_with fail
    refine (d1 _ ?_).mono ?_
    · repeat (first | with_reducible assumption | with_reducible refine below_set ?_ (Nat.le_refl _) _ | with_reducible refine Below.alloc ?_ (Nat.le_refl _) _ | with_reducible exact Below.refl _ _ | with_reducible refine below_two ?_ (by with_reducible assumption))
    rintro e v1 ⟨rfl, hB1⟩
    obtain ⟨hc1, hf1⟩ := bcell hB1
    have hz1 : w.heap.size < v1.heap.size := by have := hB1.size; (try simp at this); omega
    go_wp2_with fail
    refine (d2 _ ?_).mono ?_
    · repeat (first | with_reducible assumption | with_reducible refine below_set ?_ (Nat.le_refl _) _ | with_reducible refine Below.alloc ?_ (Nat.le_refl _) _ | with_reducible exact Below.refl _ _ | with_reducible refine below_two ?_ (by with_reducible assumption))
    rintro e v2 ⟨rfl, hB2⟩
    obtain ⟨hc2, hf2⟩ := bcell hB2
    have hz2 : w.heap.size < v2.heap.size := by have := hB2.size; (try simp at this); omega
    go_wp2
    refine bodyPost_ret (v := .tuple #[.agg #[.int .i64 9, .int .i64 0, .int .i64 0, .int .i64 0, .bool true, .string x1, .string x2], .bool false]) ?res rfl (rfin (a := { A0 (9) with yes := true, key := x1, elem := x2 }) (ok := false) ?_ HR.out)
    case res =>
      refine results_cell_tmp (p := 4) (q := 5) (ty := 24) rfl _ _ w.heap.size 24 #[.int .i64 9, .int .i64 0, .int .i64 0, .int .i64 0, .bool true, .string x1, .string x2] (0, 0) _ _ rfl rfl ?_ Tryd.underlying24 rfl size24
      refine Bx.full7 ?_ _ _ _ _ _ _ _
      repeat (first | with_reducible refine Bx.set ?_ _ _ | with_reducible refine Bx.below ?_ (by with_reducible assumption) | exact Bx.new _ _ _ _ rfl | with_reducible refine Bx.old ?_ _)
    repeat (first | with_reducible assumption | with_reducible refine below_set ?_ (Nat.le_refl _) _ | with_reducible refine Below.alloc ?_ (Nat.le_refl _) _ | with_reducible exact Below.refl _ _ | with_reducible refine below_two ?_ (by with_reducible assumption))
  · go_enter Tryd.func52, Tryd.ntmps52
    go_wp2_with fail
    refine (d1 _ ?_).mono ?_
    · repeat (first | with_reducible assumption | with_reducible refine below_set ?_ (Nat.le_refl _) _ | with_reducible refine Below.alloc ?_ (Nat.le_refl _) _ | with_reducible exact Below.refl _ _ | with_reducible refine below_two ?_ (by with_reducible assumption))
    rintro e v1 ⟨rfl, hB1⟩
    obtain ⟨hc1, hf1⟩ := bcell hB1
    have hz1 : w.heap.size < v1.heap.size := by have := hB1.size; (try simp at this); omega
    go_wp2_with fail
    refine (d2 _ ?_).mono ?_
    · repeat (first | with_reducible assumption | with_reducible refine below_set ?_ (Nat.le_refl _) _ | with_reducible refine Below.alloc ?_ (Nat.le_refl _) _ | with_reducible exact Below.refl _ _ | with_reducible refine below_two ?_ (by with_reducible assumption))
    rintro e v2 ⟨rfl, hB2⟩
    obtain ⟨hc2, hf2⟩ := bcell hB2
    have hz2 : w.heap.size < v2.heap.size := by have := hB2.size; (try simp at this); omega
    go_wp2
    refine bodyPost_ret (v := .tuple #[.agg #[.int .i64 9, .int .i64 0, .int .i64 0, .int .i64 0, .bool true, .string x1, .string x2], .bool k2]) ?res rfl (rfin (a := { A0 (9) with yes := true, key := x1, elem := x2 }) (ok := k2) ?_ HR.out)
    case res =>
      refine results_cell_tmp (p := 4) (q := 5) (ty := 24) rfl _ _ w.heap.size 24 #[.int .i64 9, .int .i64 0, .int .i64 0, .int .i64 0, .bool true, .string x1, .string x2] (0, 0) _ _ rfl rfl ?_ Tryd.underlying24 rfl size24
      refine Bx.full7 ?_ _ _ _ _ _ _ _
      repeat (first | with_reducible refine Bx.set ?_ _ _ | with_reducible refine Bx.below ?_ (by with_reducible assumption) | exact Bx.new _ _ _ _ rfl | with_reducible refine Bx.old ?_ _)
    repeat (first | with_reducible assumption | with_reducible refine below_set ?_ (Nat.le_refl _) _ | with_reducible refine Below.alloc ?_ (Nat.le_refl _) _ | with_reducible exact Below.refl _ _ | with_reducible refine below_two ?_ (by with_reducible assumption))
set_option maxHeartbeats 2000000 in
set_option maxRecDepth 100000 in
theorem rest3_9n (w : World)  (r : Option Ans) (b o c : Nat) (s0 : ByteArray) (c0 : w.cell? ⟨b, o, none⟩ = some (.string s0)) (s1 : ByteArray) (c1 : w.cell? ⟨b, o + 1, none⟩ = some (.string s1)) (s2 : ByteArray) (c2 : w.cell? ⟨b, o + 2, none⟩ = some (.string s2)) (hq : (s0.toList == [112, 97, 105, 114]) = false)
    (hr : r = if false then some (A0 (9)) else none) : Calls Tryd.prog 52 #[.int .i64 9, .slice (some ⟨b, o, none⟩) 3 c] w (RestP r w) := by
  have HR : Aside0 (r = if false then some (A0 (9)) else none) := ⟨hr⟩
  clear hr
  have hbl : b < w.heap.size := World.block_lt_of_cell? _ _ c0
  go_enter Tryd.func52, Tryd.ntmps52
  go_wp2
  refine bodyPost_ret (v := .tuple #[(A0 (9)).v, .bool (false)]) (by simp [results, Tryd.results52, go_sem]) rfl (rfin ?_ HR.out)
  exact ((Below.refl _ _).alloc (Nat.le_refl _) _)
set_option maxHeartbeats 2000000 in
set_option maxRecDepth 100000 in
theorem rest3_14y (w : World)  (r : Option Ans) (b o c : Nat) (s0 : ByteArray) (c0 : w.cell? ⟨b, o, none⟩ = some (.string s0)) (s1 : ByteArray) (c1 : w.cell? ⟨b, o + 1, none⟩ = some (.string s1)) (s2 : ByteArray) (c2 : w.cell? ⟨b, o + 2, none⟩ = some (.string s2)) (x1 : Int) (k1 : Bool) (d1 : ∀ wq, Below w.heap.size w wq → Calls Tryd.prog 70 #[.string s1] wq fun e w' => e = .returned (.tuple #[.int .i64 x1, .bool k1]) ∧ Below wq.heap.size wq w') (x2 : Int) (k2 : Bool) (d2 : ∀ wq, Below w.heap.size w wq → Calls Tryd.prog 70 #[.string s2] wq fun e w' => e = .returned (.tuple #[.int .i64 x2, .bool k2]) ∧ Below wq.heap.size wq w') (hq : (s0.toList == [114, 117, 108, 101]) = true)
    (hr : r = if (k1 && k2 && (x1 != 0)) then some ({ A0 (14) with n := x1, off := x2 }) else none) : Calls Tryd.prog 52 #[.int .i64 14, .slice (some ⟨b, o, none⟩) 3 c] w (RestP r w) := by
  have HR : Aside0 (r = if (k1 && k2 && (x1 != 0)) then some ({ A0 (14) with n := x1, off := x2 }) else none) := ⟨hr⟩
  clear hr
  have hbl : b < w.heap.size := World.block_lt_of_cell? _ _ c0
  cases k1 <;> cases k2
  · go_enter Tryd.func52, Tryd.ntmps52
    go_wp2_with fail
    refine (d1 _ ?_).mono ?_
    · repeat (first | with_reducible assumption | with_reducible refine below_set ?_ (Nat.le_refl _) _ | with_reducible refine Below.alloc ?_ (Nat.le_refl _) _ | with_reducible exact Below.refl _ _ | with_reducible refine below_two ?_ (by with_reducible assumption))
    rintro e v1 ⟨rfl, hB1⟩
    obtain ⟨hc1, hf1⟩ := bcell hB1
    have hz1 : w.heap.size < v1.heap.size := by have := hB1.size; (try simp at this); omega
    go_wp2_with fail
    refine (d2 _ ?_).mono ?_
    · repeat (first | with_reducible assumption | with_reducible refine below_set ?_ (Nat.le_refl _) _ | with_reducible refine Below.alloc ?_ (Nat.le_refl _) _ | with_reducible exact Below.refl _ _ | with_reducible refine below_two ?_ (by with_reducible assumption))
    rintro e v2 ⟨rfl, hB2⟩
    obtain ⟨hc2, hf2⟩ := bcell hB2
    have hz2 : w.heap.size < v2.heap.size := by have := hB2.size; (try simp at this); omega
    go_wp2
    refine bodyPost_ret (v := .tuple #[.agg #[.int .i64 14, .int .i64 0, .int .i64 x1, .int .i64 x2, .bool false, .string ⟨#[]⟩, .string ⟨#[]⟩], .bool false]) ?res rfl (rfin (a := { A0 (14) with n := x1, off := x2 }) (ok := false) ?_ HR.out)
    case res =>
      refine results_cell_tmp (p := 4) (q := 5) (ty := 24) rfl _ _ w.heap.size 24 #[.int .i64 14, .int .i64 0, .int .i64 x1, .int .i64 x2, .bool false, .string ⟨#[]⟩, .string ⟨#[]⟩] (0, 0) _ _ rfl rfl ?_ Tryd.underlying24 rfl size24
      refine Bx.full7 ?_ _ _ _ _ _ _ _
      repeat (first | with_reducible refine Bx.set ?_ _ _ | with_reducible refine Bx.below ?_ (by with_reducible assumption) | exact Bx.new _ _ _ _ rfl | with_reducible refine Bx.old ?_ _)
    repeat (first | with_reducible assumption | with_reducible refine below_set ?_ (Nat.le_refl _) _ | with_reducible refine Below.alloc ?_ (Nat.le_refl _) _ | with_reducible exact Below.refl _ _ | with_reducible refine below_two ?_ (by with_reducible assumption))
  · go_enter Tryd.func52, Tryd.ntmps52
    go_wp2_with fail
    refine (d1 _ ?_).mono ?_
    · repeat (first | with_reducible assumption | with_reducible refine below_set ?_ (Nat.le_refl _) _ | with_reducible refine Below.alloc ?_ (Nat.le_refl _) _ | with_reducible exact Below.refl _ _ | with_reducible refine below_two ?_ (by with_reducible assumption))
    rintro e v1 ⟨rfl, hB1⟩
    obtain ⟨hc1, hf1⟩ := bcell hB1
    have hz1 : w.heap.size < v1.heap.size := by have := hB1.size; (try simp at this); omega
    go_wp2_with fail
    refine (d2 _ ?_).mono ?_
    · repeat (first | with_reducible assumption | with_reducible refine below_set ?_ (Nat.le_refl _) _ | with_reducible refine Below.alloc ?_ (Nat.le_refl _) _ | with_reducible exact Below.refl _ _ | with_reducible refine below_two ?_ (by with_reducible assumption))
    rintro e v2 ⟨rfl, hB2⟩
    obtain ⟨hc2, hf2⟩ := bcell hB2
    have hz2 : w.heap.size < v2.heap.size := by have := hB2.size; (try simp at this); omega
    go_wp2
    refine bodyPost_ret (v := .tuple #[.agg #[.int .i64 14, .int .i64 0, .int .i64 x1, .int .i64 x2, .bool false, .string ⟨#[]⟩, .string ⟨#[]⟩], .bool false]) ?res rfl (rfin (a := { A0 (14) with n := x1, off := x2 }) (ok := false) ?_ HR.out)
    case res =>
      refine results_cell_tmp (p := 4) (q := 5) (ty := 24) rfl _ _ w.heap.size 24 #[.int .i64 14, .int .i64 0, .int .i64 x1, .int .i64 x2, .bool false, .string ⟨#[]⟩, .string ⟨#[]⟩] (0, 0) _ _ rfl rfl ?_ Tryd.underlying24 rfl size24
      refine Bx.full7 ?_ _ _ _ _ _ _ _
      repeat (first | with_reducible refine Bx.set ?_ _ _ | with_reducible refine Bx.below ?_ (by with_reducible assumption) | exact Bx.new _ _ _ _ rfl | with_reducible refine Bx.old ?_ _)
    repeat (first | with_reducible assumption | with_reducible refine below_set ?_ (Nat.le_refl _) _ | with_reducible refine Below.alloc ?_ (Nat.le_refl _) _ | with_reducible exact Below.refl _ _ | with_reducible refine below_two ?_ (by with_reducible assumption))
  · go_enter Tryd.func52, Tryd.ntmps52
    go_wp2_with fail
    refine (d1 _ ?_).mono ?_
    · repeat (first | with_reducible assumption | with_reducible refine below_set ?_ (Nat.le_refl _) _ | with_reducible refine Below.alloc ?_ (Nat.le_refl _) _ | with_reducible exact Below.refl _ _ | with_reducible refine below_two ?_ (by with_reducible assumption))
    rintro e v1 ⟨rfl, hB1⟩
    obtain ⟨hc1, hf1⟩ := bcell hB1
    have hz1 : w.heap.size < v1.heap.size := by have := hB1.size; (try simp at this); omega
    go_wp2_with fail
    refine (d2 _ ?_).mono ?_
    · repeat (first | with_reducible assumption | with_reducible refine below_set ?_ (Nat.le_refl _) _ | with_reducible refine Below.alloc ?_ (Nat.le_refl _) _ | with_reducible exact Below.refl _ _ | with_reducible refine below_two ?_ (by with_reducible assumption))
    rintro e v2 ⟨rfl, hB2⟩
    obtain ⟨hc2, hf2⟩ := bcell hB2
    have hz2 : w.heap.size < v2.heap.size := by have := hB2.size; (try simp at this); omega
    go_wp2
    refine bodyPost_ret (v := .tuple #[.agg #[.int .i64 14, .int .i64 0, .int .i64 x1, .int .i64 x2, .bool false, .string ⟨#[]⟩, .string ⟨#[]⟩], .bool false]) ?res rfl (rfin (a := { A0 (14) with n := x1, off := x2 }) (ok := false) ?_ HR.out)
    case res =>
      refine results_cell_tmp (p := 4) (q := 5) (ty := 24) rfl _ _ w.heap.size 24 #[.int .i64 14, .int .i64 0, .int .i64 x1, .int .i64 x2, .bool false, .string ⟨#[]⟩, .string ⟨#[]⟩] (0, 0) _ _ rfl rfl ?_ Tryd.underlying24 rfl size24
      refine Bx.full7 ?_ _ _ _ _ _ _ _
      repeat (first | with_reducible refine Bx.set ?_ _ _ | with_reducible refine Bx.below ?_ (by with_reducible assumption) | exact Bx.new _ _ _ _ rfl | with_reducible refine Bx.old ?_ _)
    repeat (first | with_reducible assumption | with_reducible refine below_set ?_ (Nat.le_refl _) _ | with_reducible refine Below.alloc ?_ (Nat.le_refl _) _ | with_reducible exact Below.refl _ _ | with_reducible refine below_two ?_ (by with_reducible assumption))
  · go_enter Tryd.func52, Tryd.ntmps52
    go_wp2_with fail
    refine (d1 _ ?_).mono ?_
    · repeat (first | with_reducible assumption | with_reducible refine below_set ?_ (Nat.le_refl _) _ | with_reducible refine Below.alloc ?_ (Nat.le_refl _) _ | with_reducible exact Below.refl _ _ | with_reducible refine below_two ?_ (by with_reducible assumption))
    rintro e v1 ⟨rfl, hB1⟩
    obtain ⟨hc1, hf1⟩ := bcell hB1
    have hz1 : w.heap.size < v1.heap.size := by have := hB1.size; (try simp at this); omega
    go_wp2_with fail
    refine (d2 _ ?_).mono ?_
    · repeat (first | with_reducible assumption | with_reducible refine below_set ?_ (Nat.le_refl _) _ | with_reducible refine Below.alloc ?_ (Nat.le_refl _) _ | with_reducible exact Below.refl _ _ | with_reducible refine below_two ?_ (by with_reducible assumption))
    rintro e v2 ⟨rfl, hB2⟩
    obtain ⟨hc2, hf2⟩ := bcell hB2
    have hz2 : w.heap.size < v2.heap.size := by have := hB2.size; (try simp at this); omega
    go_wp2
    refine bodyPost_ret (v := .tuple #[.agg #[.int .i64 14, .int .i64 0, .int .i64 x1, .int .i64 x2, .bool false, .string ⟨#[]⟩, .string ⟨#[]⟩], .bool (x1 != 0)]) ?res rfl (rfin (a := { A0 (14) with n := x1, off := x2 }) (ok := (x1 != 0)) ?_ HR.out)
    case res =>
      refine results_cell_tmp (p := 4) (q := 5) (ty := 24) rfl _ _ w.heap.size 24 #[.int .i64 14, .int .i64 0, .int .i64 x1, .int .i64 x2, .bool false, .string ⟨#[]⟩, .string ⟨#[]⟩] (0, 0) _ _ rfl rfl ?_ Tryd.underlying24 rfl size24
      refine Bx.full7 ?_ _ _ _ _ _ _ _
      repeat (first | with_reducible refine Bx.set ?_ _ _ | with_reducible refine Bx.below ?_ (by with_reducible assumption) | exact Bx.new _ _ _ _ rfl | with_reducible refine Bx.old ?_ _)
    repeat (first | with_reducible assumption | with_reducible refine below_set ?_ (Nat.le_refl _) _ | with_reducible refine Below.alloc ?_ (Nat.le_refl _) _ | with_reducible exact Below.refl _ _ | with_reducible refine below_two ?_ (by with_reducible assumption))
set_option maxHeartbeats 2000000 in
set_option maxRecDepth 100000 in
theorem rest3_14n (w : World)  (r : Option Ans) (b o c : Nat) (s0 : ByteArray) (c0 : w.cell? ⟨b, o, none⟩ = some (.string s0)) (s1 : ByteArray) (c1 : w.cell? ⟨b, o + 1, none⟩ = some (.string s1)) (s2 : ByteArray) (c2 : w.cell? ⟨b, o + 2, none⟩ = some (.string s2)) (hq : (s0.toList == [114, 117, 108, 101]) = false)
    (hr : r = if false then some (A0 (14)) else none) : Calls Tryd.prog 52 #[.int .i64 14, .slice (some ⟨b, o, none⟩) 3 c] w (RestP r w) := by
  have HR : Aside0 (r = if false then some (A0 (14)) else none) := ⟨hr⟩
  clear hr
  have hbl : b < w.heap.size := World.block_lt_of_cell? _ _ c0
  go_enter Tryd.func52, Tryd.ntmps52
  go_wp2
  refine bodyPost_ret (v := .tuple #[(A0 (14)).v, .bool (false)]) (by simp [results, Tryd.results52, go_sem]) rfl (rfin ?_ HR.out)
  exact ((Below.refl _ _).alloc (Nat.le_refl _) _)
set_option maxHeartbeats 2000000 in
set_option maxRecDepth 100000 in
theorem rest3_2 (w : World)  (r : Option Ans) (b o c : Nat) (s0 : ByteArray) (c0 : w.cell? ⟨b, o, none⟩ = some (.string s0)) (s1 : ByteArray) (c1 : w.cell? ⟨b, o + 1, none⟩ = some (.string s1)) (s2 : ByteArray) (c2 : w.cell? ⟨b, o + 2, none⟩ = some (.string s2)) 
    (hr : r = if false then some (A0 (2)) else none) : Calls Tryd.prog 52 #[.int .i64 2, .slice (some ⟨b, o, none⟩) 3 c] w (RestP r w) := by
  have HR : Aside0 (r = if false then some (A0 (2)) else none) := ⟨hr⟩
  clear hr
  have hbl : b < w.heap.size := World.block_lt_of_cell? _ _ c0
  go_enter Tryd.func52, Tryd.ntmps52
  go_wp2
  refine bodyPost_ret (v := .tuple #[(A0 (2)).v, .bool (false)]) (by simp [results, Tryd.results52, go_sem]) rfl (rfin ?_ HR.out)
  exact ((Below.refl _ _).alloc (Nat.le_refl _) _)
set_option maxHeartbeats 2000000 in
set_option maxRecDepth 100000 in
theorem rest3_x (w : World) (op : Int) (r : Option Ans) (b o c : Nat) (s0 : ByteArray) (c0 : w.cell? ⟨b, o, none⟩ = some (.string s0)) (s1 : ByteArray) (c1 : w.cell? ⟨b, o + 1, none⟩ = some (.string s1)) (s2 : ByteArray) (c2 : w.cell? ⟨b, o + 2, none⟩ = some (.string s2)) (h2 : (op == 2) = false) (h9 : (op == 9) = false) (h14 : (op == 14) = false)
    (hr : r = if false then some (A0 (op)) else none) : Calls Tryd.prog 52 #[.int .i64 op, .slice (some ⟨b, o, none⟩) 3 c] w (RestP r w) := by
  have HR : Aside0 (r = if false then some (A0 (op)) else none) := ⟨hr⟩
  clear hr
  have hbl : b < w.heap.size := World.block_lt_of_cell? _ _ c0
  go_enter Tryd.func52, Tryd.ntmps52
  go_wp2
  refine bodyPost_ret (v := .tuple #[(A0 (op)).v, .bool (false)]) (by simp [results, Tryd.results52, go_sem]) rfl (rfin ?_ HR.out)
  exact ((Below.refl _ _).alloc (Nat.le_refl _) _)
set_option maxHeartbeats 2000000 in
set_option maxRecDepth 100000 in
theorem restn_2 (w : World)  (r : Option Ans) (b o c : Nat) (n : Nat) (hn : 4 ≤ n) (hn2 : n ≤ 3000000) (s0 : ByteArray) (c0 : w.cell? ⟨b, o, none⟩ = some (.string s0)) 
    (hr : r = if false then some (A0 (2)) else none) : Calls Tryd.prog 52 #[.int .i64 2, .slice (some ⟨b, o, none⟩) n c] w (RestP r w) := by
  have HR : Aside0 (r = if false then some (A0 (2)) else none) := ⟨hr⟩
  clear hr
  have hbl : b < w.heap.size := World.block_lt_of_cell? _ _ c0
  have n0 : ((n : Int) == 0) = false := beq_eq_false_iff_ne.2 (by omega)
  have n2 : ((n : Int) == 2) = false := beq_eq_false_iff_ne.2 (by omega)
  have n3 : ((n : Int) == 3) = false := beq_eq_false_iff_ne.2 (by omega)
  have n1 : (n : Int) > 1 := by omega
  have n4 : (n : Int) > 0 := by omega
  have n5 : 0 < n := by omega
  clear hn hn2
  go_enter Tryd.func52, Tryd.ntmps52
  go_wp2
  refine bodyPost_ret (v := .tuple #[(A0 (2)).v, .bool (false)]) (by simp [results, Tryd.results52, go_sem]) rfl (rfin ?_ HR.out)
  exact ((Below.refl _ _).alloc (Nat.le_refl _) _)
set_option maxHeartbeats 2000000 in
set_option maxRecDepth 100000 in
theorem restn_9 (w : World)  (r : Option Ans) (b o c : Nat) (n : Nat) (hn : 4 ≤ n) (hn2 : n ≤ 3000000) (s0 : ByteArray) (c0 : w.cell? ⟨b, o, none⟩ = some (.string s0)) 
    (hr : r = if false then some (A0 (9)) else none) : Calls Tryd.prog 52 #[.int .i64 9, .slice (some ⟨b, o, none⟩) n c] w (RestP r w) := by
  have HR : Aside0 (r = if false then some (A0 (9)) else none) := ⟨hr⟩
  clear hr
  have hbl : b < w.heap.size := World.block_lt_of_cell? _ _ c0
  have n0 : ((n : Int) == 0) = false := beq_eq_false_iff_ne.2 (by omega)
  have n2 : ((n : Int) == 2) = false := beq_eq_false_iff_ne.2 (by omega)
  have n3 : ((n : Int) == 3) = false := beq_eq_false_iff_ne.2 (by omega)
  have n1 : (n : Int) > 1 := by omega
  have n4 : (n : Int) > 0 := by omega
  have n5 : 0 < n := by omega
  clear hn hn2
  go_enter Tryd.func52, Tryd.ntmps52
  go_wp2
  refine bodyPost_ret (v := .tuple #[(A0 (9)).v, .bool (false)]) (by simp [results, Tryd.results52, go_sem]) rfl (rfin ?_ HR.out)
  exact ((Below.refl _ _).alloc (Nat.le_refl _) _)
set_option maxHeartbeats 2000000 in
set_option maxRecDepth 100000 in
theorem restn_14 (w : World)  (r : Option Ans) (b o c : Nat) (n : Nat) (hn : 4 ≤ n) (hn2 : n ≤ 3000000) (s0 : ByteArray) (c0 : w.cell? ⟨b, o, none⟩ = some (.string s0)) 
    (hr : r = if false then some (A0 (14)) else none) : Calls Tryd.prog 52 #[.int .i64 14, .slice (some ⟨b, o, none⟩) n c] w (RestP r w) := by
  have HR : Aside0 (r = if false then some (A0 (14)) else none) := ⟨hr⟩
  clear hr
  have hbl : b < w.heap.size := World.block_lt_of_cell? _ _ c0
  have n0 : ((n : Int) == 0) = false := beq_eq_false_iff_ne.2 (by omega)
  have n2 : ((n : Int) == 2) = false := beq_eq_false_iff_ne.2 (by omega)
  have n3 : ((n : Int) == 3) = false := beq_eq_false_iff_ne.2 (by omega)
  have n1 : (n : Int) > 1 := by omega
  have n4 : (n : Int) > 0 := by omega
  have n5 : 0 < n := by omega
  clear hn hn2
  go_enter Tryd.func52, Tryd.ntmps52
  go_wp2
  refine bodyPost_ret (v := .tuple #[(A0 (14)).v, .bool (false)]) (by simp [results, Tryd.results52, go_sem]) rfl (rfin ?_ HR.out)
  exact ((Below.refl _ _).alloc (Nat.le_refl _) _)
set_option maxHeartbeats 2000000 in
set_option maxRecDepth 100000 in
theorem restn_x (w : World) (op : Int) (r : Option Ans) (b o c : Nat) (n : Nat) (hn : 4 ≤ n) (hn2 : n ≤ 3000000) (s0 : ByteArray) (c0 : w.cell? ⟨b, o, none⟩ = some (.string s0)) (h2 : (op == 2) = false) (h9 : (op == 9) = false) (h14 : (op == 14) = false)
    (hr : r = if false then some (A0 (op)) else none) : Calls Tryd.prog 52 #[.int .i64 op, .slice (some ⟨b, o, none⟩) n c] w (RestP r w) := by
  have HR : Aside0 (r = if false then some (A0 (op)) else none) := ⟨hr⟩
  clear hr
  have hbl : b < w.heap.size := World.block_lt_of_cell? _ _ c0
  have n0 : ((n : Int) == 0) = false := beq_eq_false_iff_ne.2 (by omega)
  have n2 : ((n : Int) == 2) = false := beq_eq_false_iff_ne.2 (by omega)
  have n3 : ((n : Int) == 3) = false := beq_eq_false_iff_ne.2 (by omega)
  have n1 : (n : Int) > 1 := by omega
  have n4 : (n : Int) > 0 := by omega
  have n5 : 0 < n := by omega
  clear hn hn2
  go_enter Tryd.func52, Tryd.ntmps52
  go_wp2
  refine bodyPost_ret (v := .tuple #[(A0 (op)).v, .bool (false)]) (by simp [results, Tryd.results52, go_sem]) rfl (rfin ?_ HR.out)
  exact ((Below.refl _ _).alloc (Nat.le_refl _) _)
end Go.Proofs.YtigaacbaaopfmaaDoor.sh
