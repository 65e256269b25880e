/- The document's Mix: what its walk asks: the cells of its three numbers, and its callees' contracts by digits. -/
import Derived.Test.YtabdkfmfenpkjaaDoorRefMul
import Derived.Test.YtabdkfmfenpkjaaDoorMixPure
import Derived.Deep.RegionWith
import Derived.Deep.RegionHeld3
import Derived.Deep.CutRange
import Derived.Deep.DeepCutAuto
namespace Go.Proofs.YtabdkfmfenpkjaaDoor.ref
open Go.RowKit Go.Proofs.YtabdkfmfenpkjaaDoorW.PrintWords
set_option linter.unusedVariables false
abbrev nd (v : Int) : Value := num (dg v 0) (dg v 1) (dg v 2) (dg v 3)
def rowA : Nat → Value := fun k => .int .i64 (match k with | 0 => 10435 | 1 => 53583 | 2 => 28213 | _ => 47017)
def rowB : Nat → Value := fun k => .int .i64 (match k with | 0 => 18167 | 1 => 28840 | 2 => 23777 | _ => 40251)
structure Mw (w wr : World) : Prop where
  below : Below w.heap.size w wr
  ra : wr.rowIs w.heap.size 49 4 rowA
  rb : wr.rowIs (w.heap.size + 1) 49 4 rowB
theorem rowIs_below {w w' : World} {b : Nat} {t : TypeId} {n : Nat} {f : Nat → Value} (h : w.rowIs b t n f) (hb : Below w.heap.size w w') : w'.rowIs b t n f := h.of_block (hb.block _ h.lt)
theorem Mw.lt {w wr : World} (h : Mw w wr) : w.heap.size + 1 < wr.heap.size := h.rb.lt
theorem Mw.after {w wr w' : World} (h : Mw w wr) (hb : Below wr.heap.size wr w') : Mw w w' :=
  ⟨h.below.trans (hb.mono (by have := h.lt; omega)), rowIs_below h.ra hb, rowIs_below h.rb hb⟩
theorem Mw.drew {w wr : World} (h : Mw w wr) : Mw w wr.drew := ⟨h.below.drew, h.ra.drew, h.rb.drew⟩
theorem Mw.alloc {w wr : World} (h : Mw w wr) (o : Obj) : Mw w (wr.alloc o) := ⟨h.below.alloc (by have := h.lt; omega) _, h.ra.alloc _, h.rb.alloc _⟩
theorem Mw.setCell {w wr : World} (h : Mw w wr) {a : Addr} (ha : w.heap.size + 1 < a.block) (v : Value) : Mw w (wr.setCell a v) :=
  ⟨h.below.setCell (by omega) _, h.ra.setOther (by omega) _, h.rb.setOther (by omega) _⟩
theorem Mw.start (w : World) : Mw w ((w.alloc (.cells #[.int .i64 10435, .int .i64 53583, .int .i64 28213, .int .i64 47017] 49)).alloc (.cells #[.int .i64 18167, .int .i64 28840, .int .i64 23777, .int .i64 40251] 49)) := by
  refine ⟨((Below.refl _ _).alloc (Nat.le_refl _) _).alloc (by simp) _, ?_, ?_⟩
  · exact (World.rowIs_alloc w _ 49 rowA (four rowA)).alloc _
  · have h := (World.rowIs_alloc (w.alloc (.cells #[.int .i64 10435, .int .i64 53583, .int .i64 28213, .int .i64 47017] 49)) _ 49 rowB (four rowB))
    rw [show (w.alloc (.cells #[.int .i64 10435, .int .i64 53583, .int .i64 28213, .int .i64 47017] 49)).heap.size = w.heap.size + 1 by simp] at h
    exact h
theorem Mw.cA {w wr : World} (h : Mw w wr) : Mw w wr ∧ wr.cell? ⟨w.heap.size, 0, none⟩ = some (.int .i64 10435) ∧ wr.cell? ⟨w.heap.size, 1, none⟩ = some (.int .i64 53583) ∧ wr.cell? ⟨w.heap.size, 2, none⟩ = some (.int .i64 28213) ∧ wr.cell? ⟨w.heap.size, 3, none⟩ = some (.int .i64 47017) :=
  ⟨h, h.ra.cell (i := 0) (by decide), h.ra.cell (i := 1) (by decide), h.ra.cell (i := 2) (by decide), h.ra.cell (i := 3) (by decide)⟩
/-- The cell of h, at block hb, holds the digits of H. -/
structure Mh (w wr : World) (hb : Nat) (H : Int) : Prop where
  m : Mw w wr
  lt : w.heap.size + 1 < hb
  r : wr.rowIs hb 49 4 (iv (dg H))
theorem Mh.after {w wr w' : World} {hb : Nat} {H : Int} (h : Mh w wr hb H) (k : Below wr.heap.size wr w') : Mh w w' hb H := ⟨h.m.after k, h.lt, rowIs_below h.r k⟩
theorem Mh.drew {w wr : World} {hb : Nat} {H : Int} (h : Mh w wr hb H) : Mh w wr.drew hb H := ⟨h.m.drew, h.lt, h.r.drew⟩
theorem Mw.set4 {w wr : World} (h : Mw w wr) {b : Nat} (hb : w.heap.size + 1 < b) (v0 v1 v2 v3 : Value) : Mw w ((((wr.setCell ⟨b, 0, none⟩ v0).setCell ⟨b, 1, none⟩ v1).setCell ⟨b, 2, none⟩ v2).setCell ⟨b, 3, none⟩ v3) :=
  (((h.setCell hb _).setCell hb _).setCell hb _).setCell hb _
theorem set4 {wr : World} {b : Nat} {t : TypeId} {f g : Nat → Value} (h : wr.rowIs b t 4 f) : ((((wr.setCell ⟨b, 0, none⟩ (g 0)).setCell ⟨b, 1, none⟩ (g 1)).setCell ⟨b, 2, none⟩ (g 2)).setCell ⟨b, 3, none⟩ (g 3)).rowIs b t 4 g := by
  refine ((((h.set 0 _).set 1 _).set 2 _).set 3 _).congr fun i hi => ?_
  match i, hi with
  | 0, _ => rfl
  | 1, _ => rfl
  | 2, _ => rfl
  | 3, _ => rfl
theorem Mh.mk4 {w wr : World} {b : Nat} {f : Nat → Value} (h : Mw w wr) (hb : w.heap.size + 1 < b) (hr : wr.rowIs b 49 4 f) (H : Int) :
    Mh w ((((wr.setCell ⟨b, 0, none⟩ (.int .i64 (dg H 0))).setCell ⟨b, 1, none⟩ (.int .i64 (dg H 1))).setCell ⟨b, 2, none⟩ (.int .i64 (dg H 2))).setCell ⟨b, 3, none⟩ (.int .i64 (dg H 3))) b H :=
  ⟨h.set4 hb _ _ _ _, hb, set4 (g := iv (dg H)) hr⟩
def zrow : Nat → Value := fun _ => .int .i64 0
abbrev Z49 : Obj := .cells #[.int .i64 0, .int .i64 0, .int .i64 0, .int .i64 0] 49
theorem zalloc (w : World) : (w.alloc Z49).rowIs w.heap.size 49 4 zrow := World.rowIs_alloc w _ 49 zrow (four zrow)
theorem zcells {w : World} {b : Nat} (h : w.rowIs b 49 4 zrow) : w.cell? ⟨b, 0, none⟩ = some (.int .i64 0) ∧ w.cell? ⟨b, 1, none⟩ = some (.int .i64 0) ∧ w.cell? ⟨b, 2, none⟩ = some (.int .i64 0) ∧ w.cell? ⟨b, 3, none⟩ = some (.int .i64 0) ∧
    w.frozen? ⟨b, 0, none⟩ = false ∧ w.frozen? ⟨b, 1, none⟩ = false ∧ w.frozen? ⟨b, 2, none⟩ = false ∧ w.frozen? ⟨b, 3, none⟩ = false :=
  ⟨h.cell (i := 0) (by decide), h.cell (i := 1) (by decide), h.cell (i := 2) (by decide), h.cell (i := 3) (by decide), h.frozen 0, h.frozen 1, h.frozen 2, h.frozen 3⟩
theorem Mh.new {w wr : World} (h : Mw w wr) (H : Int) : Mh w (wr.alloc (.cells #[.int .i64 (dg H 0), .int .i64 (dg H 1), .int .i64 (dg H 2), .int .i64 (dg H 3)] 49)) wr.heap.size H :=
  ⟨h.alloc _, h.lt, World.rowIs_alloc wr _ 49 (iv (dg H)) (four (iv (dg H)))⟩
theorem Mh.facts {w wr : World} {b : Nat} {H : Int} (h : Mh w wr b H) : (wr.cell? ⟨b, 0, none⟩ = some (.int .i64 (dg H 0)) ∧ wr.cell? ⟨b, 1, none⟩ = some (.int .i64 (dg H 1)) ∧ wr.cell? ⟨b, 2, none⟩ = some (.int .i64 (dg H 2)) ∧ wr.cell? ⟨b, 3, none⟩ = some (.int .i64 (dg H 3))) ∧
    wr.frozen? ⟨b, 0, none⟩ = false ∧ wr.frozen? ⟨b, 1, none⟩ = false ∧ wr.frozen? ⟨b, 2, none⟩ = false ∧ wr.frozen? ⟨b, 3, none⟩ = false :=
  ⟨⟨h.r.cell (i := 0) (by decide), h.r.cell (i := 1) (by decide), h.r.cell (i := 2) (by decide), h.r.cell (i := 3) (by decide)⟩, h.r.frozen 0, h.r.frozen 1, h.r.frozen 2, h.r.frozen 3⟩
theorem Mw.cB {w wr : World} (h : Mw w wr) : Mw w wr ∧ wr.cell? ⟨w.heap.size + 1, 0, none⟩ = some (.int .i64 18167) ∧ wr.cell? ⟨w.heap.size + 1, 1, none⟩ = some (.int .i64 28840) ∧ wr.cell? ⟨w.heap.size + 1, 2, none⟩ = some (.int .i64 23777) ∧ wr.cell? ⟨w.heap.size + 1, 3, none⟩ = some (.int .i64 40251) :=
  ⟨h, h.rb.cell (i := 0) (by decide), h.rb.cell (i := 1) (by decide), h.rb.cell (i := 2) (by decide), h.rb.cell (i := 3) (by decide)⟩
/-- A number of 64 bits. -/
def In64 (v : Int) : Prop := 0 ≤ v ∧ v < 18446744073709551616
theorem In64.wrap (v : Int) : In64 (IntKind.u64.wrap v) := by rw [IntKind.wrap_u64]; unfold In64; omega
theorem In64.xor {x y : Int} (hx : In64 x) (hy : In64 y) : In64 (bits .xor .u64 x y) := by
  obtain ⟨a, rfl⟩ := Int.eq_ofNat_of_zero_le hx.1
  obtain ⟨b, rfl⟩ := Int.eq_ofNat_of_zero_le hy.1
  have ha : a < OrMath.M := by have := hx.2; unfold OrMath.M; omega
  have hb : b < OrMath.M := by have := hy.2; unfold OrMath.M; omega
  rw [Mix.xor_cast ha hb]
  have := OrMath.lt_xor ha hb
  unfold OrMath.M at this
  exact ⟨by omega, by omega⟩
theorem In64.div29 {x : Int} (hx : In64 x) : In64 (x / 536870912) := by unfold In64 at *; omega
theorem In64.div31 {x : Int} (hx : In64 x) : In64 (x / 2147483648) := by unfold In64 at *; omega
theorem In64.div32 {x : Int} (hx : In64 x) : In64 (x / 4294967296) := by unfold In64 at *; omega
theorem In64.u8 (c : UInt8) : In64 (IntKind.u64.wrap c.toNat) := In64.wrap _
theorem c_digits {v : Int} (hv : In64 v) (w : World) : Calls Tryd.prog 17 #[.int .u64 v] w fun e w' => e = .returned (nd v) ∧ Below w.heap.size w w' := digits_val w v hv
theorem c_whole {v : Int} (hv : In64 v) (w : World) : Calls Tryd.prog 20 #[nd v] w fun e w' => e = .returned (.int .u64 v) ∧ Below w.heap.size w w' := whole_val w v hv
theorem c_xor {x y z : Int} (hx : In64 x) (hy : In64 y) (h : bits .xor .u64 x y = z) (w : World) : Calls Tryd.prog 16 #[nd x, nd y] w fun e w' => e = .returned (nd z) ∧ Below w.heap.size w w' := by
  subst h; exact xor_val w x y hx hy
theorem c_times {x y z : Int} (hx : In64 x) (hy : In64 y) (h : IntKind.u64.wrap (x * y) = z) (w : World) : Calls Tryd.prog 18 #[nd x, nd y] w fun e w' => e = .returned (nd z) ∧ Below w.heap.size w w' :=
  times_val w x y z hx hy (by rw [← h, IntKind.wrap_u64])
theorem dgA : dg 13234230157428861123 0 = 10435 ∧ dg 13234230157428861123 1 = 53583 ∧ dg 13234230157428861123 2 = 28213 ∧ dg 13234230157428861123 3 = 47017 := by
  refine ⟨?_, ?_, ?_, ?_⟩ <;> simp [dg]
theorem dgB : dg 11329751410908088055 0 = 18167 ∧ dg 11329751410908088055 1 = 28840 ∧ dg 11329751410908088055 2 = 23777 ∧ dg 11329751410908088055 3 = 40251 := by
  refine ⟨?_, ?_, ?_, ?_⟩ <;> simp [dg]
theorem ndA : nd 13234230157428861123 = num 10435 53583 28213 47017 := by
  obtain ⟨h0, h1, h2, h3⟩ := dgA
  show num _ _ _ _ = _
  rw [h0, h1, h2, h3]
theorem ndB : nd 11329751410908088055 = num 18167 28840 23777 40251 := by
  obtain ⟨h0, h1, h2, h3⟩ := dgB
  show num _ _ _ _ = _
  rw [h0, h1, h2, h3]
theorem ndC (c : UInt8) : nd (IntKind.u64.wrap c.toNat) = num (IntKind.i64.wrap c.toNat) 0 0 0 := by
  have hc := c.toNat_lt
  have e' : IntKind.i64.wrap (c.toNat : Int) = c.toNat := by rw [IntKind.wrap_i64]; omega
  rw [e']
  have e : IntKind.u64.wrap (c.toNat : Int) = c.toNat := by rw [IntKind.wrap_u64]; omega
  rw [e]
  have h0 : dg c.toNat 0 = c.toNat := by show (c.toNat : Int) % 65536 = _; omega
  have h1 : dg c.toNat 1 = 0 := by show (c.toNat : Int) / 65536 % 65536 = _; omega
  have h2 : dg c.toNat 2 = 0 := by show (c.toNat : Int) / 65536 / 65536 % 65536 = _; omega
  have h3 : dg c.toNat 3 = 0 := by show (c.toNat : Int) / 65536 / 65536 / 65536 % 65536 = _; omega
  show num _ _ _ _ = _
  rw [h0, h1, h2, h3]
end Go.Proofs.YtabdkfmfenpkjaaDoor.ref
