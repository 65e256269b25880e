/- A command's line, behind its name: the program's, walked. -/
import Derived.Test.YtigaacbaaopfmaaDoorSm
import Derived.Test.YtigaacbaaopfmaaDoorMa
import Derived.Deep.RegionHeld3
import Derived.Deep.Light
set_option linter.unusedSimpArgs false
namespace Go.Proofs.YtigaacbaaopfmaaDoor.sh
open Go.RowKit
set_option linter.unusedVariables false
/-- A command's line, behind its name. -/
def numL (x : Int) : List UInt8 := 32 :: Lib.itoa x
def wrdL (x : Nat) : List UInt8 := 32 :: wordL x
def bytL (l : List UInt8) : List UInt8 := 32 :: bytesL l
def lineL (c : Cm) : List UInt8 :=
  if c.op = 1 then wrdL c.u ++ numL c.n ++ numsL c.fields
  else if c.op = 10 then numsL c.hs
  else if c.op = 3 then numL c.h ++ bytL c.key ++ bytL c.elem
  else if c.op = 2 ∨ c.op = 4 ∨ c.op = 12 then numL c.h ++ bytL c.key
  else if c.op = 8 then numL c.h ++ wrdL c.u ++ wrdL c.v
  else if c.op = 6 then numL c.h ++ wrdL c.u
  else if c.op = 11 ∨ c.op = 14 then []
  else numL c.h
/-- What fits a command's cells. -/
structure Cm.Fits (c : Cm) : Prop where
  h : In64 c.h
  n : In64 c.n
  u : c.u < 18446744073709551616
  v : c.v < 18446744073709551616
  key : c.key.length ≤ 3000000
  elem : c.elem.length ≤ 3000000
  fi : Ins c.fields
  fl : c.fields.length ≤ 2000000
  hi : Ins c.hs
  hl : c.hs.length ≤ 2000000
theorem showB_L (l : List UInt8) : showB (B l) = B (bytL l) := by
  unfold showB bytL
  rw [bytesP_B]
theorem SW.hd {w : World} {ao : Option Addr} {n c g o : Nat} {l : List Int} (h : SW w 1 ao n c g o (iv l)) : Hd ao n c g o ∧ LI w g o l :=
  ⟨⟨h.lead, h.bare, h.cap⟩, fun j x hx => h.cells j _ (iv_at hx)⟩
def LineP (c : Cm) (w : World) (e : Ending) (w' : World) : Prop := e = .returned (.string (B (lineL c))) ∧ Below w.heap.size w w'
theorem app_nil (b : ByteArray) : b ++ ⟨#[]⟩ = b := by
  have h := B_add b.data.toList []
  rw [B_of, List.append_nil, B_of] at h
  exact h
set_option maxHeartbeats 4000000 in
set_option maxRecDepth 100000 in
theorem line_def (w : World) (hb : Base3 w) (op h n : Int) (u v : Nat) (key elem : List UInt8) (fields hs : List Int) (af ah : Option Addr) (cf ch gf gh of' oh : Nat)
    (fit : Cm.Fits ⟨op, h, fields, hs, u, v, n, key, elem⟩) (sf : SW w 1 af fields.length cf gf of' (iv fields)) (sh : SW w 1 ah hs.length ch gh oh (iv hs)) (n1 : (op == 1) = false) (n10 : (op == 10) = false) (n3 : (op == 3) = false) (n2 : (op == 2) = false) (n4 : (op == 4) = false) (n12 : (op == 12) = false) (n8 : (op == 8) = false) (n6 : (op == 6) = false) (n11 : (op == 11) = false) (n14 : (op == 14) = false) :
    Calls Tryd.prog 37 #[.agg #[.int .i64 op, .int .i64 h, .slice af fields.length cf, .slice ah hs.length ch, .int .u64 (u : Int), .int .u64 (v : Int), .int .i64 n, .string (B key), .string (B elem)]] w (fun e w' => e = .returned (.string (B (numL h))) ∧ Below w.heap.size w w') := by
  obtain ⟨R, hR⟩ : ∃ R, B (numL h) = R := ⟨_, rfl⟩
  rw [hR]
  obtain ⟨rh, hrh⟩ : ∃ r, showN h = r := ⟨_, rfl⟩
  obtain ⟨srh, crh⟩ := show_num hb.base h fit.h rh hrh
  have HR : Aside0 (R = rh) := ⟨by
    rw [← hR]
    rw [← hrh]; rfl⟩
  clear hR fit
  generalize fields.length = nf at *
  generalize hs.length = nh at *
  generalize B key = kb at *
  generalize B elem = eb at *
  go_enter Tryd.func37, Tryd.ntmps37
  go_upto_region 2 with fail
  have hbx := heap_alloc_new w (.cells #[.int .i64 op, .int .i64 h, .slice af nf cf, .slice ah nh ch, .int .u64 (u : Int), .int .u64 (v : Int), .int .i64 n, .string kb, .string eb] 37)
  have hBW : Below w.heap.size w (w.alloc (.cells #[.int .i64 op, .int .i64 h, .slice af nf cf, .slice ah nh ch, .int .u64 (u : Int), .int .u64 (v : Int), .int .i64 n, .string kb, .string eb] 37)) := (Below.refl _ w).alloc (Nat.le_refl _) _
  generalize w.alloc (.cells #[.int .i64 op, .int .i64 h, .slice af nf cf, .slice ah nh ch, .int .u64 (u : Int), .int .u64 (v : Int), .int .i64 n, .string kb, .string eb] 37) = W at hbx hBW ⊢
  have k0 : W.cell? ⟨w.heap.size, 0, none⟩ = some (.int .i64 op) := by unfold World.cell?; rw [hbx]; rfl
  have k1 : W.cell? ⟨w.heap.size, 1, none⟩ = some (.int .i64 h) := by unfold World.cell?; rw [hbx]; rfl
  have k2 : W.cell? ⟨w.heap.size, 2, none⟩ = some (.slice af nf cf) := by unfold World.cell?; rw [hbx]; rfl
  have k3 : W.cell? ⟨w.heap.size, 3, none⟩ = some (.slice ah nh ch) := by unfold World.cell?; rw [hbx]; rfl
  have k4 : W.cell? ⟨w.heap.size, 4, none⟩ = some (.int .u64 (u : Int)) := by unfold World.cell?; rw [hbx]; rfl
  have k5 : W.cell? ⟨w.heap.size, 5, none⟩ = some (.int .u64 (v : Int)) := by unfold World.cell?; rw [hbx]; rfl
  have k6 : W.cell? ⟨w.heap.size, 6, none⟩ = some (.int .i64 n) := by unfold World.cell?; rw [hbx]; rfl
  have k7 : W.cell? ⟨w.heap.size, 7, none⟩ = some (.string kb) := by unfold World.cell?; rw [hbx]; rfl
  have k8 : W.cell? ⟨w.heap.size, 8, none⟩ = some (.string eb) := by unfold World.cell?; rw [hbx]; rfl
  clear hbx
  go_wp2_with (go_at_call 29; (with_reducible refine (crh _ hBW).mono ?_); rintro e w1 ⟨rfl, b1⟩)
  go_ret
  exact ⟨by first | (rw [HR.out]; done) | (rw [HR.out]; rfl), below_next hBW b1⟩
set_option maxHeartbeats 4000000 in
set_option maxRecDepth 100000 in
theorem line_10 (w : World) (hb : Base3 w) (op h n : Int) (u v : Nat) (key elem : List UInt8) (fields hs : List Int) (af ah : Option Addr) (cf ch gf gh of' oh : Nat)
    (fit : Cm.Fits ⟨op, h, fields, hs, u, v, n, key, elem⟩) (sf : SW w 1 af fields.length cf gf of' (iv fields)) (sh : SW w 1 ah hs.length ch gh oh (iv hs)) :
    Calls Tryd.prog 37 #[.agg #[.int .i64 10, .int .i64 h, .slice af fields.length cf, .slice ah hs.length ch, .int .u64 (u : Int), .int .u64 (v : Int), .int .i64 n, .string (B key), .string (B elem)]] w (fun e w' => e = .returned (.string (B (numsL hs))) ∧ Below w.heap.size w w') := by
  obtain ⟨R, hR⟩ : ∃ R, B (numsL hs) = R := ⟨_, rfl⟩
  rw [hR]
  have crhs := fun wq (hq : Below w.heap.size w wq) => showNumbers_walk wq ah ch gh oh hs (hb.base.below hq) (sh.below hq (Nat.le_refl _)).hd.1 (sh.below hq (Nat.le_refl _)).hd.2 fit.hi fit.hl
  obtain ⟨rhs, hrhs⟩ : ∃ r, B (numsL hs) = r := ⟨_, rfl⟩
  rw [hrhs] at crhs
  have srhs : rhs.size ≤ 202000000 := by rw [← hrhs, B_size]; have e1 : (numsL hs).length ≤ 101 * hs.length := numsL_len fit.hi; have e2 : hs.length ≤ 2000000 := fit.hl; omega
  have HR : Aside0 (R = rhs) := ⟨by
    rw [← hR]
    rw [← hrhs]⟩
  clear hR fit
  generalize fields.length = nf at *
  generalize hs.length = nh at *
  generalize B key = kb at *
  generalize B elem = eb at *
  go_enter Tryd.func37, Tryd.ntmps37
  go_upto_region 2 with fail
  have hbx := heap_alloc_new w (.cells #[.int .i64 10, .int .i64 h, .slice af nf cf, .slice ah nh ch, .int .u64 (u : Int), .int .u64 (v : Int), .int .i64 n, .string kb, .string eb] 37)
  have hBW : Below w.heap.size w (w.alloc (.cells #[.int .i64 10, .int .i64 h, .slice af nf cf, .slice ah nh ch, .int .u64 (u : Int), .int .u64 (v : Int), .int .i64 n, .string kb, .string eb] 37)) := (Below.refl _ w).alloc (Nat.le_refl _) _
  generalize w.alloc (.cells #[.int .i64 10, .int .i64 h, .slice af nf cf, .slice ah nh ch, .int .u64 (u : Int), .int .u64 (v : Int), .int .i64 n, .string kb, .string eb] 37) = W at hbx hBW ⊢
  have k0 : W.cell? ⟨w.heap.size, 0, none⟩ = some (.int .i64 10) := by unfold World.cell?; rw [hbx]; rfl
  have k1 : W.cell? ⟨w.heap.size, 1, none⟩ = some (.int .i64 h) := by unfold World.cell?; rw [hbx]; rfl
  have k2 : W.cell? ⟨w.heap.size, 2, none⟩ = some (.slice af nf cf) := by unfold World.cell?; rw [hbx]; rfl
  have k3 : W.cell? ⟨w.heap.size, 3, none⟩ = some (.slice ah nh ch) := by unfold World.cell?; rw [hbx]; rfl
  have k4 : W.cell? ⟨w.heap.size, 4, none⟩ = some (.int .u64 (u : Int)) := by unfold World.cell?; rw [hbx]; rfl
  have k5 : W.cell? ⟨w.heap.size, 5, none⟩ = some (.int .u64 (v : Int)) := by unfold World.cell?; rw [hbx]; rfl
  have k6 : W.cell? ⟨w.heap.size, 6, none⟩ = some (.int .i64 n) := by unfold World.cell?; rw [hbx]; rfl
  have k7 : W.cell? ⟨w.heap.size, 7, none⟩ = some (.string kb) := by unfold World.cell?; rw [hbx]; rfl
  have k8 : W.cell? ⟨w.heap.size, 8, none⟩ = some (.string eb) := by unfold World.cell?; rw [hbx]; rfl
  clear hbx
  go_wp2_with (go_at_call 60; (with_reducible refine (crhs _ hBW).mono ?_); rintro e w1 ⟨rfl, b1⟩)
  go_ret
  exact ⟨by first | (rw [HR.out]; done) | (rw [HR.out]; rfl), below_next hBW b1⟩
set_option maxHeartbeats 4000000 in
set_option maxRecDepth 100000 in
theorem line_11 (w : World) (hb : Base3 w) (op h n : Int) (u v : Nat) (key elem : List UInt8) (fields hs : List Int) (af ah : Option Addr) (cf ch gf gh of' oh : Nat)
    (fit : Cm.Fits ⟨op, h, fields, hs, u, v, n, key, elem⟩) (sf : SW w 1 af fields.length cf gf of' (iv fields)) (sh : SW w 1 ah hs.length ch gh oh (iv hs)) :
    Calls Tryd.prog 37 #[.agg #[.int .i64 11, .int .i64 h, .slice af fields.length cf, .slice ah hs.length ch, .int .u64 (u : Int), .int .u64 (v : Int), .int .i64 n, .string (B key), .string (B elem)]] w (fun e w' => e = .returned (.string (B ([]))) ∧ Below w.heap.size w w') := by
  obtain ⟨R, hR⟩ : ∃ R, B ([]) = R := ⟨_, rfl⟩
  rw [hR]
  have HR : Aside0 (R = B []) := ⟨hR.symm⟩
  clear hR fit
  generalize fields.length = nf at *
  generalize hs.length = nh at *
  generalize B key = kb at *
  generalize B elem = eb at *
  go_enter Tryd.func37, Tryd.ntmps37
  go_upto_region 2 with fail
  have hbx := heap_alloc_new w (.cells #[.int .i64 11, .int .i64 h, .slice af nf cf, .slice ah nh ch, .int .u64 (u : Int), .int .u64 (v : Int), .int .i64 n, .string kb, .string eb] 37)
  have hBW : Below w.heap.size w (w.alloc (.cells #[.int .i64 11, .int .i64 h, .slice af nf cf, .slice ah nh ch, .int .u64 (u : Int), .int .u64 (v : Int), .int .i64 n, .string kb, .string eb] 37)) := (Below.refl _ w).alloc (Nat.le_refl _) _
  generalize w.alloc (.cells #[.int .i64 11, .int .i64 h, .slice af nf cf, .slice ah nh ch, .int .u64 (u : Int), .int .u64 (v : Int), .int .i64 n, .string kb, .string eb] 37) = W at hbx hBW ⊢
  have k0 : W.cell? ⟨w.heap.size, 0, none⟩ = some (.int .i64 11) := by unfold World.cell?; rw [hbx]; rfl
  have k1 : W.cell? ⟨w.heap.size, 1, none⟩ = some (.int .i64 h) := by unfold World.cell?; rw [hbx]; rfl
  have k2 : W.cell? ⟨w.heap.size, 2, none⟩ = some (.slice af nf cf) := by unfold World.cell?; rw [hbx]; rfl
  have k3 : W.cell? ⟨w.heap.size, 3, none⟩ = some (.slice ah nh ch) := by unfold World.cell?; rw [hbx]; rfl
  have k4 : W.cell? ⟨w.heap.size, 4, none⟩ = some (.int .u64 (u : Int)) := by unfold World.cell?; rw [hbx]; rfl
  have k5 : W.cell? ⟨w.heap.size, 5, none⟩ = some (.int .u64 (v : Int)) := by unfold World.cell?; rw [hbx]; rfl
  have k6 : W.cell? ⟨w.heap.size, 6, none⟩ = some (.int .i64 n) := by unfold World.cell?; rw [hbx]; rfl
  have k7 : W.cell? ⟨w.heap.size, 7, none⟩ = some (.string kb) := by unfold World.cell?; rw [hbx]; rfl
  have k8 : W.cell? ⟨w.heap.size, 8, none⟩ = some (.string eb) := by unfold World.cell?; rw [hbx]; rfl
  clear hbx
  go_wp2
  go_ret
  rw [HR.out]
  exact ⟨rfl, hBW⟩
set_option maxHeartbeats 4000000 in
set_option maxRecDepth 100000 in
theorem line_14 (w : World) (hb : Base3 w) (op h n : Int) (u v : Nat) (key elem : List UInt8) (fields hs : List Int) (af ah : Option Addr) (cf ch gf gh of' oh : Nat)
    (fit : Cm.Fits ⟨op, h, fields, hs, u, v, n, key, elem⟩) (sf : SW w 1 af fields.length cf gf of' (iv fields)) (sh : SW w 1 ah hs.length ch gh oh (iv hs)) :
    Calls Tryd.prog 37 #[.agg #[.int .i64 14, .int .i64 h, .slice af fields.length cf, .slice ah hs.length ch, .int .u64 (u : Int), .int .u64 (v : Int), .int .i64 n, .string (B key), .string (B elem)]] w (fun e w' => e = .returned (.string (B ([]))) ∧ Below w.heap.size w w') := by
  obtain ⟨R, hR⟩ : ∃ R, B ([]) = R := ⟨_, rfl⟩
  rw [hR]
  have HR : Aside0 (R = B []) := ⟨hR.symm⟩
  clear hR fit
  generalize fields.length = nf at *
  generalize hs.length = nh at *
  generalize B key = kb at *
  generalize B elem = eb at *
  go_enter Tryd.func37, Tryd.ntmps37
  go_upto_region 2 with fail
  have hbx := heap_alloc_new w (.cells #[.int .i64 14, .int .i64 h, .slice af nf cf, .slice ah nh ch, .int .u64 (u : Int), .int .u64 (v : Int), .int .i64 n, .string kb, .string eb] 37)
  have hBW : Below w.heap.size w (w.alloc (.cells #[.int .i64 14, .int .i64 h, .slice af nf cf, .slice ah nh ch, .int .u64 (u : Int), .int .u64 (v : Int), .int .i64 n, .string kb, .string eb] 37)) := (Below.refl _ w).alloc (Nat.le_refl _) _
  generalize w.alloc (.cells #[.int .i64 14, .int .i64 h, .slice af nf cf, .slice ah nh ch, .int .u64 (u : Int), .int .u64 (v : Int), .int .i64 n, .string kb, .string eb] 37) = W at hbx hBW ⊢
  have k0 : W.cell? ⟨w.heap.size, 0, none⟩ = some (.int .i64 14) := by unfold World.cell?; rw [hbx]; rfl
  have k1 : W.cell? ⟨w.heap.size, 1, none⟩ = some (.int .i64 h) := by unfold World.cell?; rw [hbx]; rfl
  have k2 : W.cell? ⟨w.heap.size, 2, none⟩ = some (.slice af nf cf) := by unfold World.cell?; rw [hbx]; rfl
  have k3 : W.cell? ⟨w.heap.size, 3, none⟩ = some (.slice ah nh ch) := by unfold World.cell?; rw [hbx]; rfl
  have k4 : W.cell? ⟨w.heap.size, 4, none⟩ = some (.int .u64 (u : Int)) := by unfold World.cell?; rw [hbx]; rfl
  have k5 : W.cell? ⟨w.heap.size, 5, none⟩ = some (.int .u64 (v : Int)) := by unfold World.cell?; rw [hbx]; rfl
  have k6 : W.cell? ⟨w.heap.size, 6, none⟩ = some (.int .i64 n) := by unfold World.cell?; rw [hbx]; rfl
  have k7 : W.cell? ⟨w.heap.size, 7, none⟩ = some (.string kb) := by unfold World.cell?; rw [hbx]; rfl
  have k8 : W.cell? ⟨w.heap.size, 8, none⟩ = some (.string eb) := by unfold World.cell?; rw [hbx]; rfl
  clear hbx
  go_wp2
  go_ret
  rw [HR.out]
  exact ⟨rfl, hBW⟩
set_option maxHeartbeats 4000000 in
set_option maxRecDepth 100000 in
theorem line_2 (w : World) (hb : Base3 w) (op h n : Int) (u v : Nat) (key elem : List UInt8) (fields hs : List Int) (af ah : Option Addr) (cf ch gf gh of' oh : Nat)
    (fit : Cm.Fits ⟨op, h, fields, hs, u, v, n, key, elem⟩) (sf : SW w 1 af fields.length cf gf of' (iv fields)) (sh : SW w 1 ah hs.length ch gh oh (iv hs)) :
    Calls Tryd.prog 37 #[.agg #[.int .i64 2, .int .i64 h, .slice af fields.length cf, .slice ah hs.length ch, .int .u64 (u : Int), .int .u64 (v : Int), .int .i64 n, .string (B key), .string (B elem)]] w (fun e w' => e = .returned (.string (B (numL h ++ bytL key))) ∧ Below w.heap.size w w') := by
  obtain ⟨R, hR⟩ : ∃ R, B (numL h ++ bytL key) = R := ⟨_, rfl⟩
  rw [hR]
  obtain ⟨rh, hrh⟩ : ∃ r, showN h = r := ⟨_, rfl⟩
  obtain ⟨srh, crh⟩ := show_num hb.base h fit.h rh hrh
  obtain ⟨rkey, hrkey⟩ : ∃ r, showB (B key) = r := ⟨_, rfl⟩
  obtain ⟨srkey, crkey⟩ := show_byt (w := w) (B key) (by rw [B_size]; exact fit.key) rkey hrkey
  have HR : Aside0 (R = rh ++ rkey ++ ⟨#[]⟩) := ⟨by
    rw [← hR]
    rw [app_nil, ← hrh, ← hrkey, showB_L]; exact (B_add _ _).symm⟩
  clear hR fit
  generalize fields.length = nf at *
  generalize hs.length = nh at *
  generalize B key = kb at *
  generalize B elem = eb at *
  go_enter Tryd.func37, Tryd.ntmps37
  go_upto_region 2 with fail
  have hbx := heap_alloc_new w (.cells #[.int .i64 2, .int .i64 h, .slice af nf cf, .slice ah nh ch, .int .u64 (u : Int), .int .u64 (v : Int), .int .i64 n, .string kb, .string eb] 37)
  have hBW : Below w.heap.size w (w.alloc (.cells #[.int .i64 2, .int .i64 h, .slice af nf cf, .slice ah nh ch, .int .u64 (u : Int), .int .u64 (v : Int), .int .i64 n, .string kb, .string eb] 37)) := (Below.refl _ w).alloc (Nat.le_refl _) _
  generalize w.alloc (.cells #[.int .i64 2, .int .i64 h, .slice af nf cf, .slice ah nh ch, .int .u64 (u : Int), .int .u64 (v : Int), .int .i64 n, .string kb, .string eb] 37) = W at hbx hBW ⊢
  have k0 : W.cell? ⟨w.heap.size, 0, none⟩ = some (.int .i64 2) := by unfold World.cell?; rw [hbx]; rfl
  have k1 : W.cell? ⟨w.heap.size, 1, none⟩ = some (.int .i64 h) := by unfold World.cell?; rw [hbx]; rfl
  have k2 : W.cell? ⟨w.heap.size, 2, none⟩ = some (.slice af nf cf) := by unfold World.cell?; rw [hbx]; rfl
  have k3 : W.cell? ⟨w.heap.size, 3, none⟩ = some (.slice ah nh ch) := by unfold World.cell?; rw [hbx]; rfl
  have k4 : W.cell? ⟨w.heap.size, 4, none⟩ = some (.int .u64 (u : Int)) := by unfold World.cell?; rw [hbx]; rfl
  have k5 : W.cell? ⟨w.heap.size, 5, none⟩ = some (.int .u64 (v : Int)) := by unfold World.cell?; rw [hbx]; rfl
  have k6 : W.cell? ⟨w.heap.size, 6, none⟩ = some (.int .i64 n) := by unfold World.cell?; rw [hbx]; rfl
  have k7 : W.cell? ⟨w.heap.size, 7, none⟩ = some (.string kb) := by unfold World.cell?; rw [hbx]; rfl
  have k8 : W.cell? ⟨w.heap.size, 8, none⟩ = some (.string eb) := by unfold World.cell?; rw [hbx]; rfl
  clear hbx
  have hsum : ∀ W, (Op.stringOp .add rh rkey).run Tryd.prog W = .ok (.string (rh ++ rkey)) W := fun W => run_string_add_sum (w := W) _ _ (by omega)
  have hsum2 : ∀ W, (Op.stringOp .add (rh ++ rkey) ⟨#[]⟩).run Tryd.prog W = .ok (.string (rh ++ rkey ++ ⟨#[]⟩)) W := fun W => run_string_add_sum (w := W) _ _ (by rw [ByteArray.size_append]; have : (⟨#[]⟩ : ByteArray).size = 0 := rfl; omega)
  have hz0 : Below W.heap.size W W := Below.refl _ _
  have hz1 : Below W.heap.size W W.drew := (Below.refl _ _).drew
  have qa := fun wq (h : Below W.heap.size W wq) => crh wq (below_next hBW h)
  have qb := fun wq (h : Below W.heap.size W wq) => crkey wq (below_next hBW h)
  go_wp2_with fail
  go_region_held3 (fun w' => Below W.heap.size W w' ∧ w'.cell? ⟨w.heap.size, 1, none⟩ = some (.int .i64 h) ∧ w'.cell? ⟨w.heap.size, 7, none⟩ = some (.string kb))
    (first | with_reducible exact keep2 k1 k7 (by with_reducible assumption))
    (first
    | (go_at_call 29; (with_reducible refine (qa _ (by with_reducible assumption)).mono ?_); rintro e wa ⟨rfl, ba⟩; have ha := below_next (by with_reducible assumption) ba)
    | (go_at_call 30; (with_reducible refine (qb _ (by with_reducible assumption)).mono ?_); rintro e wb ⟨rfl, bb⟩; have hbb := below_next (by with_reducible assumption) bb))
  all_goals go_wp2
  all_goals go_ret
  all_goals exact ⟨by first | (rw [HR.out]; done) | (rw [HR.out]; rfl), below_next hBW (by with_reducible assumption)⟩
set_option maxHeartbeats 4000000 in
set_option maxRecDepth 100000 in
theorem line_4 (w : World) (hb : Base3 w) (op h n : Int) (u v : Nat) (key elem : List UInt8) (fields hs : List Int) (af ah : Option Addr) (cf ch gf gh of' oh : Nat)
    (fit : Cm.Fits ⟨op, h, fields, hs, u, v, n, key, elem⟩) (sf : SW w 1 af fields.length cf gf of' (iv fields)) (sh : SW w 1 ah hs.length ch gh oh (iv hs)) :
    Calls Tryd.prog 37 #[.agg #[.int .i64 4, .int .i64 h, .slice af fields.length cf, .slice ah hs.length ch, .int .u64 (u : Int), .int .u64 (v : Int), .int .i64 n, .string (B key), .string (B elem)]] w (fun e w' => e = .returned (.string (B (numL h ++ bytL key))) ∧ Below w.heap.size w w') := by
  obtain ⟨R, hR⟩ : ∃ R, B (numL h ++ bytL key) = R := ⟨_, rfl⟩
  rw [hR]
  obtain ⟨rh, hrh⟩ : ∃ r, showN h = r := ⟨_, rfl⟩
  obtain ⟨srh, crh⟩ := show_num hb.base h fit.h rh hrh
  obtain ⟨rkey, hrkey⟩ : ∃ r, showB (B key) = r := ⟨_, rfl⟩
  obtain ⟨srkey, crkey⟩ := show_byt (w := w) (B key) (by rw [B_size]; exact fit.key) rkey hrkey
  have HR : Aside0 (R = rh ++ rkey ++ ⟨#[]⟩) := ⟨by
    rw [← hR]
    rw [app_nil, ← hrh, ← hrkey, showB_L]; exact (B_add _ _).symm⟩
  clear hR fit
  generalize fields.length = nf at *
  generalize hs.length = nh at *
  generalize B key = kb at *
  generalize B elem = eb at *
  go_enter Tryd.func37, Tryd.ntmps37
  go_upto_region 2 with fail
  have hbx := heap_alloc_new w (.cells #[.int .i64 4, .int .i64 h, .slice af nf cf, .slice ah nh ch, .int .u64 (u : Int), .int .u64 (v : Int), .int .i64 n, .string kb, .string eb] 37)
  have hBW : Below w.heap.size w (w.alloc (.cells #[.int .i64 4, .int .i64 h, .slice af nf cf, .slice ah nh ch, .int .u64 (u : Int), .int .u64 (v : Int), .int .i64 n, .string kb, .string eb] 37)) := (Below.refl _ w).alloc (Nat.le_refl _) _
  generalize w.alloc (.cells #[.int .i64 4, .int .i64 h, .slice af nf cf, .slice ah nh ch, .int .u64 (u : Int), .int .u64 (v : Int), .int .i64 n, .string kb, .string eb] 37) = W at hbx hBW ⊢
  have k0 : W.cell? ⟨w.heap.size, 0, none⟩ = some (.int .i64 4) := by unfold World.cell?; rw [hbx]; rfl
  have k1 : W.cell? ⟨w.heap.size, 1, none⟩ = some (.int .i64 h) := by unfold World.cell?; rw [hbx]; rfl
  have k2 : W.cell? ⟨w.heap.size, 2, none⟩ = some (.slice af nf cf) := by unfold World.cell?; rw [hbx]; rfl
  have k3 : W.cell? ⟨w.heap.size, 3, none⟩ = some (.slice ah nh ch) := by unfold World.cell?; rw [hbx]; rfl
  have k4 : W.cell? ⟨w.heap.size, 4, none⟩ = some (.int .u64 (u : Int)) := by unfold World.cell?; rw [hbx]; rfl
  have k5 : W.cell? ⟨w.heap.size, 5, none⟩ = some (.int .u64 (v : Int)) := by unfold World.cell?; rw [hbx]; rfl
  have k6 : W.cell? ⟨w.heap.size, 6, none⟩ = some (.int .i64 n) := by unfold World.cell?; rw [hbx]; rfl
  have k7 : W.cell? ⟨w.heap.size, 7, none⟩ = some (.string kb) := by unfold World.cell?; rw [hbx]; rfl
  have k8 : W.cell? ⟨w.heap.size, 8, none⟩ = some (.string eb) := by unfold World.cell?; rw [hbx]; rfl
  clear hbx
  have hsum : ∀ W, (Op.stringOp .add rh rkey).run Tryd.prog W = .ok (.string (rh ++ rkey)) W := fun W => run_string_add_sum (w := W) _ _ (by omega)
  have hsum2 : ∀ W, (Op.stringOp .add (rh ++ rkey) ⟨#[]⟩).run Tryd.prog W = .ok (.string (rh ++ rkey ++ ⟨#[]⟩)) W := fun W => run_string_add_sum (w := W) _ _ (by rw [ByteArray.size_append]; have : (⟨#[]⟩ : ByteArray).size = 0 := rfl; omega)
  have hz0 : Below W.heap.size W W := Below.refl _ _
  have hz1 : Below W.heap.size W W.drew := (Below.refl _ _).drew
  have qa := fun wq (h : Below W.heap.size W wq) => crh wq (below_next hBW h)
  have qb := fun wq (h : Below W.heap.size W wq) => crkey wq (below_next hBW h)
  go_wp2_with fail
  go_region_held3 (fun w' => Below W.heap.size W w' ∧ w'.cell? ⟨w.heap.size, 1, none⟩ = some (.int .i64 h) ∧ w'.cell? ⟨w.heap.size, 7, none⟩ = some (.string kb))
    (first | with_reducible exact keep2 k1 k7 (by with_reducible assumption))
    (first
    | (go_at_call 29; (with_reducible refine (qa _ (by with_reducible assumption)).mono ?_); rintro e wa ⟨rfl, ba⟩; have ha := below_next (by with_reducible assumption) ba)
    | (go_at_call 30; (with_reducible refine (qb _ (by with_reducible assumption)).mono ?_); rintro e wb ⟨rfl, bb⟩; have hbb := below_next (by with_reducible assumption) bb))
  all_goals go_wp2
  all_goals go_ret
  all_goals exact ⟨by first | (rw [HR.out]; done) | (rw [HR.out]; rfl), below_next hBW (by with_reducible assumption)⟩
set_option maxHeartbeats 4000000 in
set_option maxRecDepth 100000 in
theorem line_12 (w : World) (hb : Base3 w) (op h n : Int) (u v : Nat) (key elem : List UInt8) (fields hs : List Int) (af ah : Option Addr) (cf ch gf gh of' oh : Nat)
    (fit : Cm.Fits ⟨op, h, fields, hs, u, v, n, key, elem⟩) (sf : SW w 1 af fields.length cf gf of' (iv fields)) (sh : SW w 1 ah hs.length ch gh oh (iv hs)) :
    Calls Tryd.prog 37 #[.agg #[.int .i64 12, .int .i64 h, .slice af fields.length cf, .slice ah hs.length ch, .int .u64 (u : Int), .int .u64 (v : Int), .int .i64 n, .string (B key), .string (B elem)]] w (fun e w' => e = .returned (.string (B (numL h ++ bytL key))) ∧ Below w.heap.size w w') := by
  obtain ⟨R, hR⟩ : ∃ R, B (numL h ++ bytL key) = R := ⟨_, rfl⟩
  rw [hR]
  obtain ⟨rh, hrh⟩ : ∃ r, showN h = r := ⟨_, rfl⟩
  obtain ⟨srh, crh⟩ := show_num hb.base h fit.h rh hrh
  obtain ⟨rkey, hrkey⟩ : ∃ r, showB (B key) = r := ⟨_, rfl⟩
  obtain ⟨srkey, crkey⟩ := show_byt (w := w) (B key) (by rw [B_size]; exact fit.key) rkey hrkey
  have HR : Aside0 (R = rh ++ rkey ++ ⟨#[]⟩) := ⟨by
    rw [← hR]
    rw [app_nil, ← hrh, ← hrkey, showB_L]; exact (B_add _ _).symm⟩
  clear hR fit
  generalize fields.length = nf at *
  generalize hs.length = nh at *
  generalize B key = kb at *
  generalize B elem = eb at *
  go_enter Tryd.func37, Tryd.ntmps37
  go_upto_region 2 with fail
  have hbx := heap_alloc_new w (.cells #[.int .i64 12, .int .i64 h, .slice af nf cf, .slice ah nh ch, .int .u64 (u : Int), .int .u64 (v : Int), .int .i64 n, .string kb, .string eb] 37)
  have hBW : Below w.heap.size w (w.alloc (.cells #[.int .i64 12, .int .i64 h, .slice af nf cf, .slice ah nh ch, .int .u64 (u : Int), .int .u64 (v : Int), .int .i64 n, .string kb, .string eb] 37)) := (Below.refl _ w).alloc (Nat.le_refl _) _
  generalize w.alloc (.cells #[.int .i64 12, .int .i64 h, .slice af nf cf, .slice ah nh ch, .int .u64 (u : Int), .int .u64 (v : Int), .int .i64 n, .string kb, .string eb] 37) = W at hbx hBW ⊢
  have k0 : W.cell? ⟨w.heap.size, 0, none⟩ = some (.int .i64 12) := by unfold World.cell?; rw [hbx]; rfl
  have k1 : W.cell? ⟨w.heap.size, 1, none⟩ = some (.int .i64 h) := by unfold World.cell?; rw [hbx]; rfl
  have k2 : W.cell? ⟨w.heap.size, 2, none⟩ = some (.slice af nf cf) := by unfold World.cell?; rw [hbx]; rfl
  have k3 : W.cell? ⟨w.heap.size, 3, none⟩ = some (.slice ah nh ch) := by unfold World.cell?; rw [hbx]; rfl
  have k4 : W.cell? ⟨w.heap.size, 4, none⟩ = some (.int .u64 (u : Int)) := by unfold World.cell?; rw [hbx]; rfl
  have k5 : W.cell? ⟨w.heap.size, 5, none⟩ = some (.int .u64 (v : Int)) := by unfold World.cell?; rw [hbx]; rfl
  have k6 : W.cell? ⟨w.heap.size, 6, none⟩ = some (.int .i64 n) := by unfold World.cell?; rw [hbx]; rfl
  have k7 : W.cell? ⟨w.heap.size, 7, none⟩ = some (.string kb) := by unfold World.cell?; rw [hbx]; rfl
  have k8 : W.cell? ⟨w.heap.size, 8, none⟩ = some (.string eb) := by unfold World.cell?; rw [hbx]; rfl
  clear hbx
  have hsum : ∀ W, (Op.stringOp .add rh rkey).run Tryd.prog W = .ok (.string (rh ++ rkey)) W := fun W => run_string_add_sum (w := W) _ _ (by omega)
  have hsum2 : ∀ W, (Op.stringOp .add (rh ++ rkey) ⟨#[]⟩).run Tryd.prog W = .ok (.string (rh ++ rkey ++ ⟨#[]⟩)) W := fun W => run_string_add_sum (w := W) _ _ (by rw [ByteArray.size_append]; have : (⟨#[]⟩ : ByteArray).size = 0 := rfl; omega)
  have hz0 : Below W.heap.size W W := Below.refl _ _
  have hz1 : Below W.heap.size W W.drew := (Below.refl _ _).drew
  have qa := fun wq (h : Below W.heap.size W wq) => crh wq (below_next hBW h)
  have qb := fun wq (h : Below W.heap.size W wq) => crkey wq (below_next hBW h)
  go_wp2_with fail
  go_region_held3 (fun w' => Below W.heap.size W w' ∧ w'.cell? ⟨w.heap.size, 1, none⟩ = some (.int .i64 h) ∧ w'.cell? ⟨w.heap.size, 7, none⟩ = some (.string kb))
    (first | with_reducible exact keep2 k1 k7 (by with_reducible assumption))
    (first
    | (go_at_call 29; (with_reducible refine (qa _ (by with_reducible assumption)).mono ?_); rintro e wa ⟨rfl, ba⟩; have ha := below_next (by with_reducible assumption) ba)
    | (go_at_call 30; (with_reducible refine (qb _ (by with_reducible assumption)).mono ?_); rintro e wb ⟨rfl, bb⟩; have hbb := below_next (by with_reducible assumption) bb))
  all_goals go_wp2
  all_goals go_ret
  all_goals exact ⟨by first | (rw [HR.out]; done) | (rw [HR.out]; rfl), below_next hBW (by with_reducible assumption)⟩
set_option maxHeartbeats 4000000 in
set_option maxRecDepth 100000 in
theorem line_6 (w : World) (hb : Base3 w) (op h n : Int) (u v : Nat) (key elem : List UInt8) (fields hs : List Int) (af ah : Option Addr) (cf ch gf gh of' oh : Nat)
    (fit : Cm.Fits ⟨op, h, fields, hs, u, v, n, key, elem⟩) (sf : SW w 1 af fields.length cf gf of' (iv fields)) (sh : SW w 1 ah hs.length ch gh oh (iv hs)) :
    Calls Tryd.prog 37 #[.agg #[.int .i64 6, .int .i64 h, .slice af fields.length cf, .slice ah hs.length ch, .int .u64 (u : Int), .int .u64 (v : Int), .int .i64 n, .string (B key), .string (B elem)]] w (fun e w' => e = .returned (.string (B (numL h ++ wrdL u))) ∧ Below w.heap.size w w') := by
  obtain ⟨R, hR⟩ : ∃ R, B (numL h ++ wrdL u) = R := ⟨_, rfl⟩
  rw [hR]
  obtain ⟨rh, hrh⟩ : ∃ r, showN h = r := ⟨_, rfl⟩
  obtain ⟨srh, crh⟩ := show_num hb.base h fit.h rh hrh
  obtain ⟨ru, hru⟩ : ∃ r, showW u = r := ⟨_, rfl⟩
  obtain ⟨sru, cru⟩ := show_word hb u fit.u ru hru
  have HR : Aside0 (R = rh ++ ru ++ ⟨#[]⟩) := ⟨by
    rw [← hR]
    rw [app_nil, ← hrh, ← hru]; exact (B_add _ _).symm⟩
  clear hR fit
  generalize fields.length = nf at *
  generalize hs.length = nh at *
  generalize B key = kb at *
  generalize B elem = eb at *
  go_enter Tryd.func37, Tryd.ntmps37
  go_upto_region 2 with fail
  have hbx := heap_alloc_new w (.cells #[.int .i64 6, .int .i64 h, .slice af nf cf, .slice ah nh ch, .int .u64 (u : Int), .int .u64 (v : Int), .int .i64 n, .string kb, .string eb] 37)
  have hBW : Below w.heap.size w (w.alloc (.cells #[.int .i64 6, .int .i64 h, .slice af nf cf, .slice ah nh ch, .int .u64 (u : Int), .int .u64 (v : Int), .int .i64 n, .string kb, .string eb] 37)) := (Below.refl _ w).alloc (Nat.le_refl _) _
  generalize w.alloc (.cells #[.int .i64 6, .int .i64 h, .slice af nf cf, .slice ah nh ch, .int .u64 (u : Int), .int .u64 (v : Int), .int .i64 n, .string kb, .string eb] 37) = W at hbx hBW ⊢
  have k0 : W.cell? ⟨w.heap.size, 0, none⟩ = some (.int .i64 6) := by unfold World.cell?; rw [hbx]; rfl
  have k1 : W.cell? ⟨w.heap.size, 1, none⟩ = some (.int .i64 h) := by unfold World.cell?; rw [hbx]; rfl
  have k2 : W.cell? ⟨w.heap.size, 2, none⟩ = some (.slice af nf cf) := by unfold World.cell?; rw [hbx]; rfl
  have k3 : W.cell? ⟨w.heap.size, 3, none⟩ = some (.slice ah nh ch) := by unfold World.cell?; rw [hbx]; rfl
  have k4 : W.cell? ⟨w.heap.size, 4, none⟩ = some (.int .u64 (u : Int)) := by unfold World.cell?; rw [hbx]; rfl
  have k5 : W.cell? ⟨w.heap.size, 5, none⟩ = some (.int .u64 (v : Int)) := by unfold World.cell?; rw [hbx]; rfl
  have k6 : W.cell? ⟨w.heap.size, 6, none⟩ = some (.int .i64 n) := by unfold World.cell?; rw [hbx]; rfl
  have k7 : W.cell? ⟨w.heap.size, 7, none⟩ = some (.string kb) := by unfold World.cell?; rw [hbx]; rfl
  have k8 : W.cell? ⟨w.heap.size, 8, none⟩ = some (.string eb) := by unfold World.cell?; rw [hbx]; rfl
  clear hbx
  have hsum : ∀ W, (Op.stringOp .add rh ru).run Tryd.prog W = .ok (.string (rh ++ ru)) W := fun W => run_string_add_sum (w := W) _ _ (by omega)
  have hsum2 : ∀ W, (Op.stringOp .add (rh ++ ru) ⟨#[]⟩).run Tryd.prog W = .ok (.string (rh ++ ru ++ ⟨#[]⟩)) W := fun W => run_string_add_sum (w := W) _ _ (by rw [ByteArray.size_append]; have : (⟨#[]⟩ : ByteArray).size = 0 := rfl; omega)
  have hz0 : Below W.heap.size W W := Below.refl _ _
  have hz1 : Below W.heap.size W W.drew := (Below.refl _ _).drew
  have qa := fun wq (h : Below W.heap.size W wq) => crh wq (below_next hBW h)
  have qb := fun wq (h : Below W.heap.size W wq) => cru wq (below_next hBW h)
  go_wp2_with fail
  go_region_held3 (fun w' => Below W.heap.size W w' ∧ w'.cell? ⟨w.heap.size, 1, none⟩ = some (.int .i64 h) ∧ w'.cell? ⟨w.heap.size, 4, none⟩ = some (.int .u64 (u : Int)))
    (first | with_reducible exact keep2 k1 k4 (by with_reducible assumption))
    (first
    | (go_at_call 29; (with_reducible refine (qa _ (by with_reducible assumption)).mono ?_); rintro e wa ⟨rfl, ba⟩; have ha := below_next (by with_reducible assumption) ba)
    | (go_at_call 36; (with_reducible refine (qb _ (by with_reducible assumption)).mono ?_); rintro e wb ⟨rfl, bb⟩; have hbb := below_next (by with_reducible assumption) bb))
  all_goals go_wp2
  all_goals go_ret
  all_goals exact ⟨by first | (rw [HR.out]; done) | (rw [HR.out]; rfl), below_next hBW (by with_reducible assumption)⟩
set_option maxHeartbeats 4000000 in
set_option maxRecDepth 100000 in
theorem line_3 (w : World) (hb : Base3 w) (op h n : Int) (u v : Nat) (key elem : List UInt8) (fields hs : List Int) (af ah : Option Addr) (cf ch gf gh of' oh : Nat)
    (fit : Cm.Fits ⟨op, h, fields, hs, u, v, n, key, elem⟩) (sf : SW w 1 af fields.length cf gf of' (iv fields)) (sh : SW w 1 ah hs.length ch gh oh (iv hs)) :
    Calls Tryd.prog 37 #[.agg #[.int .i64 3, .int .i64 h, .slice af fields.length cf, .slice ah hs.length ch, .int .u64 (u : Int), .int .u64 (v : Int), .int .i64 n, .string (B key), .string (B elem)]] w (fun e w' => e = .returned (.string (B (numL h ++ bytL key ++ bytL elem))) ∧ Below w.heap.size w w') := by
  obtain ⟨R, hR⟩ : ∃ R, B (numL h ++ bytL key ++ bytL elem) = R := ⟨_, rfl⟩
  rw [hR]
  obtain ⟨rh, hrh⟩ : ∃ r, showN h = r := ⟨_, rfl⟩
  obtain ⟨srh, crh⟩ := show_num hb.base h fit.h rh hrh
  obtain ⟨rkey, hrkey⟩ : ∃ r, showB (B key) = r := ⟨_, rfl⟩
  obtain ⟨srkey, crkey⟩ := show_byt (w := w) (B key) (by rw [B_size]; exact fit.key) rkey hrkey
  obtain ⟨relem, hrelem⟩ : ∃ r, showB (B elem) = r := ⟨_, rfl⟩
  obtain ⟨srelem, crelem⟩ := show_byt (w := w) (B elem) (by rw [B_size]; exact fit.elem) relem hrelem
  have HR : Aside0 (R = rh ++ rkey ++ relem) := ⟨by
    rw [← hR]
    rw [← hrh, ← hrkey, ← hrelem, showB_L, showB_L, ← B_add, ← B_add]; rfl⟩
  clear hR fit
  generalize fields.length = nf at *
  generalize hs.length = nh at *
  generalize B key = kb at *
  generalize B elem = eb at *
  go_enter Tryd.func37, Tryd.ntmps37
  go_upto_region 2 with fail
  have hbx := heap_alloc_new w (.cells #[.int .i64 3, .int .i64 h, .slice af nf cf, .slice ah nh ch, .int .u64 (u : Int), .int .u64 (v : Int), .int .i64 n, .string kb, .string eb] 37)
  have hBW : Below w.heap.size w (w.alloc (.cells #[.int .i64 3, .int .i64 h, .slice af nf cf, .slice ah nh ch, .int .u64 (u : Int), .int .u64 (v : Int), .int .i64 n, .string kb, .string eb] 37)) := (Below.refl _ w).alloc (Nat.le_refl _) _
  generalize w.alloc (.cells #[.int .i64 3, .int .i64 h, .slice af nf cf, .slice ah nh ch, .int .u64 (u : Int), .int .u64 (v : Int), .int .i64 n, .string kb, .string eb] 37) = W at hbx hBW ⊢
  have k0 : W.cell? ⟨w.heap.size, 0, none⟩ = some (.int .i64 3) := by unfold World.cell?; rw [hbx]; rfl
  have k1 : W.cell? ⟨w.heap.size, 1, none⟩ = some (.int .i64 h) := by unfold World.cell?; rw [hbx]; rfl
  have k2 : W.cell? ⟨w.heap.size, 2, none⟩ = some (.slice af nf cf) := by unfold World.cell?; rw [hbx]; rfl
  have k3 : W.cell? ⟨w.heap.size, 3, none⟩ = some (.slice ah nh ch) := by unfold World.cell?; rw [hbx]; rfl
  have k4 : W.cell? ⟨w.heap.size, 4, none⟩ = some (.int .u64 (u : Int)) := by unfold World.cell?; rw [hbx]; rfl
  have k5 : W.cell? ⟨w.heap.size, 5, none⟩ = some (.int .u64 (v : Int)) := by unfold World.cell?; rw [hbx]; rfl
  have k6 : W.cell? ⟨w.heap.size, 6, none⟩ = some (.int .i64 n) := by unfold World.cell?; rw [hbx]; rfl
  have k7 : W.cell? ⟨w.heap.size, 7, none⟩ = some (.string kb) := by unfold World.cell?; rw [hbx]; rfl
  have k8 : W.cell? ⟨w.heap.size, 8, none⟩ = some (.string eb) := by unfold World.cell?; rw [hbx]; rfl
  clear hbx
  go_upto_region 16 with (go_at_call 30; (with_reducible refine (crelem _ hBW).mono ?_); rintro e W2 ⟨rfl, b1⟩)
  have hBW2 := below_next hBW b1
  have hlm : w.heap.size < W.heap.size := World.block_lt_of_cell? W _ k0
  have k1' := (b1.cell (p := ⟨w.heap.size, 1, none⟩) hlm).trans k1
  have k7' := (b1.cell (p := ⟨w.heap.size, 7, none⟩) hlm).trans k7
  have hsum : ∀ W, (Op.stringOp .add rh rkey).run Tryd.prog W = .ok (.string (rh ++ rkey)) W := fun W => run_string_add_sum (w := W) _ _ (by omega)
  have hsum2 : ∀ W, (Op.stringOp .add (rh ++ rkey) relem).run Tryd.prog W = .ok (.string (rh ++ rkey ++ relem)) W := fun W => run_string_add_sum (w := W) _ _ (by rw [ByteArray.size_append]; have : (⟨#[]⟩ : ByteArray).size = 0 := rfl; omega)
  have hz0 : Below W2.heap.size W2 W2 := Below.refl _ _
  have hz1 : Below W2.heap.size W2 W2.drew := (Below.refl _ _).drew
  have qa := fun wq (h : Below W2.heap.size W2 wq) => crh wq (below_next hBW2 h)
  have qb := fun wq (h : Below W2.heap.size W2 wq) => crkey wq (below_next hBW2 h)
  go_wp2_with fail
  go_region_held3 (fun w' => Below W2.heap.size W2 w' ∧ w'.cell? ⟨w.heap.size, 1, none⟩ = some (.int .i64 h) ∧ w'.cell? ⟨w.heap.size, 7, none⟩ = some (.string kb))
    (first | with_reducible exact keep2 k1' k7' (by with_reducible assumption))
    (first
    | (go_at_call 29; (with_reducible refine (qa _ (by with_reducible assumption)).mono ?_); rintro e wa ⟨rfl, ba⟩; have ha := below_next (by with_reducible assumption) ba)
    | (go_at_call 30; (with_reducible refine (qb _ (by with_reducible assumption)).mono ?_); rintro e wb ⟨rfl, bb⟩; have hbb := below_next (by with_reducible assumption) bb))
  all_goals go_wp2
  all_goals go_ret
  all_goals exact ⟨by first | (rw [HR.out]; done) | (rw [HR.out]; rfl), below_next hBW2 (by with_reducible assumption)⟩
set_option maxHeartbeats 4000000 in
set_option maxRecDepth 100000 in
theorem line_8 (w : World) (hb : Base3 w) (op h n : Int) (u v : Nat) (key elem : List UInt8) (fields hs : List Int) (af ah : Option Addr) (cf ch gf gh of' oh : Nat)
    (fit : Cm.Fits ⟨op, h, fields, hs, u, v, n, key, elem⟩) (sf : SW w 1 af fields.length cf gf of' (iv fields)) (sh : SW w 1 ah hs.length ch gh oh (iv hs)) :
    Calls Tryd.prog 37 #[.agg #[.int .i64 8, .int .i64 h, .slice af fields.length cf, .slice ah hs.length ch, .int .u64 (u : Int), .int .u64 (v : Int), .int .i64 n, .string (B key), .string (B elem)]] w (fun e w' => e = .returned (.string (B (numL h ++ wrdL u ++ wrdL v))) ∧ Below w.heap.size w w') := by
  obtain ⟨R, hR⟩ : ∃ R, B (numL h ++ wrdL u ++ wrdL v) = R := ⟨_, rfl⟩
  rw [hR]
  obtain ⟨rh, hrh⟩ : ∃ r, showN h = r := ⟨_, rfl⟩
  obtain ⟨srh, crh⟩ := show_num hb.base h fit.h rh hrh
  obtain ⟨ru, hru⟩ : ∃ r, showW u = r := ⟨_, rfl⟩
  obtain ⟨sru, cru⟩ := show_word hb u fit.u ru hru
  obtain ⟨rv, hrv⟩ : ∃ r, showW v = r := ⟨_, rfl⟩
  obtain ⟨srv, crv⟩ := show_word hb v fit.v rv hrv
  have HR : Aside0 (R = rh ++ ru ++ rv) := ⟨by
    rw [← hR]
    rw [← hrh, ← hru, ← hrv, ← B_add, ← B_add]; rfl⟩
  clear hR fit
  generalize fields.length = nf at *
  generalize hs.length = nh at *
  generalize B key = kb at *
  generalize B elem = eb at *
  go_enter Tryd.func37, Tryd.ntmps37
  go_upto_region 2 with fail
  have hbx := heap_alloc_new w (.cells #[.int .i64 8, .int .i64 h, .slice af nf cf, .slice ah nh ch, .int .u64 (u : Int), .int .u64 (v : Int), .int .i64 n, .string kb, .string eb] 37)
  have hBW : Below w.heap.size w (w.alloc (.cells #[.int .i64 8, .int .i64 h, .slice af nf cf, .slice ah nh ch, .int .u64 (u : Int), .int .u64 (v : Int), .int .i64 n, .string kb, .string eb] 37)) := (Below.refl _ w).alloc (Nat.le_refl _) _
  generalize w.alloc (.cells #[.int .i64 8, .int .i64 h, .slice af nf cf, .slice ah nh ch, .int .u64 (u : Int), .int .u64 (v : Int), .int .i64 n, .string kb, .string eb] 37) = W at hbx hBW ⊢
  have k0 : W.cell? ⟨w.heap.size, 0, none⟩ = some (.int .i64 8) := by unfold World.cell?; rw [hbx]; rfl
  have k1 : W.cell? ⟨w.heap.size, 1, none⟩ = some (.int .i64 h) := by unfold World.cell?; rw [hbx]; rfl
  have k2 : W.cell? ⟨w.heap.size, 2, none⟩ = some (.slice af nf cf) := by unfold World.cell?; rw [hbx]; rfl
  have k3 : W.cell? ⟨w.heap.size, 3, none⟩ = some (.slice ah nh ch) := by unfold World.cell?; rw [hbx]; rfl
  have k4 : W.cell? ⟨w.heap.size, 4, none⟩ = some (.int .u64 (u : Int)) := by unfold World.cell?; rw [hbx]; rfl
  have k5 : W.cell? ⟨w.heap.size, 5, none⟩ = some (.int .u64 (v : Int)) := by unfold World.cell?; rw [hbx]; rfl
  have k6 : W.cell? ⟨w.heap.size, 6, none⟩ = some (.int .i64 n) := by unfold World.cell?; rw [hbx]; rfl
  have k7 : W.cell? ⟨w.heap.size, 7, none⟩ = some (.string kb) := by unfold World.cell?; rw [hbx]; rfl
  have k8 : W.cell? ⟨w.heap.size, 8, none⟩ = some (.string eb) := by unfold World.cell?; rw [hbx]; rfl
  clear hbx
  go_upto_region 18 with (go_at_call 36; (with_reducible refine (crv _ hBW).mono ?_); rintro e W2 ⟨rfl, b1⟩)
  have hBW2 := below_next hBW b1
  have hlm : w.heap.size < W.heap.size := World.block_lt_of_cell? W _ k0
  have k1' := (b1.cell (p := ⟨w.heap.size, 1, none⟩) hlm).trans k1
  have k4' := (b1.cell (p := ⟨w.heap.size, 4, none⟩) hlm).trans k4
  have hsum : ∀ W, (Op.stringOp .add rh ru).run Tryd.prog W = .ok (.string (rh ++ ru)) W := fun W => run_string_add_sum (w := W) _ _ (by omega)
  have hsum2 : ∀ W, (Op.stringOp .add (rh ++ ru) rv).run Tryd.prog W = .ok (.string (rh ++ ru ++ rv)) W := fun W => run_string_add_sum (w := W) _ _ (by rw [ByteArray.size_append]; have : (⟨#[]⟩ : ByteArray).size = 0 := rfl; omega)
  have hz0 : Below W2.heap.size W2 W2 := Below.refl _ _
  have hz1 : Below W2.heap.size W2 W2.drew := (Below.refl _ _).drew
  have qa := fun wq (h : Below W2.heap.size W2 wq) => crh wq (below_next hBW2 h)
  have qb := fun wq (h : Below W2.heap.size W2 wq) => cru wq (below_next hBW2 h)
  go_wp2_with fail
  go_region_held3 (fun w' => Below W2.heap.size W2 w' ∧ w'.cell? ⟨w.heap.size, 1, none⟩ = some (.int .i64 h) ∧ w'.cell? ⟨w.heap.size, 4, none⟩ = some (.int .u64 (u : Int)))
    (first | with_reducible exact keep2 k1' k4' (by with_reducible assumption))
    (first
    | (go_at_call 29; (with_reducible refine (qa _ (by with_reducible assumption)).mono ?_); rintro e wa ⟨rfl, ba⟩; have ha := below_next (by with_reducible assumption) ba)
    | (go_at_call 36; (with_reducible refine (qb _ (by with_reducible assumption)).mono ?_); rintro e wb ⟨rfl, bb⟩; have hbb := below_next (by with_reducible assumption) bb))
  all_goals go_wp2
  all_goals go_ret
  all_goals exact ⟨by first | (rw [HR.out]; done) | (rw [HR.out]; rfl), below_next hBW2 (by with_reducible assumption)⟩
set_option maxHeartbeats 4000000 in
set_option maxRecDepth 100000 in
theorem line_1 (w : World) (hb : Base3 w) (op h n : Int) (u v : Nat) (key elem : List UInt8) (fields hs : List Int) (af ah : Option Addr) (cf ch gf gh of' oh : Nat)
    (fit : Cm.Fits ⟨op, h, fields, hs, u, v, n, key, elem⟩) (sf : SW w 1 af fields.length cf gf of' (iv fields)) (sh : SW w 1 ah hs.length ch gh oh (iv hs)) :
    Calls Tryd.prog 37 #[.agg #[.int .i64 1, .int .i64 h, .slice af fields.length cf, .slice ah hs.length ch, .int .u64 (u : Int), .int .u64 (v : Int), .int .i64 n, .string (B key), .string (B elem)]] w (fun e w' => e = .returned (.string (B (wrdL u ++ numL n ++ numsL fields))) ∧ Below w.heap.size w w') := by
  obtain ⟨R, hR⟩ : ∃ R, B (wrdL u ++ numL n ++ numsL fields) = R := ⟨_, rfl⟩
  rw [hR]
  obtain ⟨rn, hrn⟩ : ∃ r, showN n = r := ⟨_, rfl⟩
  obtain ⟨srn, crn⟩ := show_num hb.base n fit.n rn hrn
  obtain ⟨ru, hru⟩ : ∃ r, showW u = r := ⟨_, rfl⟩
  obtain ⟨sru, cru⟩ := show_word hb u fit.u ru hru
  have crfields := fun wq (hq : Below w.heap.size w wq) => showNumbers_walk wq af cf gf of' fields (hb.base.below hq) (sf.below hq (Nat.le_refl _)).hd.1 (sf.below hq (Nat.le_refl _)).hd.2 fit.fi fit.fl
  obtain ⟨rfields, hrfields⟩ : ∃ r, B (numsL fields) = r := ⟨_, rfl⟩
  rw [hrfields] at crfields
  have srfields : rfields.size ≤ 202000000 := by rw [← hrfields, B_size]; have e1 : (numsL fields).length ≤ 101 * fields.length := numsL_len fit.fi; have e2 : fields.length ≤ 2000000 := fit.fl; omega
  have HR : Aside0 (R = ru ++ rn ++ rfields) := ⟨by
    rw [← hR]
    rw [← hrn, ← hru, ← hrfields, ← B_add, ← B_add]; rfl⟩
  clear hR fit
  generalize fields.length = nf at *
  generalize hs.length = nh at *
  generalize B key = kb at *
  generalize B elem = eb at *
  go_enter Tryd.func37, Tryd.ntmps37
  go_upto_region 2 with fail
  have hbx := heap_alloc_new w (.cells #[.int .i64 1, .int .i64 h, .slice af nf cf, .slice ah nh ch, .int .u64 (u : Int), .int .u64 (v : Int), .int .i64 n, .string kb, .string eb] 37)
  have hBW : Below w.heap.size w (w.alloc (.cells #[.int .i64 1, .int .i64 h, .slice af nf cf, .slice ah nh ch, .int .u64 (u : Int), .int .u64 (v : Int), .int .i64 n, .string kb, .string eb] 37)) := (Below.refl _ w).alloc (Nat.le_refl _) _
  generalize w.alloc (.cells #[.int .i64 1, .int .i64 h, .slice af nf cf, .slice ah nh ch, .int .u64 (u : Int), .int .u64 (v : Int), .int .i64 n, .string kb, .string eb] 37) = W at hbx hBW ⊢
  have k0 : W.cell? ⟨w.heap.size, 0, none⟩ = some (.int .i64 1) := by unfold World.cell?; rw [hbx]; rfl
  have k1 : W.cell? ⟨w.heap.size, 1, none⟩ = some (.int .i64 h) := by unfold World.cell?; rw [hbx]; rfl
  have k2 : W.cell? ⟨w.heap.size, 2, none⟩ = some (.slice af nf cf) := by unfold World.cell?; rw [hbx]; rfl
  have k3 : W.cell? ⟨w.heap.size, 3, none⟩ = some (.slice ah nh ch) := by unfold World.cell?; rw [hbx]; rfl
  have k4 : W.cell? ⟨w.heap.size, 4, none⟩ = some (.int .u64 (u : Int)) := by unfold World.cell?; rw [hbx]; rfl
  have k5 : W.cell? ⟨w.heap.size, 5, none⟩ = some (.int .u64 (v : Int)) := by unfold World.cell?; rw [hbx]; rfl
  have k6 : W.cell? ⟨w.heap.size, 6, none⟩ = some (.int .i64 n) := by unfold World.cell?; rw [hbx]; rfl
  have k7 : W.cell? ⟨w.heap.size, 7, none⟩ = some (.string kb) := by unfold World.cell?; rw [hbx]; rfl
  have k8 : W.cell? ⟨w.heap.size, 8, none⟩ = some (.string eb) := by unfold World.cell?; rw [hbx]; rfl
  clear hbx
  have hsum : ∀ W, (Op.stringOp .add ru rn).run Tryd.prog W = .ok (.string (ru ++ rn)) W := fun W => run_string_add_sum (w := W) _ _ (by omega)
  have hsum2 : ∀ W, (Op.stringOp .add (ru ++ rn) rfields).run Tryd.prog W = .ok (.string (ru ++ rn ++ rfields)) W := fun W => run_string_add_sum (w := W) _ _ (by rw [ByteArray.size_append]; omega)
  have hz0 : Below W.heap.size W W := Below.refl _ _
  have hz1 : Below W.heap.size W W.drew := (Below.refl _ _).drew
  have qa := fun wq (h : Below W.heap.size W wq) => cru wq (below_next hBW h)
  have qb := fun wq (h : Below W.heap.size W wq) => crn wq (below_next hBW h)
  have qc := fun wq (h : Below W.heap.size W wq) => crfields wq (below_next hBW h)
  have keep3 : ∀ {w'}, Below W.heap.size W w' → Below W.heap.size W w' ∧ w'.cell? ⟨w.heap.size, 4, none⟩ = some (.int .u64 (u : Int)) ∧ w'.cell? ⟨w.heap.size, 6, none⟩ = some (.int .i64 n) ∧ w'.cell? ⟨w.heap.size, 2, none⟩ = some (.slice af nf cf) := fun h => ⟨h, cell_below k4 h (Nat.le_refl _), cell_below k6 h (Nat.le_refl _), cell_below k2 h (Nat.le_refl _)⟩
  go_wp2_with fail
  go_region_held3 (fun w' => Below W.heap.size W w' ∧ w'.cell? ⟨w.heap.size, 4, none⟩ = some (.int .u64 (u : Int)) ∧ w'.cell? ⟨w.heap.size, 6, none⟩ = some (.int .i64 n) ∧ w'.cell? ⟨w.heap.size, 2, none⟩ = some (.slice af nf cf))
    (first | with_reducible exact keep3 (by with_reducible assumption))
    (first
    | (go_at_call 36; (with_reducible refine (qa _ (by with_reducible assumption)).mono ?_); rintro e wa ⟨rfl, ba⟩; have ha := below_next (by with_reducible assumption) ba)
    | (go_at_call 29; (with_reducible refine (qb _ (by with_reducible assumption)).mono ?_); rintro e wb ⟨rfl, bb⟩; have hbb := below_next (by with_reducible assumption) bb)
    | (go_at_call 60; (with_reducible refine (qc _ (by with_reducible assumption)).mono ?_); rintro e wd ⟨rfl, bd⟩; have hbd := below_next (by with_reducible assumption) bd))
  all_goals go_wp2
  all_goals go_ret
  all_goals exact ⟨by first | (rw [HR.out]; done) | (rw [HR.out]; rfl), below_next hBW (by with_reducible assumption)⟩
theorem line_walk (w : World) (hb : Base3 w) (c : Cm) (fit : c.Fits) (af ah : Option Addr) (cf ch gf gh of' oh : Nat) (sf : SW w 1 af c.fields.length cf gf of' (iv c.fields)) (sh : SW w 1 ah c.hs.length ch gh oh (iv c.hs)) :
    Calls Tryd.prog 37 #[cmV c (.slice af c.fields.length cf) (.slice ah c.hs.length ch)] w (LineP c w) := by
  obtain ⟨op, h, fields, hs, u, v, n, key, elem⟩ := c
  unfold LineP cmV
  dsimp only at sf sh ⊢
  by_cases h1 : op = 1
  · subst h1
    exact line_1 w hb 1 h n u v key elem fields hs af ah cf ch gf gh of' oh fit sf sh
  by_cases h10 : op = 10
  · subst h10
    exact line_10 w hb 10 h n u v key elem fields hs af ah cf ch gf gh of' oh fit sf sh
  by_cases h3 : op = 3
  · subst h3
    exact line_3 w hb 3 h n u v key elem fields hs af ah cf ch gf gh of' oh fit sf sh
  by_cases h2 : op = 2
  · subst h2
    exact line_2 w hb 2 h n u v key elem fields hs af ah cf ch gf gh of' oh fit sf sh
  by_cases h4 : op = 4
  · subst h4
    exact line_4 w hb 4 h n u v key elem fields hs af ah cf ch gf gh of' oh fit sf sh
  by_cases h12 : op = 12
  · subst h12
    exact line_12 w hb 12 h n u v key elem fields hs af ah cf ch gf gh of' oh fit sf sh
  by_cases h8 : op = 8
  · subst h8
    exact line_8 w hb 8 h n u v key elem fields hs af ah cf ch gf gh of' oh fit sf sh
  by_cases h6 : op = 6
  · subst h6
    exact line_6 w hb 6 h n u v key elem fields hs af ah cf ch gf gh of' oh fit sf sh
  by_cases h11 : op = 11
  · subst h11
    exact line_11 w hb 11 h n u v key elem fields hs af ah cf ch gf gh of' oh fit sf sh
  by_cases h14 : op = 14
  · subst h14
    exact line_14 w hb 14 h n u v key elem fields hs af ah cf ch gf gh of' oh fit sf sh
  have e : lineL ⟨op, h, fields, hs, u, v, n, key, elem⟩ = numL h := by
    unfold lineL
    simp [h1, h10, h3, h2, h4, h12, h8, h6, h11, h14]
  rw [e]
  exact line_def w hb op h n u v key elem fields hs af ah cf ch gf gh of' oh fit sf sh (by simpa using h1) (by simpa using h10) (by simpa using h3) (by simpa using h2) (by simpa using h4) (by simpa using h12) (by simpa using h8) (by simpa using h6) (by simpa using h11) (by simpa using h14)
end Go.Proofs.YtigaacbaaopfmaaDoor.sh
