import Derived.Test.YtigaacbaaopfmaaDoorProg
import Derived.Test.YtigaacbaaopfmaaDoorShelf
import Derived.WalkKit
import Derived.Handy
import Derived.Below
import Derived.KernelRfl
import Derived.Laws.AppendOwn
import Derived.Laws.OwnMore
import Derived.Laws.IdiomStrings
import Derived.OwnWalk
import Derived.Deep.Draws
import Derived.Deep.LoopGhost
import Derived.Deep.QuietTactic
import Derived.BigQuiet
import Derived.Deep.RegionLaw
import Derived.Deep.OwnRows
import Derived.Deep.RegionHeld3
import Derived.Lib.AppendIntMem
import Derived.Shelf.Strings.BuilderK
set_option linter.unusedSimpArgs false
/- Answers' lines: names, numbers, bytes as text: the small functions, walked. -/
namespace Go.Proofs.YtigaacbaaopfmaaDoor.sh
open Go.RowKit
set_option linter.unusedVariables false
structure Aside0 (p : Prop) : Prop where mk :: (out : p)
/-- A text of these bytes. -/
def B (l : List UInt8) : ByteArray := ⟨l.toArray⟩
theorem B_size (l : List UInt8) : (B l).size = l.length := by simp [B, ByteArray.size]
theorem B_add (a b : List UInt8) : B a ++ B b = B (a ++ b) := by unfold B; rw [ByteArray.mk_append_mk]
theorem B_toList (l : List UInt8) : (B l).toList = l := by unfold B; exact ByteArray.toList_mk l
theorem B_of (s : ByteArray) : B s.data.toList = s := by cases s; simp [B]
theorem below_drewN {B : Nat} {a w : World} (h : Below B a w) (n : Nat) : Below B a (w.drewN n) := ⟨h.os, h.tape, h.output, h.size, h.block⟩
theorem cell_below {B : Nat} {w w' : World} {a : Addr} {v : Value} (h : w.cell? a = some v) (k : Below B w w') (hB : w.heap.size ≤ B) : w'.cell? a = some v :=
  (k.cell (p := a) (Nat.lt_of_lt_of_le (World.block_lt_of_cell? _ _ h) hB)).trans h
theorem below_next {za wq w' : World} (h : Below za.heap.size za wq) (k : Below wq.heap.size wq w') : Below za.heap.size za w' := h.trans (k.mono h.size)
/-- The names of the commands, by their numbers (0: limit, 15: hash). -/
def names : List (List UInt8) := [[108, 105, 109, 105, 116], [109, 97, 107, 101], [103, 101, 116], [112, 117, 116], [100, 101, 108, 101, 116, 101], [108, 101, 110], [99, 108, 101, 97, 114], [99, 108, 111, 110, 101], [111, 112, 101, 110], [110, 101, 120, 116], [114, 101, 108, 101, 97, 115, 101], [108, 105, 118, 101], [112, 114, 111, 98, 101, 115], [115, 108, 111, 116, 115], [97, 117, 100, 105, 116], [104, 97, 115, 104]]
def nm (i : Nat) : ByteArray := B (names.getD i [])
/-- The name of a command; none: empty. -/
def nameP (op : Int) : ByteArray := if 1 ≤ op ∧ op ≤ 14 then nm op.toNat else B []
/-- What the table of the program's rows holds. -/
def Tab (w : World) : Prop := ∀ i, i < 16 → w.cell? ⟨0, i * 4, none⟩ = some (.string (nm i))
theorem Tab.below {w w' : World} (h : Tab w) (k : Below w.heap.size w w') : Tab w' := fun i hi => cell_below (h i hi) k (Nat.le_refl _)
set_option maxHeartbeats 4000000 in
theorem nameOf_walk (w : World) (op : Int) (h : Tab w) : Calls Tryd.prog 28 #[.int .i64 op] w fun e w' => e = .returned (.string (nameP op)) ∧ w' = w := by
  by_cases h1 : op < 1
  · have hn : nameP op = B [] := by unfold nameP; rw [if_neg (by omega)]
    rw [hn]
    go_enter Tryd.func28, Tryd.ntmps28
    go_wp2
    go_ret
    exact ⟨rfl, rfl⟩
  by_cases h2 : 14 < op
  · have hn : nameP op = B [] := by unfold nameP; rw [if_neg (by omega)]
    rw [hn]
    go_enter Tryd.func28, Tryd.ntmps28
    go_wp2
    go_ret
    exact ⟨rfl, rfl⟩
  · obtain ⟨i, rfl⟩ : ∃ i : Nat, op = i := ⟨op.toNat, by omega⟩
    have hn : nameP i = nm i := by unfold nameP; rw [if_pos (by omega)]; rfl
    have hc := h i (by omega)
    rw [hn]
    have hi : (i : Int) < 16 := by omega
    go_enter Tryd.func28, Tryd.ntmps28
    go_wp2
    go_ret
    exact ⟨rfl, rfl⟩
set_option maxHeartbeats 4000000 in
theorem either_walk (w : World) (y : Bool) (a b : ByteArray) : Calls Tryd.prog 31 #[.bool y, .string a, .string b] w fun e w' => e = .returned (.string (if y then a else b)) ∧ w' = w := by
  cases y <;> (go_enter Tryd.func31, Tryd.ntmps31; go_wp2; go_ret; exact ⟨rfl, rfl⟩)
/-- One digit to the base 16. -/
def hexd (v : Nat) : UInt8 := if v < 10 then UInt8.ofNat (48 + v) else UInt8.ofNat (87 + v)
set_option maxHeartbeats 4000000 in
theorem hex_walk (w : World) (v : Nat) (hv : v < 16) : Calls Tryd.prog 57 #[.int .i64 v] w fun e w' => e = .returned (.int .u8 (hexd v).toNat) ∧ w' = w := by
  by_cases h : v < 10
  · have hd : ((hexd v).toNat : Int) = 48 + v := by unfold hexd; rw [if_pos h]; simp; omega
    rw [hd]
    have h' : (v : Int) < 10 := by omega
    go_enter Tryd.func57, Tryd.ntmps57
    go_wp2
    go_ret
    refine ⟨?_, rfl⟩
    simp
  · have hd : ((hexd v).toNat : Int) = 87 + v := by unfold hexd; rw [if_neg h]; simp; omega
    rw [hd]
    have h' : ¬ (v : Int) < 10 := by omega
    go_enter Tryd.func57, Tryd.ntmps57
    go_wp2
    go_ret
    refine ⟨?_, rfl⟩
    simp
    omega
theorem grow_below (w : World) (k : Nat) (os : Array Obj) : Below w.heap.size w (Sort.grow (w.drewN k) os) :=
  ⟨rfl, rfl, rfl, by simp, fun j hj => Sort.heap_grow_old (w.drewN k) os (by simpa using hj)⟩
theorem dec_len : ∀ (k u : Nat), u < 10 ^ (k + 1) → (Lib.decDigits u).length ≤ k + 1
  | 0, u, h => by rw [Lib.decDigits, dif_pos (by omega)]; simp
  | k + 1, u, h => by
    rw [Lib.decDigits]
    split
    · simp
    · have := dec_len k (u / 10) (by rw [Nat.pow_succ] at h; omega)
      simp only [List.length_append, List.length_cons, List.length_nil]
      omega
theorem itoa_len {n : Int} (h0 : -9223372036854775808 ≤ n) (h1 : n ≤ 9223372036854775807) : (Lib.itoa n).length ≤ 100 := by
  unfold Lib.itoa
  split
  · have := dec_len 20 n.natAbs (by omega)
    simp only [List.length_cons]; omega
  · have := dec_len 20 n.toNat (by omega)
    omega
/-- A number behind a blank. -/
def showN (n : Int) : ByteArray := B (32 :: Lib.itoa n)
set_option maxHeartbeats 4000000 in
theorem showNumber_walk (w : World) (n : Int) (h0 : -9223372036854775808 ≤ n) (h1 : n ≤ 9223372036854775807) (htab : Lib.TabIs Tryd.prog w "internal/strconv.uint64pow10" .u64 Lib.pow10Tab) :
    Calls Tryd.prog 29 #[.int .i64 n] w fun e w' => e = .returned (.string (showN n)) ∧ Below w.heap.size w w' := by
  have hlen : (Lib.itoa n).length ≤ 100 := itoa_len h0 h1
  have c := Tryd.strconv_Itoa n h0 h1 w htab
  have hs : (⟨(Lib.itoa n).toArray⟩ : ByteArray).size ≤ 100 := by simpa [ByteArray.size] using hlen
  have hR : showN n = B [32] ++ ⟨(Lib.itoa n).toArray⟩ := by
    show B ([32] ++ Lib.itoa n) = _
    rw [← B_add]; rfl
  rw [hR]
  clear hR hlen
  generalize (⟨(Lib.itoa n).toArray⟩ : ByteArray) = s at c hs ⊢
  go_enter Tryd.func29, Tryd.ntmps29
  go_wp2_with (go_at_call 55; (with_reducible refine c.mono ?_); rintro e w' ⟨rfl, k, os, rfl⟩)
  go_ret
  exact ⟨rfl, grow_below w k os⟩
end Go.Proofs.YtigaacbaaopfmaaDoor.sh
/- Answers' lines: decimal, showBytes, bytes and the table of names, walked. -/
namespace Go.Proofs.YtigaacbaaopfmaaDoor.sh
open Go.RowKit
set_option linter.unusedVariables false
theorem conv1 (W : World) (c : UInt8) : (convert 61 9 (.slice (some ⟨W.heap.size, 0, none⟩) 1 1)).run Tryd.prog (W.alloc (.cells #[.int .u8 (c.toNat : Int)] 5)) = .ok (.string (B [c])) (W.alloc (.cells #[.int .u8 (c.toNat : Int)] 5)) :=
  run_convert_bytes_back _ 61 9 5 ⟨W.heap.size, 0, none⟩ 1 [c] Tryd.underlying61 Tryd.underlying5 Tryd.underlying9 (fun j hj => by
    have : j = 0 := by simpa using hj
    subst this
    simp [Addr.add])
set_option maxHeartbeats 4000000 in
theorem decimal_one (u : Nat) (h : u < 10) (w : World) : Calls Tryd.prog 33 #[.int .i64 u] w fun e w' => e = .returned (.string (B (Lib.decDigits u))) ∧ Below w.heap.size w w' := by
  have hd : Lib.decDigits u = [UInt8.ofNat (48 + u)] := Lib.decDigits_one h
  have hc : ((UInt8.ofNat (48 + u)).toNat : Int) = 48 + u := by simp; omega
  have v := conv1 w (UInt8.ofNat (48 + u))
  rw [hc] at v
  rw [hd]
  generalize B [UInt8.ofNat (48 + u)] = r at v ⊢
  clear hc hd
  have h0 : ((u : Int) == -9223372036854775808) = false := by simp <;> omega
  have h1 : (u : Int) < 10 := by omega
  have h2 : ¬ (u : Int) < 0 := by omega
  go_enter Tryd.func33, Tryd.ntmps33
  go_wp2
  go_ret
  exact ⟨rfl, by go_grown⟩
set_option maxHeartbeats 4000000 in
theorem decimal_step (u : Nat) (h : 10 ≤ u) (hu : u < 9223372036854775808) (a b : ByteArray) (ha : a.size ≤ 100) (hb : b.size ≤ 100)
    (c1 : ∀ w, Calls Tryd.prog 33 #[.int .i64 ((u / 10 : Nat) : Int)] w fun e w' => e = .returned (.string a) ∧ Below w.heap.size w w')
    (c2 : ∀ w, Calls Tryd.prog 33 #[.int .i64 ((u % 10 : Nat) : Int)] w fun e w' => e = .returned (.string b) ∧ Below w.heap.size w w') (w : World) :
    Calls Tryd.prog 33 #[.int .i64 u] w fun e w' => e = .returned (.string (a ++ b)) ∧ Below w.heap.size w w' := by
  have h0 : ((u : Int) == -9223372036854775808) = false := by simp <;> omega
  have h1 : ¬ (u : Int) < 10 := by omega
  have h2 : ¬ (u : Int) < 0 := by omega
  have d1 : ((u / 10 : Nat) : Int) = (u : Int) / 10 := by omega
  have d2 : ((u % 10 : Nat) : Int) = (u : Int) % 10 := by omega
  rw [d1] at c1
  rw [d2] at c2
  clear d1 d2
  go_enter Tryd.func33, Tryd.ntmps33
  go_wp2_with (first | (go_at_call 33; (with_reducible refine (c1 _).mono ?_); rintro e w1 ⟨rfl, b1⟩) | (go_at_call 33; (with_reducible refine (c2 _).mono ?_); rintro e w2 ⟨rfl, b2⟩))
  go_ret
  exact ⟨rfl, below_next b1 b2⟩
theorem decimal_nat : ∀ (n u : Nat), u ≤ n → u < 9223372036854775808 → ∀ w, Calls Tryd.prog 33 #[.int .i64 u] w fun e w' => e = .returned (.string (B (Lib.decDigits u))) ∧ Below w.heap.size w w' := by
  intro n
  induction n with
  | zero => intro u hu _ w; exact decimal_one u (by omega) w
  | succ n ih =>
    intro u hu hu' w
    by_cases h : u < 10
    · exact decimal_one u h w
    · have hs : ∀ v : Nat, v < 9223372036854775808 → (B (Lib.decDigits v)).size ≤ 100 := fun v hv => by
        rw [B_size]
        have := dec_len 20 v (by omega)
        omega
      have := decimal_step u (by omega) hu' _ _ (hs (u / 10) (by omega)) (hs (u % 10) (by omega)) (ih (u / 10) (by omega) (by omega)) (decimal_one (u % 10) (by omega)) w
      have e : B (Lib.decDigits u) = B (Lib.decDigits (u / 10)) ++ B (Lib.decDigits (u % 10)) := by
        rw [B_add, Lib.decDigits_one (i := u % 10) (by omega)]
        conv => lhs; rw [Lib.decDigits, dif_neg h]
      rw [e]; exact this
set_option maxHeartbeats 4000000 in
theorem decimal_neg (u : Nat) (h : 0 < u) (hu : u < 9223372036854775808) (a : ByteArray) (ha : a.size ≤ 100) (c : ∀ w, Calls Tryd.prog 33 #[.int .i64 u] w fun e w' => e = .returned (.string a) ∧ Below w.heap.size w w') (w : World) :
    Calls Tryd.prog 33 #[.int .i64 (-(u : Int))] w fun e w' => e = .returned (.string (B [45] ++ a)) ∧ Below w.heap.size w w' := by
  have h0 : (-(u : Int) == -9223372036854775808) = false := by simp <;> omega
  have h2 : -(u : Int) < 0 := by omega
  go_enter Tryd.func33, Tryd.ntmps33
  go_wp2_with (go_at_call 33; (with_reducible refine (c _).mono ?_); rintro e w1 ⟨rfl, b1⟩)
  go_ret
  exact ⟨rfl, b1⟩
set_option maxHeartbeats 4000000 in
theorem decimal_min (w : World) : Calls Tryd.prog 33 #[.int .i64 (-9223372036854775808)] w fun e w' => e = .returned (.string (B [45, 57, 50, 50, 51, 51, 55, 50, 48, 51, 54, 56, 53, 52, 55, 55, 53, 56, 48, 56])) ∧ Below w.heap.size w w' := by
  go_enter Tryd.func33, Tryd.ntmps33
  go_wp2
  go_ret
  exact ⟨rfl, Below.refl _ _⟩
theorem itoa_min : Lib.itoa (-9223372036854775808) = [45, 57, 50, 50, 51, 51, 55, 50, 48, 51, 54, 56, 53, 52, 55, 55, 53, 56, 48, 56] := by
  have h := Lib.itoa_neg 9223372036854775808 (by omega)
  rw [show (-((9223372036854775808 : Nat) : Int)) = -9223372036854775808 by omega] at h
  rw [h]
  simp [Lib.decDigits]
theorem decimal_walk (w : World) (n : Int) (h0 : -9223372036854775808 ≤ n) (h1 : n ≤ 9223372036854775807) : Calls Tryd.prog 33 #[.int .i64 n] w fun e w' => e = .returned (.string (B (Lib.itoa n))) ∧ Below w.heap.size w w' := by
  by_cases hm : n = -9223372036854775808
  · subst hm
    rw [itoa_min]; exact decimal_min w
  by_cases hn : n < 0
  · obtain ⟨u, hu⟩ : ∃ u : Nat, n = -(u : Int) := ⟨n.natAbs, by omega⟩
    subst hu
    rw [Lib.itoa_neg u (by omega)]
    have hs : (B (Lib.decDigits u)).size ≤ 100 := by
      rw [B_size]
      have := dec_len 20 u (by omega)
      omega
    have := decimal_neg u (by omega) (by omega) _ hs (decimal_nat u u (Nat.le_refl _) (by omega)) w
    rw [B_add] at this
    exact this
  · obtain ⟨u, rfl⟩ : ∃ u : Nat, n = u := ⟨n.toNat, by omega⟩
    rw [Lib.itoa_nonneg]
    exact decimal_nat u u (Nat.le_refl _) (by omega) w
end Go.Proofs.YtigaacbaaopfmaaDoor.sh
/- Answers' lines: bytes as text, the document's and the program's, walked. -/
namespace Go.Proofs.YtigaacbaaopfmaaDoor.sh
open Go.RowKit
set_option linter.unusedVariables false
theorem info5 : (Tryd.prog.info? 5).map (fun i => (i.zero, i.size, i.bytes)) = some (some (.int .u8 0), 1, 1) := by kernel_rfl
def us (l : List UInt8) : List Value := l.map fun c => Value.int .u8 (c.toNat : Int)
theorem us_append (a b : List UInt8) : us (a ++ b) = us a ++ us b := by simp [us]
/-- An append of new bytes to a row of the call's own. -/
theorem app_run (w : World) (base ty n : Nat) (v : Value) (xs : List Value) (l : List UInt8) (hl : 0 < l.length) (hown : w.ownsRow base 5 1 v n xs) (h63 : n + l.length ≤ 140737488355328) (hbase : base ≤ w.heap.size) :
    ∃ v' w', (Builtin.append_ #[61, 61] ty #[v, .slice (some ⟨w.heap.size, 0, none⟩) l.length l.length]).run Tryd.prog (w.alloc (.cells (us l).toArray 5)) = .ok v' w' ∧ w'.ownsRow base 5 1 v' (n + l.length) (xs ++ us l) ∧ (w.alloc (.cells (us l).toArray 5)).grownBy w' v.ownBlock := by
  obtain ⟨i, hi, hz0, hz1, hz2⟩ := info_parts info5
  obtain ⟨v', w', h1, h2, h3, _⟩ := run_append_own (P := Tryd.prog) (w.alloc (.cells (us l).toArray 5)) base 61 ty 5 i (.int .u8 0) 1 1 Tryd.underlying61 hi hz0 hz1 hz2 rfl (by decide) v n xs (hown.alloc _) ⟨w.heap.size, 0, none⟩ l.length l.length (us l) (by simp [us])
    (fun j u hj => by
      have hadd : (⟨w.heap.size, 0, none⟩ : Addr).add j = ⟨w.heap.size, j, none⟩ := by unfold Addr.add; split <;> simp_all
      rw [hadd]
      have hb : (w.alloc (.cells (us l).toArray 5)).heap[w.heap.size]? = some (.cells (us l).toArray 5) := Array.getElem?_push_size
      rw [cell_of_row _ _ _ _ _ _ hb]
      simpa using hj)
    (by intro u hu; simp only [us, List.mem_map] at hu; obtain ⟨x, _, rfl⟩ := hu; rfl) (by unfold maxLen; omega) (by omega) (by simp; omega)
  exact ⟨v', w', h1, h2, h3⟩
theorem wpList_app {w W : World} {ops : Array Oper} {rest : List Oper} {o' : Oper} {a : Act} {Q : Exit → Act → World → Prop} (hgd : o'.guard = none) (s x : Operand)
    (ho : o'.op = .call { callee := .builtin .append, args := #[s, x], argTypes := #[61, 61] })
    (base n : Nat) (v : Value) (xs : List Value) (l : List UInt8) (hl : 0 < l.length) (hown : w.ownsRow base 5 1 v n xs) (hsv : a.eval s = v) (hx : a.eval x = .slice (some ⟨w.heap.size, 0, none⟩) l.length l.length)
    (h63 : n + l.length ≤ 140737488355328) (hbase : base ≤ w.heap.size) (hW : W = w.alloc (.cells (us l).toArray 5))
    (h : ∀ v' w', w'.ownsRow base 5 1 v' (n + l.length) (xs ++ us l) → (w.alloc (.cells (us l).toArray 5)).grownBy w' v.ownBlock → wpList Tryd.prog ops Q rest (a.put o'.dst v') w') : wpList Tryd.prog ops Q (o' :: rest) a W := by
  subst hW
  refine wpList_plain hgd fun K hK => ?_
  obtain ⟨v', w', hr, h2, h3⟩ := app_run w base o'.type n v xs l hl hown h63 hbase
  unfold Oper.wp execOp
  simp only [ho, resolve, invoke, builtin, Sem.run_bind, Sem.run_pure, Result.andThen_ok, List.map_toArray, List.map_cons, List.map_nil, hsv, hx, hr]
  exact hK _ _ (h v' w' h2 h3)
theorem step_app {w W : World} {ops : Array Oper} {o' : Oper} {a : Act} {K : Act → World → Prop} {Q : Exit → Act → World → Prop} {E : Prop} (hgd : o'.guard = none) (s x : Operand)
    (ho : o'.op = .call { callee := .builtin .append, args := #[s, x], argTypes := #[61, 61] })
    (base n : Nat) (v : Value) (xs : List Value) (l : List UInt8) (hl : 0 < l.length) (hown : w.ownsRow base 5 1 v n xs) (hsv : a.eval s = v) (hx : a.eval x = .slice (some ⟨w.heap.size, 0, none⟩) l.length l.length)
    (h63 : n + l.length ≤ 140737488355328) (hbase : base ≤ w.heap.size) (hW : W = w.alloc (.cells (us l).toArray 5))
    (h : ∀ v' w', w'.ownsRow base 5 1 v' (n + l.length) (xs ++ us l) → (w.alloc (.cells (us l).toArray 5)).grownBy w' v.ownBlock → K (a.put o'.dst v') w') :
    if Region.wanted o' (yielded ops a.tmps) = true then Oper.wp Tryd.prog o' a W K Q else E := by
  subst hW
  have hw : Region.wanted o' (yielded ops a.tmps) = true := by simp [Region.wanted, hgd]
  rw [if_pos hw]
  obtain ⟨v', w', hr, h2, h3⟩ := app_run w base o'.type n v xs l hl hown h63 hbase
  unfold Oper.wp execOp
  simp only [ho, resolve, invoke, builtin, Sem.run_bind, Sem.run_pure, Result.andThen_ok, List.map_toArray, List.map_cons, List.map_nil, hsv, hx, hr]
  exact h v' w' h2 h3
theorem below_app {w wr w1 : World} {l : List UInt8} {v : Value} {n : Nat} {xs : List Value} {b : Nat} (hbw : b = w.heap.size) (hB : Below b w wr) (hown : wr.ownsRow b 5 1 v n xs) (hg : (wr.alloc (.cells (us l).toArray 5)).grownBy w1 v.ownBlock) : Below b w w1 := by
  have := hB.size
  refine Below.grown (hB.alloc (by omega) _) hg (by simp; omega) (fun k hk => (hown.lt k hk).1)
/-- What a row of bytes reads as. -/
theorem conv_own {w : World} {base n : Nat} {v : Value} {l : List UInt8} (h : w.ownsRow base 5 1 v n (us l)) (hl : 0 < l.length) : ∃ g c, v = .slice (some ⟨g, 0, none⟩) n c ∧ (convert 61 9 v).run Tryd.prog w = .ok (.string (B l)) w := by
  have hn : n = l.length := by have := h.1; simp [us] at this; omega
  rcases h.2 with ⟨h1, h2⟩ | ⟨g, cap, cur, h1, h2, h3, h4, h5, h6, h7⟩
  · omega
  · refine ⟨g, cap, h1, ?_⟩
    rw [h1, hn]
    refine run_convert_bytes_back w 61 9 5 ⟨g, 0, none⟩ cap l Tryd.underlying61 Tryd.underlying5 Tryd.underlying9 (fun j hj => ?_)
    exact h.cells (g := g) (by rw [h1]; rfl) j _ (by simp [us, hj])
def hexL (l : List UInt8) : List UInt8 := l.flatMap fun c => [hexd (c.toNat / 16), hexd (c.toNat % 16)]
theorem hexL_length : ∀ l : List UInt8, (hexL l).length = 2 * l.length
  | [] => rfl
  | c :: l => by
    show (hexL l).length + 2 = _
    rw [hexL_length l, List.length_cons]; omega
theorem hexL_snoc (l : List UInt8) (c : UInt8) : hexL (l ++ [c]) = hexL l ++ [hexd (c.toNat / 16)] ++ [hexd (c.toNat % 16)] := by simp [hexL]
theorem take_snoc (s : ByteArray) (k : Nat) (hk : k < s.size) : s.data.toList.take (k + 1) = s.data.toList.take k ++ [s.data.toList[k]'hk] := List.take_succ_eq_append_getElem hk
/-- Bytes as text. -/
def bytesP (s : ByteArray) : List UInt8 := if s.size = 0 then [45] else hexL s.data.toList
theorem empty_iff (s : ByteArray) : s.toList = [] ↔ s.size = 0 := by
  rw [ByteArray.toList_eq]
  constructor
  · intro h; have := congrArg List.length h; simpa using this
  · intro h; exact List.eq_nil_of_length_eq_zero (by simpa using h)
set_option maxHeartbeats 8000000 in
theorem bytes_walk (w : World) (s : ByteArray) (hs : s.size ≤ 3000000) : Calls Tryd.prog 34 #[.string s] w fun e w' => e = .returned (.string (B (bytesP s))) ∧ Below w.heap.size w w' := by
  by_cases h0 : s.toList = []
  · have hr : bytesP s = [45] := by unfold bytesP; rw [if_pos ((empty_iff s).1 h0)]
    rw [hr]
    go_enter Tryd.func34, Tryd.ntmps34
    go_wp2
    go_ret
    exact ⟨rfl, Below.refl _ _⟩
  have hpos : 0 < s.size := by
    rcases Nat.eq_zero_or_pos s.size with h | h
    · exact absurd ((empty_iff s).2 h) h0
    · exact h
  have h0' : s.toList.isEmpty = false := by simpa using h0
  have HR : Aside0 (bytesP s = hexL s.data.toList) := ⟨by unfold bytesP; rw [if_neg (by omega)]⟩
  obtain ⟨R, hR⟩ : ∃ R, B (bytesP s) = R := ⟨_, rfl⟩
  rw [hR]
  have HRR : Aside0 (B (bytesP s) = R) := ⟨hR⟩
  clear hR
  have hnil := World.ownsRow_nil w w.heap.size 5 1
  go_enter Tryd.func34, Tryd.ntmps34
  go_wp2
  go_loopg [3, 4] s.size (fun g v3 v4 wr => ∃ k : Nat, v4 = .int .i64 k ∧ k + g = s.size ∧ wr.ownsRow w.heap.size 5 1 v3 (2 * k) (us (hexL (s.data.toList.take k))) ∧ Below w.heap.size w wr)
  case atStart => exact ⟨0, rfl, by omega, hnil, Below.refl _ _⟩
  case round =>
    obtain ⟨k, rfl, hkg, hown, hB⟩ := hrel
    clear hnil
    by_cases hk : k < s.size
    · have hlt : (k : Int) < (s.size : Int) := by omega
      obtain ⟨g, rfl⟩ : ∃ g, gk = g + 1 := ⟨gk - 1, by omega⟩
      have hidx : ∀ W, (Instr.index 9 (.string s) (.int .i64 k)).run Tryd.prog W = .ok (.int .u8 (s.data.toList[k]'hk).toNat) W := by
        intro W
        rw [run_index_string (h := Tryd.underlying9), dif_pos (by omega)]
        rfl
      have hts := take_snoc s k hk
      have hc := (s.data.toList[k]'hk).toNat_lt
      have hx1 := fun w => hex_walk w ((s.data.toList[k]'hk).toNat / 16) (by omega)
      have hx2 := fun w => hex_walk w ((s.data.toList[k]'hk).toNat % 16) (by omega)
      have HTS : Aside0 (hexL (s.data.toList.take (k + 1)) = hexL (s.data.toList.take k) ++ [hexd ((s.data.toList[k]'hk).toNat / 16)] ++ [hexd ((s.data.toList[k]'hk).toNat % 16)]) := ⟨by rw [hts, hexL_snoc]⟩
      clear hts
      generalize s.data.toList[k]'hk = c at hidx hc hx1 hx2 HTS
      rw [show ((c.toNat / 16 : Nat) : Int) = (c.toNat : Int) / 16 by omega] at hx1
      rw [show ((c.toNat % 16 : Nat) : Int) = (c.toNat : Int) % 16 by omega] at hx2
      generalize hexd (c.toNat / 16) = x1 at hx1 HTS
      generalize hexd (c.toNat % 16) = x2 at hx2 HTS
      generalize hexL (s.data.toList.take k) = L at hown HTS
      go_wp2_with (first
        | (go_at_call 57; (with_reducible refine (hx1 _).mono ?_); rintro e w1 ⟨rfl, rfl⟩)
        | (go_at_call 57; (with_reducible refine (hx2 _).mono ?_); rintro e w1 ⟨rfl, rfl⟩)
        | (at_builtin; (refine wpList_app rfl (.tmp 13) (.tmp 20) rfl w.heap.size (2 * k) _ (us L) [x1] (by simp) hown rfl rfl (by simp; omega) hB.size rfl ?_; intro v1 w1 own1 gr1; have bel1 := below_app rfl hB hown gr1))
        | (at_builtin; (refine wpList_app rfl (.tmp 22) (.tmp 29) rfl w.heap.size (2 * k + 1) v1 (us L ++ us [x1]) [x2] (by simp) own1 rfl rfl (by simp; omega) bel1.size rfl ?_; intro v2 w2 own2 gr2; have bel2 := below_app rfl bel1 own1 gr2)))
      go_roundg g
      case measure => omega
      case rel => exact ⟨k + 1, by go_num, by omega, by rw [HTS.out, us_append, us_append]; exact own2, bel2⟩
    · obtain rfl : k = s.size := by omega
      have hlt : ¬ (s.size : Int) < (s.size : Int) := by omega
      rw [List.take_of_length_le (l := s.data.toList) (i := s.size) (Nat.le_of_eq rfl)] at hown
      obtain ⟨gg, cc, rfl, hconv⟩ := conv_own hown (by rw [hexL_length]; show 0 < 2 * s.size; omega)
      have hB' : B (hexL s.data.toList) = R := by rw [← HR.out]; exact HRR.out
      rw [hB'] at hconv
      go_wp2
      go_ret
      exact ⟨rfl, hB⟩
/-- Bytes as text behind a blank. -/
def showB (s : ByteArray) : ByteArray := B (32 :: bytesP s)
abbrev dgs : ByteArray := { data := #[48, 49, 50, 51, 52, 53, 54, 55, 56, 57, 97, 98, 99, 100, 101, 102] }
theorem dgs_at (v : Nat) (hv : v < 16) (W : World) : (Instr.index 9 (.string dgs) (.int .u8 (v : Int))).run Tryd.prog W = .ok (.int .u8 (hexd v).toNat) W := by
  have : ∀ v : Fin 16, (dgs.data.toList[v.val]'(v.isLt)) = hexd v.val := by decide
  rw [run_index_string (h := Tryd.underlying9), dif_pos (by show 0 ≤ (v : Int) ∧ (v : Int) < 16; omega)]
  have h := this ⟨v, hv⟩
  simp only at h
  rw [← h]
  rfl
theorem own_two {w : World} {base n : Nat} {v : Value} {L M : List UInt8} {x1 x2 : UInt8} (h : w.ownsRow base 5 1 v (n + [x1, x2].length) (us (32 :: L) ++ us [x1, x2])) (hM : M = L ++ [x1] ++ [x2]) : w.ownsRow base 5 1 v (n + 2) (us (32 :: M)) := by
  subst hM
  have e : us (32 :: (L ++ [x1] ++ [x2])) = us (32 :: L) ++ us [x1, x2] := by simp [us]
  rw [e]; exact h
theorem and15 : ∀ c : Fin 256, bits BinOp.and IntKind.u8 ((c.val : Nat) : Int) 15 = ((c.val % 16 : Nat) : Int) := by decide +kernel
set_option maxHeartbeats 8000000 in
theorem showBytes_walk (w : World) (s : ByteArray) (hs : s.size ≤ 3000000) : Calls Tryd.prog 30 #[.string s] w fun e w' => e = .returned (.string (showB s)) ∧ Below w.heap.size w w' := by
  by_cases h0 : s.toList = []
  · have hr : showB s = B [32, 45] := by unfold showB bytesP; rw [if_pos ((empty_iff s).1 h0)]
    rw [hr]
    go_enter Tryd.func30, Tryd.ntmps30
    go_wp2
    go_ret
    exact ⟨rfl, Below.refl _ _⟩
  have hpos : 0 < s.size := by
    rcases Nat.eq_zero_or_pos s.size with h | h
    · exact absurd ((empty_iff s).2 h) h0
    · exact h
  have h0' : s.toList.isEmpty = false := by simpa using h0
  obtain ⟨R, hR⟩ : ∃ R, showB s = R := ⟨_, rfl⟩
  rw [hR]
  have HRR : Aside0 (B (32 :: hexL s.data.toList) = R) := ⟨by rw [← hR, showB, bytesP, if_neg (by omega)]⟩
  clear hR
  have hnil : (w.alloc (.cells #[.int .u8 32] 5)).ownsRow w.heap.size 5 1 (.slice (some ⟨w.heap.size, 0, none⟩) 1 1) 1 (us [32]) :=
    ⟨rfl, .inr ⟨w.heap.size, 1, #[.int .u8 32], rfl, Nat.le_refl _, heap_alloc_new w _, Nat.le_refl _, by unfold maxLen; omega, rfl, rfl⟩⟩
  have hB0 : Below w.heap.size w (w.alloc (.cells #[.int .u8 32] 5)) := (Below.refl _ _).alloc (Nat.le_refl _) _
  go_enter Tryd.func30, Tryd.ntmps30
  go_wp2
  go_loopg [3, 10] s.size (fun g v3 v4 wr => ∃ k : Nat, v4 = .int .i64 k ∧ k + g = s.size ∧ wr.ownsRow w.heap.size 5 1 v3 (1 + 2 * k) (us (32 :: hexL (s.data.toList.take k))) ∧ Below w.heap.size w wr)
  case atStart => exact ⟨0, rfl, by omega, hnil, hB0⟩
  case round =>
    obtain ⟨k, rfl, hkg, hown, hB⟩ := hrel
    clear hnil hB0
    by_cases hk : k < s.size
    · have hlt : (k : Int) < (s.size : Int) := by omega
      obtain ⟨g, rfl⟩ : ∃ g, gk = g + 1 := ⟨gk - 1, by omega⟩
      have hidx : ∀ W, (Instr.index 9 (.string s) (.int .i64 k)).run Tryd.prog W = .ok (.int .u8 (s.data.toList[k]'hk).toNat) W := by
        intro W
        rw [run_index_string (h := Tryd.underlying9), dif_pos (by omega)]
        rfl
      have hts := take_snoc s k hk
      have hc := (s.data.toList[k]'hk).toNat_lt
      have hx1 := fun w => dgs_at ((s.data.toList[k]'hk).toNat / 16) (by omega) w
      have hx2 := fun w => dgs_at ((s.data.toList[k]'hk).toNat % 16) (by omega) w
      have HTS : Aside0 (hexL (s.data.toList.take (k + 1)) = hexL (s.data.toList.take k) ++ [hexd ((s.data.toList[k]'hk).toNat / 16)] ++ [hexd ((s.data.toList[k]'hk).toNat % 16)]) := ⟨by rw [hts, hexL_snoc]⟩
      clear hts
      generalize s.data.toList[k]'hk = c at hidx hc hx1 hx2 HTS
      have hand : bits BinOp.and IntKind.u8 (c.toNat : Int) 15 = (c.toNat : Int) % 16 := by
        have := and15 ⟨c.toNat, hc⟩
        simp only at this
        omega
      rw [show ((c.toNat / 16 : Nat) : Int) = (c.toNat : Int) / 16 by omega] at hx1
      rw [show ((c.toNat % 16 : Nat) : Int) = (c.toNat : Int) % 16 by omega] at hx2
      generalize hexd (c.toNat / 16) = x1 at hx1 HTS
      generalize hexd (c.toNat % 16) = x2 at hx2 HTS
      generalize hexL (s.data.toList.take k) = L at hown HTS
      go_wp2
      go_region_law (refine step_app rfl (.tmp 13) (.tmp 24) rfl w.heap.size (1 + 2 * k) _ (us (32 :: L)) [x1, x2] (by simp) hown.drew (by simp [Act.eval]) (by simp [Act.eval]) (by simp; omega) hB.size rfl ?_; intro v1 w1 own1 gr1; have bel1 := below_app rfl hB.drew hown.drew gr1)
      all_goals go_wp2
      all_goals go_roundg g
      all_goals first | omega | exact ⟨k + 1, by go_num, by omega, own_two own1 HTS.out, bel1⟩
    · obtain rfl : k = s.size := by omega
      have hlt : ¬ (s.size : Int) < (s.size : Int) := by omega
      rw [List.take_of_length_le (l := s.data.toList) (i := s.size) (Nat.le_of_eq rfl)] at hown
      obtain ⟨gg, cc, rfl, hconv⟩ := conv_own hown (by simp)
      rw [HRR.out] at hconv
      go_wp2
      go_ret
      exact ⟨rfl, hB⟩
end Go.Proofs.YtigaacbaaopfmaaDoor.sh
/- Answers' lines: the document's table of names, walked. -/
namespace Go.Proofs.YtigaacbaaopfmaaDoor.sh
open Go.RowKit
set_option linter.unusedVariables false
def nmR (i : Nat) : ByteArray := if i = 0 then nm 0 else if i = 1 then nm 15 else nm (i - 1)
def opR (i : Nat) : Int := if i ≤ 1 then 0 else (i : Int) - 1
/-- What the document's table holds. -/
def RTab (w : World) (b : Nat) : Prop := ∀ i, i < 16 → w.cell? ⟨b, i * 4, none⟩ = some (.string (nmR i)) ∧ w.cell? ⟨b, i * 4 + 1, none⟩ = some (.int .i64 (opR i))
set_option maxHeartbeats 8000000 in
set_option maxRecDepth 100000 in
theorem rows_walk (w : World) : Calls Tryd.prog 56 #[] w fun e w' => ∃ b, e = .returned (.slice (some ⟨b, 0, none⟩) 16 16) ∧ Below w.heap.size w w' ∧ RTab w' b := by
  go_enter Tryd.func56, Tryd.ntmps56
  go_wp2
  go_ret
  refine ⟨w.heap.size, rfl, (Below.refl _ _).alloc (Nat.le_refl _) _, fun i hi => ?_⟩
  match i, hi with
  | 0, _ => exact ⟨by simp [nmR, nm, names, B], by simp [opR]⟩
  | 1, _ => exact ⟨by simp [nmR, nm, names, B], by simp [opR]⟩
  | 2, _ => exact ⟨by simp [nmR, nm, names, B], by simp [opR]⟩
  | 3, _ => exact ⟨by simp [nmR, nm, names, B], by simp [opR]⟩
  | 4, _ => exact ⟨by simp [nmR, nm, names, B], by simp [opR]⟩
  | 5, _ => exact ⟨by simp [nmR, nm, names, B], by simp [opR]⟩
  | 6, _ => exact ⟨by simp [nmR, nm, names, B], by simp [opR]⟩
  | 7, _ => exact ⟨by simp [nmR, nm, names, B], by simp [opR]⟩
  | 8, _ => exact ⟨by simp [nmR, nm, names, B], by simp [opR]⟩
  | 9, _ => exact ⟨by simp [nmR, nm, names, B], by simp [opR]⟩
  | 10, _ => exact ⟨by simp [nmR, nm, names, B], by simp [opR]⟩
  | 11, _ => exact ⟨by simp [nmR, nm, names, B], by simp [opR]⟩
  | 12, _ => exact ⟨by simp [nmR, nm, names, B], by simp [opR]⟩
  | 13, _ => exact ⟨by simp [nmR, nm, names, B], by simp [opR]⟩
  | 14, _ => exact ⟨by simp [nmR, nm, names, B], by simp [opR]⟩
  | 15, _ => exact ⟨by simp [nmR, nm, names, B], by simp [opR]⟩
  | n + 16, h => exact absurd h (by omega)
set_option maxHeartbeats 8000000 in
set_option maxRecDepth 100000 in
theorem name_walk (w : World) (op : Int) : Calls Tryd.prog 32 #[.int .i64 op] w fun e w' => e = .returned (.string (nameP op)) ∧ Below w.heap.size w w' := by
  have cr := rows_walk w
  obtain ⟨R, hR⟩ : ∃ R, nameP op = R := ⟨_, rfl⟩
  rw [hR]
  have HR : Aside0 (nameP op = R) := ⟨hR⟩
  clear hR
  go_enter Tryd.func32, Tryd.ntmps32
  go_wp2_with (go_at_call 56; (with_reducible refine cr.mono ?_); rintro e w1 ⟨b, rfl, bel1, tab⟩)
  go_loopg [4] 16 (fun g v4 wr => ∃ i : Nat, v4 = .int .i64 i ∧ i + g = 16 ∧ wr = w1 ∧ ∀ j, j < i → 0 < op → opR j ≠ op)
  case atStart => exact ⟨0, rfl, by omega, rfl, fun j hj => by omega⟩
  case round =>
    obtain ⟨i, rfl, hig, rfl, hno⟩ := hrel
    by_cases hi : i < 16
    · have hlt : (i : Int) < 16 := by omega
      obtain ⟨g, rfl⟩ : ∃ g, gk = g + 1 := ⟨gk - 1, by omega⟩
      obtain ⟨t0, t1⟩ := tab i hi
      have HNO : Aside0 (∀ j, j < i → 0 < op → opR j ≠ op) := ⟨hno⟩
      clear hno
      by_cases h0 : 0 < op
      · obtain ⟨q, hq⟩ : ∃ q, opR i = q := ⟨_, rfl⟩
        rw [hq] at t1
        have HQ : Aside0 (opR i = q) := ⟨hq⟩
        clear hq
        by_cases h1 : q = op
        · subst h1
          have HF : Aside0 (R = nmR i) := ⟨by
            have h2 := HQ.out
            unfold opR at h2
            have h3 : ¬ i ≤ 1 := by
              intro h; rw [if_pos h] at h2; omega
            rw [if_neg h3] at h2
            rw [← HR.out, nameP, if_pos (by omega), nmR, if_neg (by omega), if_neg (by omega)]
            congr 1; omega⟩
          go_wp2
          go_ret
          exact ⟨by rw [HF.out]; rfl, bel1⟩
        · have h1' : (q == op) = false := by simpa using h1
          go_wp2
          go_roundg g
          case measure => omega
          case rel => exact ⟨i + 1, by go_num, by omega, rfl, fun j hj h => by
            by_cases e : j = i
            · rw [e, HQ.out]; exact h1
            · exact HNO.out j (by omega) h⟩
      · go_wp2
        go_roundg g
        case measure => omega
        case rel => exact ⟨i + 1, by go_num, by omega, rfl, fun j hj h => absurd h (by omega)⟩
    · obtain rfl : i = 16 := by omega
      have HF : Aside0 (R = B []) := ⟨by
        rw [← HR.out, nameP, if_neg]
        intro h
        exact hno (op.toNat + 1) (by omega) (by omega) (by unfold opR; rw [if_neg (by omega)]; omega)⟩
      clear hno
      go_wp2
      go_ret
      exact ⟨by rw [HF.out]; rfl, bel1⟩
end Go.Proofs.YtigaacbaaopfmaaDoor.sh
/- An answer's line, by the program and by the document, walked. -/
namespace Go.Proofs.YtigaacbaaopfmaaDoor.sh
open Go.RowKit
set_option linter.unusedVariables false
/-- An answer. -/
structure Ans where
  op : Int
  err : Int
  n : Int
  off : Int
  yes : Bool
  key : ByteArray
  elem : ByteArray
abbrev Ans.v (a : Ans) : Value := .agg #[.int .i64 a.op, .int .i64 a.err, .int .i64 a.n, .int .i64 a.off, .bool a.yes, .string a.key, .string a.elem]
def nameL (op : Int) : List UInt8 := if 1 ≤ op ∧ op ≤ 14 then names.getD op.toNat [] else []
theorem nameP_eq (op : Int) : nameP op = B (nameL op) := by
  unfold nameP nameL nm
  split <;> rfl
/-- What stands behind the name. -/
def tailL (a : Ans) : List UInt8 :=
  if a.err ≠ 0 then [32, 101, 114, 114, 111, 114] ++ (32 :: Lib.itoa a.err)
  else if a.op = 6 ∨ a.op = 10 then []
  else if a.op = 2 then (if a.yes then [32, 121, 101, 115] ++ (32 :: bytesP a.elem) else [32, 110, 111])
  else if a.op = 4 then (if a.yes then [32, 121, 101, 115] else [32, 110, 111])
  else if a.op = 3 then (if a.yes then [32, 110, 101, 119] else [32, 111, 108, 100])
  else if a.op = 9 then (if a.yes then [32, 112, 97, 105, 114] ++ (32 :: bytesP a.key) ++ (32 :: bytesP a.elem) else [32, 100, 111, 110, 101])
  else if a.op = 14 then (if a.n = 0 then [32, 102, 105, 110, 101] else [32, 114, 117, 108, 101] ++ (32 :: Lib.itoa a.n) ++ (32 :: Lib.itoa a.off))
  else 32 :: Lib.itoa a.n
/-- An answer's line. -/
def showL (a : Ans) : List UInt8 := if nameL a.op = [] then [] else nameL a.op ++ tailL a
def In64 (x : Int) : Prop := -9223372036854775808 ≤ x ∧ x ≤ 9223372036854775807
/-- What the calls may rely on. -/
structure Base (w : World) : Prop where
  tab : Tab w
  pow : Lib.TabIs Tryd.prog w "internal/strconv.uint64pow10" .u64 Lib.pow10Tab
theorem Base.below {w w' : World} (h : Base w) (k : Below w.heap.size w w') : Base w' := ⟨h.tab.below k, (Lib.tabBelow_of_tabIs h.pow) w' k⟩
theorem bytesP_len (s : ByteArray) (hs : s.size ≤ 3000000) : (bytesP s).length ≤ 6000000 := by
  unfold bytesP
  split
  · simp
  · rw [hexL_length]; show 2 * s.size ≤ _; omega
theorem keep2 {za w' : World} {b i j : Nat} {u v : Value} (c0 : za.cell? ⟨b, i, none⟩ = some u) (c1 : za.cell? ⟨b, j, none⟩ = some v) (h : Below za.heap.size za w') :
    Below za.heap.size za w' ∧ w'.cell? ⟨b, i, none⟩ = some u ∧ w'.cell? ⟨b, j, none⟩ = some v :=
  ⟨h, cell_below c0 h (Nat.le_refl _), cell_below c1 h (Nat.le_refl _)⟩
theorem name_empty {op : Int} (h : nameL op = []) : ¬ (1 ≤ op ∧ op ≤ 14) := by
  intro hc
  obtain ⟨i, rfl⟩ : ∃ i : Nat, op = i := ⟨op.toNat, by omega⟩
  have : ∀ i : Fin 15, 1 ≤ i.val → names.getD i.val [] ≠ [] := by decide
  unfold nameL at h
  rw [if_pos hc] at h
  exact this ⟨i, by omega⟩ (by show 1 ≤ i; omega) h
theorem name_len (op : Int) : (nameL op).length ≤ 20 := by
  unfold nameL
  split
  · next hc =>
    obtain ⟨i, rfl⟩ : ∃ i : Nat, op = i := ⟨op.toNat, by omega⟩
    have : ∀ i : Fin 15, (names.getD i.val []).length ≤ 20 := by decide
    exact this ⟨i, by omega⟩
  · simp
theorem show_num {w : World} (hb : Base w) (x : Int) (hx : In64 x) (r : ByteArray) (hr : showN x = r) : r.size ≤ 200 ∧ ∀ wq, Below w.heap.size w wq → Calls Tryd.prog 29 #[.int .i64 x] wq fun e w' => e = .returned (.string r) ∧ Below wq.heap.size wq w' := by
  subst hr
  refine ⟨?_, fun wq h => showNumber_walk wq x hx.1 hx.2 (hb.below h).pow⟩
  unfold showN
  rw [B_size]
  have := itoa_len hx.1 hx.2
  simp only [List.length_cons]
  omega
theorem show_byt {w : World} (s : ByteArray) (hs : s.size ≤ 3000000) (r : ByteArray) (hr : showB s = r) : r.size ≤ 7000000 ∧ ∀ wq, Below w.heap.size w wq → Calls Tryd.prog 30 #[.string s] wq fun e w' => e = .returned (.string r) ∧ Below wq.heap.size wq w' := by
  subst hr
  refine ⟨?_, fun wq h => showBytes_walk wq s hs⟩
  unfold showB
  rw [B_size]
  have := bytesP_len s hs
  simp only [List.length_cons]
  omega
theorem ref_num {w : World} (hb : Base w) (x : Int) (hx : In64 x) (r : ByteArray) (hr : B (Lib.itoa x) = r) : r.size ≤ 200 ∧ ∀ wq, Below w.heap.size w wq → Calls Tryd.prog 33 #[.int .i64 x] wq fun e w' => e = .returned (.string r) ∧ Below wq.heap.size wq w' := by
  subst hr
  refine ⟨?_, fun wq h => decimal_walk wq x hx.1 hx.2⟩
  rw [B_size]
  have := itoa_len hx.1 hx.2
  omega
theorem ref_byt {w : World} (s : ByteArray) (hs : s.size ≤ 3000000) (r : ByteArray) (hr : B (bytesP s) = r) : r.size ≤ 7000000 ∧ ∀ wq, Below w.heap.size w wq → Calls Tryd.prog 34 #[.string s] wq fun e w' => e = .returned (.string r) ∧ Below wq.heap.size wq w' := by
  subst hr
  refine ⟨?_, fun wq h => bytes_walk wq s hs⟩
  rw [B_size]
  have := bytesP_len s hs
  omega
end Go.Proofs.YtigaacbaaopfmaaDoor.sh
/- A text's builder: copyCheck and WriteString of strings.Builder, walked; a builder is kept by whatever leaves its blocks. -/
namespace Go.Proofs.YtigaacbaaopfmaaDoor.sh
open Go.RowKit
set_option linter.unusedVariables false
theorem bytes5 : (Tryd.prog.info? 5).map (fun i => (i.zero, i.size, i.bytes)) = some (some (.int .u8 0), 1, 1) := by kernel_rfl
abbrev IsB (B b : Nat) (l : List UInt8) (w : World) : Prop := Lib.IsBuilderF 63 5 B b (Lib.byteCells l) w
theorem IsB.below {B b : Nat} {l : List UInt8} {w w' : World} (h : IsB B b l w) (k : Below w.heap.size w w') : IsB B b l w' := by
  have go : ∀ p, Lib.BuilderAtF 63 5 B b p (Lib.byteCells l) w → Lib.BuilderAtF 63 5 B b p (Lib.byteCells l) w' := fun p h => by
    have hlt := h.lt
    obtain ⟨hB, v, hb, hown, hne⟩ := h
    refine ⟨hB, v, (k.block b hlt).trans hb, ⟨hown.1, ?_⟩, hne⟩
    rcases hown.2 with h1 | ⟨g, cap, cur, fz, h1, h2, h3, h4⟩
    · exact .inl h1
    · exact .inr ⟨g, cap, cur, fz, h1, h2, (k.block g (Array.getElem?_eq_some_iff.1 h3).1).trans h3, h4⟩
  exact h.imp (go _) (go _)
theorem IsB.lt {B b : Nat} {l : List UInt8} {w : World} (h : IsB B b l w) : b < w.heap.size := h.elim (fun h => h.lt) (fun h => h.lt)
theorem size63 : (Tryd.prog.info? 63).map (·.size) = some 2 := by kernel_rfl
theorem lies63 : liesAt Tryd.prog Tryd.prog.depth 63 (2 / Tryd.prog.cellsOf 63) 0 63 1 = true := by kernel_rfl
set_option maxHeartbeats 2000000 in
set_option maxRecDepth 100000 in
theorem copyCheck_fresh (b : Nat) (w : World) (c0 : w.cell? ⟨b, 0, none⟩ = some (.pointer none)) (hfz : w.frozen? ⟨b, 0, none⟩ = false) (hsh : w.shape? b = some (63, 2)) :
    Calls Tryd.prog 58 #[.pointer (some ⟨b, 0, none⟩)] w fun e w' => e = .returned (.tuple #[]) ∧ w' = w.setCell ⟨b, 0, none⟩ (.pointer (some ⟨b, 0, none⟩)) := by
  obtain ⟨j, hj, hjs⟩ := Option.map_eq_some_iff.1 size63
  go_enter Tryd.func58, Tryd.ntmps58
  go_wp2
  rw [Lib.run_to_unsafe w ⟨b, 0, none⟩ Tryd.underlying60 Tryd.underlying124 hj (by rw [hjs]; decide) hsh (Nat.zero_lt_succ 1)]
  simp only [Result.andThen]
  rw [Oper.upon_value]
  go_wp2
  rw [run_callFunc_extern Tryd.func75 (by kernel_rfl) (by kernel_rfl) (by kernel_rfl) (e := Extern.AbiNoEscape.same) (by kernel_rfl)]
  rw [Lib.run_noEscape]
  simp only [Result.andThen]
  rw [Oper.upon_value]
  go_wp2
  rw [Lib.run_from_unsafe w ⟨b, 0, none⟩ Tryd.underlying124 Tryd.underlying60 hj hsh lies63]
  simp only [Result.andThen]
  rw [Oper.upon_value]
  go_wp2
  go_end0
  exact ⟨rfl, rfl⟩
set_option maxHeartbeats 2000000 in
set_option maxRecDepth 100000 in
theorem copyCheck_used (b : Nat) (w : World) (h0 : w.cell? ⟨b, 0, none⟩ = some (.pointer (some ⟨b, 0, none⟩))) :
    Calls Tryd.prog 58 #[.pointer (some ⟨b, 0, none⟩)] w fun e w' => e = .returned (.tuple #[]) ∧ w' = w := by
  obtain ⟨j, hj, _⟩ := Option.map_eq_some_iff.1 size63
  go_enter Tryd.func58, Tryd.ntmps58
  go_wp2
  rw [Lib.run_neq_ptr_same w _ Tryd.underlying60 hj]
  go_wp2
  go_end0
  exact ⟨rfl, rfl⟩
theorem copyCheck_walk (B b : Nat) (bs : List Value) (w : World) (h : Lib.IsBuilderF 63 5 B b bs w) :
    Calls Tryd.prog 58 #[.pointer (some ⟨b, 0, none⟩)] w fun e w' => e = .returned (.tuple #[]) ∧ (Lib.BuilderAtF 63 5 B b (.pointer (some ⟨b, 0, none⟩)) bs w' ∧ Below B w w') := by
  rcases h with h | h
  · refine (copyCheck_fresh b w h.cell0 h.frozen0 h.shape).mono ?_
    rintro e w' ⟨rfl, rfl⟩
    exact ⟨rfl, h.used _, (Below.refl B w).setCell (p := ⟨b, 0, none⟩) h.1 _⟩
  · refine (copyCheck_used b w h.cell0).mono ?_
    rintro e w' ⟨rfl, rfl⟩
    exact ⟨rfl, h, Below.refl B _⟩
set_option maxHeartbeats 2000000 in
set_option maxRecDepth 100000 in
theorem writeString_walk (B b : Nat) (l : List UInt8) (s : ByteArray) (w : World) (h : IsB B b l w) (hlen : l.length + s.size ≤ 140737488355328) (hBw : B ≤ w.heap.size) :
    Calls Tryd.prog 35 #[.pointer (some ⟨b, 0, none⟩), .string s] w fun e w' => e = .returned (.tuple #[.int .i64 s.size, .nilIface]) ∧ IsB B b (l ++ s.data.toList) w' ∧ Below B w w' := by
  obtain ⟨i0, hi, hz0, hz1, hz2⟩ := info_parts bytes5
  have hbl : (Lib.byteCells l).length = l.length := Lib.byteCells_length l
  go_enter Tryd.func35, Tryd.ntmps35
  go_wp2_with (go_at_call 58; refine (copyCheck_walk B b _ _ h).mono ?_)
  rintro e w1 ⟨rfl, h1, hb1⟩
  obtain ⟨hB, v, hbk, hown, hne⟩ := h1
  have c0 : w1.cell? ⟨b, 0, none⟩ = some (.pointer (some ⟨b, 0, none⟩)) := by rw [Lib.cell_of_heap hbk]; rfl
  have c1 : w1.cell? ⟨b, 1, none⟩ = some v := by rw [Lib.cell_of_heap hbk]; rfl
  go_wp2_with (at_builtin; refine Lib.wpList_append_own_stringF _ rfl _ _ 61 9 rfl B 5 i0 Tryd.underlying61 Tryd.underlying9 hi hz0 hz1 hz2 _ _ _ rfl hown s rfl ?c3 ?c4 ?c5 ?_)
  case c3 => unfold maxLen; omega
  case c4 => omega
  case c5 => have := hb1.size; omega
  intro v' w2 hown' hgrow _
  have hlt : b < w1.heap.size := by
    rcases Nat.lt_or_ge b w1.heap.size with h' | h'
    · exact h'
    · simp [Array.getElem?_eq_none h'] at hbk
  have hb2 : w2.heap[b]? = some (.cells #[.pointer (some ⟨b, 0, none⟩), v] 63 (0, 0)) := by
    rw [hgrow.block b hlt (fun e => hne e.symm)]
    exact hbk
  have d0 : w2.cell? ⟨b, 0, none⟩ = some (.pointer (some ⟨b, 0, none⟩)) := by rw [Lib.cell_of_heap hb2]; rfl
  have d1 : w2.cell? ⟨b, 1, none⟩ = some v := by rw [Lib.cell_of_heap hb2]; rfl
  have f1 : w2.frozen? ⟨b, 1, none⟩ = false := Lib.frozen_of_heap hb2 1
  obtain ⟨ao, n', cap, rfl⟩ : ∃ ao n' cap, v' = .slice ao n' cap := by
    rcases hown'.2 with ⟨hv, _⟩ | ⟨g, cap, cur, fz, hv, _⟩
    · exact ⟨_, _, _, hv⟩
    · exact ⟨_, _, _, hv⟩
  go_wp2
  go_ret2
  refine ⟨rfl, .inr ?_, ?_⟩
  · rw [Lib.byteCells_append]
    exact Lib.BuilderAtF.put (T := 63) (e := 5) hB hb2 (bs' := Lib.byteCells l ++ Lib.strCells s) (by simpa [Lib.strCells_length, Lib.byteCells_length] using hown') (by decide)
  · exact (hb1.grown hgrow (by have := hb1.size; omega) (fun k hk => (hown.lt k hk).1)).setCell (p := ⟨b, 1, none⟩) hB _
end Go.Proofs.YtigaacbaaopfmaaDoor.sh
/- A word of 64 bits as text: the library's base 16, the program's and the document's, walked. -/
namespace Go.Proofs.YtigaacbaaopfmaaDoor.sh
open Go.RowKit
set_option linter.unusedVariables false
/-- A number's digits to the base 16. -/
def hexW (u : Nat) : List UInt8 := if h : u < 16 then [hexd u] else hexW (u / 16) ++ [hexd (u % 16)]
theorem hexW_small {u : Nat} (h : u < 16) : hexW u = [hexd u] := by rw [hexW, dif_pos h]
theorem hexW_big {u : Nat} (h : ¬ u < 16) : hexW u = hexW (u / 16) ++ [hexd (u % 16)] := by
  conv => lhs; rw [hexW, dif_neg h]
theorem hexW_len : ∀ (k u : Nat), u < 16 ^ (k + 1) → (hexW u).length ≤ k + 1
  | 0, u, h => by rw [hexW_small (by omega)]; simp
  | k + 1, u, h => by
    by_cases hu : u < 16
    · rw [hexW_small hu]; simp
    · rw [hexW_big hu]
      have := hexW_len k (u / 16) (by rw [Nat.pow_succ] at h; omega)
      simp only [List.length_append, List.length_cons, List.length_nil]
      omega
theorem hexW_len16 {u : Nat} (h : u < 18446744073709551616) : (hexW u).length ≤ 16 := hexW_len 15 u (by omega)
theorem and15w (u : Nat) (h : u < 18446744073709551616) : bits BinOp.and IntKind.u64 (u : Int) 15 = ((u % 16 : Nat) : Int) := by
  have e : (BitVec.ofInt 64 (u : Int) &&& BitVec.ofInt 64 15).toNat = u % 16 := by
    rw [BitVec.toNat_and]
    have h1 : (BitVec.ofInt 64 (u : Int)).toNat = u := by rw [BitVec.toNat_ofInt]; omega
    have h2 : (BitVec.ofInt 64 15).toNat = 15 := by decide
    rw [h1, h2]
    exact Nat.and_two_pow_sub_one_eq_mod u 4
  show IntKind.u64.wrap ((BitVec.ofInt 64 (u : Int) &&& BitVec.ofInt 64 15).toNat : Int) = _
  rw [e]
  unfold IntKind.wrap
  have hs : IntKind.u64.signed = false := rfl
  have hb : IntKind.u64.bits = 64 := rfl
  simp only [hs, hb]
  simp
  omega
set_option maxHeartbeats 2000000 in
theorem pow2_walk (w : World) : Calls Tryd.prog 104 #[.int .i64 16] w fun e w' => e = .returned (.bool true) ∧ w' = w := by
  go_enter Tryd.func104, Tryd.ntmps104
  go_wp2
  go_ret
  exact ⟨rfl, rfl⟩
set_option maxHeartbeats 2000000 in
theorem tz_walk (w : World) (h : w.cell? ⟨6, 15, none⟩ = some (.int .u8 4)) : Calls Tryd.prog 117 #[.int .u64 16] w fun e w' => e = .returned (.int .i64 4) ∧ w' = w := by
  have e1 : IntKind.u64.wrap (bits BinOp.and IntKind.u64 16 (IntKind.u64.wrap (-16)) * 285870213051353865) / 288230376151711744 = 15 := by decide +kernel
  go_enter Tryd.func117, Tryd.ntmps117
  go_wp2
  go_ret
  exact ⟨rfl, rfl⟩
set_option maxHeartbeats 2000000 in
theorem tzs_walk (w : World) (h : w.cell? ⟨6, 15, none⟩ = some (.int .u8 4)) : Calls Tryd.prog 105 #[.int .u64 16] w fun e w' => e = .returned (.int .i64 4) ∧ w' = w := by
  go_enter Tryd.func105, Tryd.ntmps105
  go_wp2_with (go_at_call 117; (with_reducible refine (tz_walk _ h).mono ?_); rintro e w1 ⟨rfl, rfl⟩)
  go_ret
  exact ⟨rfl, rfl⟩
abbrev dgs36 : ByteArray := { data := #[48, 49, 50, 51, 52, 53, 54, 55, 56, 57, 97, 98, 99, 100, 101, 102, 103, 104, 105, 106, 107, 108, 109, 110, 111, 112, 113, 114, 115, 116, 117, 118, 119, 120, 121, 122] }
theorem dgs36_at (v : Nat) (hv : v < 16) (W : World) : (Instr.index 9 (.string dgs36) (.int .u64 (v : Int))).run Tryd.prog W = .ok (.int .u8 (hexd v).toNat) W := by
  have : ∀ v : Fin 16, (dgs36.data.toList[v.val]'(Nat.lt_of_lt_of_le v.isLt (by decide))) = hexd v.val := by decide
  rw [run_index_string (h := Tryd.underlying9), dif_pos (by show 0 ≤ (v : Int) ∧ (v : Int) < 36; omega)]
  have h := this ⟨v, hv⟩
  simp only at h
  rw [← h]
  rfl

theorem zero160 : Tryd.zeroCells160 = madeCells #[.int .u8 0] 65 := by kernel_rfl
theorem len160 : Tryd.prog.arrayLen 160 = 65 := by kernel_rfl
theorem elem160 : Tryd.prog.elem 160 = 5 := by kernel_rfl
theorem slice160 (W : World) (b k : Nat) (hk : k < 65) : (Instr.sliceAt 160 (.pointer (some ⟨b, 0, none⟩)) (some (.int .i64 (k : Int))) none none).run Tryd.prog W = .ok (.slice (some ⟨b, k, none⟩) (65 - k) (65 - k)) W := by
  have hu : Tryd.prog.underlying 160 = some (.array (Tryd.prog.arrayLen 160) (Tryd.prog.elem 160)) := by rw [len160, elem160]; exact Tryd.underlying160
  rw [run_sliceAt_array_l W 160 ⟨b, 0, none⟩ hu .i64 (k : Int) (by omega) (by rw [len160]; omega), elem160, Tryd.sizeOf5, len160]
  have h2 : (⟨b, 0, none⟩ : Addr).add k = ⟨b, k, none⟩ := by unfold Addr.add; split <;> simp_all
  simp only [Result.andThen, slicedAt, Int.toNat_natCast, Nat.mul_one, h2]
  rw [if_neg (by omega)]
theorem conv_row {W : World} {b i : Nat} {f : Nat → Value} {l : List UInt8} (h : W.rowIs b 160 65 f) (hl : i + l.length = 65) (hf : ∀ (j : Nat) (c : UInt8), l[j]? = some c → f (i + j) = .int .u8 (c.toNat : Int)) :
    (convert 61 9 (.slice (some ⟨b, i, none⟩) l.length l.length)).run Tryd.prog W = .ok (.string (B l)) W := by
  refine run_convert_bytes_back W 61 9 5 ⟨b, i, none⟩ l.length l Tryd.underlying61 Tryd.underlying5 Tryd.underlying9 (fun j hj => ?_)
  have hadd : (⟨b, i, none⟩ : Addr).add j = ⟨b, i + j, none⟩ := by unfold Addr.add; split <;> simp_all
  rw [hadd, h.cell (by omega), hf j _ (List.getElem?_eq_getElem hj)]
set_option maxHeartbeats 8000000 in
set_option maxRecDepth 100000 in
theorem formatBits_walk (w : World) (u : Nat) (hu : u < 18446744073709551616) (h : w.cell? ⟨6, 15, none⟩ = some (.int .u8 4)) :
    Calls Tryd.prog 91 #[.slice none 0 0, .int .u64 u, .int .i64 16, .bool false, .bool false] w fun e w' => e = .returned (.tuple #[.slice none 0 0, .string (B (hexW u))]) ∧ Below w.heap.size w w' := by
  have hlen := hexW_len16 hu
  obtain ⟨R, hR⟩ : ∃ R, hexW u = R := ⟨_, rfl⟩
  rw [hR] at hlen ⊢
  have hz : ∀ o, (w.alloc o).cell? ⟨6, 15, none⟩ = some (.int .u8 4) := fun o => cell_below h ((Below.refl w.heap.size w).alloc (Nat.le_refl _) o) (Nat.le_refl _)
  go_enter Tryd.func91, Tryd.ntmps91
  go_wp2_with (first
    | (go_at_call 104; (with_reducible refine (pow2_walk _).mono ?_); rintro e w1 ⟨rfl, rfl⟩)
    | (go_at_call 105; (with_reducible refine (tzs_walk _ (hz _)).mono ?_); rintro e w1 ⟨rfl, rfl⟩))
  go_loopg [1, 13] u (fun g v1 v13 wr => ∃ (i : Nat) (S : List UInt8) (f : Nat → Value), v1 = .int .u64 g ∧ v13 = .int .i64 i ∧ i + S.length = 65 ∧ g < 18446744073709551616 ∧ Aside0 (R = hexW g ++ S) ∧ wr.rowIs w.heap.size 160 65 f ∧ (∀ (j : Nat) (c : UInt8), S[j]? = some c → f (i + j) = .int .u8 (c.toNat : Int)) ∧ Below w.heap.size w wr)
  case atStart => exact ⟨65, [], fun _ => .int .u8 0, rfl, rfl, rfl, hu, ⟨by rw [← hR]; simp⟩, by rw [zero160]; exact World.rowIs_made w (.int .u8 0) 65 160, fun j c hj => by simp at hj, (Below.refl _ _).alloc (Nat.le_refl _) _⟩
  case round =>
    obtain ⟨i, S, f, rfl, rfl, hiS, hg, hA, row, hS, hB⟩ := hrel
    clear hz h hR hu
    have hSl : S.length + (hexW gk).length ≤ 16 := by
      have := congrArg List.length hA.out
      rw [List.length_append] at this
      omega
    obtain ⟨k, rfl⟩ : ∃ k, i = k + 1 := ⟨i - 1, by omega⟩
    have hk : k < 65 := by omega
    have hk1 : ((k + 1 : Nat) : Int) - 1 = (k : Int) := by omega
    have hkc := row.cell hk
    have hkf := row.frozen k
    by_cases hbig : gk < 16
    · have hlt : ¬ ((gk : Int) ≥ 16) := by omega
      have hidx := fun W => dgs36_at gk hbig W
      have hd := hexW_small hbig
      have row' := row.set k (.int .u8 (hexd gk).toNat)
      have hR' : Aside0 (R = hexd gk :: S) := ⟨by rw [hA.out, hd]; rfl⟩
      have hconv := conv_row (i := k) (l := R) row' (by rw [hR'.out, List.length_cons]; omega) (fun j c hj => by
        rw [hR'.out] at hj
        match j, hj with
        | 0, hj => simp at hj; subst hj; simp
        | j + 1, hj =>
          simp only [List.getElem?_cons_succ] at hj
          have := hS j c hj
          have hne : k + (j + 1) ≠ k := by omega
          simp only [hne, if_false]
          rw [show k + (j + 1) = k + 1 + j by omega]; exact this)
      have hRl : R.length = 65 - k := by rw [hR'.out, List.length_cons]; omega
      rw [hRl] at hconv
      have hsl := fun W => slice160 W w.heap.size k hk
      clear hS hA hSl hd
      go_wp2
      go_ret2
      exact ⟨rfl, hB.setCell (p := ⟨w.heap.size, k, none⟩) (Nat.le_refl _) _⟩
    · have hlt : ((gk : Int) ≥ 16) := by omega
      have hidx := fun W => dgs36_at (gk % 16) (by omega) W
      have hand := and15w gk hg
      have hmod : ((gk % 16 : Nat) : Int) = (gk : Int) % 16 := by omega
      rw [hmod] at hidx hand
      clear hmod
      have hR' : Aside0 (R = hexW (gk / 16) ++ hexd (gk % 16) :: S) := ⟨by rw [hA.out, hexW_big hbig, List.append_assoc]; rfl⟩
      have row' := row.set k (.int .u8 (hexd (gk % 16)).toNat)
      have HS : Aside0 (∀ (j : Nat) (c : UInt8), (hexd (gk % 16) :: S)[j]? = some c → (if k + j = k then Value.int .u8 ((hexd (gk % 16)).toNat : Int) else f (k + j)) = .int .u8 (c.toNat : Int)) := ⟨fun j c hj => by
        match j, hj with
        | 0, hj => simp at hj; subst hj; simp
        | j + 1, hj =>
          simp only [List.getElem?_cons_succ] at hj
          have := hS j c hj
          have hne : k + (j + 1) ≠ k := by omega
          simp only [hne, if_false]
          rw [show k + (j + 1) = k + 1 + j by omega]; exact this⟩
      clear hS hA hSl
      generalize hexd (gk % 16) = x at hidx hR' row' HS
      go_wp2
      go_roundg (gk / 16)
      case measure => omega
      case rel => exact ⟨k, x :: S, _, by go_num, by go_num, by simp only [List.length_cons]; omega, by omega, hR', row', HS.out, hB.setCell (p := ⟨w.heap.size, k, none⟩) (Nat.le_refl _) _⟩
end Go.Proofs.YtigaacbaaopfmaaDoor.sh
/- Words of 64 bits and lists of numbers as text, the program's and the document's, walked. -/
namespace Go.Proofs.YtigaacbaaopfmaaDoor.sh
open Go.RowKit
set_option linter.unusedVariables false
/-- What a call may rely on, the table of base 16 with it. -/
structure Base3 (w : World) : Prop where
  base : Base w
  db : w.cell? ⟨6, 15, none⟩ = some (.int .u8 4)
theorem Base3.below {w w' : World} (h : Base3 w) (k : Below w.heap.size w w') : Base3 w' := ⟨h.base.below k, cell_below h.db k (Nat.le_refl _)⟩
set_option maxHeartbeats 2000000 in
theorem formatUint_in (w : World) (u : Nat) (hu : u < 18446744073709551616) (h : Base3 w) : Calls Tryd.prog 76 #[.int .u64 u, .int .i64 16] w fun e w' => e = .returned (.string (B (hexW u))) ∧ Below w.heap.size w w' := by
  have c := formatBits_walk w u hu h.db
  go_enter Tryd.func76, Tryd.ntmps76
  go_wp2_with (go_at_call 91; (with_reducible refine c.mono ?_); rintro e w1 ⟨rfl, b1⟩)
  go_ret
  exact ⟨rfl, b1⟩
set_option maxHeartbeats 2000000 in
theorem formatUint_walk (w : World) (u : Nat) (hu : u < 18446744073709551616) (h : Base3 w) : Calls Tryd.prog 59 #[.int .u64 u, .int .i64 16] w fun e w' => e = .returned (.string (B (hexW u))) ∧ Below w.heap.size w w' := by
  have c := formatUint_in w u hu h
  go_enter Tryd.func59, Tryd.ntmps59
  go_wp2_with (go_at_call 76; (with_reducible refine c.mono ?_); rintro e w1 ⟨rfl, b1⟩)
  go_ret
  exact ⟨rfl, b1⟩
/-- A word as text. -/
def wordL (u : Nat) : List UInt8 := 48 :: 120 :: hexW u
def showW (u : Nat) : ByteArray := B (32 :: wordL u)
theorem wordL_len {u : Nat} (hu : u < 18446744073709551616) : (wordL u).length ≤ 18 := by
  have := hexW_len16 hu
  simp only [wordL, List.length_cons]; omega
set_option maxHeartbeats 2000000 in
theorem showWord_walk (w : World) (u : Nat) (hu : u < 18446744073709551616) (h : Base3 w) : Calls Tryd.prog 36 #[.int .u64 u] w fun e w' => e = .returned (.string (showW u)) ∧ Below w.heap.size w w' := by
  have c := formatUint_walk w u hu h
  have hl : (B (hexW u)).size ≤ 16 := by rw [B_size]; exact hexW_len16 hu
  have hR : showW u = B [32, 48, 120] ++ B (hexW u) := by rw [B_add]; rfl
  rw [hR]
  clear hR
  generalize B (hexW u) = s at c hl ⊢
  go_enter Tryd.func36, Tryd.ntmps36
  go_wp2_with (go_at_call 59; (with_reducible refine c.mono ?_); rintro e w1 ⟨rfl, b1⟩)
  go_ret
  exact ⟨rfl, b1⟩
def hexI (u : Nat) : List UInt8 := if u < 16 then [] else hexW (u / 16)
theorem hexW_snoc (u : Nat) : hexW u = hexI u ++ [hexd (u % 16)] := by
  unfold hexI
  split
  · next h => rw [hexW_small h, Nat.mod_eq_of_lt h]; rfl
  · next h => exact hexW_big h
set_option maxHeartbeats 8000000 in
theorem word_walk (w : World) (u : Nat) (hu : u < 18446744073709551616) : Calls Tryd.prog 39 #[.int .u64 u] w fun e w' => e = .returned (.string (B (wordL u))) ∧ Below w.heap.size w w' := by
  have hlen := hexW_len16 hu
  obtain ⟨R, hR⟩ : ∃ R, hexW u = R := ⟨_, rfl⟩
  have hres : B (wordL u) = B [48, 120] ++ B R := by rw [B_add, ← hR]; rfl
  rw [hres]
  rw [hR] at hlen
  clear hres
  obtain ⟨x0, hx0⟩ : ∃ x, hexd (u % 16) = x := ⟨_, rfl⟩
  have c0 := fun wq => hex_walk wq (u % 16) (by omega)
  have hm0 : ((u % 16 : Nat) : Int) = (u : Int) % 16 := by omega
  rw [hx0, hm0] at c0
  clear hm0
  have v0 := fun W : World => conv1 W x0
  have A0 : Aside0 (R = hexI u ++ [x0]) := ⟨by rw [← hR, ← hx0]; exact hexW_snoc u⟩
  clear hR hx0
  go_enter Tryd.func39, Tryd.ntmps39
  go_wp2_with (go_at_call 57; (with_reducible refine (c0 _).mono ?_); rintro e w1 ⟨rfl, hw1⟩; rw [hw1]; clear hw1 w1)
  go_loopg [0, 3] u (fun g v0 v3 wr => ∃ (S : List UInt8), v0 = .int .u64 g ∧ v3 = .string (B S) ∧ g < 18446744073709551616 ∧ Aside0 (R = hexI g ++ S) ∧ Below w.heap.size w wr)
  case atStart => exact ⟨[x0], rfl, rfl, hu, A0, (Below.refl _ _).alloc (Nat.le_refl _) _⟩
  case round =>
    obtain ⟨S, rfl, rfl, hg, hA, hB⟩ := hrel
    clear c0 v0 A0 hu
    have hSl : S.length ≤ 16 := by
      have := congrArg List.length hA.out
      rw [List.length_append] at this
      omega
    by_cases hbig : gk < 16
    · have hlt : ¬ ((gk : Int) ≥ 16) := by omega
      have HR : Aside0 (R = S) := ⟨by rw [hA.out]; unfold hexI; rw [if_pos hbig]; rfl⟩
      have hsz : (B S).size ≤ 16 := by rw [B_size]; exact hSl
      have e0 := fun W : World => run_string_add_sum (P := Tryd.prog) W (B [48, 120]) (B S) (by rw [B_size, B_size]; simp only [List.length_cons, List.length_nil]; omega)
      have HS : Aside0 (B R = B S) := ⟨by rw [HR.out]⟩
      clear hA HR
      simp only [B, List.toArray] at e0
      generalize B S = s at hsz HS
      go_wp2
      go_ret
      exact ⟨by rw [HS.out]; rfl, hB⟩
    · have hlt : ((gk : Int) ≥ 16) := by omega
      obtain ⟨x, hx⟩ : ∃ x, hexd (gk / 16 % 16) = x := ⟨_, rfl⟩
      have c1 := fun wq => hex_walk wq (gk / 16 % 16) (by omega)
      have hm : ((gk / 16 % 16 : Nat) : Int) = (gk : Int) / 16 % 16 := by omega
      rw [hx, hm] at c1
      clear hm
      have v1 := fun W : World => conv1 W x
      have A1 : Aside0 (R = hexI (gk / 16) ++ (x :: S)) := ⟨by
        rw [hA.out, ← hx]
        have : hexI gk = hexI (gk / 16) ++ [hexd (gk / 16 % 16)] := by
          conv => lhs; unfold hexI
          rw [if_neg hbig]; exact hexW_snoc (gk / 16)
        rw [this, List.append_assoc]; rfl⟩
      have hsz : (B S).size ≤ 16 := by rw [B_size]; exact hSl
      have hsx : (B [x]).size = 1 := by rw [B_size]; rfl
      have hsum : B [x] ++ B S = B (x :: S) := by rw [B_add]; rfl
      clear hA hx hSl
      generalize B S = s at hsz hsum
      generalize B [x] = y at v1 hsx hsum
      go_wp2_with (go_at_call 57; (with_reducible refine (c1 _).mono ?_); rintro e w1 ⟨rfl, rfl⟩)
      go_roundg (gk / 16)
      case measure => omega
      case rel => exact ⟨x :: S, by go_num, by rw [← hsum], by omega, A1, hB.alloc hB.size _⟩
theorem ref_word {w : World} (u : Nat) (hu : u < 18446744073709551616) (r : ByteArray) (hr : B (wordL u) = r) : r.size ≤ 200 ∧ ∀ wq, Below w.heap.size w wq → Calls Tryd.prog 39 #[.int .u64 u] wq fun e w' => e = .returned (.string r) ∧ Below wq.heap.size wq w' := by
  subst hr
  refine ⟨?_, fun wq h => word_walk wq u hu⟩
  rw [B_size]
  have := wordL_len hu
  omega
theorem show_word {w : World} (hb : Base3 w) (u : Nat) (hu : u < 18446744073709551616) (r : ByteArray) (hr : showW u = r) : r.size ≤ 200 ∧ ∀ wq, Below w.heap.size w wq → Calls Tryd.prog 36 #[.int .u64 u] wq fun e w' => e = .returned (.string r) ∧ Below wq.heap.size wq w' := by
  subst hr
  refine ⟨?_, fun wq h => showWord_walk wq u hu (hb.below h)⟩
  unfold showW
  rw [B_size]
  have := wordL_len hu
  simp only [List.length_cons]
  omega
/-- The numbers l lie from ⟨b, o⟩ on. -/
def LI (w : World) (b o : Nat) (l : List Int) : Prop := ∀ (j : Nat) (x : Int), l[j]? = some x → w.cell? ⟨b, o + j, none⟩ = some (.int .i64 x)
theorem LI.below {B : Nat} {w w' : World} {b o : Nat} {l : List Int} (h : LI w b o l) (k : Below B w w') (hB : w.heap.size ≤ B) : LI w' b o l := fun j x hx => cell_below (h j x hx) k hB
/-- A slice leads to its elements; nil has no capacity. -/
structure Hd (ao : Option Addr) (n c b o : Nat) : Prop where
  lead : n = 0 ∨ ao = some ⟨b, o, none⟩
  bare : ao = none → c = 0
  cap : n ≤ c
/-- Numbers as text, each behind a blank. -/
def numsL (l : List Int) : List UInt8 := l.flatMap fun n => 32 :: Lib.itoa n
def Ins (l : List Int) : Prop := ∀ x ∈ l, In64 x
theorem numsL_snoc (l : List Int) (x : Int) : numsL (l ++ [x]) = numsL l ++ (32 :: Lib.itoa x) := by simp [numsL]
theorem numsL_len : ∀ {l : List Int}, Ins l → (numsL l).length ≤ 101 * l.length
  | [], _ => by simp [numsL]
  | x :: l, h => by
    have h1 := numsL_len (l := l) (fun y hy => h y (List.mem_cons_of_mem _ hy))
    have h2 := h x (List.mem_cons_self ..)
    have h3 := itoa_len h2.1 h2.2
    show ((32 :: Lib.itoa x) ++ numsL l).length ≤ _
    simp only [List.length_append, List.length_cons]
    omega
theorem take_next {α : Type} {l : List α} {k : Nat} {x : α} (h : l[k]? = some x) : l.take (k + 1) = l.take k ++ [x] := by
  obtain ⟨hk, rfl⟩ := List.getElem?_eq_some_iff.1 h
  exact List.take_succ_eq_append_getElem hk
theorem Ins.take {l : List Int} (h : Ins l) (k : Nat) : Ins (l.take k) := fun x hx => h x (List.mem_of_mem_take hx)
set_option maxHeartbeats 8000000 in
theorem showNumbers_walk (w : World) (ao : Option Addr) (c b o : Nat) (l : List Int) (hb : Base w) (hd : Hd ao l.length c b o) (hl : LI w b o l) (hi : Ins l) (hn : l.length ≤ 2000000) :
    Calls Tryd.prog 60 #[.slice ao l.length c] w fun e w' => e = .returned (.string (B (numsL l))) ∧ Below w.heap.size w w' := by
  obtain ⟨n, hnl⟩ : ∃ n, l.length = n := ⟨_, rfl⟩
  have hd' := hd
  rw [hnl] at hd' ⊢
  obtain ⟨R, hR⟩ : ∃ R, numsL l = R := ⟨_, rfl⟩
  rw [hR]
  have HR : Aside0 (numsL l = R) := ⟨hR⟩
  clear hR hd
  go_enter Tryd.func60, Tryd.ntmps60
  go_wp2
  go_loopg [8] n (fun g v8 wr => ∃ k : Nat, v8 = .int .i64 k ∧ k + g = n ∧ IsB w.heap.size w.heap.size (numsL (l.take k)) wr ∧ Below w.heap.size w wr)
  case atStart => exact ⟨0, rfl, by omega, Lib.IsBuilderF.of (Lib.fresh_isBuilder 63 5 w), (Below.refl _ _).alloc (Nat.le_refl _) _⟩
  case round =>
    obtain ⟨k, rfl, hkg, hI, hB⟩ := hrel
    by_cases hk : k < n
    · have hlt : (k : Int) < (n : Int) := by omega
      obtain ⟨g, rfl⟩ : ∃ g, gk = g + 1 := ⟨gk - 1, by omega⟩
      obtain ⟨x, hx⟩ : ∃ x, l[k]? = some x := ⟨_, List.getElem?_eq_getElem (by omega)⟩
      obtain rfl : ao = some ⟨b, o, none⟩ := by rcases hd'.lead with h | h; omega; exact h
      have hc : wr.cell? ⟨b, o + k, none⟩ = some (.int .i64 x) := cell_below (hl k x hx) hB (Nat.le_refl _)
      have hin := hi x (List.mem_of_getElem? hx)
      obtain ⟨r, hr⟩ : ∃ r, showN x = r := ⟨_, rfl⟩
      obtain ⟨hs, c1⟩ := show_num hb x hin r hr
      have HN : Aside0 (numsL (l.take (k + 1)) = numsL (l.take k) ++ r.data.toList) := ⟨by rw [take_next hx, numsL_snoc, ← hr, showN, B]⟩
      have hnl2 : (numsL (l.take k)).length ≤ 202000000 := by
        have := numsL_len (hi.take k)
        have h2 : (l.take k).length ≤ l.length := List.length_take_le' ..
        omega
      clear hr
      generalize numsL (l.take k) = M at hI HN hnl2
      go_wp2_with (first
        | (go_at_call 29; (with_reducible refine (c1 _ hB).mono ?_); rintro e w1 ⟨rfl, b1⟩; have hB1 : Below w.heap.size w w1 := below_next hB b1)
        | (go_at_call 35; (with_reducible refine (writeString_walk _ _ M r _ (hI.below b1) (by omega) hB1.size).mono ?_); rintro e w2 ⟨rfl, hI2, b2⟩))
      go_roundg g
      case measure => omega
      case rel => exact ⟨k + 1, by go_num, by omega, by rw [HN.out]; exact hI2, hB1.trans b2⟩
    · obtain rfl : k = n := by omega
      have hlt : ¬ (k : Int) < (k : Int) := by omega
      rw [List.take_of_length_le (by omega), HR.out] at hI
      go_wp2_with (go_at_call 38; (with_reducible refine (Tryd.Builder_String_any_f _ _ R _ hI hB.size).mono ?_); rintro e w2 ⟨rfl, _, b2⟩)
      go_ret
      exact ⟨rfl, hB.trans b2⟩
set_option maxHeartbeats 8000000 in
theorem numbers_walk (w : World) (ao : Option Addr) (c b o : Nat) (l : List Int) (hd : Hd ao l.length c b o) (hl : LI w b o l) (hi : Ins l) (hn : l.length ≤ 2000000) :
    Calls Tryd.prog 61 #[.slice ao l.length c] w fun e w' => e = .returned (.string (B (numsL l))) ∧ Below w.heap.size w w' := by
  obtain ⟨n, hnl⟩ : ∃ n, l.length = n := ⟨_, rfl⟩
  have hd' := hd
  rw [hnl] at hd' ⊢
  obtain ⟨R, hR⟩ : ∃ R, B (numsL l) = R := ⟨_, rfl⟩
  rw [hR]
  have HR : Aside0 (B (numsL l) = R) := ⟨hR⟩
  clear hR hd
  go_enter Tryd.func61, Tryd.ntmps61
  go_wp2
  go_loopg [3, 4] n (fun g v3 v4 wr => ∃ k : Nat, v4 = .int .i64 k ∧ k + g = n ∧ v3 = .string (B (numsL (l.take k))) ∧ Below w.heap.size w wr)
  case atStart => exact ⟨0, rfl, by omega, rfl, Below.refl _ _⟩
  case round =>
    obtain ⟨k, rfl, hkg, rfl, hB⟩ := hrel
    by_cases hk : k < n
    · have hlt : (k : Int) < (n : Int) := by omega
      obtain ⟨g, rfl⟩ : ∃ g, gk = g + 1 := ⟨gk - 1, by omega⟩
      obtain ⟨x, hx⟩ : ∃ x, l[k]? = some x := ⟨_, List.getElem?_eq_getElem (by omega)⟩
      obtain rfl : ao = some ⟨b, o, none⟩ := by rcases hd'.lead with h | h; omega; exact h
      have hc : wr.cell? ⟨b, o + k, none⟩ = some (.int .i64 x) := cell_below (hl k x hx) hB (Nat.le_refl _)
      have hin := hi x (List.mem_of_getElem? hx)
      obtain ⟨r, hr⟩ : ∃ r, B (Lib.itoa x) = r := ⟨_, rfl⟩
      have hs : r.size ≤ 200 := by rw [← hr, B_size]; have := itoa_len hin.1 hin.2; omega
      have c1 : ∀ wq, Calls Tryd.prog 33 #[.int .i64 x] wq fun e w' => e = .returned (.string r) ∧ Below wq.heap.size wq w' := fun wq => hr ▸ decimal_walk wq x hin.1 hin.2
      have HN : Aside0 (B (numsL (l.take (k + 1))) = B (numsL (l.take k)) ++ B [32] ++ r) := ⟨by rw [take_next hx, numsL_snoc, ← hr, B_add, B_add, List.append_assoc]; rfl⟩
      have hnl2 : (B (numsL (l.take k))).size ≤ 202000000 := by
        rw [B_size]
        have := numsL_len (hi.take k)
        have h2 : (l.take k).length ≤ l.length := List.length_take_le' ..
        omega
      clear hr
      generalize B (numsL (l.take k)) = M at HN hnl2
      go_wp2_with (go_at_call 33; (with_reducible refine (c1 _).mono ?_); rintro e w1 ⟨rfl, b1⟩)
      go_roundg g
      case measure => omega
      case rel => exact ⟨k + 1, by go_num, by omega, by rw [HN.out]; rfl, below_next hB b1⟩
    · obtain rfl : k = n := by omega
      have hlt : ¬ (k : Int) < (k : Int) := by omega
      rw [List.take_of_length_le (by omega), HR.out]
      go_wp2
      go_ret
      exact ⟨rfl, hB⟩
end Go.Proofs.YtigaacbaaopfmaaDoor.sh
