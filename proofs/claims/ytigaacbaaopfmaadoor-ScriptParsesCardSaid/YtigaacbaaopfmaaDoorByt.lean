/- Answers' lines: bytes as text, the document's and the program's, walked. -/
import Derived.Test.YtigaacbaaopfmaaDoorDec
namespace Go.Proofs.YtigaacbaaopfmaaDoor.sh
open Go.RowKit
set_option linter.unusedVariables false
theorem info5 : (Tryd.prog.info? 5).map (fun i => (i.zero, i.size, i.bytes)) = some (some (.int .u8 0), 1, 1) := by kernel_rfl
def us (l : List UInt8) : List Value := l.map fun c => Value.int .u8 (c.toNat : Int)
theorem us_append (a b : List UInt8) : us (a ++ b) = us a ++ us b := by simp [us]
/-- An append of new bytes to a row of the call's own. -/
theorem app_run (w : World) (base ty n : Nat) (v : Value) (xs : List Value) (l : List UInt8) (hl : 0 < l.length) (hown : w.ownsRow base 5 1 v n xs) (h63 : n + l.length ≤ 140737488355328) (hbase : base ≤ w.heap.size) :
    ∃ v' w', (Builtin.append_ #[61, 61] ty #[v, .slice (some ⟨w.heap.size, 0, none⟩) l.length l.length]).run Tryd.prog (w.alloc (.cells (us l).toArray 5)) = .ok v' w' ∧ w'.ownsRow base 5 1 v' (n + l.length) (xs ++ us l) ∧ (w.alloc (.cells (us l).toArray 5)).grownBy w' v.ownBlock := by
  obtain ⟨i, hi, hz0, hz1, hz2⟩ := info_parts info5
  obtain ⟨v', w', h1, h2, h3, _⟩ := run_append_own (P := Tryd.prog) (w.alloc (.cells (us l).toArray 5)) base 61 ty 5 i (.int .u8 0) 1 1 Tryd.underlying61 hi hz0 hz1 hz2 rfl (by decide) v n xs (hown.alloc _) ⟨w.heap.size, 0, none⟩ l.length l.length (us l) (by simp [us])
    (fun j u hj => by
      have hadd : (⟨w.heap.size, 0, none⟩ : Addr).add j = ⟨w.heap.size, j, none⟩ := by unfold Addr.add; split <;> simp_all
      rw [hadd]
      have hb : (w.alloc (.cells (us l).toArray 5)).heap[w.heap.size]? = some (.cells (us l).toArray 5) := Array.getElem?_push_size
      rw [cell_of_row _ _ _ _ _ _ hb]
      simpa using hj)
    (by intro u hu; simp only [us, List.mem_map] at hu; obtain ⟨x, _, rfl⟩ := hu; rfl) (by unfold maxLen; omega) (by omega) (by simp; omega)
  exact ⟨v', w', h1, h2, h3⟩
theorem wpList_app {w W : World} {ops : Array Oper} {rest : List Oper} {o' : Oper} {a : Act} {Q : Exit → Act → World → Prop} (hgd : o'.guard = none) (s x : Operand)
    (ho : o'.op = .call { callee := .builtin .append, args := #[s, x], argTypes := #[61, 61] })
    (base n : Nat) (v : Value) (xs : List Value) (l : List UInt8) (hl : 0 < l.length) (hown : w.ownsRow base 5 1 v n xs) (hsv : a.eval s = v) (hx : a.eval x = .slice (some ⟨w.heap.size, 0, none⟩) l.length l.length)
    (h63 : n + l.length ≤ 140737488355328) (hbase : base ≤ w.heap.size) (hW : W = w.alloc (.cells (us l).toArray 5))
    (h : ∀ v' w', w'.ownsRow base 5 1 v' (n + l.length) (xs ++ us l) → (w.alloc (.cells (us l).toArray 5)).grownBy w' v.ownBlock → wpList Tryd.prog ops Q rest (a.put o'.dst v') w') : wpList Tryd.prog ops Q (o' :: rest) a W := by
  subst hW
  refine wpList_plain hgd fun K hK => ?_
  obtain ⟨v', w', hr, h2, h3⟩ := app_run w base o'.type n v xs l hl hown h63 hbase
  unfold Oper.wp execOp
  simp only [ho, resolve, invoke, builtin, Sem.run_bind, Sem.run_pure, Result.andThen_ok, List.map_toArray, List.map_cons, List.map_nil, hsv, hx, hr]
  exact hK _ _ (h v' w' h2 h3)
theorem step_app {w W : World} {ops : Array Oper} {o' : Oper} {a : Act} {K : Act → World → Prop} {Q : Exit → Act → World → Prop} {E : Prop} (hgd : o'.guard = none) (s x : Operand)
    (ho : o'.op = .call { callee := .builtin .append, args := #[s, x], argTypes := #[61, 61] })
    (base n : Nat) (v : Value) (xs : List Value) (l : List UInt8) (hl : 0 < l.length) (hown : w.ownsRow base 5 1 v n xs) (hsv : a.eval s = v) (hx : a.eval x = .slice (some ⟨w.heap.size, 0, none⟩) l.length l.length)
    (h63 : n + l.length ≤ 140737488355328) (hbase : base ≤ w.heap.size) (hW : W = w.alloc (.cells (us l).toArray 5))
    (h : ∀ v' w', w'.ownsRow base 5 1 v' (n + l.length) (xs ++ us l) → (w.alloc (.cells (us l).toArray 5)).grownBy w' v.ownBlock → K (a.put o'.dst v') w') :
    if Region.wanted o' (yielded ops a.tmps) = true then Oper.wp Tryd.prog o' a W K Q else E := by
  subst hW
  have hw : Region.wanted o' (yielded ops a.tmps) = true := by simp [Region.wanted, hgd]
  rw [if_pos hw]
  obtain ⟨v', w', hr, h2, h3⟩ := app_run w base o'.type n v xs l hl hown h63 hbase
  unfold Oper.wp execOp
  simp only [ho, resolve, invoke, builtin, Sem.run_bind, Sem.run_pure, Result.andThen_ok, List.map_toArray, List.map_cons, List.map_nil, hsv, hx, hr]
  exact h v' w' h2 h3
theorem below_app {w wr w1 : World} {l : List UInt8} {v : Value} {n : Nat} {xs : List Value} {b : Nat} (hbw : b = w.heap.size) (hB : Below b w wr) (hown : wr.ownsRow b 5 1 v n xs) (hg : (wr.alloc (.cells (us l).toArray 5)).grownBy w1 v.ownBlock) : Below b w w1 := by
  have := hB.size
  refine Below.grown (hB.alloc (by omega) _) hg (by simp; omega) (fun k hk => (hown.lt k hk).1)
/-- What a row of bytes reads as. -/
theorem conv_own {w : World} {base n : Nat} {v : Value} {l : List UInt8} (h : w.ownsRow base 5 1 v n (us l)) (hl : 0 < l.length) : ∃ g c, v = .slice (some ⟨g, 0, none⟩) n c ∧ (convert 61 9 v).run Tryd.prog w = .ok (.string (B l)) w := by
  have hn : n = l.length := by have := h.1; simp [us] at this; omega
  rcases h.2 with ⟨h1, h2⟩ | ⟨g, cap, cur, h1, h2, h3, h4, h5, h6, h7⟩
  · omega
  · refine ⟨g, cap, h1, ?_⟩
    rw [h1, hn]
    refine run_convert_bytes_back w 61 9 5 ⟨g, 0, none⟩ cap l Tryd.underlying61 Tryd.underlying5 Tryd.underlying9 (fun j hj => ?_)
    exact h.cells (g := g) (by rw [h1]; rfl) j _ (by simp [us, hj])
def hexL (l : List UInt8) : List UInt8 := l.flatMap fun c => [hexd (c.toNat / 16), hexd (c.toNat % 16)]
theorem hexL_length : ∀ l : List UInt8, (hexL l).length = 2 * l.length
  | [] => rfl
  | c :: l => by
    show (hexL l).length + 2 = _
    rw [hexL_length l, List.length_cons]; omega
theorem hexL_snoc (l : List UInt8) (c : UInt8) : hexL (l ++ [c]) = hexL l ++ [hexd (c.toNat / 16)] ++ [hexd (c.toNat % 16)] := by simp [hexL]
theorem take_snoc (s : ByteArray) (k : Nat) (hk : k < s.size) : s.data.toList.take (k + 1) = s.data.toList.take k ++ [s.data.toList[k]'hk] := List.take_succ_eq_append_getElem hk
/-- Bytes as text. -/
def bytesP (s : ByteArray) : List UInt8 := if s.size = 0 then [45] else hexL s.data.toList
theorem empty_iff (s : ByteArray) : s.toList = [] ↔ s.size = 0 := by
  rw [ByteArray.toList_eq]
  constructor
  · intro h; have := congrArg List.length h; simpa using this
  · intro h; exact List.eq_nil_of_length_eq_zero (by simpa using h)
set_option maxHeartbeats 8000000 in
theorem bytes_walk (w : World) (s : ByteArray) (hs : s.size ≤ 3000000) : Calls Tryd.prog 34 #[.string s] w fun e w' => e = .returned (.string (B (bytesP s))) ∧ Below w.heap.size w w' := by
  by_cases h0 : s.toList = []
  · have hr : bytesP s = [45] := by unfold bytesP; rw [if_pos ((empty_iff s).1 h0)]
    rw [hr]
    go_enter Tryd.func34, Tryd.ntmps34
    go_wp2
    go_ret
    exact ⟨rfl, Below.refl _ _⟩
  have hpos : 0 < s.size := by
    rcases Nat.eq_zero_or_pos s.size with h | h
    · exact absurd ((empty_iff s).2 h) h0
    · exact h
  have h0' : s.toList.isEmpty = false := by simpa using h0
  have HR : Aside0 (bytesP s = hexL s.data.toList) := ⟨by unfold bytesP; rw [if_neg (by omega)]⟩
  obtain ⟨R, hR⟩ : ∃ R, B (bytesP s) = R := ⟨_, rfl⟩
  rw [hR]
  have HRR : Aside0 (B (bytesP s) = R) := ⟨hR⟩
  clear hR
  have hnil := World.ownsRow_nil w w.heap.size 5 1
  go_enter Tryd.func34, Tryd.ntmps34
  go_wp2
  go_loopg [3, 4] s.size (fun g v3 v4 wr => ∃ k : Nat, v4 = .int .i64 k ∧ k + g = s.size ∧ wr.ownsRow w.heap.size 5 1 v3 (2 * k) (us (hexL (s.data.toList.take k))) ∧ Below w.heap.size w wr)
  case atStart => exact ⟨0, rfl, by omega, hnil, Below.refl _ _⟩
  case round =>
    obtain ⟨k, rfl, hkg, hown, hB⟩ := hrel
    clear hnil
    by_cases hk : k < s.size
    · have hlt : (k : Int) < (s.size : Int) := by omega
      obtain ⟨g, rfl⟩ : ∃ g, gk = g + 1 := ⟨gk - 1, by omega⟩
      have hidx : ∀ W, (Instr.index 9 (.string s) (.int .i64 k)).run Tryd.prog W = .ok (.int .u8 (s.data.toList[k]'hk).toNat) W := by
        intro W
        rw [run_index_string (h := Tryd.underlying9), dif_pos (by omega)]
        rfl
      have hts := take_snoc s k hk
      have hc := (s.data.toList[k]'hk).toNat_lt
      have hx1 := fun w => hex_walk w ((s.data.toList[k]'hk).toNat / 16) (by omega)
      have hx2 := fun w => hex_walk w ((s.data.toList[k]'hk).toNat % 16) (by omega)
      have HTS : Aside0 (hexL (s.data.toList.take (k + 1)) = hexL (s.data.toList.take k) ++ [hexd ((s.data.toList[k]'hk).toNat / 16)] ++ [hexd ((s.data.toList[k]'hk).toNat % 16)]) := ⟨by rw [hts, hexL_snoc]⟩
      clear hts
      generalize s.data.toList[k]'hk = c at hidx hc hx1 hx2 HTS
      rw [show ((c.toNat / 16 : Nat) : Int) = (c.toNat : Int) / 16 by omega] at hx1
      rw [show ((c.toNat % 16 : Nat) : Int) = (c.toNat : Int) % 16 by omega] at hx2
      generalize hexd (c.toNat / 16) = x1 at hx1 HTS
      generalize hexd (c.toNat % 16) = x2 at hx2 HTS
      generalize hexL (s.data.toList.take k) = L at hown HTS
      go_wp2_with (first
        | (go_at_call 57; (with_reducible refine (hx1 _).mono ?_); rintro e w1 ⟨rfl, rfl⟩)
        | (go_at_call 57; (with_reducible refine (hx2 _).mono ?_); rintro e w1 ⟨rfl, rfl⟩)
        | (at_builtin; (refine wpList_app rfl (.tmp 13) (.tmp 20) rfl w.heap.size (2 * k) _ (us L) [x1] (by simp) hown rfl rfl (by simp; omega) hB.size rfl ?_; intro v1 w1 own1 gr1; have bel1 := below_app rfl hB hown gr1))
        | (at_builtin; (refine wpList_app rfl (.tmp 22) (.tmp 29) rfl w.heap.size (2 * k + 1) v1 (us L ++ us [x1]) [x2] (by simp) own1 rfl rfl (by simp; omega) bel1.size rfl ?_; intro v2 w2 own2 gr2; have bel2 := below_app rfl bel1 own1 gr2)))
      go_roundg g
      case measure => omega
      case rel => exact ⟨k + 1, by go_num, by omega, by rw [HTS.out, us_append, us_append]; exact own2, bel2⟩
    · obtain rfl : k = s.size := by omega
      have hlt : ¬ (s.size : Int) < (s.size : Int) := by omega
      rw [List.take_of_length_le (l := s.data.toList) (i := s.size) (Nat.le_of_eq rfl)] at hown
      obtain ⟨gg, cc, rfl, hconv⟩ := conv_own hown (by rw [hexL_length]; show 0 < 2 * s.size; omega)
      have hB' : B (hexL s.data.toList) = R := by rw [← HR.out]; exact HRR.out
      rw [hB'] at hconv
      go_wp2
      go_ret
      exact ⟨rfl, hB⟩
/-- Bytes as text behind a blank. -/
def showB (s : ByteArray) : ByteArray := B (32 :: bytesP s)
abbrev dgs : ByteArray := { data := #[48, 49, 50, 51, 52, 53, 54, 55, 56, 57, 97, 98, 99, 100, 101, 102] }
theorem dgs_at (v : Nat) (hv : v < 16) (W : World) : (Instr.index 9 (.string dgs) (.int .u8 (v : Int))).run Tryd.prog W = .ok (.int .u8 (hexd v).toNat) W := by
  have : ∀ v : Fin 16, (dgs.data.toList[v.val]'(v.isLt)) = hexd v.val := by decide
  rw [run_index_string (h := Tryd.underlying9), dif_pos (by show 0 ≤ (v : Int) ∧ (v : Int) < 16; omega)]
  have h := this ⟨v, hv⟩
  simp only at h
  rw [← h]
  rfl
theorem own_two {w : World} {base n : Nat} {v : Value} {L M : List UInt8} {x1 x2 : UInt8} (h : w.ownsRow base 5 1 v (n + [x1, x2].length) (us (32 :: L) ++ us [x1, x2])) (hM : M = L ++ [x1] ++ [x2]) : w.ownsRow base 5 1 v (n + 2) (us (32 :: M)) := by
  subst hM
  have e : us (32 :: (L ++ [x1] ++ [x2])) = us (32 :: L) ++ us [x1, x2] := by simp [us]
  rw [e]; exact h
theorem and15 : ∀ c : Fin 256, bits BinOp.and IntKind.u8 ((c.val : Nat) : Int) 15 = ((c.val % 16 : Nat) : Int) := by decide +kernel
set_option maxHeartbeats 8000000 in
theorem showBytes_walk (w : World) (s : ByteArray) (hs : s.size ≤ 3000000) : Calls Tryd.prog 30 #[.string s] w fun e w' => e = .returned (.string (showB s)) ∧ Below w.heap.size w w' := by
  by_cases h0 : s.toList = []
  · have hr : showB s = B [32, 45] := by unfold showB bytesP; rw [if_pos ((empty_iff s).1 h0)]
    rw [hr]
    go_enter Tryd.func30, Tryd.ntmps30
    go_wp2
    go_ret
    exact ⟨rfl, Below.refl _ _⟩
  have hpos : 0 < s.size := by
    rcases Nat.eq_zero_or_pos s.size with h | h
    · exact absurd ((empty_iff s).2 h) h0
    · exact h
  have h0' : s.toList.isEmpty = false := by simpa using h0
  obtain ⟨R, hR⟩ : ∃ R, showB s = R := ⟨_, rfl⟩
  rw [hR]
  have HRR : Aside0 (B (32 :: hexL s.data.toList) = R) := ⟨by rw [← hR, showB, bytesP, if_neg (by omega)]⟩
  clear hR
  have hnil : (w.alloc (.cells #[.int .u8 32] 5)).ownsRow w.heap.size 5 1 (.slice (some ⟨w.heap.size, 0, none⟩) 1 1) 1 (us [32]) :=
    ⟨rfl, .inr ⟨w.heap.size, 1, #[.int .u8 32], rfl, Nat.le_refl _, heap_alloc_new w _, Nat.le_refl _, by unfold maxLen; omega, rfl, rfl⟩⟩
  have hB0 : Below w.heap.size w (w.alloc (.cells #[.int .u8 32] 5)) := (Below.refl _ _).alloc (Nat.le_refl _) _
  go_enter Tryd.func30, Tryd.ntmps30
  go_wp2
  go_loopg [3, 10] s.size (fun g v3 v4 wr => ∃ k : Nat, v4 = .int .i64 k ∧ k + g = s.size ∧ wr.ownsRow w.heap.size 5 1 v3 (1 + 2 * k) (us (32 :: hexL (s.data.toList.take k))) ∧ Below w.heap.size w wr)
  case atStart => exact ⟨0, rfl, by omega, hnil, hB0⟩
  case round =>
    obtain ⟨k, rfl, hkg, hown, hB⟩ := hrel
    clear hnil hB0
    by_cases hk : k < s.size
    · have hlt : (k : Int) < (s.size : Int) := by omega
      obtain ⟨g, rfl⟩ : ∃ g, gk = g + 1 := ⟨gk - 1, by omega⟩
      have hidx : ∀ W, (Instr.index 9 (.string s) (.int .i64 k)).run Tryd.prog W = .ok (.int .u8 (s.data.toList[k]'hk).toNat) W := by
        intro W
        rw [run_index_string (h := Tryd.underlying9), dif_pos (by omega)]
        rfl
      have hts := take_snoc s k hk
      have hc := (s.data.toList[k]'hk).toNat_lt
      have hx1 := fun w => dgs_at ((s.data.toList[k]'hk).toNat / 16) (by omega) w
      have hx2 := fun w => dgs_at ((s.data.toList[k]'hk).toNat % 16) (by omega) w
      have HTS : Aside0 (hexL (s.data.toList.take (k + 1)) = hexL (s.data.toList.take k) ++ [hexd ((s.data.toList[k]'hk).toNat / 16)] ++ [hexd ((s.data.toList[k]'hk).toNat % 16)]) := ⟨by rw [hts, hexL_snoc]⟩
      clear hts
      generalize s.data.toList[k]'hk = c at hidx hc hx1 hx2 HTS
      have hand : bits BinOp.and IntKind.u8 (c.toNat : Int) 15 = (c.toNat : Int) % 16 := by
        have := and15 ⟨c.toNat, hc⟩
        simp only at this
        omega
      rw [show ((c.toNat / 16 : Nat) : Int) = (c.toNat : Int) / 16 by omega] at hx1
      rw [show ((c.toNat % 16 : Nat) : Int) = (c.toNat : Int) % 16 by omega] at hx2
      generalize hexd (c.toNat / 16) = x1 at hx1 HTS
      generalize hexd (c.toNat % 16) = x2 at hx2 HTS
      generalize hexL (s.data.toList.take k) = L at hown HTS
      go_wp2
      go_region_law (refine step_app rfl (.tmp 13) (.tmp 24) rfl w.heap.size (1 + 2 * k) _ (us (32 :: L)) [x1, x2] (by simp) hown.drew (by simp [Act.eval]) (by simp [Act.eval]) (by simp; omega) hB.size rfl ?_; intro v1 w1 own1 gr1; have bel1 := below_app rfl hB.drew hown.drew gr1)
      all_goals go_wp2
      all_goals go_roundg g
      all_goals first | omega | exact ⟨k + 1, by go_num, by omega, own_two own1 HTS.out, bel1⟩
    · obtain rfl : k = s.size := by omega
      have hlt : ¬ (s.size : Int) < (s.size : Int) := by omega
      rw [List.take_of_length_le (l := s.data.toList) (i := s.size) (Nat.le_of_eq rfl)] at hown
      obtain ⟨gg, cc, rfl, hconv⟩ := conv_own hown (by simp)
      rw [HRR.out] at hconv
      go_wp2
      go_ret
      exact ⟨rfl, hB⟩
end Go.Proofs.YtigaacbaaopfmaaDoor.sh
