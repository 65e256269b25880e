/- The law's spread, walked. -/
import Derived.Test.YtigaacbaaopfmaaDoorLs2
import Derived.Test.YtigaacbaaopfmaaDoorPv
namespace Go.Proofs.YtigaacbaaopfmaaDoor.sh
open Go.RowKit
set_option linter.unusedVariables false
set_option linter.unusedSimpArgs false
/-- The slice v owns these bytes; ahead of base all is as in w0. -/
def BI (w0 : World) (base : Nat) (v : Value) (L : List UInt8) (w : World) : Prop := Below base w0 w ∧ base ≤ w.heap.size ∧ w.ownsRowF base 5 1 v L.length (bv L)
theorem BI.grown {w0 w w' : World} {base n : Nat} {v v' : Value} {L M : List UInt8} (h : BI w0 base v L w) (hg : w.grownBy w' v.ownBlock) (ho : w'.ownsRowF base 5 1 v' n (bv L ++ bv M)) (hn : n = (L ++ M).length) : BI w0 base v' (L ++ M) w' := by
  subst hn
  exact ⟨h.1.grown hg h.2.1 (fun k hk => (h.2.2.lt k hk).1), by have := hg.size; have := h.2.1; omega, by rw [bv_append]; exact ho⟩
theorem strCells_bv (s : ByteArray) : Lib.strCells s = bv s.data.toList := rfl
theorem wpList_appS {ops : Array Oper} {rest : List Oper} {o : Oper} {a : Act} {w0 w : World} {Q : Exit → Act → World → Prop} {base : Nat} {v : Value} {L : List UInt8} (hgd : o.guard = none) (sl x : Operand)
    (ho : o.op = .call { callee := .builtin .append, args := #[sl, x], argTypes := #[61, 9] }) (t : ByteArray) (hs : a.eval sl = v) (hx : a.eval x = .string t) (h : BI w0 base v L w) (hl : L.length + t.size ≤ 100000000000)
    (k : ∀ v' w', BI w0 base v' (L ++ t.data.toList) w' → wpList Tryd.prog ops Q rest (a.put o.dst v') w') : wpList Tryd.prog ops Q (o :: rest) a w := by
  obtain ⟨i0, hi, hz0, hz1, hz2⟩ := info_parts bytes5
  refine Lib.wpList_append_own_stringF w hgd sl x 61 9 ho base 5 i0 Tryd.underlying61 Tryd.underlying9 hi hz0 hz1 hz2 v L.length (bv L) hs h.2.2 t hx (by unfold maxLen; omega) (by omega) h.2.1 ?_
  intro v' w' own gr _
  have e : t.data.toList.length = t.size := by rw [Array.length_toList]; rfl
  exact k v' w' (h.grown gr (by rw [← strCells_bv]; exact own) (by rw [List.length_append, e]))
theorem wpList_appB {ops : Array Oper} {rest : List Oper} {o : Oper} {a : Act} {w0 w W : World} {Q : Exit → Act → World → Prop} {base : Nat} {v : Value} {L : List UInt8} (hgd : o.guard = none) (sl x : Operand)
    (ho : o.op = .call { callee := .builtin .append, args := #[sl, x], argTypes := #[61, 61] }) (c : UInt8) (hs : a.eval sl = v) (hx : a.eval x = .slice (some ⟨w.heap.size, 0, none⟩) 1 1) (h : BI w0 base v L w) (hl : L.length ≤ 100000000000)
    (hW : W = w.alloc (.cells #[.int .u8 (c.toNat : Int)] 5))
    (k : ∀ v' w', BI w0 base v' (L ++ [c]) w' → wpList Tryd.prog ops Q rest (a.put o.dst v') w') : wpList Tryd.prog ops Q (o :: rest) a W := by
  subst hW
  obtain ⟨i0, hi, hz0, hz1, hz2⟩ := info_parts bytes5
  have hB : BI w0 base v L (w.alloc (.cells #[.int .u8 (c.toNat : Int)] 5)) := ⟨h.1.alloc h.2.1 _, by rw [alsize]; have := h.2.1; omega, h.2.2.alloc _⟩
  refine wpList_append_ownF _ hgd sl x 61 ho base 5 i0 (.int .u8 0) 1 1 Tryd.underlying61 hi hz0 hz1 hz2 rfl (by decide) v L.length (bv L) hs hB.2.2 ⟨w.heap.size, 0, none⟩ 1 1 [.int .u8 (c.toNat : Int)] hx rfl (fun j u hj => ?_) (by intro u hu; simp at hu; subst hu; rfl) (by unfold maxLen; omega) (by omega) hB.2.1 ?_
  · have hadd : (⟨w.heap.size, 0, none⟩ : Addr).add j = ⟨w.heap.size, j, none⟩ := by unfold Addr.add; split <;> simp_all
    rw [hadd]
    have hb : (w.alloc (.cells #[.int .u8 (c.toNat : Int)] 5)).heap[w.heap.size]? = some (.cells #[.int .u8 (c.toNat : Int)] 5) := heap_alloc_new w _
    rw [cell_of_row _ _ _ _ _ _ hb]
    simpa using hj
  · intro v' w' own gr _
    exact k v' w' (hB.grown (M := [c]) gr own (by rw [List.length_append]; rfl))
theorem bi_back {w0 w : World} {base : Nat} {v : Value} {l : List UInt8} (h : BI w0 base v l w) (hl : l ≠ []) : (convert 61 9 v).run Tryd.prog w = .ok (.string (B l)) w := by
  rcases h.2.2.2 with ⟨_, h2⟩ | ⟨g, cap, cur, fz, rfl, _⟩
  · exact absurd (List.eq_nil_of_length_eq_zero h2) hl
  · exact run_convert_bytes_back w 61 9 5 ⟨g, 0, none⟩ cap l Tryd.underlying61 Tryd.underlying5 Tryd.underlying9 (fun j hj => by
      refine h.2.2.cells (g := g) rfl j _ ?_
      rw [bv, List.getElem?_map, List.getElem?_eq_getElem hj]; rfl)
theorem getS {l : List Int} {k : Nat} {x : Int} (h : l[k]? = some x) : l.getD k 0 = x := by rw [List.getD_eq_getElem?_getD, h]; rfl
set_option maxHeartbeats 8000000 in
set_option maxRecDepth 100000 in
theorem spread_walk (w : World) (s : ByteArray) (hs : s.size ≤ 400000000) (hne : s.data.toList ≠ []) (how : List Int) (ao : Option Addr) (ch g o : Nat) (sw : SW w 1 ao how.length ch g o (iv how)) (hh : how.length ≤ 2000000) :
    Calls Tryd.prog 24 #[.string s, .slice ao how.length ch] w fun e w' => e = .returned (.string (B (spL how 0 s.data.toList))) ∧ Below w.heap.size w w' := by
  obtain ⟨R, hR⟩ : ∃ R, B (spL how 0 s.data.toList) = R := ⟨_, rfl⟩
  rw [hR]
  obtain ⟨nh, hnh⟩ : ∃ n, how.length = n := ⟨_, rfl⟩
  rw [hnh] at sw hh ⊢
  have hsz : s.data.toList.length = s.size := by rw [Array.length_toList]; rfl
  obtain ⟨l, hl⟩ : ∃ l, s.data.toList = l := ⟨_, rfl⟩
  rw [hl] at hsz hR hne
  have HX : Aside0 (SW w 1 ao nh ch g o (iv how) ∧ how.length = nh ∧ l.length = s.size ∧ B (spL how 0 l) = R ∧ l ≠ [] ∧ s.data.toList = l) := ⟨sw, hnh, hsz, hR, hne, hl⟩
  clear hnh hsz hR sw hne hl
  obtain ⟨m, hm⟩ : ∃ m, w.heap.size = m := ⟨_, rfl⟩
  rw [hm]
  have HM : Aside0 (w.heap.size = m) := ⟨hm⟩
  have hB0 : BI w m (.slice none 0 0) [] w := ⟨Below.refl _ _, by omega, by simpa [bv] using World.ownsRowF_nil w m 5 1⟩
  clear hm
  obtain ⟨z, hz⟩ : ∃ z, s.size = z := ⟨_, rfl⟩
  have HZ : Aside0 (s.size = z) := ⟨hz⟩
  rw [hz] at hs
  have hlen : ∀ W, (Builtin.len_ #[9] 3 #[.string s]).run Tryd.prog W = (Builtin.len_ #[9] 3 #[.string s]).run Tryd.prog W := fun W => rfl
  clear hlen
  go_enter Tryd.func24, Tryd.ntmps24
  go_wp2
  go_loopg [5, 6, 7] z (fun q v5 v6 v7 wr => ∃ (i n : Nat) (v : Value), v7 = .int .i64 i ∧ v6 = .int .i64 n ∧ i + q = z ∧ v = v5 ∧ n = cntS how 0 (l.take i) ∧ BI w m v (spL how 0 (l.take i)) wr)
  case atStart => exact ⟨0, 0, _, rfl, rfl, by omega, rfl, rfl, hB0⟩
  case round =>
    clear hB0
    obtain ⟨i, n, v, rfl, rfl, hiq, rfl, hn, hI⟩ := hrel
    by_cases hi : i < z
    · obtain ⟨q, rfl⟩ : ∃ q, gk = q + 1 := ⟨gk - 1, by omega⟩
      have hil : (i : Int) < (z : Int) := by omega
      obtain ⟨c, hc⟩ : ∃ c, l[i]? = some c := ⟨_, List.getElem?_eq_getElem (by rw [HX.out.2.2.1, HZ.out]; exact hi)⟩
      have hx : ∀ W, (Instr.index 9 (.string s) (.int .i64 (i : Int))).run Tryd.prog W = .ok (.int .u8 (c.toNat : Int)) W := fun W => index_at s i c (by rw [HX.out.2.2.2.2.2]; exact hc) W
      have hcn : n ≤ 500000000 := by have := cntS_le how (l.take i) 0; have := List.length_take_le i l; omega
      have hLl : (spL how 0 (l.take i)).length ≤ 5000000000 := by have := spL_len how (l.take i) 0; have := List.length_take_le i l; omega
      have HS : Aside0 (spL how 0 (l.take (i + 1)) = spL how 0 (l.take i) ++ outS how n c ∧ cntS how 0 (l.take (i + 1)) = nxtS how n c) := ⟨by
        rw [take_next hc, spL_append, cntS_append, ← hn]
        exact ⟨by simp [spL], rfl⟩⟩
      clear hn
      generalize spL how 0 (l.take i) = L at hI hLl HS
      cases hhit : hitS how c with
      | false =>
        have HO : Aside0 (outS how n c = [c] ∧ nxtS how n c = n) := ⟨by
          unfold outS nxtS kS
          rw [hhit]
          exact ⟨by simp [preS, postS], by simp⟩⟩
        by_cases hnh : nh = 0
        · subst hnh
          clear hhit hc
          go_wp2_with (first
            | (at_builtin; refine wpList_appB rfl (.tmp 49) (.tmp 53) rfl c rfl rfl hI (by first | omega | (simp only [List.length_append, List.length_cons, List.length_nil]; omega)) rfl ?_; intro y wy hy))
          go_roundg q
          case measure => omega
          case rel => exact ⟨i + 1, n, y, by go_num, by go_num, by omega, rfl, by rw [HS.out.2, HO.out.2], by rw [HS.out.1, HO.out.1]; first | exact hy | (rw [← List.append_assoc]; exact hy)⟩
        · have hpos : (nh : Int) > 0 := by omega
          have hc1 : ((c.toNat : Int) == 32) = false := beq_eq_false_iff_ne.2 (fun e => by
            have : c = 32 := UInt8.toNat_inj.1 (by simp; omega)
            subst this
            unfold hitS at hhit
            have e2 : how.isEmpty = false := by cases how with | nil => exact absurd HX.out.2.1.symm hnh | cons => rfl
            rw [e2] at hhit; simp at hhit)
          have hc2 : ((c.toNat : Int) == 10) = false := beq_eq_false_iff_ne.2 (fun e => by
            have : c = 10 := UInt8.toNat_inj.1 (by simp; omega)
            subst this
            unfold hitS at hhit
            have e2 : how.isEmpty = false := by cases how with | nil => exact absurd HX.out.2.1.symm hnh | cons => rfl
            rw [e2] at hhit; simp at hhit)
          clear hhit hc
          go_wp2_with (first
            | (at_builtin; refine wpList_appB rfl (.tmp 49) (.tmp 53) rfl c rfl rfl hI (by first | omega | (simp only [List.length_append, List.length_cons, List.length_nil]; omega)) rfl ?_; intro y wy hy))
          go_roundg q
          case measure => omega
          case rel => exact ⟨i + 1, n, y, by go_num, by go_num, by omega, rfl, by rw [HS.out.2, HO.out.2], by rw [HS.out.1, HO.out.1]; first | exact hy | (rw [← List.append_assoc]; exact hy)⟩
      | true =>
        have hne : how ≠ [] ∧ (c = 32 ∨ c = 10) := by
          unfold hitS at hhit
          simp only [Bool.and_eq_true, Bool.not_eq_true', Bool.or_eq_true, beq_iff_eq] at hhit
          exact ⟨fun e => by rw [e] at hhit; simp at hhit, hhit.2⟩
        have hpos : 0 < nh := by rw [← HX.out.2.1]; exact List.length_pos_iff.2 hne.1
        have hpos' : (nh : Int) > 0 := by omega
        obtain ⟨r, hr⟩ : ∃ r, n % nh = r := ⟨_, rfl⟩
        have hrl : r < nh := by rw [← hr]; exact Nat.mod_lt _ hpos
        obtain ⟨k, hk⟩ : ∃ k, how[r]? = some k := ⟨_, List.getElem?_eq_getElem (by rw [HX.out.2.1]; exact hrl)⟩
        have hsw := HX.out.1
        obtain rfl : ao = some ⟨g, o, none⟩ := by rcases hsw.lead with h | h; omega; exact h
        have hck : wr.cell? ⟨g, o + r, none⟩ = some (.int .i64 k) := (hsw.below hI.1 (by rw [HM.out]; exact Nat.le_refl _)).cells r _ (iv_at hk)
        have hmod : (n : Int) % (nh : Int) = (r : Int) := by rw [← hr]; exact (Int.natCast_emod n nh).symm
        have hr0 : (0 : Int) ≤ (r : Int) := by omega
        have hr1 : (r : Int) < (nh : Int) := by omega
        have HK : Aside0 (kS how n c = k ∧ nxtS how n c = n + 1) := ⟨by
          unfold kS nxtS
          rw [hhit, HX.out.2.1, hr]
          exact ⟨by rw [if_pos rfl]; exact getS hk, by simp⟩⟩
        have hcc := hne.2
        clear hhit hne hk hr hsw hc
        rcases hcc with rfl | rfl
        · have hx : ∀ W, (Instr.index 9 (.string s) (.int .i64 (i : Int))).run Tryd.prog W = .ok (.int .u8 32) W := hx
          by_cases h1 : k = 1
          · subst h1
            have HO : Aside0 (outS how n 32 = [32] ++ [9]) := ⟨by unfold outS; rw [HK.out.1]; rfl⟩
            go_wp2_with (first
              | (at_builtin; refine wpList_appB rfl (.tmp 49) (.tmp 53) rfl 32 rfl rfl hI (by first | omega | (simp only [List.length_append, List.length_cons, List.length_nil]; omega)) rfl ?_; intro y wy hy)
              | (at_builtin; refine wpList_appB rfl (.tmp 58) (.tmp 59) rfl 9 rfl rfl hy (by first | omega | (simp only [List.length_append, List.length_cons, List.length_nil]; omega)) rfl ?_; intro x wx hx2))
            go_roundg q
            case measure => omega
            case rel => exact ⟨i + 1, n + 1, x, by go_num, by go_num, by omega, rfl, by rw [HS.out.2, HK.out.2], by rw [HS.out.1, HO.out]; first | exact hx2 | (rw [← List.append_assoc]; exact hx2)⟩
          · by_cases h2 : k = 2
            · subst h2
              have HO : Aside0 (outS how n 32 = [32] ++ [32, 32]) := ⟨by unfold outS; rw [HK.out.1]; rfl⟩
              go_wp2_with (first
                | (at_builtin; refine wpList_appB rfl (.tmp 49) (.tmp 53) rfl 32 rfl rfl hI (by first | omega | (simp only [List.length_append, List.length_cons, List.length_nil]; omega)) rfl ?_; intro y wy hy)
                | (at_builtin; refine wpList_appS rfl (.tmp 64) _ rfl ⟨#[32, 32]⟩ rfl rfl hy (by show _ + 2 ≤ _; first | omega | (simp only [List.length_append, List.length_cons, List.length_nil]; omega)) ?_; intro x wx hx2))
              go_roundg q
              case measure => omega
              case rel => exact ⟨i + 1, n + 1, x, by go_num, by go_num, by omega, rfl, by rw [HS.out.2, HK.out.2], by rw [HS.out.1, HO.out]; first | exact hx2 | (rw [← List.append_assoc]; exact hx2)⟩
            · have HO : Aside0 (outS how n 32 = [32]) := ⟨by unfold outS preS postS; rw [HK.out.1, if_neg (by intro h; exact absurd h.2 (by decide)), if_neg h1, if_neg h2, if_neg (by intro h; exact absurd h.2 (by decide)), if_neg (by intro h; exact absurd h.2 (by decide))]; rfl⟩
              have e1 : (k == 1) = false := by simpa using h1
              have e2 : (k == 2) = false := by simpa using h2
              by_cases h3 : k = 3
              · subst h3
                go_wp2_with (first
                  | (at_builtin; refine wpList_appB rfl (.tmp 49) (.tmp 53) rfl 32 rfl rfl hI (by first | omega | (simp only [List.length_append, List.length_cons, List.length_nil]; omega)) rfl ?_; intro y wy hy))
                go_roundg q
                case measure => omega
                case rel => exact ⟨i + 1, n + 1, y, by go_num, by go_num, by omega, rfl, by rw [HS.out.2, HK.out.2], by rw [HS.out.1, HO.out]; first | exact hy | (rw [← List.append_assoc]; exact hy)⟩
              · have e3 : (k == 3) = false := by simpa using h3
                by_cases h4 : k = 4
                · subst h4
                  go_wp2_with (first
                    | (at_builtin; refine wpList_appB rfl (.tmp 49) (.tmp 53) rfl 32 rfl rfl hI (by first | omega | (simp only [List.length_append, List.length_cons, List.length_nil]; omega)) rfl ?_; intro y wy hy))
                  go_roundg q
                  case measure => omega
                  case rel => exact ⟨i + 1, n + 1, y, by go_num, by go_num, by omega, rfl, by rw [HS.out.2, HK.out.2], by rw [HS.out.1, HO.out]; first | exact hy | (rw [← List.append_assoc]; exact hy)⟩
                · have e4 : (k == 4) = false := by simpa using h4
                  by_cases h5 : k = 5
                  · subst h5
                    go_wp2_with (first
                      | (at_builtin; refine wpList_appB rfl (.tmp 49) (.tmp 53) rfl 32 rfl rfl hI (by first | omega | (simp only [List.length_append, List.length_cons, List.length_nil]; omega)) rfl ?_; intro y wy hy))
                    go_roundg q
                    case measure => omega
                    case rel => exact ⟨i + 1, n + 1, y, by go_num, by go_num, by omega, rfl, by rw [HS.out.2, HK.out.2], by rw [HS.out.1, HO.out]; first | exact hy | (rw [← List.append_assoc]; exact hy)⟩
                  · have e5 : (k == 5) = false := by simpa using h5
                    go_wp2_with (first
                      | (at_builtin; refine wpList_appB rfl (.tmp 49) (.tmp 53) rfl 32 rfl rfl hI (by first | omega | (simp only [List.length_append, List.length_cons, List.length_nil]; omega)) rfl ?_; intro y wy hy))
                    go_roundg q
                    case measure => omega
                    case rel => exact ⟨i + 1, n + 1, y, by go_num, by go_num, by omega, rfl, by rw [HS.out.2, HK.out.2], by rw [HS.out.1, HO.out]; first | exact hy | (rw [← List.append_assoc]; exact hy)⟩
        · have hx : ∀ W, (Instr.index 9 (.string s) (.int .i64 (i : Int))).run Tryd.prog W = .ok (.int .u8 10) W := hx
          by_cases h1 : k = 1
          · subst h1
            have HO : Aside0 (outS how n 10 = [10] ++ [9]) := ⟨by unfold outS; rw [HK.out.1]; rfl⟩
            go_wp2_with (first
              | (at_builtin; refine wpList_appB rfl (.tmp 49) (.tmp 53) rfl 10 rfl rfl hI (by first | omega | (simp only [List.length_append, List.length_cons, List.length_nil]; omega)) rfl ?_; intro y wy hy)
              | (at_builtin; refine wpList_appB rfl (.tmp 58) (.tmp 59) rfl 9 rfl rfl hy (by first | omega | (simp only [List.length_append, List.length_cons, List.length_nil]; omega)) rfl ?_; intro x wx hx2))
            go_roundg q
            case measure => omega
            case rel => exact ⟨i + 1, n + 1, x, by go_num, by go_num, by omega, rfl, by rw [HS.out.2, HK.out.2], by rw [HS.out.1, HO.out]; first | exact hx2 | (rw [← List.append_assoc]; exact hx2)⟩
          · by_cases h2 : k = 2
            · subst h2
              have HO : Aside0 (outS how n 10 = [10] ++ [32, 32]) := ⟨by unfold outS; rw [HK.out.1]; rfl⟩
              go_wp2_with (first
                | (at_builtin; refine wpList_appB rfl (.tmp 49) (.tmp 53) rfl 10 rfl rfl hI (by first | omega | (simp only [List.length_append, List.length_cons, List.length_nil]; omega)) rfl ?_; intro y wy hy)
                | (at_builtin; refine wpList_appS rfl (.tmp 64) _ rfl ⟨#[32, 32]⟩ rfl rfl hy (by show _ + 2 ≤ _; first | omega | (simp only [List.length_append, List.length_cons, List.length_nil]; omega)) ?_; intro x wx hx2))
              go_roundg q
              case measure => omega
              case rel => exact ⟨i + 1, n + 1, x, by go_num, by go_num, by omega, rfl, by rw [HS.out.2, HK.out.2], by rw [HS.out.1, HO.out]; first | exact hx2 | (rw [← List.append_assoc]; exact hx2)⟩
            · have e1 : (k == 1) = false := by simpa using h1
              have e2 : (k == 2) = false := by simpa using h2
              by_cases h3 : k = 3
              · subst h3
                have HO : Aside0 (outS how n 10 = [10] ++ [10]) := ⟨by unfold outS; rw [HK.out.1]; rfl⟩
                go_wp2_with (first
                  | (at_builtin; refine wpList_appB rfl (.tmp 49) (.tmp 53) rfl 10 rfl rfl hI (by first | omega | (simp only [List.length_append, List.length_cons, List.length_nil]; omega)) rfl ?_; intro y wy hy)
                  | (at_builtin; refine wpList_appB rfl (.tmp 75) (.tmp 76) rfl 10 rfl rfl hy (by first | omega | (simp only [List.length_append, List.length_cons, List.length_nil]; omega)) rfl ?_; intro x wx hx2))
                go_roundg q
                case measure => omega
                case rel => exact ⟨i + 1, n + 1, x, by go_num, by go_num, by omega, rfl, by rw [HS.out.2, HK.out.2], by rw [HS.out.1, HO.out]; first | exact hx2 | (rw [← List.append_assoc]; exact hx2)⟩
              · have e3 : (k == 3) = false := by simpa using h3
                by_cases h4 : k = 4
                · subst h4
                  have HO : Aside0 (outS how n 10 = [10] ++ [9, 32, 35, 32, 108, 101, 110, 32, 49, 10]) := ⟨by unfold outS; rw [HK.out.1]; rfl⟩
                  go_wp2_with (first
                    | (at_builtin; refine wpList_appB rfl (.tmp 49) (.tmp 53) rfl 10 rfl rfl hI (by first | omega | (simp only [List.length_append, List.length_cons, List.length_nil]; omega)) rfl ?_; intro y wy hy)
                    | (at_builtin; refine wpList_appS rfl (.tmp 87) _ rfl ⟨#[9, 32, 35, 32, 108, 101, 110, 32, 49, 10]⟩ rfl rfl hy (by show _ + 10 ≤ _; first | omega | (simp only [List.length_append, List.length_cons, List.length_nil]; omega)) ?_; intro x wx hx2))
                  go_roundg q
                  case measure => omega
                  case rel => exact ⟨i + 1, n + 1, x, by go_num, by go_num, by omega, rfl, by rw [HS.out.2, HK.out.2], by rw [HS.out.1, HO.out]; first | exact hx2 | (rw [← List.append_assoc]; exact hx2)⟩
                · have e4 : (k == 4) = false := by simpa using h4
                  by_cases h5 : k = 5
                  · subst h5
                    have HO : Aside0 (outS how n 10 = [32, 35, 108, 105, 109, 105, 116, 32, 55, 32, 255] ++ [10]) := ⟨by unfold outS; rw [HK.out.1]; rfl⟩
                    go_wp2_with (first
                      | (at_builtin; refine wpList_appS rfl (.tmp 47) _ rfl ⟨#[32, 35, 108, 105, 109, 105, 116, 32, 55, 32, 255]⟩ rfl rfl hI (by show _ + 11 ≤ _; first | omega | (simp only [List.length_append, List.length_cons, List.length_nil]; omega)) ?_; intro p wp hp)
                      | (at_builtin; refine wpList_appB rfl (.tmp 49) (.tmp 53) rfl 10 rfl rfl hp (by first | omega | (simp only [List.length_append, List.length_cons, List.length_nil]; omega)) rfl ?_; intro y wy hy))
                    go_roundg q
                    case measure => omega
                    case rel => exact ⟨i + 1, n + 1, y, by go_num, by go_num, by omega, rfl, by rw [HS.out.2, HK.out.2], by rw [HS.out.1, HO.out]; first | exact hy | (rw [← List.append_assoc]; exact hy)⟩
                  · have e5 : (k == 5) = false := by simpa using h5
                    have HO : Aside0 (outS how n 10 = [10]) := ⟨by unfold outS preS postS; rw [HK.out.1, if_neg (fun h => h5 h.1), if_neg h1, if_neg h2, if_neg (fun h => h3 h.1), if_neg (fun h => h4 h.1)]; rfl⟩
                    go_wp2_with (first
                      | (at_builtin; refine wpList_appB rfl (.tmp 49) (.tmp 53) rfl 10 rfl rfl hI (by first | omega | (simp only [List.length_append, List.length_cons, List.length_nil]; omega)) rfl ?_; intro y wy hy))
                    go_roundg q
                    case measure => omega
                    case rel => exact ⟨i + 1, n + 1, y, by go_num, by go_num, by omega, rfl, by rw [HS.out.2, HK.out.2], by rw [HS.out.1, HO.out]; first | exact hy | (rw [← List.append_assoc]; exact hy)⟩
    · obtain rfl : i = z := by omega
      have hil : ¬ (i : Int) < (i : Int) := by omega
      rw [List.take_of_length_le (by rw [HX.out.2.2.1, HZ.out]; exact Nat.le_refl _)] at hI
      have hcv := bi_back hI (by
        have := HX.out.2.2.2.2.1
        cases hq : l with
        | nil => exact absurd hq this
        | cons c r => rw [spL]; unfold outS; simp)
      rw [HX.out.2.2.2.1] at hcv
      have hb := hI.1
      go_wp2
      go_ret
      exact ⟨rfl, hb⟩
end Go.Proofs.YtigaacbaaopfmaaDoor.sh
