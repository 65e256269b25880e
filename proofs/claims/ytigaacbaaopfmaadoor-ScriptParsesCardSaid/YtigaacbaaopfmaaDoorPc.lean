/- The document's pieces of a line: walked. -/
import Derived.Test.YtigaacbaaopfmaaDoorRb
import Derived.Test.YtigaacbaaopfmaaDoorPa
namespace Go.Proofs.YtigaacbaaopfmaaDoor.sh
open Go.RowKit
set_option linter.unusedVariables false
/-- An append of new elements, just boxed, to a row of the call's own. -/
theorem wpList_new {w W : World} {ops : Array Oper} {rest : List Oper} {o' : Oper} {a : Act} {Q : Exit → Act → World → Prop} {T E size bytes : Nat} {z : Value} (hgd : o'.guard = none) (s x : Operand)
    (ho : o'.op = .call { callee := .builtin .append, args := #[s, x], argTypes := #[T, T] }) (hT : Tryd.prog.underlying T = some (.slice E))
    (hE : (Tryd.prog.info? E).map (fun i => (i.zero, i.size, i.bytes)) = some (some z, size, bytes)) (hzs : z.cells.size = size) (hsz : 0 < size)
    (base n : Nat) (v : Value) (xs : List Value) (m c : Nat) (news : List Value) (hl : news.length = m * size) (hown : w.ownsRow base E size v n xs) (hsv : a.eval s = v) (hx : a.eval x = .slice (some ⟨w.heap.size, 0, none⟩) m c)
    (h1 : ∀ u ∈ news, u.oneCell' = true) (h63 : n + m ≤ maxLen) (hby : (n + m) * bytes ≤ 140737488355328) (hbase : base ≤ w.heap.size) (hW : W = w.alloc (.cells news.toArray E))
    (h : ∀ v' w', w'.ownsRow base E size v' (n + m) (xs ++ news) → (w.alloc (.cells news.toArray E)).grownBy w' v.ownBlock → wpList Tryd.prog ops Q rest (a.put o'.dst v') w') : wpList Tryd.prog ops Q (o' :: rest) a W := by
  subst hW
  obtain ⟨i, hi, hz0, hz1, hz2⟩ := info_parts hE
  refine wpList_append_own (P := Tryd.prog) _ hgd s x T ho base E i z size bytes hT hi hz0 hz1 hz2 hzs hsz v n xs hsv (hown.alloc _) ⟨w.heap.size, 0, none⟩ m c news hx hl (fun j u hj => ?_) h1 h63 hby (by simp; omega) (fun v' w' h2 h3 _ => h v' w' h2 h3)
  have hadd : (⟨w.heap.size, 0, none⟩ : Addr).add j = ⟨w.heap.size, j, none⟩ := by unfold Addr.add; split <;> simp_all
  rw [hadd]
  have hb : (w.alloc (.cells news.toArray E)).heap[w.heap.size]? = some (.cells news.toArray E) := Array.getElem?_push_size
  rw [cell_of_row _ _ _ _ _ _ hb]
  simpa using hj
theorem below_new {w wr w1 : World} {E size : Nat} {news : List Value} {v : Value} {n : Nat} {xs : List Value} {b : Nat} (hbw : b = w.heap.size) (hB : Below b w wr) (hown : wr.ownsRow b E size v n xs) (hg : (wr.alloc (.cells news.toArray E)).grownBy w1 v.ownBlock) : Below b w w1 := by
  have := hB.size
  refine Below.grown (hB.alloc (by omega) _) hg (by simp; omega) (fun k hk => (hown.lt k hk).1)
theorem info9 : (Tryd.prog.info? 9).map (fun i => (i.zero, i.size, i.bytes)) = some (some (.string ⟨#[]⟩), 1, 16) := by kernel_rfl
/-- Texts as cells. -/
def ss (l : List (List UInt8)) : List Value := l.map fun x => Value.string (B x)
theorem ss_append (a b : List (List UInt8)) : ss (a ++ b) = ss a ++ ss b := by simp [ss]
/-- A row of texts of the call's own: its texts lie there. -/
theorem texts_own {w : World} {base n : Nat} {v : Value} {l : List (List UInt8)} (h : w.ownsRow base 9 1 v n (ss l)) (hl : l ≠ []) : ∃ b c, v = .slice (some ⟨b, 0, none⟩) l.length c ∧ LT w b 0 l := by
  have hn : n = l.length := by have := h.1; rw [ss, List.length_map] at this; omega
  rcases h.2 with ⟨h1, h2⟩ | ⟨g, cap, cur, h1, h2, h3, h4, h5, h6, h7⟩
  · have : l.length = 0 := by omega
    exact absurd (List.eq_nil_of_length_eq_zero this) hl
  · subst hn
    refine ⟨g, cap, h1, fun j x hx => ?_⟩
    have hj : j < l.length := (List.getElem?_eq_some_iff.1 hx).1
    unfold World.cell?
    rw [h3]
    have e : (ss l)[j]? = some (.string (B x)) := by rw [ss, List.getElem?_map, hx]; rfl
    rw [← h7, List.getElem?_take, if_pos (by omega)] at e
    show cur[0 + j]? = _
    rw [Nat.zero_add]
    simpa using e
theorem noB_take {s : List UInt8} {f k : Nat} (h : noB ((s.drop f).take (k - f)) = true) (hf : f ≤ k) {c : UInt8} (hc : s[k]? = some c) (h32 : c ≠ 32) : noB ((s.drop f).take (k + 1 - f)) = true := by
  have e : k + 1 - f = (k - f) + 1 := by omega
  have hc2 : (s.drop f)[k - f]? = some c := by rw [List.getElem?_drop, show f + (k - f) = k by omega]; exact hc
  rw [e, take_next hc2]
  unfold noB at h ⊢
  rw [List.all_append, h]
  simp [h32]
theorem split_at {s : List UInt8} {f k : Nat} (h : noB ((s.drop f).take (k - f)) = true) (hf : f ≤ k) (hc : s[k]? = some 32) : splitL (s.drop f) = (s.drop f).take (k - f) :: splitL (s.drop (k + 1)) := by
  have hc2 : (s.drop f)[k - f]? = some 32 := by rw [List.getElem?_drop, show f + (k - f) = k by omega]; exact hc
  obtain ⟨h1, h2⟩ := List.getElem?_eq_some_iff.1 hc2
  have e : s.drop f = (s.drop f).take (k - f) ++ 32 :: s.drop (k + 1) := by
    have e1 := List.take_append_drop (k - f) (s.drop f)
    have e2 : (s.drop f).drop (k - f) = 32 :: s.drop (k + 1) := by
      rw [List.drop_eq_getElem_cons h1, h2, List.drop_drop]
      congr 2; omega
    rw [e2] at e1
    exact e1.symm
  conv => lhs; rw [e]
  exact split_more _ _ h
theorem extract_B (s : ByteArray) (f k : Nat) : s.extract f k = B ((s.data.toList.drop f).take (k - f)) := by
  rw [← B_of (s.extract f k), Lib.extract_data]
def PiecesP (ws : List (List UInt8)) (w : World) (e : Ending) (w' : World) : Prop := ∃ b c, e = .returned (.slice (some ⟨b, 0, none⟩) ws.length c) ∧ LT w' b 0 ws ∧ Below w.heap.size w w'
set_option maxHeartbeats 4000000 in
set_option maxRecDepth 100000 in
theorem pieces_walk (w : World) (s : ByteArray) (hs : s.size ≤ 3000000) : Calls Tryd.prog 54 #[.string s] w (PiecesP (splitL s.data.toList) w) := by
  have HL : Aside0 (s.data.toList.length = s.size) := ⟨by rw [Array.length_toList]; rfl⟩
  have hnil := World.ownsRow_nil w w.heap.size 9 1
  go_enter Tryd.func54, Tryd.ntmps54
  go_wp2
  go_loopg [3, 4, 5] s.size (fun g v3 v4 v5 wr => ∃ (k f : Nat) (done : List (List UInt8)), v5 = .int .i64 k ∧ v4 = .int .i64 f ∧ k + g = s.size ∧ f ≤ k ∧ done.length ≤ k ∧ wr.ownsRow w.heap.size 9 1 v3 done.length (ss done) ∧ Aside0 (splitL s.data.toList = done ++ splitL (s.data.toList.drop f) ∧ noB ((s.data.toList.drop f).take (k - f)) = true) ∧ Below w.heap.size w wr)
  case atStart => exact ⟨0, 0, [], rfl, rfl, by omega, Nat.le_refl _, Nat.le_refl _, hnil, ⟨by simp, by rw [Nat.sub_self, List.take_zero]; rfl⟩, Below.refl _ _⟩
  case round =>
    obtain ⟨k, f, done, rfl, rfl, hkg, hfk, hdk, hown, hA, hB⟩ := hrel
    clear hnil
    obtain ⟨hsp, hnb⟩ := hA.out
    have hlen := HL.out
    by_cases hk : k < s.size
    · obtain ⟨g, rfl⟩ : ∃ g, gk = g + 1 := ⟨gk - 1, by omega⟩
      have hlt : (k : Int) < (s.size : Int) := by omega
      obtain ⟨c, hc⟩ : ∃ c, s.data.toList[k]? = some c := ⟨_, List.getElem?_eq_getElem (by omega)⟩
      have hi := index_at s k c hc
      have hk1 : k ≤ 3000000 := by omega
      by_cases h32 : c = 32
      · subst h32
        obtain ⟨u, hu⟩ : ∃ u, s.extract f k = u := ⟨_, rfl⟩
        have hsl : ∀ W, (Instr.slice 9 (.string s) (some (.int .i64 (f : Int))) (some (.int .i64 (k : Int))) none).run Tryd.prog W = .ok (.string u) W := fun W => by
          rw [run_slice_string (h := Tryd.underlying9) (h0 := by omega) (h1 := by omega) (h2 := by omega), ← hu, Int.toNat_natCast, Int.toNat_natCast]
        have A1 : Aside0 (splitL s.data.toList = (done ++ [(s.data.toList.drop f).take (k - f)]) ++ splitL (s.data.toList.drop (k + 1)) ∧ noB ((s.data.toList.drop (k + 1)).take (k + 1 - (k + 1))) = true) := ⟨by rw [hsp, split_at hnb hfk hc]; simp, by rw [Nat.sub_self, List.take_zero]; rfl⟩
        have HU : Aside0 (ss [(s.data.toList.drop f).take (k - f)] = [Value.string u]) := ⟨by rw [← hu, extract_B]; rfl⟩
        have HD : Aside0 ((done ++ [(s.data.toList.drop f).take (k - f)]).length = done.length + 1) := ⟨by simp⟩
        clear hsp hnb hA hc hlen hu
        generalize (s.data.toList.drop f).take (k - f) = piece at A1 HU HD
        have hi : ∀ W, (Instr.index 9 (.string s) (.int .i64 (k : Int))).run Tryd.prog W = .ok (.int .u8 32) W := hi
        go_wp2_with (at_builtin; (refine wpList_new (T := 74) (E := 9) (size := 1) (bytes := 16) rfl (.tmp 16) (.tmp 21) rfl Tryd.underlying74 info9 rfl (by decide) w.heap.size done.length _ (ss done) 1 1 [.string u] rfl hown rfl rfl (by intro x hx; simp at hx; subst hx; rfl) (by unfold maxLen; omega) (by omega) hB.size rfl ?_; intro v1 w3 own2 gr1; have bel1 := below_new rfl hB hown gr1))
        go_roundg g
        case measure => omega
        case rel => exact ⟨k + 1, k + 1, done ++ [piece], by go_num, by go_num, by omega, Nat.le_refl _, by rw [HD.out]; omega, by rw [HD.out, ss_append, HU.out]; exact own2, A1, bel1⟩
      · have hne : ((c.toNat : Int) == 32) = false := beq_eq_false_iff_ne.2 (fun e => h32 (by
          have h2 : c.toNat = (32 : UInt8).toNat := by
            have : (32 : UInt8).toNat = 32 := rfl
            omega
          exact UInt8.toNat_inj.1 h2))
        have A1 : Aside0 (splitL s.data.toList = done ++ splitL (s.data.toList.drop f) ∧ noB ((s.data.toList.drop f).take (k + 1 - f)) = true) := ⟨hsp, noB_take hnb hfk hc h32⟩
        clear hsp hnb hA hc hlen h32
        generalize c.toNat = cc at hi hne
        go_wp2
        go_roundg g
        case measure => omega
        case rel => exact ⟨k + 1, f, done, by go_num, rfl, by omega, by omega, by omega, hown, A1, hB⟩
    · obtain rfl : k = s.size := by omega
      have hlt : ¬ (s.size : Int) < (s.size : Int) := by omega
      obtain ⟨u, hu⟩ : ∃ u, s.extract f s.size = u := ⟨_, rfl⟩
      have hsl : ∀ W, (Instr.slice 9 (.string s) (some (.int .i64 (f : Int))) none none).run Tryd.prog W = .ok (.string u) W := fun W => by
        rw [run_slice_string_l (ht := Tryd.underlying9) (h0 := by omega) (h1 := by omega), ← hu, Int.toNat_natCast]
      have hnb2 : noB (s.data.toList.drop f) = true := by
        rw [List.take_of_length_le (by rw [List.length_drop]; omega)] at hnb; exact hnb
      have A1 : Aside0 (splitL s.data.toList = done ++ [s.data.toList.drop f]) := ⟨by rw [hsp, split_one _ hnb2]⟩
      have HU : Aside0 (ss [s.data.toList.drop f] = [Value.string u]) := ⟨by rw [← hu, extract_B, List.take_of_length_le (by rw [List.length_drop]; omega)]; rfl⟩
      clear hsp hnb hnb2 hA hlen hu
      have hk1 : s.size ≤ 3000000 := hs
      go_wp2_with (at_builtin; (refine wpList_new (T := 74) (E := 9) (size := 1) (bytes := 16) rfl (.tmp 25) (.tmp 29) rfl Tryd.underlying74 info9 rfl (by decide) w.heap.size done.length _ (ss done) 1 1 [.string u] rfl hown rfl rfl (by intro x hx; simp at hx; subst hx; rfl) (by unfold maxLen; omega) (by omega) hB.size rfl ?_; intro v1 w3 own2 gr1; have bel1 := below_new rfl hB hown gr1))
      rw [← HU.out, ← ss_append] at own2
      obtain ⟨b, cp, rfl, hlt2⟩ := texts_own own2 (by simp)
      go_ret
      exact ⟨b, cp, by rw [A1.out]; rfl, by rw [A1.out]; exact hlt2, bel1⟩
end Go.Proofs.YtigaacbaaopfmaaDoor.sh
