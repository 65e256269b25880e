/- OracleOvers' function, walked: whatever the overrides, the seed and the key, it answers true; nothing that was there turns. -/
import Derived.Test.YtabdkfmfenpkjaaDoorOvHash
namespace Go.Proofs.YtabdkfmfenpkjaaDoor.ov
open Go.RowKit Go.Maps Go.Proofs.YtabdkfmfenpkjaaDoorW.PrintWords
set_option linter.unusedVariables false
theorem own_nil (w : World) : (w.alloc (.cells #[] 44)).ownsRow w.heap.size 44 2 (.slice (some ⟨w.heap.size, 0, none⟩) 0 0) 0 [] := World.ownsRow_made w #[] 0 (Nat.le_refl _) (by unfold maxLen; omega) rfl
theorem own_set {w : World} {base n g : Nat} {v : Value} {l : List Ov} (h : w.ownsRow base 44 2 v n ([] ++ cellsL l)) (hn : v = .slice none 0 0 ↔ Value.slice (some ⟨g, 0, none⟩) 0 0 = .slice none 0 0 ∧ l = []) :
    ∃ c b, v = .slice (some ⟨b, 0, none⟩) l.length c ∧ Sov w (some ⟨b, 0, none⟩) l c b 0 := by
  rw [List.nil_append] at h
  obtain ⟨_, ao, c, b, h1, h2, _, h3⟩ := own_any h
  obtain ⟨_, rfl, _⟩ := h3 (fun e => by have := (hn.1 e).1; cases this)
  exact ⟨c, b, h1, h2⟩
set_option maxHeartbeats 8000000 in
set_option maxRecDepth 100000 in
theorem overs_many (w : World) (ao : Option Addr) (l : List Ov) (c b o : Nat) (seed : Int) (key : ByteArray) (hs : Sov w ao l c b o) (hwf : ∀ (j : Nat) (x : Ov), l[j]? = some x → (Lit.int .u64 x.2).wf = true) (h63 : l.length * 24 ≤ 140737488351232) (hmany : 64 < l.length) (hkey : key.size < 9223372036854775807)
    (g0 : w.cell? ⟨0, 0, none⟩ = some (.int .u64 13234230157428861123)) (g1 : w.cell? ⟨0, 1, none⟩ = some (.int .u64 11329751410908088055)) :
    Calls Tryd.prog 7 #[.slice ao l.length c, .int .u64 seed, .string key] w fun e w' => e = .returned (.bool true) ∧ Below w.heap.size w w' := by
  have hd : (64 : Int) < (l.length : Int) := by omega
  have hn : ncode l = 40 := by unfold ncode; rw [if_pos hmany]
  go_enter Tryd.func7, Tryd.ntmps7
  go_wp2_with (first
    | (at_builtin; (refine wpList_append rfl (.tmp 15) (.tmp 16) rfl w.heap.size 0 _ [] ao l c b o rfl rfl (own_nil w) (hs.below ((Below.refl _ _).alloc (Nat.le_refl _) _) (Nat.le_refl _)) (by unfold maxLen; omega) (by omega) (by simp) ?_; intro v1 w1 own1 gr1 nil1; have bel1 : Below w.heap.size w w1 := ((Below.refl _ _).alloc (Nat.le_refl _) (.cells #[] 44)).grown gr1 (by simp) (fun k hk => by cases hk; exact Nat.le_refl _); obtain ⟨cc1, gg1, rfl, hs1⟩ := own_set own1 nil1; clear own1 gr1 nil1))
    | (go_at_call 14; (with_reducible refine (new_walk w1 (some ⟨gg1, 0, none⟩) l cc1 gg1 0 hs1 hwf (by omega)).mono ?_); rintro e w2 ⟨v2, rfl, bel2, hbad, hgood⟩; rw [hn] at hbad hgood; obtain rfl := hbad (by decide)))
  refine wp_loop_rounds 1 ?_
  rw [rounds_succ]
  go_wp2
  go_ret
  exact ⟨rfl, bel1.trans (bel2.mono bel1.size)⟩
set_option maxHeartbeats 8000000 in
set_option maxRecDepth 100000 in
theorem overs_few (w : World) (ao : Option Addr) (l : List Ov) (c b o : Nat) (seed : Int) (key : ByteArray) (hs : Sov w ao l c b o) (hwf : ∀ (j : Nat) (x : Ov), l[j]? = some x → (Lit.int .u64 x.2).wf = true) (h63 : l.length * 24 ≤ 140737488351232) (hmany : l.length ≤ 64) (hkeys : ∀ (j : Nat) (x : Ov), l[j]? = some x → x.1.size ≤ maxLen) (hkey : key.size < 9223372036854775807)
    (g0 : w.cell? ⟨0, 0, none⟩ = some (.int .u64 13234230157428861123)) (g1 : w.cell? ⟨0, 1, none⟩ = some (.int .u64 11329751410908088055)) :
    Calls Tryd.prog 7 #[.slice ao l.length c, .int .u64 seed, .string key] w fun e w' => e = .returned (.bool true) ∧ Below w.heap.size w w' := by
  have hd : (l.length : Int) ≤ 64 := by omega
  have hn : ncode l = first [] l := by unfold ncode; rw [if_neg (by omega)]
  obtain ⟨nc, hnc⟩ : ∃ nc, ncode l = nc := ⟨_, rfl⟩
  have HN : Aside0 (nc = first [] l) := ⟨by rw [← hnc, hn]⟩
  clear hn
  go_enter Tryd.func7, Tryd.ntmps7
  go_wp2_with (first
    | (at_builtin; (refine wpList_append rfl (.tmp 15) (.tmp 16) rfl w.heap.size 0 _ [] ao l c b o rfl rfl (own_nil w) (hs.below ((Below.refl _ _).alloc (Nat.le_refl _) _) (Nat.le_refl _)) (by unfold maxLen; omega) (by omega) (by simp) ?_; intro v1 w1 own1 gr1 nil1; have bel1 : Below w.heap.size w w1 := ((Below.refl _ _).alloc (Nat.le_refl _) (.cells #[] 44)).grown gr1 (by simp) (fun k hk => by cases hk; exact Nat.le_refl _); obtain ⟨cc1, gg1, rfl, hs1⟩ := own_set own1 nil1; clear own1 gr1 nil1))
    | (go_at_call 14; (with_reducible refine (new_walk w1 (some ⟨gg1, 0, none⟩) l cc1 gg1 0 hs1 hwf (by omega)).mono ?_); rintro e w2 ⟨v2, rfl, bel2, hbad, hgood⟩; rw [hnc] at hbad hgood))
  clear hnc
  have belw : Below w.heap.size w w2 := bel1.trans (bel2.mono bel1.size)
  go_loopg [9, 10] l.length (fun g v9 v10 wr => ∃ (i : Nat) (want : Int), v9 = .int .i64 want ∧ v10 = .int .i64 i ∧ i + g = l.length ∧ Drawn0 w2 wr ∧ ((want = 0 ∧ first [] l = first (l.take i) (l.drop i)) ∨ (want = nc ∧ want ≠ 0)))
  case atStart => exact ⟨0, 0, rfl, rfl, by omega, Drawn0.refl _, .inl ⟨rfl, rfl⟩⟩
  case round =>
    obtain ⟨i, want, rfl, rfl, hig, ⟨nq, rfl⟩, hw⟩ := hrel
    by_cases hgo : i < l.length ∧ want = 0
    · obtain ⟨hi, rfl⟩ := hgo
      have hlt : (i : Int) < (l.length : Int) := by omega
      obtain ⟨g, rfl⟩ : ∃ g, gk = g + 1 := ⟨gk - 1, by omega⟩
      obtain ⟨x, hx⟩ : ∃ x, l[i]? = some x := ⟨_, List.getElem?_eq_getElem hi⟩
      have hF : first [] l = first (l.take i) (l.drop i) := hw.elim (fun h => h.2) (fun h => absurd rfl h.2)
      have hst := first_step (pre := []) hF hx
      have cf := fault_walk (w2.drewN nq) ao l c b o i x (hs.below (below_drewN belw _) (Nat.le_refl _)) hx (by omega)
      obtain ⟨fc, hfc⟩ : ∃ fc, fcode (l.take i) x = fc := ⟨_, rfl⟩
      rw [hfc] at cf hst
      have HST : Aside0 (first [] l = if fc = 0 then first (l.take (i + 1)) (l.drop (i + 1)) else fc) := ⟨hst⟩
      clear hw hF hst hfc hx
      go_wp2_with (go_at_call 15; (with_reducible refine cf.mono ?_); rintro e w' ⟨rfl, ⟨nd, rfl⟩⟩)
      go_roundg g
      case measure => omega
      case rel =>
        refine ⟨i + 1, fc, rfl, by go_num, by omega, ⟨_, rfl⟩, ?_⟩
        by_cases h0 : fc = 0
        · exact .inl ⟨h0, by rw [HST.out, if_pos h0]⟩
        · exact .inr ⟨by rw [HN.out, HST.out, if_neg h0], h0⟩
    · have hwant : want = nc := by
        rcases hw with ⟨h0, hF⟩ | ⟨h, _⟩
        · have : i = l.length := by
            by_cases hi : i < l.length
            · exact absurd ⟨hi, h0⟩ hgo
            · omega
          subst this
          rw [h0, HN.out, hF, List.drop_length]; rfl
        · exact h
      subst hwant
      by_cases h0 : want = 0
      · have hil : i = l.length := by
          by_cases hi : i < l.length
          · exact absurd ⟨hi, h0⟩ hgo
          · omega
        subst h0 hil
        obtain ⟨p, m, rfl, hp1, hm1, hp2, hO⟩ := hgood rfl
        have hlt : ¬ (l.length : Int) < (l.length : Int) := by omega
        have hO' := hO.drewN nq
        have belw' := below_drewN belw nq
        clear hO hbad hgood hw hgo belw bel1 bel2 HN hig hd hlt
        generalize w2.drewN nq = w3 at hO' belw' ⊢
        go_wp2
        go_loopg [11, 54] l.length (fun g v11 v54 wr => ∃ (k : Nat) (bb : Bool), v54 = .int .i64 k ∧ v11 = .bool bb ∧ k + g = l.length ∧ Below w.heap.size w wr ∧ Orc wr p m l ∧ bb = !hasK (l.take k) key)
        case atStart => exact ⟨0, true, rfl, rfl, by omega, belw', hO', rfl⟩
        case round =>
          obtain ⟨k, bb, rfl, rfl, hkg, hB, hOr, hbb⟩ := hrel
          by_cases hk : k < l.length
          · have hlt : (k : Int) < (l.length : Int) := by omega
            obtain ⟨g, rfl⟩ : ∃ g, gk = g + 1 := ⟨gk - 1, by omega⟩
            obtain ⟨x, hx⟩ : ∃ x, l[k]? = some x := ⟨_, List.getElem?_eq_getElem hk⟩
            have ha : ao = some ⟨b, o, none⟩ := by rcases hs.to with e | e; (subst e; simp at hx); exact e
            subst ha
            have e1 := (hs.below hB (Nat.le_refl _)).key k x hx
            have e2 := (hs.below hB (Nat.le_refl _)).hash k x hx
            have hst := hasK_take l key k x hx
            have hval := valK_get hOr.distinct hx
            have hsz := hkeys k x hx
            have HST : Aside0 (hasK (l.take (k + 1)) key = (hasK (l.take k) key || decide (x.1 = key))) := ⟨hst⟩
            have HBB : Aside0 (bb = !hasK (l.take k) key) := ⟨hbb⟩
            clear hst hx hbb hO' belw'
            obtain ⟨s, h⟩ := x
            have hOz : Orc (wr.alloc (.cells #[.string s, .int .u64 h] 44)) p m l := hOr.below ((Below.refl wr.heap.size wr).alloc (Nat.le_refl _) _) (Nat.le_refl _)
            have cA : ∀ (sd : Int) (n : Nat), Calls Tryd.prog 12 #[.pointer (some ⟨p, 0, none⟩), .int .u64 sd, .string s] ((wr.alloc (.cells #[.string s, .int .u64 h] 44)).drewN n) fun e w' => e = .returned (.int .u64 h) ∧ w' = (wr.alloc (.cells #[.string s, .int .u64 h] 44)).drewN n := fun sd n => by
              have := hash_found _ p m l sd s (hOz.drewN n) hsz hval.1
              rw [hval.2] at this
              exact this
            obtain ⟨b2, hb2⟩ : ∃ b2, (s.toList == key.toList) = b2 := ⟨_, rfl⟩
            have HB2 : Aside0 (decide (s = key) = b2) := ⟨by rw [← bytes_eq, hb2]⟩
            have hBz : Below w.heap.size w (wr.alloc (.cells #[.string s, .int .u64 h] 44)) := hB.alloc hB.size _
            clear hval hOr hB
            go_wp2
            go_quiet (first | (go_at_call 12; refine Calls.quiet_of_same (cA _ _)))
            go_wp2
            all_goals go_roundg g
            all_goals first | omega | exact ⟨k + 1, _, by go_num, rfl, by omega, below_drewN hBz _, hOz.drewN _, by first | (rw [HST.out, HB2.out, HBB.out]; simp [*]; done) | (rw [HST.out, HB2.out]; simp [*]; done)⟩
          · obtain rfl : k = l.length := by omega
            have hlt : ¬ (l.length : Int) < (l.length : Int) := by omega
            rw [List.take_length] at hbb
            have k0 := (hB.cell (p := ⟨0, 0, none⟩) (World.block_lt_of_cell? _ _ g0)).trans g0
            have k1 := (hB.cell (p := ⟨0, 1, none⟩) (World.block_lt_of_cell? _ _ g1)).trans g1
            cases hc : hasK l key with
            | true =>
              rw [hc] at hbb
              subst hbb
              go_wp2
              go_ret
              exact ⟨rfl, hB⟩
            | false =>
              rw [hc] at hbb
              subst hbb
              obtain ⟨R, hR⟩ : ∃ R, Mix.imix seed key.data.toList = R := ⟨_, rfl⟩
              have c12 := hash_mix wr p m l seed key hOr hkey hc k0 k1
              have c8 : ∀ n, Calls Tryd.prog 8 #[.int .u64 seed, .string key] (wr.drewN n) fun e w' => e = .returned (.int .u64 R) ∧ Drawn0 (wr.drewN n) w' := fun n => Mix.calls seed R key (wr.drewN n) hR (by omega) k0 k1
              rw [hR] at c12
              clear hR k0 k1 g0 g1
              go_wp2_with (first | (go_at_call 12; (with_reducible refine c12.mono ?_); rintro e w' ⟨rfl, ⟨nd, rfl⟩⟩) | (go_at_call 8; (with_reducible refine (c8 _).mono ?_); rintro e w' ⟨rfl, ⟨nd, rfl⟩⟩))
              go_ret
              exact ⟨by simp, below_drewN hB _⟩
      · obtain rfl := hbad h0
        by_cases hi : i < l.length
        · have hlt : (i : Int) < (l.length : Int) := by omega
          go_wp2
          go_ret
          exact ⟨rfl, below_drewN belw _⟩
        · have hlt : ¬ (i : Int) < (l.length : Int) := by omega
          go_wp2
          go_ret
          exact ⟨rfl, below_drewN belw _⟩
end Go.Proofs.YtabdkfmfenpkjaaDoor.ov
