/- The document's Mix, walked: it is the fold that oracle.Mix is. -/
import Derived.Test.YtabdkfmfenpkjaaDoorRefCells
namespace Go.Proofs.YtabdkfmfenpkjaaDoor.ref
open Go.RowKit Go.Proofs.YtabdkfmfenpkjaaDoorW.PrintWords
set_option linter.unusedVariables false
theorem fold64 {seed : Int} (hs : In64 seed) {n : Nat} (l : List UInt8) : In64 (l.foldl Mix.istep (Mix.istart seed n)) := by
  suffices ∀ h, In64 h → In64 (l.foldl Mix.istep h) from this _ (hs.xor (In64.wrap _))
  induction l with
  | nil => exact fun h hh => hh
  | cons c l ih => exact fun h hh => ih _ ((In64.wrap _).xor (In64.wrap _).div31)
theorem wrapEq (x : Int) : IntKind.i64.wrap x = wrap64 x := by rw [IntKind.wrap_i64, wrap64]
set_option maxHeartbeats 8000000 in
set_option maxRecDepth 100000 in
theorem mix_walk (seed : Int) (key : ByteArray) (w : World) (hs : In64 seed) (hk : key.size < 9223372036854775807) :
    Calls Tryd.prog 9 #[.int .u64 seed, .string key] w fun e w' => e = .returned (.int .u64 (Mix.imix seed key.data.toList)) ∧ Below w.heap.size w w' := by
  have hM := Mw.start w
  obtain ⟨n0, hn⟩ : ∃ n0, IntKind.u64.wrap (IntKind.i64.wrap (1 + (key.size : Int))) = n0 := ⟨_, rfl⟩
  obtain ⟨t0, ht0⟩ : ∃ t0, IntKind.u64.wrap (13234230157428861123 * n0) = t0 := ⟨_, rfl⟩
  obtain ⟨x0, hx0⟩ : ∃ x0, bits .xor .u64 seed t0 = x0 := ⟨_, rfl⟩
  have i0 : In64 n0 := hn ▸ In64.wrap _
  have it : In64 t0 := ht0 ▸ In64.wrap _
  have ix : In64 x0 := hx0 ▸ hs.xor it
  have hstart : Mix.istart seed key.size = x0 := by
    unfold Mix.istart
    rw [← wrapEq, hn, ht0, hx0]
  have cd := fun w => c_digits hs w
  have cn := fun w => c_digits i0 w
  have ct := fun w => c_times (x := 13234230157428861123) (by unfold In64; omega) i0 ht0 w
  rw [ndA] at ct
  have cx := fun w => c_xor hs it hx0 w
  have HS : Aside0 (In64 seed) := ⟨hs⟩
  clear ht0 hx0 i0 it hs
  go_enter Tryd.func9, Tryd.ntmps9
  go_wp2
  generalize (w.alloc (.cells #[.int .i64 10435, .int .i64 53583, .int .i64 28213, .int .i64 47017] 49)).alloc (.cells #[.int .i64 18167, .int .i64 28840, .int .i64 23777, .int .i64 40251] 49) = wr at hM ⊢
  go_cut [7] (fun s7 wx => ∃ hb, s7 = .pointer (some ⟨hb, 0, none⟩) ∧ Mh w wx hb x0)
  case first =>
    go_region_held3 (fun w' => Mw w w' ∧ w'.cell? ⟨w.heap.size, 0, none⟩ = some (.int .i64 10435) ∧ w'.cell? ⟨w.heap.size, 1, none⟩ = some (.int .i64 53583) ∧ w'.cell? ⟨w.heap.size, 2, none⟩ = some (.int .i64 28213) ∧ w'.cell? ⟨w.heap.size, 3, none⟩ = some (.int .i64 47017))
      (first | with_reducible exact Mw.cA (by with_reducible assumption) | with_reducible exact Mw.cA (Mw.set4 (by first | with_reducible assumption | with_reducible exact Mw.alloc (by with_reducible assumption) _) (Mw.lt (by with_reducible assumption)) _ _ _ _) | with_reducible exact Mw.cA (Mw.drew (by with_reducible assumption)) | with_reducible exact Mw.cA (Mw.drew (Mw.alloc (by with_reducible assumption) _)) | with_reducible exact Mw.cA (Mw.alloc (by with_reducible assumption) _))
      (first
      | (go_at_call 17; (with_reducible refine (cd _).mono ?_); rintro e w1 ⟨rfl, hb1⟩; have hM1 := Mw.after (by first | with_reducible assumption | with_reducible exact Mw.drew (by with_reducible assumption) | with_reducible exact Mw.drew (Mw.alloc (by with_reducible assumption) _) | with_reducible exact Mw.alloc (by with_reducible assumption) _) hb1; (try (have hz1 := rowIs_below (by first | with_reducible exact zalloc _ | with_reducible exact (zalloc _).drew | with_reducible assumption) hb1)))
      | (go_at_call 17; (with_reducible refine (cn _).mono ?_); rintro e w2 ⟨rfl, hb2⟩; have hM2 := Mw.after (by first | with_reducible assumption | with_reducible exact Mw.drew (by with_reducible assumption) | with_reducible exact Mw.drew (Mw.alloc (by with_reducible assumption) _) | with_reducible exact Mw.alloc (by with_reducible assumption) _) hb2; (try (have hz2 := rowIs_below (by first | with_reducible exact zalloc _ | with_reducible exact (zalloc _).drew | with_reducible assumption) hb2)))
      | (go_at_call 18; (with_reducible refine (ct _).mono ?_); rintro e w3 ⟨rfl, hb3⟩; have hM3 := Mw.after (by first | with_reducible assumption | with_reducible exact Mw.drew (by with_reducible assumption) | with_reducible exact Mw.drew (Mw.alloc (by with_reducible assumption) _) | with_reducible exact Mw.alloc (by with_reducible assumption) _) hb3; (try (have hz3 := rowIs_below (by first | with_reducible exact zalloc _ | with_reducible exact (zalloc _).drew | with_reducible assumption) hb3)))
      | (go_at_call 16; (with_reducible refine (cx _).mono ?_); rintro e w4 ⟨rfl, hb4⟩; have hM4 := Mw.after (by first | with_reducible assumption | with_reducible exact Mw.drew (by with_reducible assumption) | with_reducible exact Mw.drew (Mw.alloc (by with_reducible assumption) _) | with_reducible exact Mw.alloc (by with_reducible assumption) _) hb4; (try (have hz4 := rowIs_below (by first | with_reducible exact zalloc _ | with_reducible exact (zalloc _).drew | with_reducible assumption) hb4; obtain ⟨z0, z1, z2, z3, z4, z5, z6, z7⟩ := zcells hz4))))
    all_goals (go_wp2_with fail; go_meet)
    all_goals first | exact ⟨_, rfl, Mh.mk4 hM4 (Mw.lt (by with_reducible assumption)) hz4 x0⟩ | exact ⟨_, rfl, Mh.new hM4 x0⟩
  case rest =>
    obtain ⟨hb, rfl, hH⟩ := hcut
    have hlt := hH.lt
    clear hM cd cn ct cx hn
    go_wp2
    go_loopg [8] key.size (fun g s8 wx => ∃ k : Nat, s8 = .int .i64 k ∧ k + g = key.size ∧ Mh w wx hb ((key.data.toList.take k).foldl Mix.istep x0))
    case atStart => exact ⟨0, rfl, by omega, hH⟩
    case round =>
      obtain ⟨k, rfl, hkg, hK⟩ := hrel
      clear hH
      by_cases hc : k < key.size
      · have hd : decide ((k : Int) < (key.size : Int)) = true := decide_eq_true (by omega)
        have hidx : ∀ W, (Instr.index 9 (.string key) (.int .i64 k)).run Tryd.prog W = .ok (.int .u8 (key.data.toList[k]'hc).toNat) W := by
          intro W
          rw [run_index_string (h := Tryd.underlying9), dif_pos (by omega)]
          rfl
        obtain ⟨gk, rfl⟩ : ∃ g, gk = g + 1 := ⟨gk - 1, by omega⟩
        have hstep : (key.data.toList.take (k + 1)).foldl Mix.istep x0 = Mix.istep ((key.data.toList.take k).foldl Mix.istep x0) (key.data.toList[k]'hc) := by
          rw [List.take_succ_eq_append_getElem hc, List.foldl_append]; rfl
        have iH : In64 ((key.data.toList.take k).foldl Mix.istep x0) := by rw [← hstart]; exact fold64 HS.out _
        generalize (key.data.toList.take k).foldl Mix.istep x0 = H at hstep hK iH ⊢
        obtain ⟨H', hH'⟩ : ∃ x, (key.data.toList.take (k + 1)).foldl Mix.istep x0 = x := ⟨_, rfl⟩
        rw [hH'] at hstep
        have HQ : Aside0 ((key.data.toList.take (k + 1)).foldl Mix.istep x0 = H') := ⟨hH'⟩
        clear hH'
        generalize key.data.toList[k]'hc = c at hstep hidx
        obtain ⟨x1, hx1⟩ : ∃ x, bits .xor .u64 H (IntKind.u64.wrap c.toNat) = x := ⟨_, rfl⟩
        have i1 : In64 x1 := hx1 ▸ iH.xor (In64.u8 c)
        obtain ⟨x2, hx2⟩ : ∃ x, IntKind.u64.wrap (x1 * 11329751410908088055) = x := ⟨_, rfl⟩
        have i2 : In64 x2 := hx2 ▸ In64.wrap _
        have hx4 : bits .xor .u64 x2 (x2 / 2147483648) = H' := by rw [hstep, Mix.istep, hx1, hx2]
        have c16 := fun w => c_xor iH (In64.u8 c) hx1 w
        rw [ndC] at c16
        have c18 := fun w => c_times i1 (y := 11329751410908088055) (by unfold In64; omega) hx2 w
        rw [ndB] at c18
        have c19 : ∀ w, Calls Tryd.prog 19 #[nd x2, .int .i64 31] w fun e w' => e = .returned (nd (x2 / 2147483648)) ∧ Below w.heap.size w w' := fun w => down31_val w x2 i2
        have c16' := fun w => c_xor i2 i2.div31 hx4 w
        clear hx1 hx2 hx4 iH i1 i2 hstep
        go_wp2
        go_cut [] (fun wx => Mh w wx hb x2)
        case first =>
          have hKM := hK.m
          obtain ⟨⟨p0, p1, p2, p3⟩, q0, q1, q2, q3⟩ := hK.facts
          obtain ⟨_, s0, s1, s2, s3⟩ := hKM.cB
          go_region_with (first
            | (go_at_call 16; (with_reducible refine (c16 _).mono ?_); rintro e w1 ⟨rfl, hb1⟩; have hH1 := Mh.after (by first | with_reducible assumption | with_reducible exact Mh.drew (by with_reducible assumption)) hb1; have hM1 := hH1.m; obtain ⟨⟨p10, p11, p12, p13⟩, q10, q11, q12, q13⟩ := hH1.facts; obtain ⟨_, s10, s11, s12, s13⟩ := hM1.cB)
            | (go_at_call 18; (with_reducible refine (c18 _).mono ?_); rintro e w2 ⟨rfl, hb2⟩; have hH2 := Mh.after (by first | with_reducible assumption | with_reducible exact Mh.drew (by with_reducible assumption)) hb2; have hM2 := hH2.m; obtain ⟨⟨p20, p21, p22, p23⟩, q20, q21, q22, q23⟩ := hH2.facts))
          all_goals (go_wp2_with fail; go_meet)
          all_goals exact Mh.mk4 hM2 hlt hH2.r x2
        case rest =>
          have hK2 := hcut
          clear hcut c16 c18
          go_wp2
          have hKM := hK2.m
          obtain ⟨⟨p0, p1, p2, p3⟩, q0, q1, q2, q3⟩ := hK2.facts
          go_region_with (first
              | (go_at_call 19; (with_reducible refine (c19 _).mono ?_); rintro e w1 ⟨rfl, hb1⟩; have hH1 := Mh.after (by first | with_reducible assumption | with_reducible exact Mh.drew (by with_reducible assumption)) hb1; have hM1 := hH1.m; obtain ⟨⟨p10, p11, p12, p13⟩, q10, q11, q12, q13⟩ := hH1.facts)
              | (go_at_call 16; (with_reducible refine (c16' _).mono ?_); rintro e w2 ⟨rfl, hb2⟩; have hH2 := Mh.after (by first | with_reducible assumption | with_reducible exact Mh.drew (by with_reducible assumption)) hb2; have hM2 := hH2.m; obtain ⟨⟨p20, p21, p22, p23⟩, q20, q21, q22, q23⟩ := hH2.facts))
          all_goals go_wp2
          all_goals go_roundg gk
          all_goals first | omega | exact ⟨k + 1, by simp, by omega, by rw [HQ.out]; exact Mh.mk4 hM2 hlt hH2.r H'⟩
      · have hd : decide ((k : Int) < (key.size : Int)) = false := decide_eq_false (by omega)
        have hx : key.data.toList.take k = key.data.toList := List.take_of_length_le (by rw [Mix.size_list]; omega)
        have iH : In64 ((key.data.toList.take k).foldl Mix.istep x0) := by rw [← hstart]; exact fold64 HS.out _
        have hm : Mix.imix seed key.data.toList = Mix.iend ((key.data.toList.take k).foldl Mix.istep x0) := by rw [hx, ← hstart]; rfl
        generalize (key.data.toList.take k).foldl Mix.istep x0 = H at hm hK iH ⊢
        obtain ⟨R, hR⟩ : ∃ x, Mix.imix seed key.data.toList = x := ⟨_, rfl⟩
        rw [hR] at hm
        have HR : Aside0 (Mix.imix seed key.data.toList = R) := ⟨hR⟩
        clear hR
        obtain ⟨x5, hx5⟩ : ∃ x, bits .xor .u64 H (H / 536870912) = x := ⟨_, rfl⟩
        have i5 : In64 x5 := hx5 ▸ iH.xor iH.div29
        obtain ⟨x6, hx6⟩ : ∃ x, IntKind.u64.wrap (x5 * 13234230157428861123) = x := ⟨_, rfl⟩
        have i6 : In64 x6 := hx6 ▸ In64.wrap _
        have hx7 : bits .xor .u64 x6 (x6 / 4294967296) = R := by rw [hm, Mix.iend, hx5, hx6]
        have i7 : In64 R := hx7 ▸ i6.xor i6.div32
        have c19 : ∀ w, Calls Tryd.prog 19 #[nd H, .int .i64 29] w fun e w' => e = .returned (nd (H / 536870912)) ∧ Below w.heap.size w w' := fun w => down29_val w H iH
        have c16 := fun w => c_xor iH iH.div29 hx5 w
        have c18 := fun w => c_times i5 (y := 13234230157428861123) (by unfold In64; omega) hx6 w
        rw [ndA] at c18
        have c19' : ∀ w, Calls Tryd.prog 19 #[nd x6, .int .i64 32] w fun e w' => e = .returned (nd (x6 / 4294967296)) ∧ Below w.heap.size w w' := fun w => down32_val w x6 i6
        have c16' := fun w => c_xor i6 i6.div32 hx7 w
        have c20 := fun w => c_whole i7 w
        clear hx5 hx6 hx7 iH i5 i6 i7 hm hx
        go_wp2
        go_cut [] (fun wx => Mh w wx hb x5)
        case first =>
          have hKM := hK.m
          obtain ⟨⟨p0, p1, p2, p3⟩, q0, q1, q2, q3⟩ := hK.facts
          go_region_with (first
            | (go_at_call 19; (with_reducible refine (c19 _).mono ?_); rintro e w1 ⟨rfl, hb1⟩; have hH1 := Mh.after (by first | with_reducible assumption | with_reducible exact Mh.drew (by with_reducible assumption)) hb1; have hM1 := hH1.m; obtain ⟨⟨p10, p11, p12, p13⟩, q10, q11, q12, q13⟩ := hH1.facts)
            | (go_at_call 16; (with_reducible refine (c16 _).mono ?_); rintro e w2 ⟨rfl, hb2⟩; have hH2 := Mh.after (by first | with_reducible assumption | with_reducible exact Mh.drew (by with_reducible assumption)) hb2; have hM2 := hH2.m; obtain ⟨⟨p20, p21, p22, p23⟩, q20, q21, q22, q23⟩ := hH2.facts))
          all_goals (go_wp2_with fail; go_meet)
          all_goals exact Mh.mk4 hM2 hlt hH2.r x5
        case rest =>
          have hK2 := hcut
          clear hcut c19 c16
          go_upto_region 10 with fail
          go_cut [] (fun wx => Mh w wx hb x6)
          case first =>
            have hKM := hK2.m
            obtain ⟨⟨p0, p1, p2, p3⟩, q0, q1, q2, q3⟩ := hK2.facts
            obtain ⟨_, r0, r1, r2, r3⟩ := hKM.cA
            go_wp2_with (first | (go_at_call 18; (with_reducible refine (c18 _).mono ?_); rintro e w1 ⟨rfl, hb1⟩; have hH1 := Mh.after (by first | with_reducible assumption | with_reducible exact Mh.drew (by with_reducible assumption)) hb1; have hM1 := hH1.m; obtain ⟨⟨p10, p11, p12, p13⟩, q10, q11, q12, q13⟩ := hH1.facts))
            go_meet
            exact Mh.mk4 hM1 hlt hH1.r x6
          case rest =>
            have hK3 := hcut
            clear hcut c18 hK hK2
            go_wp2
            go_cut [] (fun wx => Mh w wx hb R)
            case first =>
              have hKM := hK3.m
              obtain ⟨⟨p0, p1, p2, p3⟩, q0, q1, q2, q3⟩ := hK3.facts
              go_region_with (first
                | (go_at_call 19; (with_reducible refine (c19' _).mono ?_); rintro e w1 ⟨rfl, hb1⟩; have hH1 := Mh.after (by first | with_reducible assumption | with_reducible exact Mh.drew (by with_reducible assumption)) hb1; have hM1 := hH1.m; obtain ⟨⟨p10, p11, p12, p13⟩, q10, q11, q12, q13⟩ := hH1.facts)
                | (go_at_call 16; (with_reducible refine (c16' _).mono ?_); rintro e w2 ⟨rfl, hb2⟩; have hH2 := Mh.after (by first | with_reducible assumption | with_reducible exact Mh.drew (by with_reducible assumption)) hb2; have hM2 := hH2.m; obtain ⟨⟨p20, p21, p22, p23⟩, q20, q21, q22, q23⟩ := hH2.facts))
              all_goals (go_wp2_with fail; go_meet)
              all_goals exact Mh.mk4 hM2 hlt hH2.r R
            case rest =>
              have hK4 := hcut
              clear hcut c19' c16' hK3
              have hKM := hK4.m
              obtain ⟨⟨p0, p1, p2, p3⟩, q0, q1, q2, q3⟩ := hK4.facts
              go_wp2_with (first | (go_at_call 20; (with_reducible refine (c20 _).mono ?_); rintro e w1 ⟨rfl, hb1⟩; have hH1 := Mh.after (by first | with_reducible assumption | with_reducible exact Mh.drew (by with_reducible assumption)) hb1; have hM1 := hH1.m; obtain ⟨⟨p10, p11, p12, p13⟩, q10, q11, q12, q13⟩ := hH1.facts))
              go_ret
              exact ⟨by rw [HR.out]; rfl, hM1.below⟩
end Go.Proofs.YtabdkfmfenpkjaaDoor.ref
