/- An answer's line, by the document, walked. -/
import Derived.Test.YtigaacbaaopfmaaDoorShP
namespace Go.Proofs.YtigaacbaaopfmaaDoor.sh
open Go.RowKit
set_option linter.unusedVariables false
set_option maxHeartbeats 16000000 in
set_option maxRecDepth 100000 in
theorem ref_walk (a : Ans) (w : World) (hb : Base w) (he : In64 a.err) (hn : In64 a.n) (ho : In64 a.off) (hk : a.key.size ≤ 3000000) (hm : a.elem.size ≤ 3000000) : Calls Tryd.prog 15 #[a.v] w fun e w' => e = .returned (.string (B (showL a))) ∧ Below w.heap.size w w' := by
  obtain ⟨op, err, n, off, yes, key, elem⟩ := a
  simp only at he hn ho hk hm
  have belz : ∀ x0 x1 x2 x3 x4 x5 x6 : Value, Below w.heap.size w (w.alloc (.cells #[x0, x1, x2, x3, x4, x5, x6] 24)) := fun _ _ _ _ _ _ _ => (Below.refl _ _).alloc (Nat.le_refl _) _
  obtain ⟨nb, hnb⟩ : ∃ nb, nameP op = nb := ⟨_, rfl⟩
  have hnb' : nb = B (nameL op) := by rw [← hnb, nameP_eq]
  have hnbs : nb.size ≤ 20 := by rw [hnb', B_size]; exact name_len op
  have hnbl : nb.toList = nameL op := by rw [hnb', B_toList]
  have cname : ∀ wq, Below w.heap.size w wq → Calls Tryd.prog 32 #[.int .i64 op] wq fun e w' => e = .returned (.string nb) ∧ Below wq.heap.size wq w' := fun wq h => by
    rw [← hnb]
    exact name_walk wq op
  clear hnb
  obtain ⟨R, hR⟩ : ∃ R, B (showL ⟨op, err, n, off, yes, key, elem⟩) = R := ⟨_, rfl⟩
  rw [hR]
  by_cases hempty : nameL op = []
  · have HR : Aside0 (R = B []) := ⟨by rw [← hR]; unfold showL; rw [if_pos hempty]⟩
    have hne : nb.toList = [] := by rw [hnbl]; exact hempty
    clear hR hnb' hnbl hempty
    go_enter Tryd.func15, Tryd.ntmps15
    go_wp2_with (go_at_call 32; (with_reducible refine (cname _ (belz _ _ _ _ _ _ _)).mono ?_); rintro e w1 ⟨rfl, bel1⟩)
    go_ret
    exact ⟨by rw [HR.out]; rfl, below_next (belz _ _ _ _ _ _ _) bel1⟩
  have hne : nb.toList.isEmpty = false := by rw [hnbl]; simpa using hempty
  have hne' : ¬ nb.toList = [] := by rw [hnbl]; exact hempty
  have hR' : R = nb ++ B (tailL ⟨op, err, n, off, yes, key, elem⟩) := by rw [← hR, hnb', B_add]; unfold showL; rw [if_neg hempty]
  have hop : 1 ≤ op ∧ op ≤ 14 := by
    by_cases h : 1 ≤ op ∧ op ≤ 14
    · exact h
    · exact absurd (by unfold nameL; rw [if_neg h]) hempty
  clear hR hnb' hnbl hempty
  by_cases herr : err = 0
  case neg =>
    obtain ⟨r1, hr1⟩ : ∃ r, B (Lib.itoa err) = r := ⟨_, rfl⟩
    obtain ⟨hs1, c1⟩ := ref_num hb err he r1 hr1
    have HR : Aside0 (R = nb ++ B [32, 101, 114, 114, 111, 114, 32] ++ r1) := ⟨by
      rw [hR', ← hr1]; unfold tailL
      rw [if_pos herr, ByteArray.append_assoc, B_add]; rfl⟩
    have herr' : (err == (0 : Int)) = false := by simpa using herr
    clear hR' hr1
    go_enter Tryd.func15, Tryd.ntmps15
    go_wp2_with (first
      | (go_at_call 32; (with_reducible refine (cname _ (belz _ _ _ _ _ _ _)).mono ?_); rintro e w1 ⟨rfl, bel1⟩; have bel2 := below_next (belz _ _ _ _ _ _ _) bel1; obtain ⟨k0, k1, k2, k3, k4, k5, k6⟩ := box_cells bel1)
      | (go_at_call 33; (with_reducible refine (c1 _ bel2).mono ?_); rintro e w3 ⟨rfl, bel3⟩))
    go_ret
    exact ⟨by rw [HR.out]; rfl, below_next bel2 bel3⟩
  subst herr
  clear he
  have hops : op = 1 ∨ op = 2 ∨ op = 3 ∨ op = 4 ∨ op = 5 ∨ op = 6 ∨ op = 7 ∨ op = 8 ∨ op = 9 ∨ op = 10 ∨ op = 11 ∨ op = 12 ∨ op = 13 ∨ op = 14 := by omega
  clear hop
  rcases hops with rfl | rfl | rfl | rfl | rfl | rfl | rfl | rfl | rfl | rfl | rfl | rfl | rfl | rfl
  ·
    obtain ⟨r1, hr1⟩ : ∃ r, B (Lib.itoa n) = r := ⟨_, rfl⟩
    obtain ⟨sr1, cr1⟩ := ref_num hb n hn r1 hr1
    have HR : Aside0 (R = nb ++ B [32] ++ r1) := ⟨by
      rw [hR', ← hr1]; unfold tailL
      simp [ByteArray.append_assoc, B_add, B_nil]⟩
    clear hR' hr1
    go_enter Tryd.func15, Tryd.ntmps15
    go_wp2_with (first
      | (go_at_call 32; (with_reducible refine (cname _ (belz _ _ _ _ _ _ _)).mono ?_); rintro e w1 ⟨rfl, bel1⟩; have bel2 := below_next (belz _ _ _ _ _ _ _) bel1; obtain ⟨k0, k1, k2, k3, k4, k5, k6⟩ := box_cells bel1)
      | (go_at_call 33; (with_reducible refine (cr1 _ bel2).mono ?_); rintro e w3 ⟨rfl, bel3⟩))
    go_ret
    exact ⟨by rw [HR.out]; rfl, below_next bel2 bel3⟩
  · cases yes
    case false =>
      have HR : Aside0 (R = nb ++ B [32, 110, 111]) := ⟨by
        rw [hR']; unfold tailL
        simp [ByteArray.append_assoc, B_add, B_nil]⟩
      clear hR' 
      go_enter Tryd.func15, Tryd.ntmps15
      go_wp2_with (first
        | (go_at_call 32; (with_reducible refine (cname _ (belz _ _ _ _ _ _ _)).mono ?_); rintro e w1 ⟨rfl, bel1⟩; have bel2 := below_next (belz _ _ _ _ _ _ _) bel1; obtain ⟨k0, k1, k2, k3, k4, k5, k6⟩ := box_cells bel1)
        | (go_at_call 31; (with_reducible refine (either_walk _ _ _ _).mono ?_); rintro e w3 ⟨rfl, rfl⟩))
      go_ret
      exact ⟨by rw [HR.out]; rfl, bel2⟩
    case true =>
      obtain ⟨r1, hr1⟩ : ∃ r, B (bytesP elem) = r := ⟨_, rfl⟩
      obtain ⟨sr1, cr1⟩ := ref_byt (w := w) elem hm r1 hr1
      have HR : Aside0 (R = nb ++ B [32, 121, 101, 115, 32] ++ r1) := ⟨by
        rw [hR', ← hr1]; unfold tailL
        simp [ByteArray.append_assoc, B_add, B_nil]⟩
      clear hR' hr1
      go_enter Tryd.func15, Tryd.ntmps15
      go_wp2_with (first
        | (go_at_call 32; (with_reducible refine (cname _ (belz _ _ _ _ _ _ _)).mono ?_); rintro e w1 ⟨rfl, bel1⟩; have bel2 := below_next (belz _ _ _ _ _ _ _) bel1; obtain ⟨k0, k1, k2, k3, k4, k5, k6⟩ := box_cells bel1)
        | (go_at_call 34; (with_reducible refine (cr1 _ bel2).mono ?_); rintro e w3 ⟨rfl, bel3⟩))
      go_ret
      exact ⟨by rw [HR.out]; rfl, below_next bel2 bel3⟩
  · cases yes
    case false =>
      have HR : Aside0 (R = nb ++ B [32, 111, 108, 100]) := ⟨by
        rw [hR']; unfold tailL
        simp [ByteArray.append_assoc, B_add, B_nil]⟩
      clear hR' 
      go_enter Tryd.func15, Tryd.ntmps15
      go_wp2_with (first
        | (go_at_call 32; (with_reducible refine (cname _ (belz _ _ _ _ _ _ _)).mono ?_); rintro e w1 ⟨rfl, bel1⟩; have bel2 := below_next (belz _ _ _ _ _ _ _) bel1; obtain ⟨k0, k1, k2, k3, k4, k5, k6⟩ := box_cells bel1)
        | (go_at_call 31; (with_reducible refine (either_walk _ _ _ _).mono ?_); rintro e w3 ⟨rfl, rfl⟩))
      go_ret
      exact ⟨by rw [HR.out]; rfl, bel2⟩
    case true =>
      have HR : Aside0 (R = nb ++ B [32, 110, 101, 119]) := ⟨by
        rw [hR']; unfold tailL
        simp [ByteArray.append_assoc, B_add, B_nil]⟩
      clear hR' 
      go_enter Tryd.func15, Tryd.ntmps15
      go_wp2_with (first
        | (go_at_call 32; (with_reducible refine (cname _ (belz _ _ _ _ _ _ _)).mono ?_); rintro e w1 ⟨rfl, bel1⟩; have bel2 := below_next (belz _ _ _ _ _ _ _) bel1; obtain ⟨k0, k1, k2, k3, k4, k5, k6⟩ := box_cells bel1)
        | (go_at_call 31; (with_reducible refine (either_walk _ _ _ _).mono ?_); rintro e w3 ⟨rfl, rfl⟩))
      go_ret
      exact ⟨by rw [HR.out]; rfl, bel2⟩
  · cases yes
    case false =>
      have HR : Aside0 (R = nb ++ B [32, 110, 111]) := ⟨by
        rw [hR']; unfold tailL
        simp [ByteArray.append_assoc, B_add, B_nil]⟩
      clear hR' 
      go_enter Tryd.func15, Tryd.ntmps15
      go_wp2_with (first
        | (go_at_call 32; (with_reducible refine (cname _ (belz _ _ _ _ _ _ _)).mono ?_); rintro e w1 ⟨rfl, bel1⟩; have bel2 := below_next (belz _ _ _ _ _ _ _) bel1; obtain ⟨k0, k1, k2, k3, k4, k5, k6⟩ := box_cells bel1)
        | (go_at_call 31; (with_reducible refine (either_walk _ _ _ _).mono ?_); rintro e w3 ⟨rfl, rfl⟩))
      go_ret
      exact ⟨by rw [HR.out]; rfl, bel2⟩
    case true =>
      have HR : Aside0 (R = nb ++ B [32, 121, 101, 115]) := ⟨by
        rw [hR']; unfold tailL
        simp [ByteArray.append_assoc, B_add, B_nil]⟩
      clear hR' 
      go_enter Tryd.func15, Tryd.ntmps15
      go_wp2_with (first
        | (go_at_call 32; (with_reducible refine (cname _ (belz _ _ _ _ _ _ _)).mono ?_); rintro e w1 ⟨rfl, bel1⟩; have bel2 := below_next (belz _ _ _ _ _ _ _) bel1; obtain ⟨k0, k1, k2, k3, k4, k5, k6⟩ := box_cells bel1)
        | (go_at_call 31; (with_reducible refine (either_walk _ _ _ _).mono ?_); rintro e w3 ⟨rfl, rfl⟩))
      go_ret
      exact ⟨by rw [HR.out]; rfl, bel2⟩
  ·
    obtain ⟨r1, hr1⟩ : ∃ r, B (Lib.itoa n) = r := ⟨_, rfl⟩
    obtain ⟨sr1, cr1⟩ := ref_num hb n hn r1 hr1
    have HR : Aside0 (R = nb ++ B [32] ++ r1) := ⟨by
      rw [hR', ← hr1]; unfold tailL
      simp [ByteArray.append_assoc, B_add, B_nil]⟩
    clear hR' hr1
    go_enter Tryd.func15, Tryd.ntmps15
    go_wp2_with (first
      | (go_at_call 32; (with_reducible refine (cname _ (belz _ _ _ _ _ _ _)).mono ?_); rintro e w1 ⟨rfl, bel1⟩; have bel2 := below_next (belz _ _ _ _ _ _ _) bel1; obtain ⟨k0, k1, k2, k3, k4, k5, k6⟩ := box_cells bel1)
      | (go_at_call 33; (with_reducible refine (cr1 _ bel2).mono ?_); rintro e w3 ⟨rfl, bel3⟩))
    go_ret
    exact ⟨by rw [HR.out]; rfl, below_next bel2 bel3⟩
  ·
    have HR : Aside0 (R = nb) := ⟨by
      rw [hR']; unfold tailL
      simp [ByteArray.append_assoc, B_add, B_nil]⟩
    clear hR' 
    go_enter Tryd.func15, Tryd.ntmps15
    go_wp2_with (first
      | (go_at_call 32; (with_reducible refine (cname _ (belz _ _ _ _ _ _ _)).mono ?_); rintro e w1 ⟨rfl, bel1⟩; have bel2 := below_next (belz _ _ _ _ _ _ _) bel1; obtain ⟨k0, k1, k2, k3, k4, k5, k6⟩ := box_cells bel1))
    go_ret
    exact ⟨by rw [HR.out]; rfl, bel2⟩
  ·
    obtain ⟨r1, hr1⟩ : ∃ r, B (Lib.itoa n) = r := ⟨_, rfl⟩
    obtain ⟨sr1, cr1⟩ := ref_num hb n hn r1 hr1
    have HR : Aside0 (R = nb ++ B [32] ++ r1) := ⟨by
      rw [hR', ← hr1]; unfold tailL
      simp [ByteArray.append_assoc, B_add, B_nil]⟩
    clear hR' hr1
    go_enter Tryd.func15, Tryd.ntmps15
    go_wp2_with (first
      | (go_at_call 32; (with_reducible refine (cname _ (belz _ _ _ _ _ _ _)).mono ?_); rintro e w1 ⟨rfl, bel1⟩; have bel2 := below_next (belz _ _ _ _ _ _ _) bel1; obtain ⟨k0, k1, k2, k3, k4, k5, k6⟩ := box_cells bel1)
      | (go_at_call 33; (with_reducible refine (cr1 _ bel2).mono ?_); rintro e w3 ⟨rfl, bel3⟩))
    go_ret
    exact ⟨by rw [HR.out]; rfl, below_next bel2 bel3⟩
  ·
    obtain ⟨r1, hr1⟩ : ∃ r, B (Lib.itoa n) = r := ⟨_, rfl⟩
    obtain ⟨sr1, cr1⟩ := ref_num hb n hn r1 hr1
    have HR : Aside0 (R = nb ++ B [32] ++ r1) := ⟨by
      rw [hR', ← hr1]; unfold tailL
      simp [ByteArray.append_assoc, B_add, B_nil]⟩
    clear hR' hr1
    go_enter Tryd.func15, Tryd.ntmps15
    go_wp2_with (first
      | (go_at_call 32; (with_reducible refine (cname _ (belz _ _ _ _ _ _ _)).mono ?_); rintro e w1 ⟨rfl, bel1⟩; have bel2 := below_next (belz _ _ _ _ _ _ _) bel1; obtain ⟨k0, k1, k2, k3, k4, k5, k6⟩ := box_cells bel1)
      | (go_at_call 33; (with_reducible refine (cr1 _ bel2).mono ?_); rintro e w3 ⟨rfl, bel3⟩))
    go_ret
    exact ⟨by rw [HR.out]; rfl, below_next bel2 bel3⟩
  · cases yes
    case false =>
      have HR : Aside0 (R = nb ++ B [32, 100, 111, 110, 101]) := ⟨by
        rw [hR']; unfold tailL
        simp [ByteArray.append_assoc, B_add, B_nil]⟩
      clear hR' 
      go_enter Tryd.func15, Tryd.ntmps15
      go_wp2_with (first
        | (go_at_call 32; (with_reducible refine (cname _ (belz _ _ _ _ _ _ _)).mono ?_); rintro e w1 ⟨rfl, bel1⟩; have bel2 := below_next (belz _ _ _ _ _ _ _) bel1; obtain ⟨k0, k1, k2, k3, k4, k5, k6⟩ := box_cells bel1))
      go_ret
      exact ⟨by rw [HR.out]; rfl, bel2⟩
    case true =>
      obtain ⟨ra, hra⟩ : ∃ r, B (bytesP key) = r := ⟨_, rfl⟩
      obtain ⟨sra, cra⟩ := ref_byt (w := w) key hk ra hra
      obtain ⟨rb, hrb⟩ : ∃ r, B (bytesP elem) = r := ⟨_, rfl⟩
      obtain ⟨srb, crb⟩ := ref_byt (w := w) elem hm rb hrb
      have HRX : R = nb ++ B [32, 112, 97, 105, 114, 32] ++ ra ++ B [32] ++ rb := by
        rw [hR', ← hra, ← hrb]; unfold tailL
        simp [ByteArray.append_assoc, B_add, B_nil]
      clear hR' hra hrb
      obtain ⟨p0, hp0⟩ : ∃ p, nb ++ B [32, 112, 97, 105, 114, 32] = p := ⟨_, rfl⟩
      have hq0 : p0.size ≤ 8000020 := by rw [← hp0, ByteArray.size_append]; first | (rw [B_size]; simp only [List.length_cons, List.length_nil]; omega) | omega
      have e0 := fun W : World => run_string_add_sum (P := Tryd.prog) W nb (B [32, 112, 97, 105, 114, 32]) (by first | (rw [B_size]; simp only [List.length_cons, List.length_nil]; omega) | omega)
      rw [hp0] at e0
      obtain ⟨p1, hp1⟩ : ∃ p, p0 ++ ra = p := ⟨_, rfl⟩
      have hq1 : p1.size ≤ 16000020 := by rw [← hp1, ByteArray.size_append]; first | (rw [B_size]; simp only [List.length_cons, List.length_nil]; omega) | omega
      have e1 := fun W : World => run_string_add_sum (P := Tryd.prog) W p0 (ra) (by first | (rw [B_size]; simp only [List.length_cons, List.length_nil]; omega) | omega)
      rw [hp1] at e1
      obtain ⟨p2, hp2⟩ : ∃ p, p1 ++ B [32] = p := ⟨_, rfl⟩
      have hq2 : p2.size ≤ 24000020 := by rw [← hp2, ByteArray.size_append]; first | (rw [B_size]; simp only [List.length_cons, List.length_nil]; omega) | omega
      have e2 := fun W : World => run_string_add_sum (P := Tryd.prog) W p1 (B [32]) (by first | (rw [B_size]; simp only [List.length_cons, List.length_nil]; omega) | omega)
      rw [hp2] at e2
      obtain ⟨p3, hp3⟩ : ∃ p, p2 ++ rb = p := ⟨_, rfl⟩
      have hq3 : p3.size ≤ 32000020 := by rw [← hp3, ByteArray.size_append]; first | (rw [B_size]; simp only [List.length_cons, List.length_nil]; omega) | omega
      have e3 := fun W : World => run_string_add_sum (P := Tryd.prog) W p2 (rb) (by first | (rw [B_size]; simp only [List.length_cons, List.length_nil]; omega) | omega)
      rw [hp3] at e3
      rw [hp0, hp1, hp2, hp3] at HRX
      clear hp0 hp1 hp2 hp3
      have HR : Aside0 (R = p3) := ⟨HRX⟩
      clear HRX
      simp only [B, List.toArray] at e0 e1 e2 e3
      go_enter Tryd.func15, Tryd.ntmps15
      go_wp2_with (first | (go_at_call 32; (with_reducible refine (cname _ (belz _ _ _ _ _ _ _)).mono ?_); rintro e w1 ⟨rfl, bel1⟩; have bel2 := below_next (belz _ _ _ _ _ _ _) bel1; obtain ⟨k0, k1, k2, k3, k4, k5, k6⟩ := box_cells bel1))
      have hz0 : Below w1.heap.size w1 w1 := Below.refl _ _
      have hz1 : Below w1.heap.size w1 w1.drew := (Below.refl _ _).drew
      have bel2x := bel2
      have qa := fun wq (h : Below w1.heap.size w1 wq) => cra wq (below_next bel2x h)
      have qb := fun wq (h : Below w1.heap.size w1 wq) => crb wq (below_next bel2x h)
      go_region_held3 (fun w' => Below w1.heap.size w1 w' ∧ w'.cell? ⟨w.heap.size, 5, none⟩ = some (.string key) ∧ w'.cell? ⟨w.heap.size, 6, none⟩ = some (.string elem))
        (first | with_reducible exact keep2 k5 k6 (by with_reducible assumption))
        (first
        | (go_at_call 34; (with_reducible refine (qa _ (by with_reducible assumption)).mono ?_); rintro e wa ⟨rfl, ba⟩; have ha := below_next (by with_reducible assumption) ba)
        | (go_at_call 34; (with_reducible refine (qb _ (by with_reducible assumption)).mono ?_); rintro e wb ⟨rfl, bb⟩; have hbb := below_next (by with_reducible assumption) bb))
      all_goals go_wp2
      all_goals go_ret
      all_goals exact ⟨by rw [HR.out]; rfl, below_next bel2x (by with_reducible assumption)⟩
  ·
    have HR : Aside0 (R = nb) := ⟨by
      rw [hR']; unfold tailL
      simp [ByteArray.append_assoc, B_add, B_nil]⟩
    clear hR' 
    go_enter Tryd.func15, Tryd.ntmps15
    go_wp2_with (first
      | (go_at_call 32; (with_reducible refine (cname _ (belz _ _ _ _ _ _ _)).mono ?_); rintro e w1 ⟨rfl, bel1⟩; have bel2 := below_next (belz _ _ _ _ _ _ _) bel1; obtain ⟨k0, k1, k2, k3, k4, k5, k6⟩ := box_cells bel1))
    go_ret
    exact ⟨by rw [HR.out]; rfl, bel2⟩
  ·
    obtain ⟨r1, hr1⟩ : ∃ r, B (Lib.itoa n) = r := ⟨_, rfl⟩
    obtain ⟨sr1, cr1⟩ := ref_num hb n hn r1 hr1
    have HR : Aside0 (R = nb ++ B [32] ++ r1) := ⟨by
      rw [hR', ← hr1]; unfold tailL
      simp [ByteArray.append_assoc, B_add, B_nil]⟩
    clear hR' hr1
    go_enter Tryd.func15, Tryd.ntmps15
    go_wp2_with (first
      | (go_at_call 32; (with_reducible refine (cname _ (belz _ _ _ _ _ _ _)).mono ?_); rintro e w1 ⟨rfl, bel1⟩; have bel2 := below_next (belz _ _ _ _ _ _ _) bel1; obtain ⟨k0, k1, k2, k3, k4, k5, k6⟩ := box_cells bel1)
      | (go_at_call 33; (with_reducible refine (cr1 _ bel2).mono ?_); rintro e w3 ⟨rfl, bel3⟩))
    go_ret
    exact ⟨by rw [HR.out]; rfl, below_next bel2 bel3⟩
  ·
    obtain ⟨r1, hr1⟩ : ∃ r, B (Lib.itoa n) = r := ⟨_, rfl⟩
    obtain ⟨sr1, cr1⟩ := ref_num hb n hn r1 hr1
    have HR : Aside0 (R = nb ++ B [32] ++ r1) := ⟨by
      rw [hR', ← hr1]; unfold tailL
      simp [ByteArray.append_assoc, B_add, B_nil]⟩
    clear hR' hr1
    go_enter Tryd.func15, Tryd.ntmps15
    go_wp2_with (first
      | (go_at_call 32; (with_reducible refine (cname _ (belz _ _ _ _ _ _ _)).mono ?_); rintro e w1 ⟨rfl, bel1⟩; have bel2 := below_next (belz _ _ _ _ _ _ _) bel1; obtain ⟨k0, k1, k2, k3, k4, k5, k6⟩ := box_cells bel1)
      | (go_at_call 33; (with_reducible refine (cr1 _ bel2).mono ?_); rintro e w3 ⟨rfl, bel3⟩))
    go_ret
    exact ⟨by rw [HR.out]; rfl, below_next bel2 bel3⟩
  ·
    obtain ⟨r1, hr1⟩ : ∃ r, B (Lib.itoa n) = r := ⟨_, rfl⟩
    obtain ⟨sr1, cr1⟩ := ref_num hb n hn r1 hr1
    have HR : Aside0 (R = nb ++ B [32] ++ r1) := ⟨by
      rw [hR', ← hr1]; unfold tailL
      simp [ByteArray.append_assoc, B_add, B_nil]⟩
    clear hR' hr1
    go_enter Tryd.func15, Tryd.ntmps15
    go_wp2_with (first
      | (go_at_call 32; (with_reducible refine (cname _ (belz _ _ _ _ _ _ _)).mono ?_); rintro e w1 ⟨rfl, bel1⟩; have bel2 := below_next (belz _ _ _ _ _ _ _) bel1; obtain ⟨k0, k1, k2, k3, k4, k5, k6⟩ := box_cells bel1)
      | (go_at_call 33; (with_reducible refine (cr1 _ bel2).mono ?_); rintro e w3 ⟨rfl, bel3⟩))
    go_ret
    exact ⟨by rw [HR.out]; rfl, below_next bel2 bel3⟩
  · by_cases hn0 : n = 0
    case pos =>
      subst hn0
      have HR : Aside0 (R = nb ++ B [32, 102, 105, 110, 101]) := ⟨by
        rw [hR']; unfold tailL
        simp [ByteArray.append_assoc, B_add, B_nil]⟩
      clear hR' 
      go_enter Tryd.func15, Tryd.ntmps15
      go_wp2_with (first
        | (go_at_call 32; (with_reducible refine (cname _ (belz _ _ _ _ _ _ _)).mono ?_); rintro e w1 ⟨rfl, bel1⟩; have bel2 := below_next (belz _ _ _ _ _ _ _) bel1; obtain ⟨k0, k1, k2, k3, k4, k5, k6⟩ := box_cells bel1))
      go_ret
      exact ⟨by rw [HR.out]; rfl, bel2⟩
    case neg =>
      have hn0' : (n == (0 : Int)) = false := by simpa using hn0
      obtain ⟨ra, hra⟩ : ∃ r, B (Lib.itoa n) = r := ⟨_, rfl⟩
      obtain ⟨sra, cra⟩ := ref_num hb n hn ra hra
      obtain ⟨rb, hrb⟩ : ∃ r, B (Lib.itoa off) = r := ⟨_, rfl⟩
      obtain ⟨srb, crb⟩ := ref_num hb off ho rb hrb
      have HRX : R = nb ++ B [32, 114, 117, 108, 101, 32] ++ ra ++ B [32] ++ rb := by
        rw [hR', ← hra, ← hrb]; unfold tailL
        simp [ByteArray.append_assoc, B_add, B_nil, hn0]
      clear hR' hra hrb
      obtain ⟨p0, hp0⟩ : ∃ p, nb ++ B [32, 114, 117, 108, 101, 32] = p := ⟨_, rfl⟩
      have hq0 : p0.size ≤ 8000020 := by rw [← hp0, ByteArray.size_append]; first | (rw [B_size]; simp only [List.length_cons, List.length_nil]; omega) | omega
      have e0 := fun W : World => run_string_add_sum (P := Tryd.prog) W nb (B [32, 114, 117, 108, 101, 32]) (by first | (rw [B_size]; simp only [List.length_cons, List.length_nil]; omega) | omega)
      rw [hp0] at e0
      obtain ⟨p1, hp1⟩ : ∃ p, p0 ++ ra = p := ⟨_, rfl⟩
      have hq1 : p1.size ≤ 16000020 := by rw [← hp1, ByteArray.size_append]; first | (rw [B_size]; simp only [List.length_cons, List.length_nil]; omega) | omega
      have e1 := fun W : World => run_string_add_sum (P := Tryd.prog) W p0 (ra) (by first | (rw [B_size]; simp only [List.length_cons, List.length_nil]; omega) | omega)
      rw [hp1] at e1
      obtain ⟨p2, hp2⟩ : ∃ p, p1 ++ B [32] = p := ⟨_, rfl⟩
      have hq2 : p2.size ≤ 24000020 := by rw [← hp2, ByteArray.size_append]; first | (rw [B_size]; simp only [List.length_cons, List.length_nil]; omega) | omega
      have e2 := fun W : World => run_string_add_sum (P := Tryd.prog) W p1 (B [32]) (by first | (rw [B_size]; simp only [List.length_cons, List.length_nil]; omega) | omega)
      rw [hp2] at e2
      obtain ⟨p3, hp3⟩ : ∃ p, p2 ++ rb = p := ⟨_, rfl⟩
      have hq3 : p3.size ≤ 32000020 := by rw [← hp3, ByteArray.size_append]; first | (rw [B_size]; simp only [List.length_cons, List.length_nil]; omega) | omega
      have e3 := fun W : World => run_string_add_sum (P := Tryd.prog) W p2 (rb) (by first | (rw [B_size]; simp only [List.length_cons, List.length_nil]; omega) | omega)
      rw [hp3] at e3
      rw [hp0, hp1, hp2, hp3] at HRX
      clear hp0 hp1 hp2 hp3
      have HR : Aside0 (R = p3) := ⟨HRX⟩
      clear HRX
      simp only [B, List.toArray] at e0 e1 e2 e3
      go_enter Tryd.func15, Tryd.ntmps15
      go_wp2_with (first | (go_at_call 32; (with_reducible refine (cname _ (belz _ _ _ _ _ _ _)).mono ?_); rintro e w1 ⟨rfl, bel1⟩; have bel2 := below_next (belz _ _ _ _ _ _ _) bel1; obtain ⟨k0, k1, k2, k3, k4, k5, k6⟩ := box_cells bel1))
      have hz0 : Below w1.heap.size w1 w1 := Below.refl _ _
      have hz1 : Below w1.heap.size w1 w1.drew := (Below.refl _ _).drew
      have bel2x := bel2
      have qa := fun wq (h : Below w1.heap.size w1 wq) => cra wq (below_next bel2x h)
      have qb := fun wq (h : Below w1.heap.size w1 wq) => crb wq (below_next bel2x h)
      go_region_held3 (fun w' => Below w1.heap.size w1 w' ∧ w'.cell? ⟨w.heap.size, 2, none⟩ = some (.int .i64 n) ∧ w'.cell? ⟨w.heap.size, 3, none⟩ = some (.int .i64 off))
        (first | with_reducible exact keep2 k2 k3 (by with_reducible assumption))
        (first
        | (go_at_call 33; (with_reducible refine (qa _ (by with_reducible assumption)).mono ?_); rintro e wa ⟨rfl, ba⟩; have ha := below_next (by with_reducible assumption) ba)
        | (go_at_call 33; (with_reducible refine (qb _ (by with_reducible assumption)).mono ?_); rintro e wb ⟨rfl, bb⟩; have hbb := below_next (by with_reducible assumption) bb))
      all_goals go_wp2
      all_goals go_ret
      all_goals exact ⟨by rw [HR.out]; rfl, below_next bel2x (by with_reducible assumption)⟩
end Go.Proofs.YtigaacbaaopfmaaDoor.sh
