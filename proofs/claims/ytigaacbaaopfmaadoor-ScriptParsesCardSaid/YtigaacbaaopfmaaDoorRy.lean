/- A line read as an answer: the program's Read, walked. -/
import Derived.Test.YtigaacbaaopfmaaDoorRr
import Derived.Deep.DeepCutAuto
namespace Go.Proofs.YtigaacbaaopfmaaDoor.sh
open Go.RowKit
set_option linter.unusedVariables false
def Ans.cells (a : Ans) : Array Value := #[.int .i64 a.op, .int .i64 a.err, .int .i64 a.n, .int .i64 a.off, .bool a.yes, .string a.key, .string a.elem]
/-- An answer in a new block, and whether it is one. -/
def CutP (r : Option Ans) (w2 : World) (v6 v7 : Value) (wx : World) : Prop :=
  ∃ g a, v6 = .pointer (some ⟨g, 0, none⟩) ∧ w2.heap.size ≤ g ∧ v7 = .bool r.isSome ∧ Below w2.heap.size w2 wx ∧ wx.heap[g]? = some (.cells (Ans.cells a) 24 (0, 0)) ∧ ∀ x, r = some x → a = x
set_option maxHeartbeats 1600000 in
set_option maxRecDepth 100000 in
theorem read_yes (w : World) (hb : Bs w) (hr : Rowz w) (s : ByteArray) (hs : s.size ≤ 3000000) (h : 1 ≤ findP ((splitL s.data.toList).headD []) ∧ findP ((splitL s.data.toList).headD []) ≤ 14) :
    Calls Tryd.prog 25 #[.string s] w (ReadP (restO (findP ((splitL s.data.toList).headD [])) (splitL s.data.toList).tail) w) := by
  have cs := fun wq (h : Below w.heap.size w wq) => split_walk wq (hb.below h) s hs
  have hne := splitL_ne s.data.toList
  have hlen := splitL_len s.data.toList
  have hsz : s.data.toList.length = s.size := by rw [Array.length_toList]; rfl
  have hmem := splitL_mem s.data.toList
  generalize splitL s.data.toList = ws at *
  obtain ⟨h0, t, rfl⟩ := List.exists_cons_of_ne_nil hne
  simp only [List.headD_cons] at h
  have hcl : ∀ wq b, LT wq b 0 (h0 :: t) → wq.cell? ⟨b, 0, none⟩ = some (.string (B h0)) := fun wq b hl => hl 0 h0 rfl
  have cf := fun wq (hq : Rowz wq) => find_walk wq (B h0) hq
  rw [B_data] at cf
  obtain ⟨q, hq⟩ : ∃ q, findP h0 = q := ⟨_, rfl⟩
  rw [hq] at cf h
  obtain ⟨n, hn⟩ : ∃ n, t.length = n := ⟨_, rfl⟩
  rw [List.length_cons, hn] at cs hlen
  have hn1 : n ≤ 3000000 := by omega
  simp only [List.headD_cons, List.tail_cons, hq]
  obtain ⟨r, hrr⟩ : ∃ r, restO q t = r := ⟨_, rfl⟩
  rw [hrr]
  have cr := fun wq (hbq : Bs wq) b (hl : LT wq b 0 (h0 :: t)) => rest_walk wq hbq q (some ⟨b, if n = 0 then 0 else 1, none⟩) b 1 n t (fun hne => by rw [if_neg]; intro h0; rw [← hn] at h0; exact hne (List.eq_nil_of_length_eq_zero h0)) hl.tail (fun x hx => by have := hmem x (List.mem_cons_of_mem _ hx); omega) (by omega)
  rw [hrr, hn] at cr
  have hsl := fun W => slice1 W (w.heap.size + 1) n
  obtain ⟨o1, ho1⟩ : ∃ o1, (if n = 0 then 0 else 1) = o1 := ⟨_, rfl⟩
  rw [ho1] at cr hsl
  clear ho1
  generalize B h0 = x0 at hcl cf
  clear hq hlen hsz hn hmem hne hrr
  obtain ⟨i, rfl⟩ : ∃ i : Nat, q = i := ⟨q.toNat, by omega⟩
  have hop : opOf i = i := by unfold opOf; rw [if_neg (by omega)]
  have hrow := fun wq (hq : Rowz wq) => hq.op i (by omega)
  rw [hop] at hrow
  have h1 : ¬ (i : Int) < 1 := by omega
  have h2 : ¬ (i : Int) > 14 := by omega
  have h3 : i < 16 := by omega
  clear hop h
  go_enter Tryd.func25, Tryd.ntmps25
  go_wp2_with fail
  refine (cs _ ((Below.refl _ _).alloc (Nat.le_refl _) _)).mono ?_
  rintro e w1 ⟨rfl, hl, hz, hB⟩
  have hb1 := below_two ((Below.refl _ _).alloc (Nat.le_refl _) _) hB
  have c0 := hcl _ _ hl
  have hr1 := hr.below hb1
  clear hb1
  obtain ⟨hc1, hf1⟩ := bcell hB
  have hz1 : w.heap.size < w1.heap.size := by have := hB.size; (try simp at this); omega
  simp only [alsize] at c0
  go_wp2_with fail
  refine (cf _ hr1).mono ?_
  rintro e w2 ⟨rfl, hB2⟩
  obtain ⟨hc2, hf2⟩ := bcell hB2
  have hz2 : w.heap.size < w2.heap.size := by have := hB2.size; omega
  have hw2 := hr1.below hB2
  have hi2 := hrow _ hw2
  have hb2 := hb.below (below_two (below_two ((Below.refl _ _).alloc (Nat.le_refl _) _) hB) hB2)
  have hl2 := hl.below hB2 (Nat.le_refl _)
  simp only [alsize] at hl2
  clear cf cs hcl hrow
  go_wp2
  have hpos2 : 0 < w2.heap.size := by omega
  have hd2 : Below w2.heap.size w2 w2.drew := Below.drew (Below.refl _ w2)
  have hb2' := hb2.below hd2
  have hl2' := hl2.below hd2 (Nat.le_refl _)
  go_cut [6, 7] (fun v6 v7 wx => CutP r w2 v6 v7 wx)
  case first =>
    have hb3 := fun (o : Obj) => hb2.below (Below.drew ((Below.refl _ w2).alloc (Nat.le_refl _) o))
    have hl3 := fun (o : Obj) => hl2.below (Below.drew ((Below.refl _ w2).alloc (Nat.le_refl _) o)) (Nat.le_refl _)
    go_region_with (first
      | (go_at_call 52; (with_reducible refine (cr _ hb2' _ hl2').mono ?_); rintro e w3 ⟨a, ok, rfl, hB3', rfl, ho'⟩; have ho := Aside0.mk ho'; clear ho'; have hB3 : Below w2.heap.size w2 w3 := hd2.trans hB3'; clear hB3'; obtain ⟨hc3, hf3⟩ := bcell hB3; have hz4 : w.heap.size < w3.heap.size := (by have := hB3.size; omega))
      | (go_at_call 52; (with_reducible refine (cr _ (hb3 _) _ (hl3 _)).mono ?_); rintro e w3 ⟨a, ok, rfl, hB3', rfl, ho'⟩; have ho := Aside0.mk ho'; clear ho'; have hB3 : Below (w2.alloc (.cells #[.int .i64 0, .int .i64 0, .int .i64 0, .int .i64 0, .bool false, .string ⟨#[]⟩, .string ⟨#[]⟩] 24)).heap.size (w2.alloc (.cells #[.int .i64 0, .int .i64 0, .int .i64 0, .int .i64 0, .bool false, .string ⟨#[]⟩, .string ⟨#[]⟩] 24)) w3 := (Below.drew (Below.refl _ _)).trans hB3'; clear hB3'; obtain ⟨hc3, hf3⟩ := bcell hB3; have hz3 : w2.heap.size < w3.heap.size := (by have := hB3.size; simp at this; omega); have hz4 : w.heap.size < w3.heap.size := (by omega)))
    all_goals
      clear hb3 hl3 hb2' hl2' hl2 hb2 cr hi2 hw2 hl hr1
      go_wp2_with fail
      go_meet
      case rel =>
        have hz5 : w2.heap.size ≤ w3.heap.size := by first | omega | (have := hB3.size; omega)
        clear hc1 hc2 hc3 hf1 hf2 hf3
        refine ⟨_, a, rfl, ?_, rfl, ?_, ?_, ho.out⟩
        · first | exact Nat.le_refl _ | omega | (have := hB3.size; omega)
        · repeat (first | with_reducible assumption | with_reducible refine below_set ?_ (by omega) _ | with_reducible refine Below.alloc ?_ (by omega) _ | with_reducible refine Below.drew ?_ | with_reducible exact Below.refl _ _ | with_reducible refine below_two ?_ (by with_reducible assumption))
        · unfold Ans.cells
          first
            | with_reducible exact heap_alloc_new _ _
            | (with_reducible refine Bx.full7 ?_ _ _ _ _ _ _ _
               repeat (first | with_reducible refine Bx.set ?_ _ _ | with_reducible refine Bx.below ?_ (by with_reducible assumption) | with_reducible exact Bx.new _ _ _ _ rfl | with_reducible refine Bx.old ?_ _ | with_reducible refine Bx.drew ?_))
  case rest =>
    obtain ⟨g, a, rfl, hg, rfl, hBw, hh, ho'⟩ := hcut
    have ho := Aside0.mk ho'
    clear ho' hl2 hb2 cr hi2 hw2 hl hr1
    obtain ⟨hcw, hfw⟩ := bcell hBw
    have hzw : w.heap.size < wc.heap.size := by have := hBw.size; omega
    cases r with
    | none =>
      clear hh ho
      go_wp2
      refine bodyPost_ret (v := .tuple #[.agg #[.int .i64 0, .int .i64 0, .int .i64 0, .int .i64 0, .bool false, .string ⟨#[]⟩, .string ⟨#[]⟩], .int .i64 160]) ?res rfl ⟨A0 0, _, rfl, ?_, rfl, rfl⟩
      case res =>
        refine results_cell_tmp (p := 2) (q := 3) (ty := 24) rfl _ _ w.heap.size 24 #[.int .i64 0, .int .i64 0, .int .i64 0, .int .i64 0, .bool false, .string ⟨#[]⟩, .string ⟨#[]⟩] (0, 0) _ _ rfl rfl ?_ Tryd.underlying24 rfl size24
        with_reducible refine Bx.full7 ?_ _ _ _ _ _ _ _
        repeat (first | with_reducible refine Bx.set ?_ _ _ | with_reducible refine Bx.setO ?_ _ _ (by omega) | with_reducible refine Bx.below ?_ (by with_reducible assumption) | with_reducible exact Bx.new _ _ _ _ rfl | with_reducible refine Bx.old ?_ _ | with_reducible refine Bx.drew ?_)
      repeat (first | with_reducible assumption | with_reducible refine below_set ?_ (by omega) _ | with_reducible refine Below.alloc ?_ (by omega) _ | with_reducible refine Below.drew ?_ | with_reducible exact Below.refl _ _ | with_reducible refine below_two ?_ (by with_reducible assumption))
    | some x =>
      obtain rfl := ho.out x rfl
      clear ho
      have cellg : ∀ j v, (Ans.cells a)[j]? = some v → wc.cell? ⟨g, j, none⟩ = some v := fun j v hj => by unfold World.cell?; rw [hh]; exact hj
      have g0 : wc.cell? ⟨g, 0, none⟩ = some (.int .i64 a.op) := cellg 0 _ rfl
      have g1 : wc.cell? ⟨g, 1, none⟩ = some (.int .i64 a.err) := cellg 1 _ rfl
      have g2 : wc.cell? ⟨g, 2, none⟩ = some (.int .i64 a.n) := cellg 2 _ rfl
      have g3 : wc.cell? ⟨g, 3, none⟩ = some (.int .i64 a.off) := cellg 3 _ rfl
      have g4 : wc.cell? ⟨g, 4, none⟩ = some (.bool a.yes) := cellg 4 _ rfl
      have g5 : wc.cell? ⟨g, 5, none⟩ = some (.string a.key) := cellg 5 _ rfl
      have g6 : wc.cell? ⟨g, 6, none⟩ = some (.string a.elem) := cellg 6 _ rfl
      clear cellg hh
      go_wp2
      refine bodyPost_ret (v := .tuple #[.agg #[.int .i64 a.op, .int .i64 a.err, .int .i64 a.n, .int .i64 a.off, .bool a.yes, .string a.key, .string a.elem], .int .i64 0]) ?res rfl ⟨a, _, rfl, ?_, rfl, rfl⟩
      case res =>
        refine results_cell_tmp (p := 2) (q := 3) (ty := 24) rfl _ _ w.heap.size 24 #[.int .i64 a.op, .int .i64 a.err, .int .i64 a.n, .int .i64 a.off, .bool a.yes, .string a.key, .string a.elem] (0, 0) _ _ rfl rfl ?_ Tryd.underlying24 rfl size24
        with_reducible refine Bx.full7 ?_ _ _ _ _ _ _ _
        repeat (first | with_reducible refine Bx.set ?_ _ _ | with_reducible refine Bx.setO ?_ _ _ (by omega) | with_reducible refine Bx.below ?_ (by with_reducible assumption) | with_reducible exact Bx.new _ _ _ _ rfl | with_reducible refine Bx.old ?_ _ | with_reducible refine Bx.drew ?_)
      repeat (first | with_reducible assumption | with_reducible refine below_set ?_ (by omega) _ | with_reducible refine Below.alloc ?_ (by omega) _ | with_reducible refine Below.drew ?_ | with_reducible exact Below.refl _ _ | with_reducible refine below_two ?_ (by with_reducible assumption))
theorem read_walk (w : World) (hb : Bs w) (hr : Rowz w) (s : ByteArray) (hs : s.size ≤ 3000000) : Calls Tryd.prog 25 #[.string s] w (ReadP (readO s.data.toList) w) := by
  by_cases h : 1 ≤ findP ((splitL s.data.toList).headD []) ∧ findP ((splitL s.data.toList).headD []) ≤ 14
  · have e : readO s.data.toList = restO (findP ((splitL s.data.toList).headD [])) (splitL s.data.toList).tail := by unfold readO; rw [if_pos h]
    rw [e]; exact read_yes w hb hr s hs h
  · have e : readO s.data.toList = none := by unfold readO; rw [if_neg h]
    rw [e]; exact read_no w hb hr s hs h
end Go.Proofs.YtigaacbaaopfmaaDoor.sh
