/- A line read as an answer: the program's Read, walked. -/
import Derived.Test.YtigaacbaaopfmaaDoorRo
import Derived.Deep.RegionHeld3
namespace Go.Proofs.YtigaacbaaopfmaaDoor.sh
open Go.RowKit
set_option linter.unusedVariables false
/-- A line's pieces. -/
def splitL (l : List UInt8) : List (List UInt8) := Lib.split l [32]
def pre (c : UInt8) : List (List UInt8) → List (List UInt8)
  | x :: xs => (c :: x) :: xs
  | [] => [[c]]
theorem splitL_nil : splitL [] = [[]] := by decide
theorem splitL_cons (c : UInt8) (r : List UInt8) : splitL (c :: r) = if c = 32 then [] :: splitL r else pre c (splitL r) := by
  unfold splitL Lib.split
  by_cases hc : c = 32
  · subst hc
    rw [if_pos rfl, Lib.count_cons_eq, Nat.add_comm, Lib.splitK]
    have hix : Lib.index (32 :: r) [32] = 0 := by rw [Lib.index]; simp [List.isPrefixOf]
    rw [hix]
    rfl
  · rw [if_neg hc, Lib.count_cons_ne _ _ _ hc]
    have hp : ([32] : List UInt8).isPrefixOf (c :: r) = false := by simp [List.isPrefixOf, Ne.symm hc]
    have hix : Lib.index (c :: r) [32] = if Lib.index r [32] == -1 then -1 else Lib.index r [32] + 1 := by rw [Lib.index, hp]; simp
    cases hk : Lib.count r [32] with
    | zero => rfl
    | succ k =>
      rw [Lib.splitK, Lib.splitK, hix]
      by_cases h1 : (Lib.index r [32] == -1) = true
      · rw [if_pos h1, if_pos h1]; rfl
      · have hge := Lib.index_ge r [32]
        have hne : Lib.index r [32] ≠ -1 := fun e => h1 (by rw [e]; rfl)
        obtain ⟨i, hi⟩ : ∃ i : Nat, Lib.index r [32] = i := ⟨(Lib.index r [32]).toNat, by omega⟩
        rw [if_neg h1, if_neg h1, hi]
        have h2 : ¬ ((((i : Int) + 1) == -1) = true) := fun e => by have := beq_iff_eq.1 e; omega
        rw [if_neg h2]
        have e1 : ((i : Int) + 1).toNat = i + 1 := by omega
        rw [e1, Int.toNat_natCast]
        simp [pre]
def readO (l : List UInt8) : Option Ans :=
  if 1 ≤ findP ((splitL l).headD []) ∧ findP ((splitL l).headD []) ≤ 14 then restO (findP ((splitL l).headD [])) (splitL l).tail else none
def ReadP (r : Option Ans) (w : World) (e : Ending) (w' : World) : Prop :=
  ∃ (a : Ans) (n : Int), e = .returned (.tuple #[a.v, .int .i64 n]) ∧ Below w.heap.size w w' ∧ (match r with | some x => a = x ∧ n = 0 | none => a = A0 0 ∧ n = 160)
theorem splitL_eq (s : ByteArray) : ((Lib.splitB ⟨#[32]⟩ 0 (Lib.countB s ⟨#[32]⟩) s).map Value.string) = (splitL s.data.toList).map fun x => Value.string (B x) := by
  have h := Lib.splitB_data ⟨#[32]⟩ 0 (Lib.countB s ⟨#[32]⟩) s
  have hc : Lib.countB s ⟨#[32]⟩ = Lib.count s.data.toList [32] := rfl
  have : splitL s.data.toList = (Lib.splitB ⟨#[32]⟩ 0 (Lib.countB s ⟨#[32]⟩) s).map (·.data.toList) := by
    rw [h, hc]; rfl
  rw [this, List.map_map]
  apply List.map_congr_left
  intro x _
  show Value.string x = Value.string (B x.data.toList)
  rw [B_of]
theorem pre_ne (c : UInt8) (l : List (List UInt8)) : pre c l ≠ [] := by cases l <;> simp [pre]
theorem splitL_ne : ∀ l : List UInt8, splitL l ≠ []
  | [] => by rw [splitL_nil]; simp
  | c :: r => by rw [splitL_cons]; split <;> simp [pre_ne]
theorem pre_len (c : UInt8) (l : List (List UInt8)) (h : l ≠ []) : (pre c l).length = l.length := by cases l <;> simp_all [pre]
theorem splitL_len : ∀ l : List UInt8, (splitL l).length ≤ l.length + 1
  | [] => by rw [splitL_nil]; simp
  | c :: r => by
    have := splitL_len r
    rw [splitL_cons]
    split
    · simp; omega
    · rw [pre_len _ _ (splitL_ne r)]; simp; omega
theorem splitL_mem : ∀ (l x : List UInt8), x ∈ splitL l → x.length ≤ l.length
  | [], x, h => by rw [splitL_nil] at h; simp at h; subst h; simp
  | c :: r, x, h => by
    rw [splitL_cons] at h
    split at h
    · rcases List.mem_cons.1 h with h | h
      · subst h; simp
      · have := splitL_mem r x h; simp; omega
    · cases hr : splitL r with
      | nil => exact absurd hr (splitL_ne r)
      | cons y ys =>
        rw [hr] at h
        rcases List.mem_cons.1 h with h | h
        · subst h
          have := splitL_mem r y (by rw [hr]; simp)
          simp; omega
        · have := splitL_mem r x (by rw [hr]; simp [h])
          simp; omega
/-- strings.Split of a line at blanks. -/
theorem split_walk (w : World) (hb : Bs w) (s : ByteArray) (hs : s.size ≤ 3000000) :
    Calls Tryd.prog 51 #[.string s, .string ⟨#[32]⟩] w fun e w' => e = .returned (.slice (some ⟨w.heap.size, 0, none⟩) (splitL s.data.toList).length (splitL s.data.toList).length) ∧ LT w' w.heap.size 0 (splitL s.data.toList) ∧ w.heap.size < w'.heap.size ∧ Below w.heap.size w w' := by
  obtain ⟨m, hm⟩ := hb.mx
  refine (Tryd.strings_Split s ⟨#[32]⟩ m w (by omega) hm (by decide)).mono ?_
  rintro e w' ⟨rfl, rfl⟩
  rw [splitL_eq]
  have hl : (splitL s.data.toList).length = Lib.countB s ⟨#[32]⟩ + 1 := by
    have h1 := congrArg List.length (splitL_eq s)
    rw [List.length_map, List.length_map, Lib.splitB_all ⟨#[32]⟩ (by decide) 0 _ s rfl] at h1
    exact h1.symm
  refine ⟨by rw [hl], fun j x hx => ?_, by simp, (Below.refl _ _).alloc (Nat.le_refl _) _⟩
  have h0 := heap_alloc_new w (.cells (List.map (fun x => Value.string (B x)) (splitL s.data.toList)).toArray 9)
  have : ((List.map (fun x => Value.string (B x)) (splitL s.data.toList)).toArray)[0 + j]? = some (.string (B x)) := by
    rw [List.getElem?_toArray, List.getElem?_map, Nat.zero_add, hx]; rfl
  unfold World.cell?
  rw [h0]
  exact this
theorem findP_in (l : List UInt8) : -1 ≤ findP l ∧ findP l < 16 := by
  have : ∀ g k, k + g = 16 → -1 ≤ findFrom l k g ∧ findFrom l k g < 16 := by
    intro g
    induction g with
    | zero => intro k _; simp [findFrom]
    | succ g ih =>
      intro k hk
      rw [findFrom]
      split
      · omega
      · exact ih (k + 1) (by omega)
  exact this 16 0 rfl
theorem headD_of {l : List (List UInt8)} (h : l ≠ []) : l[0]? = some (l.headD []) := by cases l <;> simp_all
theorem LT.cell0 {w : World} {b : Nat} {l : List (List UInt8)} (h : LT w b 0 l) (hl : l ≠ []) : w.cell? ⟨b, 0, none⟩ = some (.string (B (l.headD []))) := h 0 _ (headD_of hl)
theorem LT.tail {w : World} {b o : Nat} {l : List (List UInt8)} (h : LT w b o l) : LT w b (o + 1) l.tail := fun j x hx => by
  have : l[j + 1]? = some x := by cases l <;> simp_all
  have h2 := h (j + 1) x this
  rw [show o + 1 + j = o + (j + 1) by omega]; exact h2
theorem Rowz.op {w : World} (h : Rowz w) (i : Nat) (hi : i < 16) : w.cell? ⟨0, i * 4 + 1, none⟩ = some (.int .i64 (opOf i)) := by
  obtain ⟨cs, t, fr, h1, h2, h3⟩ := h
  unfold World.cell?
  rw [h1]
  exact (h3 i hi).2.1
theorem elem74 : Tryd.prog.elem 74 = 9 := by kernel_rfl
theorem under74 : Tryd.prog.underlying 74 = some (.slice (Tryd.prog.elem 74)) := by rw [elem74]; exact Tryd.underlying74
/-- All but the first. -/
theorem slice1 (W : World) (b n : Nat) : (Instr.slice 74 (.slice (some ⟨b, 0, none⟩) (n + 1) (n + 1)) (some (.int .i64 1)) none none).run Tryd.prog W = .ok (.slice (some ⟨b, if n = 0 then 0 else 1, none⟩) n n) W := by
  rw [run_slice_l (P := Tryd.prog) W 74 (some ⟨b, 0, none⟩) (n + 1) (n + 1) under74 .i64 1 (by decide) (by omega), elem74, Tryd.sizeOf9]
  simp [Result.andThen, sliced]
  by_cases h : n = 0
  · subst h; simp
  · simp [h, Addr.add]
theorem Bx.setO {w : World} {g n k : Nat} {t : TypeId} (h : Bx w g n t) (i : Nat) (v : Value) (hk : g ≠ k) : Bx (w.setCell ⟨k, i, none⟩ v) g n t := by
  obtain ⟨cs, h1, h2⟩ := h
  exact ⟨cs, (heap_setCell_other w ⟨k, i, none⟩ g v hk).trans h1, h2⟩
theorem Bx.drew {w : World} {g n : Nat} {t : TypeId} (h : Bx w g n t) : Bx w.drew g n t := h
theorem alsize (w : World) (o : Obj) : (w.alloc o).heap.size = w.heap.size + 1 := by simp
set_option maxHeartbeats 4000000 in
set_option maxRecDepth 100000 in
theorem read_no (w : World) (hb : Bs w) (hr : Rowz w) (s : ByteArray) (hs : s.size ≤ 3000000) (h : ¬ (1 ≤ findP ((splitL s.data.toList).headD []) ∧ findP ((splitL s.data.toList).headD []) ≤ 14)) :
    Calls Tryd.prog 25 #[.string s] w (ReadP none w) := by
  have cs := fun wq (h : Below w.heap.size w wq) => split_walk wq (hb.below h) s hs
  have hne := splitL_ne s.data.toList
  have hlen := splitL_len s.data.toList
  have hsz : s.data.toList.length = s.size := by rw [Array.length_toList]; rfl
  have hmem := splitL_mem s.data.toList
  generalize splitL s.data.toList = ws at *
  obtain ⟨h0, t, rfl⟩ := List.exists_cons_of_ne_nil hne
  simp only [List.headD_cons] at h
  have hcl : ∀ wq b, LT wq b 0 (h0 :: t) → wq.cell? ⟨b, 0, none⟩ = some (.string (B h0)) := fun wq b hl => hl 0 h0 rfl
  have cf := fun wq (hq : Rowz wq) => find_walk wq (B h0) hq
  rw [B_data] at cf
  obtain ⟨q, hq⟩ : ∃ q, findP h0 = q := ⟨_, rfl⟩
  rw [hq] at cf h
  obtain ⟨n, hn⟩ : ∃ n, t.length = n := ⟨_, rfl⟩
  rw [List.length_cons, hn] at cs hlen
  have hn1 : n ≤ 3000000 := by omega
  generalize B h0 = x0 at hcl cf
  clear hq hlen hsz hn hmem hne
  by_cases h1 : q < 1
  · clear h
    go_enter Tryd.func25, Tryd.ntmps25
    go_wp2_with fail
    refine (cs _ ((Below.refl _ _).alloc (Nat.le_refl _) _)).mono ?_
    rintro e w1 ⟨rfl, hl, hz, hB⟩
    have hb1 := below_two ((Below.refl _ _).alloc (Nat.le_refl _) _) hB
    have c0 := hcl _ _ hl
    have hr1 := hr.below hb1
    clear hb1
    obtain ⟨hc1, hf1⟩ := bcell hB
    have hz1 : w.heap.size < w1.heap.size := by have := hB.size; (try simp at this); omega
    simp only [alsize] at c0
    go_wp2_with fail
    refine (cf _ hr1).mono ?_
    rintro e w2 ⟨rfl, hB2⟩
    obtain ⟨hc2, hf2⟩ := bcell hB2
    have hz2 : w.heap.size < w2.heap.size := by have := hB2.size; omega
    clear cf cs hcl
    go_wp2
    refine bodyPost_ret (v := .tuple #[.agg #[.int .i64 0, .int .i64 0, .int .i64 0, .int .i64 0, .bool false, .string ⟨#[]⟩, .string ⟨#[]⟩], .int .i64 160]) ?res rfl ⟨A0 0, _, rfl, ?_, rfl, rfl⟩
    case res =>
      refine results_cell_tmp (p := 2) (q := 3) (ty := 24) rfl _ _ w.heap.size 24 #[.int .i64 0, .int .i64 0, .int .i64 0, .int .i64 0, .bool false, .string ⟨#[]⟩, .string ⟨#[]⟩] (0, 0) _ _ rfl rfl ?_ Tryd.underlying24 rfl size24
      refine Bx.full7 ?_ _ _ _ _ _ _ _
      repeat (first | with_reducible refine Bx.set ?_ _ _ | with_reducible refine Bx.below ?_ (by with_reducible assumption) | exact Bx.new _ _ _ _ rfl | with_reducible refine Bx.old ?_ _)
    repeat (first | with_reducible assumption | with_reducible refine below_set ?_ (Nat.le_refl _) _ | with_reducible refine Below.alloc ?_ (Nat.le_refl _) _ | with_reducible exact Below.refl _ _ | with_reducible refine below_two ?_ (by with_reducible assumption))
  · have h2 : q > 14 := by omega
    clear h
    go_enter Tryd.func25, Tryd.ntmps25
    go_wp2_with fail
    refine (cs _ ((Below.refl _ _).alloc (Nat.le_refl _) _)).mono ?_
    rintro e w1 ⟨rfl, hl, hz, hB⟩
    have hb1 := below_two ((Below.refl _ _).alloc (Nat.le_refl _) _) hB
    have c0 := hcl _ _ hl
    have hr1 := hr.below hb1
    clear hb1
    obtain ⟨hc1, hf1⟩ := bcell hB
    have hz1 : w.heap.size < w1.heap.size := by have := hB.size; (try simp at this); omega
    simp only [alsize] at c0
    go_wp2_with fail
    refine (cf _ hr1).mono ?_
    rintro e w2 ⟨rfl, hB2⟩
    obtain ⟨hc2, hf2⟩ := bcell hB2
    have hz2 : w.heap.size < w2.heap.size := by have := hB2.size; omega
    clear cf cs hcl
    go_wp2
    refine bodyPost_ret (v := .tuple #[.agg #[.int .i64 0, .int .i64 0, .int .i64 0, .int .i64 0, .bool false, .string ⟨#[]⟩, .string ⟨#[]⟩], .int .i64 160]) ?res rfl ⟨A0 0, _, rfl, ?_, rfl, rfl⟩
    case res =>
      refine results_cell_tmp (p := 2) (q := 3) (ty := 24) rfl _ _ w.heap.size 24 #[.int .i64 0, .int .i64 0, .int .i64 0, .int .i64 0, .bool false, .string ⟨#[]⟩, .string ⟨#[]⟩] (0, 0) _ _ rfl rfl ?_ Tryd.underlying24 rfl size24
      refine Bx.full7 ?_ _ _ _ _ _ _ _
      repeat (first | with_reducible refine Bx.set ?_ _ _ | with_reducible refine Bx.below ?_ (by with_reducible assumption) | exact Bx.new _ _ _ _ rfl | with_reducible refine Bx.old ?_ _)
    repeat (first | with_reducible assumption | with_reducible refine below_set ?_ (Nat.le_refl _) _ | with_reducible refine Below.alloc ?_ (Nat.le_refl _) _ | with_reducible exact Below.refl _ _ | with_reducible refine below_two ?_ (by with_reducible assumption))
end Go.Proofs.YtigaacbaaopfmaaDoor.sh
