/- One more field of a line: the program's take, walked. -/
import Derived.Test.YtigaacbaaopfmaaDoorMd
set_option linter.unusedSimpArgs false
namespace Go.Proofs.YtigaacbaaopfmaaDoor.sh
open Go.RowKit
set_option linter.unusedVariables false
theorem info3 : (Tryd.prog.info? 3).map (fun i => (i.zero, i.size, i.bytes)) = some (some (.int .i64 0), 1, 8) := by kernel_rfl
theorem info32 : (Tryd.prog.info? 32).map (fun i => (i.zero, i.size, i.bytes)) = some (some (.int .u64 0), 1, 8) := by kernel_rfl
/-- A line's fields in block p. -/
structure Fs (T : TypeId) (w : World) (p : Nat) (vn vw vb : Value) (f : Fld) : Prop where
  blk : w.heap[p]? = some (.cells #[vn, vw, vb] T (0, 0))
  rn : w.ownsRow (p + 1) 3 1 vn f.n.length (iv f.n)
  rw : w.ownsRow (p + 1) 32 1 vw f.w.length (uv f.w)
  rb : w.ownsRow (p + 1) 9 1 vb f.b.length (ss f.b)
theorem own_bel {w w' : World} {base E size n k : Nat} {v : Value} {xs : List Value} (h : w.ownsRow base E size v n xs) (hb : Below k w w') (hk : w.heap.size ≤ k) : w'.ownsRow base E size v n xs := by
  refine ⟨h.1, ?_⟩
  rcases h.2 with h1 | ⟨g, cap, cur, h1, h2, h3, h4⟩
  · exact .inl h1
  · have hlt : g < w.heap.size := (Array.getElem?_eq_some_iff.1 h3).1
    exact .inr ⟨g, cap, cur, h1, h2, (hb.block g (by omega)).trans h3, h4⟩
theorem own_set {w : World} {base E size n p i : Nat} {v u : Value} {xs : List Value} (h : w.ownsRow base E size v n xs) (hp : p < base) : (w.setCell ⟨p, i, none⟩ u).ownsRow base E size v n xs := by
  refine ⟨h.1, ?_⟩
  rcases h.2 with h1 | ⟨g, cap, cur, h1, h2, h3, h4⟩
  · exact .inl h1
  · exact .inr ⟨g, cap, cur, h1, h2, (heap_setCell_other w ⟨p, i, none⟩ g u (by show g ≠ p; omega)).trans h3, h4⟩
theorem Fs.below {T : TypeId} {w w' : World} {p k : Nat} {vn vw vb : Value} {f : Fld} (h : Fs T w p vn vw vb f) (hb : Below k w w') (hk : w.heap.size ≤ k) : Fs T w' p vn vw vb f := by
  have hlt : p < w.heap.size := (Array.getElem?_eq_some_iff.1 h.blk).1
  exact ⟨(hb.block p (by omega)).trans h.blk, own_bel h.rn hb hk, own_bel h.rw hb hk, own_bel h.rb hb hk⟩
theorem Fs.lt {T : TypeId} {w : World} {p : Nat} {vn vw vb : Value} {f : Fld} (h : Fs T w p vn vw vb f) : p < w.heap.size := (Array.getElem?_eq_some_iff.1 h.blk).1
theorem Fs.cells {T : TypeId} {w : World} {p : Nat} {vn vw vb : Value} {f : Fld} (h : Fs T w p vn vw vb f) : w.cell? ⟨p, 0, none⟩ = some vn ∧ w.cell? ⟨p, 1, none⟩ = some vw ∧ w.cell? ⟨p, 2, none⟩ = some vb ∧ w.frozen? ⟨p, 0, none⟩ = false ∧ w.frozen? ⟨p, 1, none⟩ = false ∧ w.frozen? ⟨p, 2, none⟩ = false := by
  have hb := h.blk
  refine ⟨?_, ?_, ?_, ?_, ?_, ?_⟩ <;> first | (unfold World.cell?; rw [hb]; rfl) | (unfold World.frozen?; rw [hb]; rfl)
theorem set_blk {w : World} {p i t : Nat} {cs : Array Value} {u : Value} (h : w.heap[p]? = some (.cells cs t (0, 0))) : (w.setCell ⟨p, i, none⟩ u).heap[p]? = some (.cells (cs.setIfInBounds i u) t (0, 0)) := heap_setCell_same w p i cs t u h
/-- Behind an append to one of the three. -/
theorem grown_blk {w w3 : World} {p E base n : Nat} {v : Value} {xs : List Value} {o : Obj} (hp : p < w.heap.size) (h : w.ownsRow base E 1 v n xs) (hb : p < base) (o' : Obj) (hg : (w.alloc o').grownBy w3 v.ownBlock) (hblk : w.heap[p]? = some o) : w3.heap[p]? = some o := by
  rw [hg.block p (by simp; omega) (fun e => by have := (h.lt p e.symm).1; omega), ← hblk]
  exact heap_alloc_old w _ hp
theorem Fs.putN {T : TypeId} {w w3 : World} {p : Nat} {vn vw vb v3 : Value} {f : Fld} (x : Int) {o : Obj} (h : Fs T w p vn vw vb f) (hg : (w.alloc o).grownBy w3 vn.ownBlock) (ho : w3.ownsRow (p + 1) 3 1 v3 (f.n.length + 1) (iv f.n ++ [.int .i64 x])) : Fs T (w3.setCell ⟨p, 0, none⟩ v3) p v3 vw vb ⟨f.n ++ [x], f.w, f.b⟩ := by
  have hb := set_blk (i := 0) (u := v3) (grown_blk h.lt h.rn (Nat.lt_succ_self p) o hg h.blk)
  exact ⟨hb, own_set (by rw [iv_append, List.length_append]; exact ho) (Nat.lt_succ_self p), own_set (own_other (h.rw.alloc o) (h.rn.alloc o) (by decide) hg) (Nat.lt_succ_self p), own_set (own_other (h.rb.alloc o) (h.rn.alloc o) (by decide) hg) (Nat.lt_succ_self p)⟩
theorem Fs.putW {T : TypeId} {w w3 : World} {p : Nat} {vn vw vb v3 : Value} {f : Fld} (x : Nat) {o : Obj} (h : Fs T w p vn vw vb f) (hg : (w.alloc o).grownBy w3 vw.ownBlock) (ho : w3.ownsRow (p + 1) 32 1 v3 (f.w.length + 1) (uv f.w ++ [.int .u64 (x : Int)])) : Fs T (w3.setCell ⟨p, 1, none⟩ v3) p vn v3 vb ⟨f.n, f.w ++ [x], f.b⟩ := by
  have hb := set_blk (i := 1) (u := v3) (grown_blk h.lt h.rw (Nat.lt_succ_self p) o hg h.blk)
  exact ⟨hb, own_set (own_other (h.rn.alloc o) (h.rw.alloc o) (by decide) hg) (Nat.lt_succ_self p), own_set (by rw [uv_append, List.length_append]; exact ho) (Nat.lt_succ_self p), own_set (own_other (h.rb.alloc o) (h.rw.alloc o) (by decide) hg) (Nat.lt_succ_self p)⟩
theorem Fs.putB {T : TypeId} {w w3 : World} {p : Nat} {vn vw vb v3 : Value} {f : Fld} (x : List UInt8) {o : Obj} (h : Fs T w p vn vw vb f) (hg : (w.alloc o).grownBy w3 vb.ownBlock) (ho : w3.ownsRow (p + 1) 9 1 v3 (f.b.length + 1) (ss f.b ++ [.string (B x)])) : Fs T (w3.setCell ⟨p, 2, none⟩ v3) p vn vw v3 ⟨f.n, f.w, f.b ++ [x]⟩ := by
  have hb := set_blk (i := 2) (u := v3) (grown_blk h.lt h.rb (Nat.lt_succ_self p) o hg h.blk)
  exact ⟨hb, own_set (own_other (h.rn.alloc o) (h.rb.alloc o) (by decide) hg) (Nat.lt_succ_self p), own_set (own_other (h.rw.alloc o) (h.rb.alloc o) (by decide) hg) (Nat.lt_succ_self p), own_set (by rw [ss_append, List.length_append]; exact ho) (Nat.lt_succ_self p)⟩
theorem below_put {w w1 w3 : World} {p i E n : Nat} {v u : Value} {xs : List Value} {o : Obj} (hB : Below p w w1) (hp : p ≤ w1.heap.size) (h : w1.ownsRow (p + 1) E 1 v n xs) (hg : (w1.alloc o).grownBy w3 v.ownBlock) : Below p w (w3.setCell ⟨p, i, none⟩ u) :=
  (Below.grown (hB.alloc hp o) hg (by simp; omega) (fun k hk => by have := (h.lt k hk).1; omega)).setCell (p := ⟨p, i, none⟩) (Nat.le_refl _) u
theorem own_slice {w : World} {base E size n : Nat} {v : Value} {xs : List Value} (h : w.ownsRow base E size v n xs) : ∃ ao c, v = .slice ao n c := by
  rcases h.2 with ⟨h1, h2⟩ | ⟨g, cap, cur, h1, _⟩
  · exact ⟨none, 0, by rw [h1, h2]⟩
  · exact ⟨_, cap, h1⟩
/-- What take leaves. -/
def TakeP (p : Nat) (f : Fld) (er : Int) (w : World) (e : Ending) (w' : World) : Prop := ∃ vn vw vb, e = .returned (.int .i64 er) ∧ Fs 79 w' p vn vw vb f ∧ Below p w w'
set_option maxHeartbeats 4000000 in
set_option maxRecDepth 100000 in
theorem take_n (w : World) (p : Nat) (vn vw vb : Value) (f : Fld) (hf : Fs 79 w p vn vw vb f) (hn : f.n.length ≤ 4000000) (s : ByteArray) (x er : Int)
    (cn : Calls Tryd.prog 78 #[.string s] w fun e w' => e = .returned (.tuple #[.int .i64 x, .int .i64 er]) ∧ Below w.heap.size w w') :
    Calls Tryd.prog 68 #[.pointer (some ⟨p, 0, none⟩), .int .u8 110, .string s] w (TakeP p ⟨f.n ++ [x], f.w, f.b⟩ er w) := by
  obtain ⟨Q, hQ⟩ : ∃ Q, TakeP p ⟨f.n ++ [x], f.w, f.b⟩ er w = Q := ⟨_, rfl⟩
  have HF : Aside0 (∀ (e : Ending) (w' : World), TakeP p ⟨f.n ++ [x], f.w, f.b⟩ er w e w' → Q e w') := ⟨fun e w' h => by rw [← hQ]; exact h⟩
  rw [hQ]
  clear hQ
  go_enter Tryd.func68, Tryd.ntmps68
  go_wp2_with fail
  refine cn.mono ?_
  rintro e w1 ⟨rfl, hB1⟩
  have hf1 := hf.below hB1 (Nat.le_refl _)
  have hBp := hB1.mono (Nat.le_of_lt hf.lt)
  have hlt := hf1.lt
  obtain ⟨c0, c1, c2, z0, z1, z2⟩ := hf1.cells
  clear hf cn
  have HF1 : Aside0 (Fs 79 w1 p vn vw vb f) := ⟨hf1⟩
  have hrn := hf1.rn
  clear hf1
  go_wp2_with (at_builtin; (refine wpList_new (T := 35) (E := 3) (size := 1) (bytes := 8) rfl (.tmp 25) (.tmp 27) rfl Tryd.underlying35 info3 rfl (by decide) (p + 1) f.n.length _ (iv f.n) 1 1 [.int .i64 x] rfl hrn rfl rfl (by intro x hx; simp at hx; subst hx; rfl) (by unfold maxLen; omega) (by omega) hlt rfl ?_; intro v3 w3 own3 gr3; obtain ⟨a3, c3, rfl⟩ := own_slice own3; have hq := below_put (i := 0) (u := Value.slice a3 (f.n.length + 1) c3) hBp (Nat.le_of_lt hlt) hrn gr3; have hfs := HF1.out.putN x gr3 own3; have hcz : w3.cell? ⟨p, 0, none⟩ = some vn := (World.cell?_of_block (a := ⟨p, 0, none⟩) (grown_blk hlt hrn (Nat.lt_succ_self p) _ gr3 HF1.out.blk |>.trans HF1.out.blk.symm)).trans c0; have hfz : w3.frozen? ⟨p, 0, none⟩ = false := (World.frozen?_of_block (a := ⟨p, 0, none⟩) (grown_blk hlt hrn (Nat.lt_succ_self p) _ gr3 HF1.out.blk |>.trans HF1.out.blk.symm)).trans z0; have hlt3 : p < w3.heap.size := by have := gr3.size; simp at this; omega))
  exact HF.out _ _ ⟨_, _, _, rfl, hfs, hq⟩
set_option maxHeartbeats 4000000 in
set_option maxRecDepth 100000 in
theorem take_w (w : World) (p : Nat) (vn vw vb : Value) (f : Fld) (hf : Fs 79 w p vn vw vb f) (hn : f.w.length ≤ 4000000) (s : ByteArray) (x : Nat) (er : Int)
    (cn : Calls Tryd.prog 79 #[.string s] w fun e w' => e = .returned (.tuple #[.int .u64 (x : Int), .int .i64 er]) ∧ Below w.heap.size w w') :
    Calls Tryd.prog 68 #[.pointer (some ⟨p, 0, none⟩), .int .u8 119, .string s] w (TakeP p ⟨f.n, f.w ++ [x], f.b⟩ er w) := by
  obtain ⟨Q, hQ⟩ : ∃ Q, TakeP p ⟨f.n, f.w ++ [x], f.b⟩ er w = Q := ⟨_, rfl⟩
  have HF : Aside0 (∀ (e : Ending) (w' : World), TakeP p ⟨f.n, f.w ++ [x], f.b⟩ er w e w' → Q e w') := ⟨fun e w' h => by rw [← hQ]; exact h⟩
  rw [hQ]
  clear hQ
  go_enter Tryd.func68, Tryd.ntmps68
  go_wp2_with fail
  refine cn.mono ?_
  rintro e w1 ⟨rfl, hB1⟩
  have hf1 := hf.below hB1 (Nat.le_refl _)
  have hBp := hB1.mono (Nat.le_of_lt hf.lt)
  have hlt := hf1.lt
  obtain ⟨c0, c1, c2, z0, z1, z2⟩ := hf1.cells
  clear hf cn
  have HF1 : Aside0 (Fs 79 w1 p vn vw vb f) := ⟨hf1⟩
  have hrn := hf1.rw
  clear hf1
  go_wp2_with (at_builtin; (refine wpList_new (T := 77) (E := 32) (size := 1) (bytes := 8) rfl (.tmp 43) (.tmp 45) rfl Tryd.underlying77 info32 rfl (by decide) (p + 1) f.w.length _ (uv f.w) 1 1 [.int .u64 (x : Int)] rfl hrn rfl rfl (by intro x hx; simp at hx; subst hx; rfl) (by unfold maxLen; omega) (by omega) hlt rfl ?_; intro v3 w3 own3 gr3; obtain ⟨a3, c3, rfl⟩ := own_slice own3; have hq := below_put (i := 1) (u := Value.slice a3 (f.w.length + 1) c3) hBp (Nat.le_of_lt hlt) hrn gr3; have hfs := HF1.out.putW x gr3 own3; have hcz : w3.cell? ⟨p, 1, none⟩ = some vw := (World.cell?_of_block (a := ⟨p, 1, none⟩) (grown_blk hlt hrn (Nat.lt_succ_self p) _ gr3 HF1.out.blk |>.trans HF1.out.blk.symm)).trans c1; have hfz : w3.frozen? ⟨p, 1, none⟩ = false := (World.frozen?_of_block (a := ⟨p, 1, none⟩) (grown_blk hlt hrn (Nat.lt_succ_self p) _ gr3 HF1.out.blk |>.trans HF1.out.blk.symm)).trans z1; have hlt3 : p < w3.heap.size := by have := gr3.size; simp at this; omega))
  exact HF.out _ _ ⟨_, _, _, rfl, hfs, hq⟩
set_option maxHeartbeats 4000000 in
set_option maxRecDepth 100000 in
theorem take_b (w : World) (p : Nat) (vn vw vb : Value) (f : Fld) (hf : Fs 79 w p vn vw vb f) (c : Nat) (h110 : ((c : Int) == 110) = false) (h119 : ((c : Int) == 119) = false) (hn : f.b.length ≤ 4000000) (s : ByteArray) (x : List UInt8) (er : Int)
    (cn : Calls Tryd.prog 80 #[.string s] w fun e w' => e = .returned (.tuple #[.string (B x), .int .i64 er]) ∧ Below w.heap.size w w') :
    Calls Tryd.prog 68 #[.pointer (some ⟨p, 0, none⟩), .int .u8 (c : Int), .string s] w (TakeP p ⟨f.n, f.w, f.b ++ [x]⟩ er w) := by
  obtain ⟨Q, hQ⟩ : ∃ Q, TakeP p ⟨f.n, f.w, f.b ++ [x]⟩ er w = Q := ⟨_, rfl⟩
  have HF : Aside0 (∀ (e : Ending) (w' : World), TakeP p ⟨f.n, f.w, f.b ++ [x]⟩ er w e w' → Q e w') := ⟨fun e w' h => by rw [← hQ]; exact h⟩
  rw [hQ]
  clear hQ
  go_enter Tryd.func68, Tryd.ntmps68
  go_wp2_with fail
  refine cn.mono ?_
  rintro e w1 ⟨rfl, hB1⟩
  have hf1 := hf.below hB1 (Nat.le_refl _)
  have hBp := hB1.mono (Nat.le_of_lt hf.lt)
  have hlt := hf1.lt
  obtain ⟨c0, c1, c2, z0, z1, z2⟩ := hf1.cells
  clear hf cn
  have HF1 : Aside0 (Fs 79 w1 p vn vw vb f) := ⟨hf1⟩
  have hrn := hf1.rb
  clear hf1
  go_wp2_with (at_builtin; (refine wpList_new (T := 74) (E := 9) (size := 1) (bytes := 16) rfl (.tmp 59) (.tmp 61) rfl Tryd.underlying74 info9 rfl (by decide) (p + 1) f.b.length _ (ss f.b) 1 1 [.string (B x)] rfl hrn rfl rfl (by intro x hx; simp at hx; subst hx; rfl) (by unfold maxLen; omega) (by omega) hlt rfl ?_; intro v3 w3 own3 gr3; obtain ⟨a3, c3, rfl⟩ := own_slice own3; have hq := below_put (i := 2) (u := Value.slice a3 (f.b.length + 1) c3) hBp (Nat.le_of_lt hlt) hrn gr3; have hfs := HF1.out.putB x gr3 own3; have hcz : w3.cell? ⟨p, 2, none⟩ = some vb := (World.cell?_of_block (a := ⟨p, 2, none⟩) (grown_blk hlt hrn (Nat.lt_succ_self p) _ gr3 HF1.out.blk |>.trans HF1.out.blk.symm)).trans c2; have hfz : w3.frozen? ⟨p, 2, none⟩ = false := (World.frozen?_of_block (a := ⟨p, 2, none⟩) (grown_blk hlt hrn (Nat.lt_succ_self p) _ gr3 HF1.out.blk |>.trans HF1.out.blk.symm)).trans z2; have hlt3 : p < w3.heap.size := by have := gr3.size; simp at this; omega))
  exact HF.out _ _ ⟨_, _, _, rfl, hfs, hq⟩
theorem take_walk (w : World) (hb : Bs w) (p : Nat) (vn vw vb : Value) (f : Fld) (hf : Fs 79 w p vn vw vb f) (h1 : f.n.length ≤ 4000000) (h2 : f.w.length ≤ 4000000) (h3 : f.b.length ≤ 4000000) (c : UInt8) (s : ByteArray) (hs : s.size ≤ 3000000) :
    Calls Tryd.prog 68 #[.pointer (some ⟨p, 0, none⟩), .int .u8 (c.toNat : Int), .string s] w (TakeP p (takeF c s.data.toList f) (takeE c s.data.toList) w) := by
  unfold takeF takeE
  by_cases c1 : c = 110
  · subst c1
    rw [if_pos rfl, if_pos rfl]
    exact take_n w p vn vw vb f hf h1 s _ _ (number_walk w hb s hs)
  · rw [if_neg c1, if_neg c1]
    by_cases c2 : c = 119
    · subst c2
      rw [if_pos rfl, if_pos rfl]
      exact take_w w p vn vw vb f hf h2 s _ _ (word_walk' w hb s hs)
    · rw [if_neg c2, if_neg c2]
      refine take_b w p vn vw vb f hf c.toNat ?_ ?_ h3 s _ _ (fromHex_walk w s hs)
      · have h110 : (110 : UInt8).toNat = 110 := rfl
        exact beq_eq_false_iff_ne.2 (fun e => c1 (UInt8.toNat_inj.1 (by omega)))
      · have h119 : (119 : UInt8).toNat = 119 := rfl
        exact beq_eq_false_iff_ne.2 (fun e => c2 (UInt8.toNat_inj.1 (by omega)))
end Go.Proofs.YtigaacbaaopfmaaDoor.sh
