/- The fields of a line: the document's read, walked. -/
import Derived.Test.YtigaacbaaopfmaaDoorPg
import Derived.Test.YtigaacbaaopfmaaDoorWr
import Derived.Test.YtigaacbaaopfmaaDoorLr
namespace Go.Proofs.YtigaacbaaopfmaaDoor.sh
open Go.RowKit
set_option linter.unusedVariables false
theorem size106 : (Tryd.prog.info? 106).map (·.size) = some 3 := by kernel_rfl
def nil3 : Array Value := #[.slice none 0 0, .slice none 0 0, .slice none 0 0]
theorem all_nil3 : nil3.all (·.oneCell') = true := by simp [nil3, Value.oneCell']
theorem all_3 (a1 a2 a3 : Option Addr) (n1 n2 n3 m1 m2 m3 : Nat) : (#[Value.slice a1 n1 m1, .slice a2 n2 m2, .slice a3 n3 m3] : Array Value).all (·.oneCell') = true := by simp [Value.oneCell']
/-- What the document's read leaves. -/
def ReadRP (r : Fld × Int) (w : World) (e : Ending) (w' : World) : Prop := ∃ vn vw vb, e = .returned (.tuple #[.agg #[vn, vw, vb], .int .i64 r.2]) ∧ (r.2 = 0 → Rows3 w' w.heap.size vn vw vb r.1) ∧ (∃ a1 n1 c1 a2 n2 c2 a3 n3 c3, vn = .slice a1 n1 c1 ∧ vw = .slice a2 n2 c2 ∧ vb = .slice a3 n3 c3) ∧ Below w.heap.size w w'
theorem put_block {w w3 : World} {p i b base E n size : Nat} {v u : Value} {xs : List Value} {o : Obj} (h : w.ownsRow base E size v n xs) (hg : (w.alloc o).grownBy w3 v.ownBlock) (hb : b < base) (hbw : b < w.heap.size) (hne : b ≠ p) : (w3.setCell ⟨p, i, none⟩ u).heap[b]? = w.heap[b]? := by
  rw [heap_setCell_other w3 ⟨p, i, none⟩ b u hne, hg.block b (by simp; omega) (fun e => by have := (h.lt b e.symm).1; omega)]
  exact heap_alloc_old w o hbw
theorem below_k {k : Nat} {w wr w' : World} (h : Below k w wr) (hq : Below (k + 2) wr w') : Below k w w' := h.trans (hq.mono (by omega))
theorem setRow_belowk {w wx : World} {k j : Nat} {cells : Array Value} (h : Below k w wx) (hj : k ≤ j) : Below k w (wx.setRow j cells) := h.trans ⟨rfl, rfl, rfl, by simp, fun z hz => setRow_other wx j z _ (by omega)⟩
theorem rows_setRow {w : World} {b k : Nat} {vn vw vb : Value} {f : Fld} {cells : Array Value} (h : Rows3 w b vn vw vb f) (hk : k < b) : Rows3 (w.setRow k cells) b vn vw vb f := by
  have key : ∀ {E n : Nat} {v : Value} {xs : List Value}, w.ownsRow b E 1 v n xs → (w.setRow k cells).ownsRow b E 1 v n xs := fun h => by
    refine ⟨h.1, ?_⟩
    rcases h.2 with h1 | ⟨g, cap, cur, h1, h2, h3, h4⟩
    · exact .inl h1
    · exact .inr ⟨g, cap, cur, h1, h2, (setRow_other w k g _ (by omega)).trans h3, h4⟩
  exact ⟨key h.rn, key h.rw, key h.rb⟩
set_option maxHeartbeats 2000000 in
set_option maxRecDepth 100000 in
theorem rread_bad1 (w : World) (x0 x2 : ByteArray) (x1 : Int) (x3 : Bool) (ao : Option Addr) (n c : Nat) (h : n < x2.size) : Calls Tryd.prog 66 #[.agg #[.string x0, .int .i64 x1, .string x2, .bool x3], .slice ao n c] w (ReadRP (F0, 160) w) := by
  have h1 : (n : Int) < (x2.size : Int) := by omega
  clear h
  go_enter Tryd.func66, Tryd.ntmps66
  go_wp2
  refine bodyPost_ret (v := .tuple #[.agg #[.slice none 0 0, .slice none 0 0, .slice none 0 0], .int .i64 160]) ?_ rfl ⟨_, _, _, rfl, fun _ => Rows3.nil _ _, ⟨_, _, _, _, _, _, _, _, _, rfl, rfl, rfl⟩, ?_⟩
  · refine results_cell_tmp (p := 4) (q := 5) (ty := 106) rfl _ _ (w.heap.size + 1) 106 #[.slice none 0 0, .slice none 0 0, .slice none 0 0] (0, 0) _ _ rfl rfl ?_ Tryd.underlying106 rfl size106
    exact (heap_alloc_old _ _ (by simp)).trans (by have := heap_alloc_new (w.alloc (.cells #[.string x0, .int .i64 x1, .string x2, .bool x3] 97)) (.cells #[.slice none 0 0, .slice none 0 0, .slice none 0 0] 106); simp only [alsize] at this; exact this)
  · repeat (first | with_reducible assumption | with_reducible refine below_set ?_ (by first | omega | (simp; done)) _ | with_reducible refine Below.alloc ?_ (by first | omega | (simp; done) | (simp; omega)) _ | with_reducible refine Below.drew ?_ | with_reducible exact Below.refl _ _)
set_option maxHeartbeats 2000000 in
set_option maxRecDepth 100000 in
theorem rread_bad2 (w : World) (x0 x2 : ByteArray) (x1 : Int) (ao : Option Addr) (n c : Nat) (h : x2.size < n) : Calls Tryd.prog 66 #[.agg #[.string x0, .int .i64 x1, .string x2, .bool false], .slice ao n c] w (ReadRP (F0, 160) w) := by
  have h1 : ¬ (n : Int) < (x2.size : Int) := by omega
  have h2 : (n : Int) > (x2.size : Int) := by omega
  clear h
  go_enter Tryd.func66, Tryd.ntmps66
  go_wp2
  refine bodyPost_ret (v := .tuple #[.agg #[.slice none 0 0, .slice none 0 0, .slice none 0 0], .int .i64 160]) ?_ rfl ⟨_, _, _, rfl, fun _ => Rows3.nil _ _, ⟨_, _, _, _, _, _, _, _, _, rfl, rfl, rfl⟩, ?_⟩
  · refine results_cell_tmp (p := 4) (q := 5) (ty := 106) rfl _ _ (w.heap.size + 1) 106 #[.slice none 0 0, .slice none 0 0, .slice none 0 0] (0, 0) _ _ rfl rfl ?_ Tryd.underlying106 rfl size106
    exact (heap_alloc_old _ _ (by simp)).trans (by have := heap_alloc_new (w.alloc (.cells #[.string x0, .int .i64 x1, .string x2, .bool false] 97)) (.cells #[.slice none 0 0, .slice none 0 0, .slice none 0 0] 106); simp only [alsize] at this; exact this)
  · repeat (first | with_reducible assumption | with_reducible refine below_set ?_ (by first | omega | (simp; done)) _ | with_reducible refine Below.alloc ?_ (by first | omega | (simp; done) | (simp; omega)) _ | with_reducible refine Below.drew ?_ | with_reducible exact Below.refl _ _)
set_option maxHeartbeats 8000000 in
set_option maxRecDepth 100000 in
theorem rread_ok1 (w : World) (x0 : ByteArray) (x1 : Int) (fm : List UInt8) (x3 : Bool) (g o c : Nat) (ws : List (List UInt8)) (hws : LT w g o ws) (hgw : g < w.heap.size) (hlw : ∀ x ∈ ws, x.length ≤ 3000000) (hn : ws.length ≤ 3000000) (h : ws.length = fm.length) :
    Calls Tryd.prog 66 #[.agg #[.string x0, .int .i64 x1, .string (B fm), .bool x3], .slice (some ⟨g, o, none⟩) ws.length c] w (ReadRP (fieldsG fm 0 F0 ws) w) := by
  obtain ⟨n, hnl⟩ : ∃ n, ws.length = n := ⟨_, rfl⟩
  obtain ⟨L, hL⟩ : ∃ L, fm.length = L := ⟨_, rfl⟩
  have hLs : (B fm).size = L := by rw [B_size]; exact hL
  rw [hnl] at h hn ⊢
  rw [hL] at h
  have h1 : ¬ (n : Int) < (L : Int) := by omega
  have h2 : ¬ (n : Int) > (L : Int) := by omega
  have HLn : Aside0 (n = L) := ⟨h⟩
  clear h
  obtain ⟨k, hk⟩ : ∃ k, w.heap.size = k := ⟨_, rfl⟩
  have HF : Aside0 (∀ (vn vw vb : Value) (f : Fld) (er : Int) (e : Ending) (w' : World), fieldsG fm 0 F0 ws = (f, er) → e = .returned (.tuple #[.agg #[vn, vw, vb], .int .i64 er]) → (er = 0 → Rows3 w' (k + 2) vn vw vb f) → (∃ a1 n1 c1 a2 n2 c2 a3 n3 c3, vn = .slice a1 n1 c1 ∧ vw = .slice a2 n2 c2 ∧ vb = .slice a3 n3 c3) → Below k w w' → ReadRP (fieldsG fm 0 F0 ws) w e w') := ⟨fun vn vw vb f er e w' h1 h2 h3 h5 h4 => by subst hk; rw [h1]; exact ⟨vn, vw, vb, h2, fun h => (h3 h).mono (by omega), h5, h4⟩⟩
  obtain ⟨Q, hQ⟩ : ∃ Q, ReadRP (fieldsG fm 0 F0 ws) w = Q := ⟨_, rfl⟩
  rw [hQ] at HF ⊢
  obtain ⟨res, hres⟩ : ∃ r, fieldsG fm 0 F0 ws = r := ⟨_, rfl⟩
  rw [hres] at HF
  have HR : Aside0 (fieldsG fm 0 F0 ws = res) := ⟨hres⟩
  have HN : Aside0 (ws.length = n ∧ fm.length = L) := ⟨hnl, hL⟩
  have hfr := fresh_fs 106 ((w.alloc (.cells #[.string x0, .int .i64 x1, .string (B fm), .bool x3] 97)).alloc (.cells #[.slice none 0 0, .slice none 0 0, .slice none 0 0] 106))
  have hB0 : Below k w (((w.alloc (.cells #[.string x0, .int .i64 x1, .string (B fm), .bool x3] 97)).alloc (.cells #[.slice none 0 0, .slice none 0 0, .slice none 0 0] 106)).alloc (.cells #[.slice none 0 0, .slice none 0 0, .slice none 0 0] 106)) := by
    rw [← hk]
    exact (((Below.refl _ w).alloc (Nat.le_refl _) _).alloc (by simp) _).alloc (by simp; omega) _
  simp only [alsize, hk] at hfr
  have hbox : (((w.alloc (.cells #[.string x0, .int .i64 x1, .string (B fm), .bool x3] 97)).alloc (.cells #[.slice none 0 0, .slice none 0 0, .slice none 0 0] 106)).alloc (.cells #[.slice none 0 0, .slice none 0 0, .slice none 0 0] 106)).cell? ⟨k, 2, none⟩ = some (.string (B fm)) := by
    rw [← hk]
    exact ((((Below.refl (w.alloc (.cells #[.string x0, .int .i64 x1, .string (B fm), .bool x3] 97)).heap.size (w.alloc (.cells #[.string x0, .int .i64 x1, .string (B fm), .bool x3] 97))).alloc (Nat.le_refl _) _).alloc (by simp) _).cell (p := ⟨w.heap.size, 2, none⟩) (by simp)).trans (by simp)
  have hbx : Bx (((w.alloc (.cells #[.string x0, .int .i64 x1, .string (B fm), .bool x3] 97)).alloc (.cells #[.slice none 0 0, .slice none 0 0, .slice none 0 0] 106)).alloc (.cells #[.slice none 0 0, .slice none 0 0, .slice none 0 0] 106)) (k + 1) 3 106 := by
    have := Bx.old (Bx.new (w.alloc (.cells #[.string x0, .int .i64 x1, .string (B fm), .bool x3] 97)) #[.slice none 0 0, .slice none 0 0, .slice none 0 0] 106 3 rfl) (.cells #[.slice none 0 0, .slice none 0 0, .slice none 0 0] 106)
    simp only [alsize, hk] at this
    exact this
  clear hQ hres hnl hL
  go_enter Tryd.func66, Tryd.ntmps66
  go_wp2
  go_loopg [7] n (fun q v7 wr => ∃ (i : Nat) (f : Fld) (vn vw vb : Value), v7 = .int .i64 i ∧ i + q = n ∧ Fs 106 wr (k + 2) vn vw vb f ∧ Bx wr (k + 1) 3 106 ∧ wr.cell? ⟨k, 2, none⟩ = some (.string (B fm)) ∧ (f.n.length ≤ i ∧ f.w.length ≤ i ∧ f.b.length ≤ i) ∧ Aside0 (res = fieldsG fm i f (ws.drop i)) ∧ Below k w wr)
  case atStart => exact ⟨0, F0, _, _, _, rfl, by omega, hfr, hbx, hbox, ⟨Nat.le_refl _, Nat.le_refl _, Nat.le_refl _⟩, ⟨HR.out.symm⟩, hB0⟩
  case round =>
    obtain ⟨i, f, vn, vw, vb, rfl, hiq, hfs, hbx1, hbox1, hlens, hA, hB⟩ := hrel
    clear hfr hbx hbox hB0
    have hlt := hfs.lt
    obtain ⟨rs, hr0, hr2⟩ := hbx1
    by_cases hi : i < n
    · obtain ⟨q, rfl⟩ : ∃ q, gk = q + 1 := ⟨gk - 1, by omega⟩
      have hil : (i : Int) < (n : Int) := by omega
      obtain ⟨s, hs⟩ : ∃ s, ws[i]? = some s := ⟨_, List.getElem?_eq_getElem (by rw [HN.out.1]; omega)⟩
      have hcell : wr.cell? ⟨g, o + i, none⟩ = some (.string (B s)) := by
        rw [hB.cell (p := ⟨g, o + i, none⟩) (by rw [← hk]; exact hgw)]
        exact hws i s hs
      have hsl : (B s).size ≤ 3000000 := by rw [B_size]; exact hlw s (List.mem_of_getElem? hs)
      have hA1 : res = fieldsG fm i f (s :: ws.drop (i + 1)) := by rw [hA.out, drop_cons hs]
      clear hA
      obtain ⟨fc, hfc⟩ : ∃ fc, fm.getD i 110 = fc := ⟨_, rfl⟩
      rw [fieldsG, hfc] at hA1
      have hform : (i < L ∧ fm[i]? = some fc) ∨ (¬ i < L ∧ fc = 110) := by
        by_cases h : i < L
        · left
          refine ⟨h, ?_⟩
          have h2 : i < fm.length := by rw [HN.out.2]; exact h
          rw [← hfc, List.getD_eq_getElem?_getD, List.getElem?_eq_getElem h2]; rfl
        · right
          refine ⟨h, ?_⟩
          have h2 : fm.length ≤ i := by rw [HN.out.2]; omega
          rw [← hfc, List.getD_eq_getElem?_getD, List.getElem?_eq_none h2]; rfl
      have c72 := rnumber_walk wr (B s) hsl
      have c77 := rword_walk wr (B s) hsl
      have c73 := rbytes_walk wr (B s) hsl
      rw [B_data] at c72 c77 c73
      unfold RwP at c77
      clear hfc hs
      generalize B s = sv at hcell c72 c77 c73 hsl
      by_cases h110 : fc = 110
      · subst h110
        simp only [takeE, takeF, if_true] at hA1
        obtain ⟨x, hx⟩ : ∃ x, (numP s).1 = x := ⟨_, rfl⟩
        obtain ⟨er, her⟩ : ∃ er, (numP s).2 = er := ⟨_, rfl⟩
        rw [hx, her] at c72 hA1
        have cc := c72
        clear c72 c77 c73 hx her
        rcases hform with ⟨hiL, hfc⟩ | ⟨hiL, _⟩
        · have hix : ∀ W, (Instr.index 9 (.string (B fm)) (.int .i64 (i : Int))).run Tryd.prog W = .ok (.int .u8 110) W := fun W => index_B fm i 110 hfc W
          have hiL2 : (i : Int) < (L : Int) := by omega
          clear hfc
          by_cases he : er = 0
          · subst he
            have A1 : Aside0 (res = fieldsG fm (i + 1) ⟨f.n ++ [x], f.w, f.b⟩ (ws.drop (i + 1))) := ⟨by rw [hA1, if_pos rfl]⟩
            clear hA1
            go_wp2_with (first
              | (go_at_call 72; (with_reducible refine cc.mono ?_); rintro e w1 ⟨rfl, hwe⟩; subst hwe; have HFx : Aside0 (Fs 106 wr (k + 2) vn vw vb f) := ⟨hfs⟩; have hrn := HFx.out.rn; have hltx : k + 3 ≤ wr.heap.size := (by omega); have hlt : k + 2 < wr.heap.size := (by omega); obtain ⟨e0, e1, e2, y0, y1, y2⟩ := HFx.out.cells; have hBx : Below (k + 2) wr wr := Below.refl _ _; have hr1 := hr0; have hboxx := hbox1)
              | (at_builtin; (refine wpList_new (T := 35) (E := 3) (size := 1) (bytes := 8) rfl (.tmp 78) (.tmp 80) rfl Tryd.underlying35 info3 rfl (by decide) (k + 3) f.n.length _ (iv f.n) 1 1 [.int .i64 x] rfl hrn rfl rfl (by intro y hy; simp at hy; subst hy; rfl) (by unfold maxLen; omega) (by omega) hltx rfl ?_; intro v3 w3 own3 gr3; obtain ⟨a3, c3, rfl⟩ := own_slice own3; have hq := below_put (p := k + 2) (i := 0) (u := Value.slice a3 (f.n.length + 1) c3) hBx (by omega) hrn gr3; have hfs3 := HFx.out.putN x gr3 own3; have hcz : w3.cell? ⟨k + 2, 0, none⟩ = some vn := (World.cell?_of_block (a := ⟨k + 2, 0, none⟩) (grown_blk2 hlt hrn (Nat.lt_succ_self _) _ gr3 HFx.out.blk |>.trans HFx.out.blk.symm)).trans e0; have hfz : w3.frozen? ⟨k + 2, 0, none⟩ = false := (World.frozen?_of_block (a := ⟨k + 2, 0, none⟩) (grown_blk2 hlt hrn (Nat.lt_succ_self _) _ gr3 HFx.out.blk |>.trans HFx.out.blk.symm)).trans y0; have hlt3 : k + 2 < w3.heap.size := (by have := gr3.size; simp at this; omega); have hk1 : (w3.setCell ⟨k + 2, 0, none⟩ (Value.slice a3 (f.n.length + 1) c3)).heap[k + 1]? = some (.cells rs 106 (0, 0)) := (put_block (p := k + 2) (b := k + 1) (i := 0) (u := Value.slice a3 (f.n.length + 1) c3) hrn gr3 (by omega) (by omega) (by omega)).trans hr1; have hk0 : (w3.setCell ⟨k + 2, 0, none⟩ (Value.slice a3 (f.n.length + 1) c3)).cell? ⟨k, 2, none⟩ = some (.string (B fm)) := (World.cell?_of_block (a := ⟨k, 2, none⟩) (put_block (p := k + 2) (b := k) (i := 0) (u := Value.slice a3 (f.n.length + 1) c3) hrn gr3 (by omega) (by omega) (by omega))).trans hboxx)))
            go_roundg q
            case measure => omega
            case rel => exact ⟨i + 1, ⟨f.n ++ [x], f.w, f.b⟩, _, _, _, by go_num, by omega, hfs3, ⟨rs, hk1, hr2⟩, hk0, by simp; omega, A1, below_k hB hq⟩
          · have hne : (er != 0) = true := by simpa using he
            have A1 : Aside0 (res = (⟨f.n ++ [x], f.w, f.b⟩, er)) := ⟨by rw [hA1, if_neg he]⟩
            clear hA1
            go_wp2_with (first
              | (go_at_call 72; (with_reducible refine cc.mono ?_); rintro e w1 ⟨rfl, hwe⟩; subst hwe; have HFx : Aside0 (Fs 106 wr (k + 2) vn vw vb f) := ⟨hfs⟩; have hrn := HFx.out.rn; have hltx : k + 3 ≤ wr.heap.size := (by omega); have hlt : k + 2 < wr.heap.size := (by omega); obtain ⟨e0, e1, e2, y0, y1, y2⟩ := HFx.out.cells; have hBx : Below (k + 2) wr wr := Below.refl _ _; have hr1 := hr0; have hboxx := hbox1)
              | (at_builtin; (refine wpList_new (T := 35) (E := 3) (size := 1) (bytes := 8) rfl (.tmp 78) (.tmp 80) rfl Tryd.underlying35 info3 rfl (by decide) (k + 3) f.n.length _ (iv f.n) 1 1 [.int .i64 x] rfl hrn rfl rfl (by intro y hy; simp at hy; subst hy; rfl) (by unfold maxLen; omega) (by omega) hltx rfl ?_; intro v3 w3 own3 gr3; obtain ⟨a3, c3, rfl⟩ := own_slice own3; have hq := below_put (p := k + 2) (i := 0) (u := Value.slice a3 (f.n.length + 1) c3) hBx (by omega) hrn gr3; have hfs3 := HFx.out.putN x gr3 own3; have hcz : w3.cell? ⟨k + 2, 0, none⟩ = some vn := (World.cell?_of_block (a := ⟨k + 2, 0, none⟩) (grown_blk2 hlt hrn (Nat.lt_succ_self _) _ gr3 HFx.out.blk |>.trans HFx.out.blk.symm)).trans e0; have hfz : w3.frozen? ⟨k + 2, 0, none⟩ = false := (World.frozen?_of_block (a := ⟨k + 2, 0, none⟩) (grown_blk2 hlt hrn (Nat.lt_succ_self _) _ gr3 HFx.out.blk |>.trans HFx.out.blk.symm)).trans y0; have hlt3 : k + 2 < w3.heap.size := (by have := gr3.size; simp at this; omega); have hk1 : (w3.setCell ⟨k + 2, 0, none⟩ (Value.slice a3 (f.n.length + 1) c3)).heap[k + 1]? = some (.cells rs 106 (0, 0)) := (put_block (p := k + 2) (b := k + 1) (i := 0) (u := Value.slice a3 (f.n.length + 1) c3) hrn gr3 (by omega) (by omega) (by omega)).trans hr1; have hk0 : (w3.setCell ⟨k + 2, 0, none⟩ (Value.slice a3 (f.n.length + 1) c3)).cell? ⟨k, 2, none⟩ = some (.string (B fm)) := (World.cell?_of_block (a := ⟨k, 2, none⟩) (put_block (p := k + 2) (b := k) (i := 0) (u := Value.slice a3 (f.n.length + 1) c3) hrn gr3 (by omega) (by omega) (by omega))).trans hboxx))
              | (refine wpList_store_row rfl _ _ _ rfl (k + 1) _ rfl rfl 106 _ (by with_reducible assumption) size106 hr2 all_nil3 ?_))
            refine bodyPost_ret (v := .tuple #[.agg nil3, .int .i64 er]) ?_ rfl (HF.out _ _ _ _ _ _ _ A1.out rfl (fun h => absurd h he) ⟨_, _, _, _, _, _, _, _, _, rfl, rfl, rfl⟩ (setRow_belowk (below_k hB hq) (by omega)))
            exact results_cell_tmp (p := 4) (q := 5) (ty := 106) rfl _ _ (k + 1) 106 nil3 (0, 0) _ _ rfl rfl (setRow_heap _ _ _ _ _ _ hk1) Tryd.underlying106 rfl size106
        · exact absurd hi (by have := HLn.out; omega)
      · by_cases h119 : fc = 119
        · subst h119
          simp only [takeE, takeF, if_neg h110, if_true] at hA1
          obtain ⟨x, hx⟩ : ∃ x, (wordP s).1 = x := ⟨_, rfl⟩
          obtain ⟨er, her⟩ : ∃ er, (wordP s).2 = er := ⟨_, rfl⟩
          rw [hx, her] at c77 hA1
          have cc := c77
          clear c72 c77 c73 hx her h110
          rcases hform with ⟨hiL, hfc⟩ | ⟨hiL, h2⟩
          · have hix : ∀ W, (Instr.index 9 (.string (B fm)) (.int .i64 (i : Int))).run Tryd.prog W = .ok (.int .u8 119) W := fun W => index_B fm i 119 hfc W
            have hiL2 : (i : Int) < (L : Int) := by omega
            clear hfc
            by_cases he : er = 0
            · subst he
              have A1 : Aside0 (res = fieldsG fm (i + 1) ⟨f.n, f.w ++ [x], f.b⟩ (ws.drop (i + 1))) := ⟨by rw [hA1, if_pos rfl]⟩
              clear hA1
              go_wp2_with (first
                | (go_at_call 77; (with_reducible refine cc.mono ?_); rintro e w1 ⟨rfl, hwe⟩; subst hwe; have HFx : Aside0 (Fs 106 wr (k + 2) vn vw vb f) := ⟨hfs⟩; have hrn := HFx.out.rw; have hltx : k + 3 ≤ wr.heap.size := (by omega); have hlt : k + 2 < wr.heap.size := (by omega); obtain ⟨e0, e1, e2, y0, y1, y2⟩ := HFx.out.cells; have hBx : Below (k + 2) wr wr := Below.refl _ _; have hr1 := hr0; have hboxx := hbox1)
                | (at_builtin; (refine wpList_new (T := 77) (E := 32) (size := 1) (bytes := 8) rfl (.tmp 95) (.tmp 97) rfl Tryd.underlying77 info32 rfl (by decide) (k + 3) f.w.length _ (uv f.w) 1 1 [.int .u64 (x : Int)] rfl hrn rfl rfl (by intro y hy; simp at hy; subst hy; rfl) (by unfold maxLen; omega) (by omega) hltx rfl ?_; intro v3 w3 own3 gr3; obtain ⟨a3, c3, rfl⟩ := own_slice own3; have hq := below_put (p := k + 2) (i := 1) (u := Value.slice a3 (f.w.length + 1) c3) hBx (by omega) hrn gr3; have hfs3 := HFx.out.putW x gr3 own3; have hcz : w3.cell? ⟨k + 2, 1, none⟩ = some vw := (World.cell?_of_block (a := ⟨k + 2, 1, none⟩) (grown_blk2 hlt hrn (Nat.lt_succ_self _) _ gr3 HFx.out.blk |>.trans HFx.out.blk.symm)).trans e1; have hfz : w3.frozen? ⟨k + 2, 1, none⟩ = false := (World.frozen?_of_block (a := ⟨k + 2, 1, none⟩) (grown_blk2 hlt hrn (Nat.lt_succ_self _) _ gr3 HFx.out.blk |>.trans HFx.out.blk.symm)).trans y1; have hlt3 : k + 2 < w3.heap.size := (by have := gr3.size; simp at this; omega); have hk1 : (w3.setCell ⟨k + 2, 1, none⟩ (Value.slice a3 (f.w.length + 1) c3)).heap[k + 1]? = some (.cells rs 106 (0, 0)) := (put_block (p := k + 2) (b := k + 1) (i := 1) (u := Value.slice a3 (f.w.length + 1) c3) hrn gr3 (by omega) (by omega) (by omega)).trans hr1; have hk0 : (w3.setCell ⟨k + 2, 1, none⟩ (Value.slice a3 (f.w.length + 1) c3)).cell? ⟨k, 2, none⟩ = some (.string (B fm)) := (World.cell?_of_block (a := ⟨k, 2, none⟩) (put_block (p := k + 2) (b := k) (i := 1) (u := Value.slice a3 (f.w.length + 1) c3) hrn gr3 (by omega) (by omega) (by omega))).trans hboxx)))
              go_roundg q
              case measure => omega
              case rel => exact ⟨i + 1, ⟨f.n, f.w ++ [x], f.b⟩, _, _, _, by go_num, by omega, hfs3, ⟨rs, hk1, hr2⟩, hk0, by simp; omega, A1, below_k hB hq⟩
            · have hne : (er != 0) = true := by simpa using he
              have A1 : Aside0 (res = (⟨f.n, f.w ++ [x], f.b⟩, er)) := ⟨by rw [hA1, if_neg he]⟩
              clear hA1
              go_wp2_with (first
                | (go_at_call 77; (with_reducible refine cc.mono ?_); rintro e w1 ⟨rfl, hwe⟩; subst hwe; have HFx : Aside0 (Fs 106 wr (k + 2) vn vw vb f) := ⟨hfs⟩; have hrn := HFx.out.rw; have hltx : k + 3 ≤ wr.heap.size := (by omega); have hlt : k + 2 < wr.heap.size := (by omega); obtain ⟨e0, e1, e2, y0, y1, y2⟩ := HFx.out.cells; have hBx : Below (k + 2) wr wr := Below.refl _ _; have hr1 := hr0; have hboxx := hbox1)
                | (at_builtin; (refine wpList_new (T := 77) (E := 32) (size := 1) (bytes := 8) rfl (.tmp 95) (.tmp 97) rfl Tryd.underlying77 info32 rfl (by decide) (k + 3) f.w.length _ (uv f.w) 1 1 [.int .u64 (x : Int)] rfl hrn rfl rfl (by intro y hy; simp at hy; subst hy; rfl) (by unfold maxLen; omega) (by omega) hltx rfl ?_; intro v3 w3 own3 gr3; obtain ⟨a3, c3, rfl⟩ := own_slice own3; have hq := below_put (p := k + 2) (i := 1) (u := Value.slice a3 (f.w.length + 1) c3) hBx (by omega) hrn gr3; have hfs3 := HFx.out.putW x gr3 own3; have hcz : w3.cell? ⟨k + 2, 1, none⟩ = some vw := (World.cell?_of_block (a := ⟨k + 2, 1, none⟩) (grown_blk2 hlt hrn (Nat.lt_succ_self _) _ gr3 HFx.out.blk |>.trans HFx.out.blk.symm)).trans e1; have hfz : w3.frozen? ⟨k + 2, 1, none⟩ = false := (World.frozen?_of_block (a := ⟨k + 2, 1, none⟩) (grown_blk2 hlt hrn (Nat.lt_succ_self _) _ gr3 HFx.out.blk |>.trans HFx.out.blk.symm)).trans y1; have hlt3 : k + 2 < w3.heap.size := (by have := gr3.size; simp at this; omega); have hk1 : (w3.setCell ⟨k + 2, 1, none⟩ (Value.slice a3 (f.w.length + 1) c3)).heap[k + 1]? = some (.cells rs 106 (0, 0)) := (put_block (p := k + 2) (b := k + 1) (i := 1) (u := Value.slice a3 (f.w.length + 1) c3) hrn gr3 (by omega) (by omega) (by omega)).trans hr1; have hk0 : (w3.setCell ⟨k + 2, 1, none⟩ (Value.slice a3 (f.w.length + 1) c3)).cell? ⟨k, 2, none⟩ = some (.string (B fm)) := (World.cell?_of_block (a := ⟨k, 2, none⟩) (put_block (p := k + 2) (b := k) (i := 1) (u := Value.slice a3 (f.w.length + 1) c3) hrn gr3 (by omega) (by omega) (by omega))).trans hboxx))
                | (refine wpList_store_row rfl _ _ _ rfl (k + 1) _ rfl rfl 106 _ (by with_reducible assumption) size106 hr2 all_nil3 ?_))
              refine bodyPost_ret (v := .tuple #[.agg nil3, .int .i64 er]) ?_ rfl (HF.out _ _ _ _ _ _ _ A1.out rfl (fun h => absurd h he) ⟨_, _, _, _, _, _, _, _, _, rfl, rfl, rfl⟩ (setRow_belowk (below_k hB hq) (by omega)))
              exact results_cell_tmp (p := 4) (q := 5) (ty := 106) rfl _ _ (k + 1) 106 nil3 (0, 0) _ _ rfl rfl (setRow_heap _ _ _ _ _ _ hk1) Tryd.underlying106 rfl size106
          · exact absurd h2 (by decide)
        · simp only [takeE, takeF, if_neg h110, if_neg h119] at hA1
          obtain ⟨x, hx⟩ : ∃ x, (bytesV s).getD [] = x := ⟨_, rfl⟩
          obtain ⟨er, her⟩ : ∃ er : Int, (if (bytesV s).isSome = true then 0 else 160) = er := ⟨_, rfl⟩
          rw [hx, her] at c73 hA1
          have cc := c73
          have n110 : ((fc.toNat : Int) == 110) = false := neB (d := 110) h110
          have n119 : ((fc.toNat : Int) == 119) = false := neB (d := 119) h119
          clear c72 c77 c73 hx her
          rcases hform with ⟨hiL, hfc⟩ | ⟨hiL, h2⟩
          · have hix : ∀ W, (Instr.index 9 (.string (B fm)) (.int .i64 (i : Int))).run Tryd.prog W = .ok (.int .u8 (fc.toNat : Int)) W := fun W => index_B fm i fc hfc W
            have hiL2 : (i : Int) < (L : Int) := by omega
            clear hfc h110 h119
            generalize fc.toNat = fcn at hix n110 n119
            by_cases he : er = 0
            · subst he
              have A1 : Aside0 (res = fieldsG fm (i + 1) ⟨f.n, f.w, f.b ++ [x]⟩ (ws.drop (i + 1))) := ⟨by rw [hA1, if_pos rfl]⟩
              clear hA1
              go_wp2_with (first
                | (go_at_call 73; (with_reducible refine cc.mono ?_); rintro e w1 ⟨rfl, hBc⟩; have HFx : Aside0 (Fs 106 w1 (k + 2) vn vw vb f) := ⟨hfs.below hBc (Nat.le_refl _)⟩; have hrn := HFx.out.rb; have hltx : k + 3 ≤ w1.heap.size := (by have := hBc.size; omega); have hlt : k + 2 < w1.heap.size := (by omega); obtain ⟨e0, e1, e2, y0, y1, y2⟩ := HFx.out.cells; have hBx : Below (k + 2) wr w1 := hBc.mono (by omega); have hr1 : w1.heap[k + 1]? = some (.cells rs 106 (0, 0)) := (hBc.block _ (by omega)).trans hr0; have hboxx : w1.cell? ⟨k, 2, none⟩ = some (.string (B fm)) := (hBc.cell (p := ⟨k, 2, none⟩) (by show k < wr.heap.size; omega)).trans hbox1)
                | (at_builtin; (refine wpList_new (T := 74) (E := 9) (size := 1) (bytes := 16) rfl (.tmp 61) (.tmp 63) rfl Tryd.underlying74 info9 rfl (by decide) (k + 3) f.b.length _ (ss f.b) 1 1 [.string (B x)] rfl hrn rfl rfl (by intro y hy; simp at hy; subst hy; rfl) (by unfold maxLen; omega) (by omega) hltx rfl ?_; intro v3 w3 own3 gr3; obtain ⟨a3, c3, rfl⟩ := own_slice own3; have hq := below_put (p := k + 2) (i := 2) (u := Value.slice a3 (f.b.length + 1) c3) hBx (by omega) hrn gr3; have hfs3 := HFx.out.putB x gr3 own3; have hcz : w3.cell? ⟨k + 2, 2, none⟩ = some vb := (World.cell?_of_block (a := ⟨k + 2, 2, none⟩) (grown_blk2 hlt hrn (Nat.lt_succ_self _) _ gr3 HFx.out.blk |>.trans HFx.out.blk.symm)).trans e2; have hfz : w3.frozen? ⟨k + 2, 2, none⟩ = false := (World.frozen?_of_block (a := ⟨k + 2, 2, none⟩) (grown_blk2 hlt hrn (Nat.lt_succ_self _) _ gr3 HFx.out.blk |>.trans HFx.out.blk.symm)).trans y2; have hlt3 : k + 2 < w3.heap.size := (by have := gr3.size; simp at this; omega); have hk1 : (w3.setCell ⟨k + 2, 2, none⟩ (Value.slice a3 (f.b.length + 1) c3)).heap[k + 1]? = some (.cells rs 106 (0, 0)) := (put_block (p := k + 2) (b := k + 1) (i := 2) (u := Value.slice a3 (f.b.length + 1) c3) hrn gr3 (by omega) (by omega) (by omega)).trans hr1; have hk0 : (w3.setCell ⟨k + 2, 2, none⟩ (Value.slice a3 (f.b.length + 1) c3)).cell? ⟨k, 2, none⟩ = some (.string (B fm)) := (World.cell?_of_block (a := ⟨k, 2, none⟩) (put_block (p := k + 2) (b := k) (i := 2) (u := Value.slice a3 (f.b.length + 1) c3) hrn gr3 (by omega) (by omega) (by omega))).trans hboxx)))
              go_roundg q
              case measure => omega
              case rel => exact ⟨i + 1, ⟨f.n, f.w, f.b ++ [x]⟩, _, _, _, by go_num, by omega, hfs3, ⟨rs, hk1, hr2⟩, hk0, by simp; omega, A1, below_k hB hq⟩
            · have hne : (er != 0) = true := by simpa using he
              have A1 : Aside0 (res = (⟨f.n, f.w, f.b ++ [x]⟩, er)) := ⟨by rw [hA1, if_neg he]⟩
              clear hA1
              go_wp2_with (first
                | (go_at_call 73; (with_reducible refine cc.mono ?_); rintro e w1 ⟨rfl, hBc⟩; have HFx : Aside0 (Fs 106 w1 (k + 2) vn vw vb f) := ⟨hfs.below hBc (Nat.le_refl _)⟩; have hrn := HFx.out.rb; have hltx : k + 3 ≤ w1.heap.size := (by have := hBc.size; omega); have hlt : k + 2 < w1.heap.size := (by omega); obtain ⟨e0, e1, e2, y0, y1, y2⟩ := HFx.out.cells; have hBx : Below (k + 2) wr w1 := hBc.mono (by omega); have hr1 : w1.heap[k + 1]? = some (.cells rs 106 (0, 0)) := (hBc.block _ (by omega)).trans hr0; have hboxx : w1.cell? ⟨k, 2, none⟩ = some (.string (B fm)) := (hBc.cell (p := ⟨k, 2, none⟩) (by show k < wr.heap.size; omega)).trans hbox1)
                | (at_builtin; (refine wpList_new (T := 74) (E := 9) (size := 1) (bytes := 16) rfl (.tmp 61) (.tmp 63) rfl Tryd.underlying74 info9 rfl (by decide) (k + 3) f.b.length _ (ss f.b) 1 1 [.string (B x)] rfl hrn rfl rfl (by intro y hy; simp at hy; subst hy; rfl) (by unfold maxLen; omega) (by omega) hltx rfl ?_; intro v3 w3 own3 gr3; obtain ⟨a3, c3, rfl⟩ := own_slice own3; have hq := below_put (p := k + 2) (i := 2) (u := Value.slice a3 (f.b.length + 1) c3) hBx (by omega) hrn gr3; have hfs3 := HFx.out.putB x gr3 own3; have hcz : w3.cell? ⟨k + 2, 2, none⟩ = some vb := (World.cell?_of_block (a := ⟨k + 2, 2, none⟩) (grown_blk2 hlt hrn (Nat.lt_succ_self _) _ gr3 HFx.out.blk |>.trans HFx.out.blk.symm)).trans e2; have hfz : w3.frozen? ⟨k + 2, 2, none⟩ = false := (World.frozen?_of_block (a := ⟨k + 2, 2, none⟩) (grown_blk2 hlt hrn (Nat.lt_succ_self _) _ gr3 HFx.out.blk |>.trans HFx.out.blk.symm)).trans y2; have hlt3 : k + 2 < w3.heap.size := (by have := gr3.size; simp at this; omega); have hk1 : (w3.setCell ⟨k + 2, 2, none⟩ (Value.slice a3 (f.b.length + 1) c3)).heap[k + 1]? = some (.cells rs 106 (0, 0)) := (put_block (p := k + 2) (b := k + 1) (i := 2) (u := Value.slice a3 (f.b.length + 1) c3) hrn gr3 (by omega) (by omega) (by omega)).trans hr1; have hk0 : (w3.setCell ⟨k + 2, 2, none⟩ (Value.slice a3 (f.b.length + 1) c3)).cell? ⟨k, 2, none⟩ = some (.string (B fm)) := (World.cell?_of_block (a := ⟨k, 2, none⟩) (put_block (p := k + 2) (b := k) (i := 2) (u := Value.slice a3 (f.b.length + 1) c3) hrn gr3 (by omega) (by omega) (by omega))).trans hboxx))
                | (refine wpList_store_row rfl _ _ _ rfl (k + 1) _ rfl rfl 106 _ (by with_reducible assumption) size106 hr2 all_nil3 ?_))
              refine bodyPost_ret (v := .tuple #[.agg nil3, .int .i64 er]) ?_ rfl (HF.out _ _ _ _ _ _ _ A1.out rfl (fun h => absurd h he) ⟨_, _, _, _, _, _, _, _, _, rfl, rfl, rfl⟩ (setRow_belowk (below_k hB hq) (by omega)))
              exact results_cell_tmp (p := 4) (q := 5) (ty := 106) rfl _ _ (k + 1) 106 nil3 (0, 0) _ _ rfl rfl (setRow_heap _ _ _ _ _ _ hk1) Tryd.underlying106 rfl size106
          · exact absurd h2 h110
    · obtain rfl : i = n := by omega
      have hil : ¬ (i : Int) < (i : Int) := by omega
      have A1 : Aside0 (res = (f, 0)) := ⟨by rw [hA.out, List.drop_eq_nil_of_le (by rw [HN.out.1]; omega), fieldsG]⟩
      clear hA
      have hr3 := hfs.rows (b := k + 2) (by omega)
      have hbk := hfs.blk
      obtain ⟨an, cn, rfl⟩ := own_slice hfs.rn
      obtain ⟨aw, cw, rfl⟩ := own_slice hfs.rw
      obtain ⟨ab, cb, rfl⟩ := own_slice hfs.rb
      go_wp2_with (first
        | (refine wpList_load_row rfl _ _ rfl (k + 2) rfl 106 _ _ _ hbk Tryd.underlying106 rfl size106 ?_)
        | (refine wpList_store_row rfl _ _ _ rfl (k + 1) _ rfl rfl 106 _ hr0 size106 hr2 (all_3 an aw ab _ _ _ cn cw cb) ?_))
      refine bodyPost_ret (v := .tuple #[.agg #[.slice an f.n.length cn, .slice aw f.w.length cw, .slice ab f.b.length cb], .int .i64 0]) ?_ rfl (HF.out _ _ _ _ _ _ _ A1.out rfl (fun _ => rows_setRow hr3 (by omega)) ⟨_, _, _, _, _, _, _, _, _, rfl, rfl, rfl⟩ (setRow_belowk hB (by omega)))
      exact results_cell_tmp (p := 4) (q := 5) (ty := 106) rfl _ _ (k + 1) 106 #[.slice an f.n.length cn, .slice aw f.w.length cw, .slice ab f.b.length cb] (0, 0) _ _ rfl rfl (setRow_heap _ _ _ _ _ _ hr0) Tryd.underlying106 rfl size106
set_option maxHeartbeats 8000000 in
set_option maxRecDepth 100000 in
theorem rread_ok2 (w : World) (x0 : ByteArray) (x1 : Int) (fm : List UInt8) (g o c : Nat) (ws : List (List UInt8)) (hws : LT w g o ws) (hgw : g < w.heap.size) (hlw : ∀ x ∈ ws, x.length ≤ 3000000) (hn : ws.length ≤ 3000000) (h : fm.length < ws.length) :
    Calls Tryd.prog 66 #[.agg #[.string x0, .int .i64 x1, .string (B fm), .bool true], .slice (some ⟨g, o, none⟩) ws.length c] w (ReadRP (fieldsG fm 0 F0 ws) w) := by
  obtain ⟨n, hnl⟩ : ∃ n, ws.length = n := ⟨_, rfl⟩
  obtain ⟨L, hL⟩ : ∃ L, fm.length = L := ⟨_, rfl⟩
  have hLs : (B fm).size = L := by rw [B_size]; exact hL
  rw [hnl] at h hn ⊢
  rw [hL] at h
  have h1 : ¬ (n : Int) < (L : Int) := by omega
  have h2 : (n : Int) > (L : Int) := by omega
  obtain ⟨k, hk⟩ : ∃ k, w.heap.size = k := ⟨_, rfl⟩
  have HF : Aside0 (∀ (vn vw vb : Value) (f : Fld) (er : Int) (e : Ending) (w' : World), fieldsG fm 0 F0 ws = (f, er) → e = .returned (.tuple #[.agg #[vn, vw, vb], .int .i64 er]) → (er = 0 → Rows3 w' (k + 2) vn vw vb f) → (∃ a1 n1 c1 a2 n2 c2 a3 n3 c3, vn = .slice a1 n1 c1 ∧ vw = .slice a2 n2 c2 ∧ vb = .slice a3 n3 c3) → Below k w w' → ReadRP (fieldsG fm 0 F0 ws) w e w') := ⟨fun vn vw vb f er e w' h1 h2 h3 h5 h4 => by subst hk; rw [h1]; exact ⟨vn, vw, vb, h2, fun h => (h3 h).mono (by omega), h5, h4⟩⟩
  obtain ⟨Q, hQ⟩ : ∃ Q, ReadRP (fieldsG fm 0 F0 ws) w = Q := ⟨_, rfl⟩
  rw [hQ] at HF ⊢
  obtain ⟨res, hres⟩ : ∃ r, fieldsG fm 0 F0 ws = r := ⟨_, rfl⟩
  rw [hres] at HF
  have HR : Aside0 (fieldsG fm 0 F0 ws = res) := ⟨hres⟩
  have HN : Aside0 (ws.length = n ∧ fm.length = L) := ⟨hnl, hL⟩
  have hfr := fresh_fs 106 ((w.alloc (.cells #[.string x0, .int .i64 x1, .string (B fm), .bool true] 97)).alloc (.cells #[.slice none 0 0, .slice none 0 0, .slice none 0 0] 106))
  have hB0 : Below k w (((w.alloc (.cells #[.string x0, .int .i64 x1, .string (B fm), .bool true] 97)).alloc (.cells #[.slice none 0 0, .slice none 0 0, .slice none 0 0] 106)).alloc (.cells #[.slice none 0 0, .slice none 0 0, .slice none 0 0] 106)) := by
    rw [← hk]
    exact (((Below.refl _ w).alloc (Nat.le_refl _) _).alloc (by simp) _).alloc (by simp; omega) _
  simp only [alsize, hk] at hfr
  have hbox : (((w.alloc (.cells #[.string x0, .int .i64 x1, .string (B fm), .bool true] 97)).alloc (.cells #[.slice none 0 0, .slice none 0 0, .slice none 0 0] 106)).alloc (.cells #[.slice none 0 0, .slice none 0 0, .slice none 0 0] 106)).cell? ⟨k, 2, none⟩ = some (.string (B fm)) := by
    rw [← hk]
    exact ((((Below.refl (w.alloc (.cells #[.string x0, .int .i64 x1, .string (B fm), .bool true] 97)).heap.size (w.alloc (.cells #[.string x0, .int .i64 x1, .string (B fm), .bool true] 97))).alloc (Nat.le_refl _) _).alloc (by simp) _).cell (p := ⟨w.heap.size, 2, none⟩) (by simp)).trans (by simp)
  have hbx : Bx (((w.alloc (.cells #[.string x0, .int .i64 x1, .string (B fm), .bool true] 97)).alloc (.cells #[.slice none 0 0, .slice none 0 0, .slice none 0 0] 106)).alloc (.cells #[.slice none 0 0, .slice none 0 0, .slice none 0 0] 106)) (k + 1) 3 106 := by
    have := Bx.old (Bx.new (w.alloc (.cells #[.string x0, .int .i64 x1, .string (B fm), .bool true] 97)) #[.slice none 0 0, .slice none 0 0, .slice none 0 0] 106 3 rfl) (.cells #[.slice none 0 0, .slice none 0 0, .slice none 0 0] 106)
    simp only [alsize, hk] at this
    exact this
  clear hQ hres hnl hL
  go_enter Tryd.func66, Tryd.ntmps66
  go_wp2
  go_loopg [7] n (fun q v7 wr => ∃ (i : Nat) (f : Fld) (vn vw vb : Value), v7 = .int .i64 i ∧ i + q = n ∧ Fs 106 wr (k + 2) vn vw vb f ∧ Bx wr (k + 1) 3 106 ∧ wr.cell? ⟨k, 2, none⟩ = some (.string (B fm)) ∧ (f.n.length ≤ i ∧ f.w.length ≤ i ∧ f.b.length ≤ i) ∧ Aside0 (res = fieldsG fm i f (ws.drop i)) ∧ Below k w wr)
  case atStart => exact ⟨0, F0, _, _, _, rfl, by omega, hfr, hbx, hbox, ⟨Nat.le_refl _, Nat.le_refl _, Nat.le_refl _⟩, ⟨HR.out.symm⟩, hB0⟩
  case round =>
    obtain ⟨i, f, vn, vw, vb, rfl, hiq, hfs, hbx1, hbox1, hlens, hA, hB⟩ := hrel
    clear hfr hbx hbox hB0
    have hlt := hfs.lt
    obtain ⟨rs, hr0, hr2⟩ := hbx1
    by_cases hi : i < n
    · obtain ⟨q, rfl⟩ : ∃ q, gk = q + 1 := ⟨gk - 1, by omega⟩
      have hil : (i : Int) < (n : Int) := by omega
      obtain ⟨s, hs⟩ : ∃ s, ws[i]? = some s := ⟨_, List.getElem?_eq_getElem (by rw [HN.out.1]; omega)⟩
      have hcell : wr.cell? ⟨g, o + i, none⟩ = some (.string (B s)) := by
        rw [hB.cell (p := ⟨g, o + i, none⟩) (by rw [← hk]; exact hgw)]
        exact hws i s hs
      have hsl : (B s).size ≤ 3000000 := by rw [B_size]; exact hlw s (List.mem_of_getElem? hs)
      have hA1 : res = fieldsG fm i f (s :: ws.drop (i + 1)) := by rw [hA.out, drop_cons hs]
      clear hA
      obtain ⟨fc, hfc⟩ : ∃ fc, fm.getD i 110 = fc := ⟨_, rfl⟩
      rw [fieldsG, hfc] at hA1
      have hform : (i < L ∧ fm[i]? = some fc) ∨ (¬ i < L ∧ fc = 110) := by
        by_cases h : i < L
        · left
          refine ⟨h, ?_⟩
          have h2 : i < fm.length := by rw [HN.out.2]; exact h
          rw [← hfc, List.getD_eq_getElem?_getD, List.getElem?_eq_getElem h2]; rfl
        · right
          refine ⟨h, ?_⟩
          have h2 : fm.length ≤ i := by rw [HN.out.2]; omega
          rw [← hfc, List.getD_eq_getElem?_getD, List.getElem?_eq_none h2]; rfl
      have c72 := rnumber_walk wr (B s) hsl
      have c77 := rword_walk wr (B s) hsl
      have c73 := rbytes_walk wr (B s) hsl
      rw [B_data] at c72 c77 c73
      unfold RwP at c77
      clear hfc hs
      generalize B s = sv at hcell c72 c77 c73 hsl
      by_cases h110 : fc = 110
      · subst h110
        simp only [takeE, takeF, if_true] at hA1
        obtain ⟨x, hx⟩ : ∃ x, (numP s).1 = x := ⟨_, rfl⟩
        obtain ⟨er, her⟩ : ∃ er, (numP s).2 = er := ⟨_, rfl⟩
        rw [hx, her] at c72 hA1
        have cc := c72
        clear c72 c77 c73 hx her
        rcases hform with ⟨hiL, hfc⟩ | ⟨hiL, _⟩
        · have hix : ∀ W, (Instr.index 9 (.string (B fm)) (.int .i64 (i : Int))).run Tryd.prog W = .ok (.int .u8 110) W := fun W => index_B fm i 110 hfc W
          have hiL2 : (i : Int) < (L : Int) := by omega
          clear hfc
          by_cases he : er = 0
          · subst he
            have A1 : Aside0 (res = fieldsG fm (i + 1) ⟨f.n ++ [x], f.w, f.b⟩ (ws.drop (i + 1))) := ⟨by rw [hA1, if_pos rfl]⟩
            clear hA1
            go_wp2_with (first
              | (go_at_call 72; (with_reducible refine cc.mono ?_); rintro e w1 ⟨rfl, hwe⟩; subst hwe; have HFx : Aside0 (Fs 106 wr (k + 2) vn vw vb f) := ⟨hfs⟩; have hrn := HFx.out.rn; have hltx : k + 3 ≤ wr.heap.size := (by omega); have hlt : k + 2 < wr.heap.size := (by omega); obtain ⟨e0, e1, e2, y0, y1, y2⟩ := HFx.out.cells; have hBx : Below (k + 2) wr wr := Below.refl _ _; have hr1 := hr0; have hboxx := hbox1)
              | (at_builtin; (refine wpList_new (T := 35) (E := 3) (size := 1) (bytes := 8) rfl (.tmp 78) (.tmp 80) rfl Tryd.underlying35 info3 rfl (by decide) (k + 3) f.n.length _ (iv f.n) 1 1 [.int .i64 x] rfl hrn rfl rfl (by intro y hy; simp at hy; subst hy; rfl) (by unfold maxLen; omega) (by omega) hltx rfl ?_; intro v3 w3 own3 gr3; obtain ⟨a3, c3, rfl⟩ := own_slice own3; have hq := below_put (p := k + 2) (i := 0) (u := Value.slice a3 (f.n.length + 1) c3) hBx (by omega) hrn gr3; have hfs3 := HFx.out.putN x gr3 own3; have hcz : w3.cell? ⟨k + 2, 0, none⟩ = some vn := (World.cell?_of_block (a := ⟨k + 2, 0, none⟩) (grown_blk2 hlt hrn (Nat.lt_succ_self _) _ gr3 HFx.out.blk |>.trans HFx.out.blk.symm)).trans e0; have hfz : w3.frozen? ⟨k + 2, 0, none⟩ = false := (World.frozen?_of_block (a := ⟨k + 2, 0, none⟩) (grown_blk2 hlt hrn (Nat.lt_succ_self _) _ gr3 HFx.out.blk |>.trans HFx.out.blk.symm)).trans y0; have hlt3 : k + 2 < w3.heap.size := (by have := gr3.size; simp at this; omega); have hk1 : (w3.setCell ⟨k + 2, 0, none⟩ (Value.slice a3 (f.n.length + 1) c3)).heap[k + 1]? = some (.cells rs 106 (0, 0)) := (put_block (p := k + 2) (b := k + 1) (i := 0) (u := Value.slice a3 (f.n.length + 1) c3) hrn gr3 (by omega) (by omega) (by omega)).trans hr1; have hk0 : (w3.setCell ⟨k + 2, 0, none⟩ (Value.slice a3 (f.n.length + 1) c3)).cell? ⟨k, 2, none⟩ = some (.string (B fm)) := (World.cell?_of_block (a := ⟨k, 2, none⟩) (put_block (p := k + 2) (b := k) (i := 0) (u := Value.slice a3 (f.n.length + 1) c3) hrn gr3 (by omega) (by omega) (by omega))).trans hboxx)))
            go_roundg q
            case measure => omega
            case rel => exact ⟨i + 1, ⟨f.n ++ [x], f.w, f.b⟩, _, _, _, by go_num, by omega, hfs3, ⟨rs, hk1, hr2⟩, hk0, by simp; omega, A1, below_k hB hq⟩
          · have hne : (er != 0) = true := by simpa using he
            have A1 : Aside0 (res = (⟨f.n ++ [x], f.w, f.b⟩, er)) := ⟨by rw [hA1, if_neg he]⟩
            clear hA1
            go_wp2_with (first
              | (go_at_call 72; (with_reducible refine cc.mono ?_); rintro e w1 ⟨rfl, hwe⟩; subst hwe; have HFx : Aside0 (Fs 106 wr (k + 2) vn vw vb f) := ⟨hfs⟩; have hrn := HFx.out.rn; have hltx : k + 3 ≤ wr.heap.size := (by omega); have hlt : k + 2 < wr.heap.size := (by omega); obtain ⟨e0, e1, e2, y0, y1, y2⟩ := HFx.out.cells; have hBx : Below (k + 2) wr wr := Below.refl _ _; have hr1 := hr0; have hboxx := hbox1)
              | (at_builtin; (refine wpList_new (T := 35) (E := 3) (size := 1) (bytes := 8) rfl (.tmp 78) (.tmp 80) rfl Tryd.underlying35 info3 rfl (by decide) (k + 3) f.n.length _ (iv f.n) 1 1 [.int .i64 x] rfl hrn rfl rfl (by intro y hy; simp at hy; subst hy; rfl) (by unfold maxLen; omega) (by omega) hltx rfl ?_; intro v3 w3 own3 gr3; obtain ⟨a3, c3, rfl⟩ := own_slice own3; have hq := below_put (p := k + 2) (i := 0) (u := Value.slice a3 (f.n.length + 1) c3) hBx (by omega) hrn gr3; have hfs3 := HFx.out.putN x gr3 own3; have hcz : w3.cell? ⟨k + 2, 0, none⟩ = some vn := (World.cell?_of_block (a := ⟨k + 2, 0, none⟩) (grown_blk2 hlt hrn (Nat.lt_succ_self _) _ gr3 HFx.out.blk |>.trans HFx.out.blk.symm)).trans e0; have hfz : w3.frozen? ⟨k + 2, 0, none⟩ = false := (World.frozen?_of_block (a := ⟨k + 2, 0, none⟩) (grown_blk2 hlt hrn (Nat.lt_succ_self _) _ gr3 HFx.out.blk |>.trans HFx.out.blk.symm)).trans y0; have hlt3 : k + 2 < w3.heap.size := (by have := gr3.size; simp at this; omega); have hk1 : (w3.setCell ⟨k + 2, 0, none⟩ (Value.slice a3 (f.n.length + 1) c3)).heap[k + 1]? = some (.cells rs 106 (0, 0)) := (put_block (p := k + 2) (b := k + 1) (i := 0) (u := Value.slice a3 (f.n.length + 1) c3) hrn gr3 (by omega) (by omega) (by omega)).trans hr1; have hk0 : (w3.setCell ⟨k + 2, 0, none⟩ (Value.slice a3 (f.n.length + 1) c3)).cell? ⟨k, 2, none⟩ = some (.string (B fm)) := (World.cell?_of_block (a := ⟨k, 2, none⟩) (put_block (p := k + 2) (b := k) (i := 0) (u := Value.slice a3 (f.n.length + 1) c3) hrn gr3 (by omega) (by omega) (by omega))).trans hboxx))
              | (refine wpList_store_row rfl _ _ _ rfl (k + 1) _ rfl rfl 106 _ (by with_reducible assumption) size106 hr2 all_nil3 ?_))
            refine bodyPost_ret (v := .tuple #[.agg nil3, .int .i64 er]) ?_ rfl (HF.out _ _ _ _ _ _ _ A1.out rfl (fun h => absurd h he) ⟨_, _, _, _, _, _, _, _, _, rfl, rfl, rfl⟩ (setRow_belowk (below_k hB hq) (by omega)))
            exact results_cell_tmp (p := 4) (q := 5) (ty := 106) rfl _ _ (k + 1) 106 nil3 (0, 0) _ _ rfl rfl (setRow_heap _ _ _ _ _ _ hk1) Tryd.underlying106 rfl size106
        · have hiL2 : ¬ (i : Int) < (L : Int) := by omega
          by_cases he : er = 0
          · subst he
            have A1 : Aside0 (res = fieldsG fm (i + 1) ⟨f.n ++ [x], f.w, f.b⟩ (ws.drop (i + 1))) := ⟨by rw [hA1, if_pos rfl]⟩
            clear hA1
            go_wp2_with (first
              | (go_at_call 72; (with_reducible refine cc.mono ?_); rintro e w1 ⟨rfl, hwe⟩; subst hwe; have HFx : Aside0 (Fs 106 wr (k + 2) vn vw vb f) := ⟨hfs⟩; have hrn := HFx.out.rn; have hltx : k + 3 ≤ wr.heap.size := (by omega); have hlt : k + 2 < wr.heap.size := (by omega); obtain ⟨e0, e1, e2, y0, y1, y2⟩ := HFx.out.cells; have hBx : Below (k + 2) wr wr := Below.refl _ _; have hr1 := hr0; have hboxx := hbox1)
              | (at_builtin; (refine wpList_new (T := 35) (E := 3) (size := 1) (bytes := 8) rfl (.tmp 78) (.tmp 80) rfl Tryd.underlying35 info3 rfl (by decide) (k + 3) f.n.length _ (iv f.n) 1 1 [.int .i64 x] rfl hrn rfl rfl (by intro y hy; simp at hy; subst hy; rfl) (by unfold maxLen; omega) (by omega) hltx rfl ?_; intro v3 w3 own3 gr3; obtain ⟨a3, c3, rfl⟩ := own_slice own3; have hq := below_put (p := k + 2) (i := 0) (u := Value.slice a3 (f.n.length + 1) c3) hBx (by omega) hrn gr3; have hfs3 := HFx.out.putN x gr3 own3; have hcz : w3.cell? ⟨k + 2, 0, none⟩ = some vn := (World.cell?_of_block (a := ⟨k + 2, 0, none⟩) (grown_blk2 hlt hrn (Nat.lt_succ_self _) _ gr3 HFx.out.blk |>.trans HFx.out.blk.symm)).trans e0; have hfz : w3.frozen? ⟨k + 2, 0, none⟩ = false := (World.frozen?_of_block (a := ⟨k + 2, 0, none⟩) (grown_blk2 hlt hrn (Nat.lt_succ_self _) _ gr3 HFx.out.blk |>.trans HFx.out.blk.symm)).trans y0; have hlt3 : k + 2 < w3.heap.size := (by have := gr3.size; simp at this; omega); have hk1 : (w3.setCell ⟨k + 2, 0, none⟩ (Value.slice a3 (f.n.length + 1) c3)).heap[k + 1]? = some (.cells rs 106 (0, 0)) := (put_block (p := k + 2) (b := k + 1) (i := 0) (u := Value.slice a3 (f.n.length + 1) c3) hrn gr3 (by omega) (by omega) (by omega)).trans hr1; have hk0 : (w3.setCell ⟨k + 2, 0, none⟩ (Value.slice a3 (f.n.length + 1) c3)).cell? ⟨k, 2, none⟩ = some (.string (B fm)) := (World.cell?_of_block (a := ⟨k, 2, none⟩) (put_block (p := k + 2) (b := k) (i := 0) (u := Value.slice a3 (f.n.length + 1) c3) hrn gr3 (by omega) (by omega) (by omega))).trans hboxx)))
            go_roundg q
            case measure => omega
            case rel => exact ⟨i + 1, ⟨f.n ++ [x], f.w, f.b⟩, _, _, _, by go_num, by omega, hfs3, ⟨rs, hk1, hr2⟩, hk0, by simp; omega, A1, below_k hB hq⟩
          · have hne : (er != 0) = true := by simpa using he
            have A1 : Aside0 (res = (⟨f.n ++ [x], f.w, f.b⟩, er)) := ⟨by rw [hA1, if_neg he]⟩
            clear hA1
            go_wp2_with (first
              | (go_at_call 72; (with_reducible refine cc.mono ?_); rintro e w1 ⟨rfl, hwe⟩; subst hwe; have HFx : Aside0 (Fs 106 wr (k + 2) vn vw vb f) := ⟨hfs⟩; have hrn := HFx.out.rn; have hltx : k + 3 ≤ wr.heap.size := (by omega); have hlt : k + 2 < wr.heap.size := (by omega); obtain ⟨e0, e1, e2, y0, y1, y2⟩ := HFx.out.cells; have hBx : Below (k + 2) wr wr := Below.refl _ _; have hr1 := hr0; have hboxx := hbox1)
              | (at_builtin; (refine wpList_new (T := 35) (E := 3) (size := 1) (bytes := 8) rfl (.tmp 78) (.tmp 80) rfl Tryd.underlying35 info3 rfl (by decide) (k + 3) f.n.length _ (iv f.n) 1 1 [.int .i64 x] rfl hrn rfl rfl (by intro y hy; simp at hy; subst hy; rfl) (by unfold maxLen; omega) (by omega) hltx rfl ?_; intro v3 w3 own3 gr3; obtain ⟨a3, c3, rfl⟩ := own_slice own3; have hq := below_put (p := k + 2) (i := 0) (u := Value.slice a3 (f.n.length + 1) c3) hBx (by omega) hrn gr3; have hfs3 := HFx.out.putN x gr3 own3; have hcz : w3.cell? ⟨k + 2, 0, none⟩ = some vn := (World.cell?_of_block (a := ⟨k + 2, 0, none⟩) (grown_blk2 hlt hrn (Nat.lt_succ_self _) _ gr3 HFx.out.blk |>.trans HFx.out.blk.symm)).trans e0; have hfz : w3.frozen? ⟨k + 2, 0, none⟩ = false := (World.frozen?_of_block (a := ⟨k + 2, 0, none⟩) (grown_blk2 hlt hrn (Nat.lt_succ_self _) _ gr3 HFx.out.blk |>.trans HFx.out.blk.symm)).trans y0; have hlt3 : k + 2 < w3.heap.size := (by have := gr3.size; simp at this; omega); have hk1 : (w3.setCell ⟨k + 2, 0, none⟩ (Value.slice a3 (f.n.length + 1) c3)).heap[k + 1]? = some (.cells rs 106 (0, 0)) := (put_block (p := k + 2) (b := k + 1) (i := 0) (u := Value.slice a3 (f.n.length + 1) c3) hrn gr3 (by omega) (by omega) (by omega)).trans hr1; have hk0 : (w3.setCell ⟨k + 2, 0, none⟩ (Value.slice a3 (f.n.length + 1) c3)).cell? ⟨k, 2, none⟩ = some (.string (B fm)) := (World.cell?_of_block (a := ⟨k, 2, none⟩) (put_block (p := k + 2) (b := k) (i := 0) (u := Value.slice a3 (f.n.length + 1) c3) hrn gr3 (by omega) (by omega) (by omega))).trans hboxx))
              | (refine wpList_store_row rfl _ _ _ rfl (k + 1) _ rfl rfl 106 _ (by with_reducible assumption) size106 hr2 all_nil3 ?_))
            refine bodyPost_ret (v := .tuple #[.agg nil3, .int .i64 er]) ?_ rfl (HF.out _ _ _ _ _ _ _ A1.out rfl (fun h => absurd h he) ⟨_, _, _, _, _, _, _, _, _, rfl, rfl, rfl⟩ (setRow_belowk (below_k hB hq) (by omega)))
            exact results_cell_tmp (p := 4) (q := 5) (ty := 106) rfl _ _ (k + 1) 106 nil3 (0, 0) _ _ rfl rfl (setRow_heap _ _ _ _ _ _ hk1) Tryd.underlying106 rfl size106
      · by_cases h119 : fc = 119
        · subst h119
          simp only [takeE, takeF, if_neg h110, if_true] at hA1
          obtain ⟨x, hx⟩ : ∃ x, (wordP s).1 = x := ⟨_, rfl⟩
          obtain ⟨er, her⟩ : ∃ er, (wordP s).2 = er := ⟨_, rfl⟩
          rw [hx, her] at c77 hA1
          have cc := c77
          clear c72 c77 c73 hx her h110
          rcases hform with ⟨hiL, hfc⟩ | ⟨hiL, h2⟩
          · have hix : ∀ W, (Instr.index 9 (.string (B fm)) (.int .i64 (i : Int))).run Tryd.prog W = .ok (.int .u8 119) W := fun W => index_B fm i 119 hfc W
            have hiL2 : (i : Int) < (L : Int) := by omega
            clear hfc
            by_cases he : er = 0
            · subst he
              have A1 : Aside0 (res = fieldsG fm (i + 1) ⟨f.n, f.w ++ [x], f.b⟩ (ws.drop (i + 1))) := ⟨by rw [hA1, if_pos rfl]⟩
              clear hA1
              go_wp2_with (first
                | (go_at_call 77; (with_reducible refine cc.mono ?_); rintro e w1 ⟨rfl, hwe⟩; subst hwe; have HFx : Aside0 (Fs 106 wr (k + 2) vn vw vb f) := ⟨hfs⟩; have hrn := HFx.out.rw; have hltx : k + 3 ≤ wr.heap.size := (by omega); have hlt : k + 2 < wr.heap.size := (by omega); obtain ⟨e0, e1, e2, y0, y1, y2⟩ := HFx.out.cells; have hBx : Below (k + 2) wr wr := Below.refl _ _; have hr1 := hr0; have hboxx := hbox1)
                | (at_builtin; (refine wpList_new (T := 77) (E := 32) (size := 1) (bytes := 8) rfl (.tmp 95) (.tmp 97) rfl Tryd.underlying77 info32 rfl (by decide) (k + 3) f.w.length _ (uv f.w) 1 1 [.int .u64 (x : Int)] rfl hrn rfl rfl (by intro y hy; simp at hy; subst hy; rfl) (by unfold maxLen; omega) (by omega) hltx rfl ?_; intro v3 w3 own3 gr3; obtain ⟨a3, c3, rfl⟩ := own_slice own3; have hq := below_put (p := k + 2) (i := 1) (u := Value.slice a3 (f.w.length + 1) c3) hBx (by omega) hrn gr3; have hfs3 := HFx.out.putW x gr3 own3; have hcz : w3.cell? ⟨k + 2, 1, none⟩ = some vw := (World.cell?_of_block (a := ⟨k + 2, 1, none⟩) (grown_blk2 hlt hrn (Nat.lt_succ_self _) _ gr3 HFx.out.blk |>.trans HFx.out.blk.symm)).trans e1; have hfz : w3.frozen? ⟨k + 2, 1, none⟩ = false := (World.frozen?_of_block (a := ⟨k + 2, 1, none⟩) (grown_blk2 hlt hrn (Nat.lt_succ_self _) _ gr3 HFx.out.blk |>.trans HFx.out.blk.symm)).trans y1; have hlt3 : k + 2 < w3.heap.size := (by have := gr3.size; simp at this; omega); have hk1 : (w3.setCell ⟨k + 2, 1, none⟩ (Value.slice a3 (f.w.length + 1) c3)).heap[k + 1]? = some (.cells rs 106 (0, 0)) := (put_block (p := k + 2) (b := k + 1) (i := 1) (u := Value.slice a3 (f.w.length + 1) c3) hrn gr3 (by omega) (by omega) (by omega)).trans hr1; have hk0 : (w3.setCell ⟨k + 2, 1, none⟩ (Value.slice a3 (f.w.length + 1) c3)).cell? ⟨k, 2, none⟩ = some (.string (B fm)) := (World.cell?_of_block (a := ⟨k, 2, none⟩) (put_block (p := k + 2) (b := k) (i := 1) (u := Value.slice a3 (f.w.length + 1) c3) hrn gr3 (by omega) (by omega) (by omega))).trans hboxx)))
              go_roundg q
              case measure => omega
              case rel => exact ⟨i + 1, ⟨f.n, f.w ++ [x], f.b⟩, _, _, _, by go_num, by omega, hfs3, ⟨rs, hk1, hr2⟩, hk0, by simp; omega, A1, below_k hB hq⟩
            · have hne : (er != 0) = true := by simpa using he
              have A1 : Aside0 (res = (⟨f.n, f.w ++ [x], f.b⟩, er)) := ⟨by rw [hA1, if_neg he]⟩
              clear hA1
              go_wp2_with (first
                | (go_at_call 77; (with_reducible refine cc.mono ?_); rintro e w1 ⟨rfl, hwe⟩; subst hwe; have HFx : Aside0 (Fs 106 wr (k + 2) vn vw vb f) := ⟨hfs⟩; have hrn := HFx.out.rw; have hltx : k + 3 ≤ wr.heap.size := (by omega); have hlt : k + 2 < wr.heap.size := (by omega); obtain ⟨e0, e1, e2, y0, y1, y2⟩ := HFx.out.cells; have hBx : Below (k + 2) wr wr := Below.refl _ _; have hr1 := hr0; have hboxx := hbox1)
                | (at_builtin; (refine wpList_new (T := 77) (E := 32) (size := 1) (bytes := 8) rfl (.tmp 95) (.tmp 97) rfl Tryd.underlying77 info32 rfl (by decide) (k + 3) f.w.length _ (uv f.w) 1 1 [.int .u64 (x : Int)] rfl hrn rfl rfl (by intro y hy; simp at hy; subst hy; rfl) (by unfold maxLen; omega) (by omega) hltx rfl ?_; intro v3 w3 own3 gr3; obtain ⟨a3, c3, rfl⟩ := own_slice own3; have hq := below_put (p := k + 2) (i := 1) (u := Value.slice a3 (f.w.length + 1) c3) hBx (by omega) hrn gr3; have hfs3 := HFx.out.putW x gr3 own3; have hcz : w3.cell? ⟨k + 2, 1, none⟩ = some vw := (World.cell?_of_block (a := ⟨k + 2, 1, none⟩) (grown_blk2 hlt hrn (Nat.lt_succ_self _) _ gr3 HFx.out.blk |>.trans HFx.out.blk.symm)).trans e1; have hfz : w3.frozen? ⟨k + 2, 1, none⟩ = false := (World.frozen?_of_block (a := ⟨k + 2, 1, none⟩) (grown_blk2 hlt hrn (Nat.lt_succ_self _) _ gr3 HFx.out.blk |>.trans HFx.out.blk.symm)).trans y1; have hlt3 : k + 2 < w3.heap.size := (by have := gr3.size; simp at this; omega); have hk1 : (w3.setCell ⟨k + 2, 1, none⟩ (Value.slice a3 (f.w.length + 1) c3)).heap[k + 1]? = some (.cells rs 106 (0, 0)) := (put_block (p := k + 2) (b := k + 1) (i := 1) (u := Value.slice a3 (f.w.length + 1) c3) hrn gr3 (by omega) (by omega) (by omega)).trans hr1; have hk0 : (w3.setCell ⟨k + 2, 1, none⟩ (Value.slice a3 (f.w.length + 1) c3)).cell? ⟨k, 2, none⟩ = some (.string (B fm)) := (World.cell?_of_block (a := ⟨k, 2, none⟩) (put_block (p := k + 2) (b := k) (i := 1) (u := Value.slice a3 (f.w.length + 1) c3) hrn gr3 (by omega) (by omega) (by omega))).trans hboxx))
                | (refine wpList_store_row rfl _ _ _ rfl (k + 1) _ rfl rfl 106 _ (by with_reducible assumption) size106 hr2 all_nil3 ?_))
              refine bodyPost_ret (v := .tuple #[.agg nil3, .int .i64 er]) ?_ rfl (HF.out _ _ _ _ _ _ _ A1.out rfl (fun h => absurd h he) ⟨_, _, _, _, _, _, _, _, _, rfl, rfl, rfl⟩ (setRow_belowk (below_k hB hq) (by omega)))
              exact results_cell_tmp (p := 4) (q := 5) (ty := 106) rfl _ _ (k + 1) 106 nil3 (0, 0) _ _ rfl rfl (setRow_heap _ _ _ _ _ _ hk1) Tryd.underlying106 rfl size106
          · exact absurd h2 (by decide)
        · simp only [takeE, takeF, if_neg h110, if_neg h119] at hA1
          obtain ⟨x, hx⟩ : ∃ x, (bytesV s).getD [] = x := ⟨_, rfl⟩
          obtain ⟨er, her⟩ : ∃ er : Int, (if (bytesV s).isSome = true then 0 else 160) = er := ⟨_, rfl⟩
          rw [hx, her] at c73 hA1
          have cc := c73
          have n110 : ((fc.toNat : Int) == 110) = false := neB (d := 110) h110
          have n119 : ((fc.toNat : Int) == 119) = false := neB (d := 119) h119
          clear c72 c77 c73 hx her
          rcases hform with ⟨hiL, hfc⟩ | ⟨hiL, h2⟩
          · have hix : ∀ W, (Instr.index 9 (.string (B fm)) (.int .i64 (i : Int))).run Tryd.prog W = .ok (.int .u8 (fc.toNat : Int)) W := fun W => index_B fm i fc hfc W
            have hiL2 : (i : Int) < (L : Int) := by omega
            clear hfc h110 h119
            generalize fc.toNat = fcn at hix n110 n119
            by_cases he : er = 0
            · subst he
              have A1 : Aside0 (res = fieldsG fm (i + 1) ⟨f.n, f.w, f.b ++ [x]⟩ (ws.drop (i + 1))) := ⟨by rw [hA1, if_pos rfl]⟩
              clear hA1
              go_wp2_with (first
                | (go_at_call 73; (with_reducible refine cc.mono ?_); rintro e w1 ⟨rfl, hBc⟩; have HFx : Aside0 (Fs 106 w1 (k + 2) vn vw vb f) := ⟨hfs.below hBc (Nat.le_refl _)⟩; have hrn := HFx.out.rb; have hltx : k + 3 ≤ w1.heap.size := (by have := hBc.size; omega); have hlt : k + 2 < w1.heap.size := (by omega); obtain ⟨e0, e1, e2, y0, y1, y2⟩ := HFx.out.cells; have hBx : Below (k + 2) wr w1 := hBc.mono (by omega); have hr1 : w1.heap[k + 1]? = some (.cells rs 106 (0, 0)) := (hBc.block _ (by omega)).trans hr0; have hboxx : w1.cell? ⟨k, 2, none⟩ = some (.string (B fm)) := (hBc.cell (p := ⟨k, 2, none⟩) (by show k < wr.heap.size; omega)).trans hbox1)
                | (at_builtin; (refine wpList_new (T := 74) (E := 9) (size := 1) (bytes := 16) rfl (.tmp 61) (.tmp 63) rfl Tryd.underlying74 info9 rfl (by decide) (k + 3) f.b.length _ (ss f.b) 1 1 [.string (B x)] rfl hrn rfl rfl (by intro y hy; simp at hy; subst hy; rfl) (by unfold maxLen; omega) (by omega) hltx rfl ?_; intro v3 w3 own3 gr3; obtain ⟨a3, c3, rfl⟩ := own_slice own3; have hq := below_put (p := k + 2) (i := 2) (u := Value.slice a3 (f.b.length + 1) c3) hBx (by omega) hrn gr3; have hfs3 := HFx.out.putB x gr3 own3; have hcz : w3.cell? ⟨k + 2, 2, none⟩ = some vb := (World.cell?_of_block (a := ⟨k + 2, 2, none⟩) (grown_blk2 hlt hrn (Nat.lt_succ_self _) _ gr3 HFx.out.blk |>.trans HFx.out.blk.symm)).trans e2; have hfz : w3.frozen? ⟨k + 2, 2, none⟩ = false := (World.frozen?_of_block (a := ⟨k + 2, 2, none⟩) (grown_blk2 hlt hrn (Nat.lt_succ_self _) _ gr3 HFx.out.blk |>.trans HFx.out.blk.symm)).trans y2; have hlt3 : k + 2 < w3.heap.size := (by have := gr3.size; simp at this; omega); have hk1 : (w3.setCell ⟨k + 2, 2, none⟩ (Value.slice a3 (f.b.length + 1) c3)).heap[k + 1]? = some (.cells rs 106 (0, 0)) := (put_block (p := k + 2) (b := k + 1) (i := 2) (u := Value.slice a3 (f.b.length + 1) c3) hrn gr3 (by omega) (by omega) (by omega)).trans hr1; have hk0 : (w3.setCell ⟨k + 2, 2, none⟩ (Value.slice a3 (f.b.length + 1) c3)).cell? ⟨k, 2, none⟩ = some (.string (B fm)) := (World.cell?_of_block (a := ⟨k, 2, none⟩) (put_block (p := k + 2) (b := k) (i := 2) (u := Value.slice a3 (f.b.length + 1) c3) hrn gr3 (by omega) (by omega) (by omega))).trans hboxx)))
              go_roundg q
              case measure => omega
              case rel => exact ⟨i + 1, ⟨f.n, f.w, f.b ++ [x]⟩, _, _, _, by go_num, by omega, hfs3, ⟨rs, hk1, hr2⟩, hk0, by simp; omega, A1, below_k hB hq⟩
            · have hne : (er != 0) = true := by simpa using he
              have A1 : Aside0 (res = (⟨f.n, f.w, f.b ++ [x]⟩, er)) := ⟨by rw [hA1, if_neg he]⟩
              clear hA1
              go_wp2_with (first
                | (go_at_call 73; (with_reducible refine cc.mono ?_); rintro e w1 ⟨rfl, hBc⟩; have HFx : Aside0 (Fs 106 w1 (k + 2) vn vw vb f) := ⟨hfs.below hBc (Nat.le_refl _)⟩; have hrn := HFx.out.rb; have hltx : k + 3 ≤ w1.heap.size := (by have := hBc.size; omega); have hlt : k + 2 < w1.heap.size := (by omega); obtain ⟨e0, e1, e2, y0, y1, y2⟩ := HFx.out.cells; have hBx : Below (k + 2) wr w1 := hBc.mono (by omega); have hr1 : w1.heap[k + 1]? = some (.cells rs 106 (0, 0)) := (hBc.block _ (by omega)).trans hr0; have hboxx : w1.cell? ⟨k, 2, none⟩ = some (.string (B fm)) := (hBc.cell (p := ⟨k, 2, none⟩) (by show k < wr.heap.size; omega)).trans hbox1)
                | (at_builtin; (refine wpList_new (T := 74) (E := 9) (size := 1) (bytes := 16) rfl (.tmp 61) (.tmp 63) rfl Tryd.underlying74 info9 rfl (by decide) (k + 3) f.b.length _ (ss f.b) 1 1 [.string (B x)] rfl hrn rfl rfl (by intro y hy; simp at hy; subst hy; rfl) (by unfold maxLen; omega) (by omega) hltx rfl ?_; intro v3 w3 own3 gr3; obtain ⟨a3, c3, rfl⟩ := own_slice own3; have hq := below_put (p := k + 2) (i := 2) (u := Value.slice a3 (f.b.length + 1) c3) hBx (by omega) hrn gr3; have hfs3 := HFx.out.putB x gr3 own3; have hcz : w3.cell? ⟨k + 2, 2, none⟩ = some vb := (World.cell?_of_block (a := ⟨k + 2, 2, none⟩) (grown_blk2 hlt hrn (Nat.lt_succ_self _) _ gr3 HFx.out.blk |>.trans HFx.out.blk.symm)).trans e2; have hfz : w3.frozen? ⟨k + 2, 2, none⟩ = false := (World.frozen?_of_block (a := ⟨k + 2, 2, none⟩) (grown_blk2 hlt hrn (Nat.lt_succ_self _) _ gr3 HFx.out.blk |>.trans HFx.out.blk.symm)).trans y2; have hlt3 : k + 2 < w3.heap.size := (by have := gr3.size; simp at this; omega); have hk1 : (w3.setCell ⟨k + 2, 2, none⟩ (Value.slice a3 (f.b.length + 1) c3)).heap[k + 1]? = some (.cells rs 106 (0, 0)) := (put_block (p := k + 2) (b := k + 1) (i := 2) (u := Value.slice a3 (f.b.length + 1) c3) hrn gr3 (by omega) (by omega) (by omega)).trans hr1; have hk0 : (w3.setCell ⟨k + 2, 2, none⟩ (Value.slice a3 (f.b.length + 1) c3)).cell? ⟨k, 2, none⟩ = some (.string (B fm)) := (World.cell?_of_block (a := ⟨k, 2, none⟩) (put_block (p := k + 2) (b := k) (i := 2) (u := Value.slice a3 (f.b.length + 1) c3) hrn gr3 (by omega) (by omega) (by omega))).trans hboxx))
                | (refine wpList_store_row rfl _ _ _ rfl (k + 1) _ rfl rfl 106 _ (by with_reducible assumption) size106 hr2 all_nil3 ?_))
              refine bodyPost_ret (v := .tuple #[.agg nil3, .int .i64 er]) ?_ rfl (HF.out _ _ _ _ _ _ _ A1.out rfl (fun h => absurd h he) ⟨_, _, _, _, _, _, _, _, _, rfl, rfl, rfl⟩ (setRow_belowk (below_k hB hq) (by omega)))
              exact results_cell_tmp (p := 4) (q := 5) (ty := 106) rfl _ _ (k + 1) 106 nil3 (0, 0) _ _ rfl rfl (setRow_heap _ _ _ _ _ _ hk1) Tryd.underlying106 rfl size106
          · exact absurd h2 h110
    · obtain rfl : i = n := by omega
      have hil : ¬ (i : Int) < (i : Int) := by omega
      have A1 : Aside0 (res = (f, 0)) := ⟨by rw [hA.out, List.drop_eq_nil_of_le (by rw [HN.out.1]; omega), fieldsG]⟩
      clear hA
      have hr3 := hfs.rows (b := k + 2) (by omega)
      have hbk := hfs.blk
      obtain ⟨an, cn, rfl⟩ := own_slice hfs.rn
      obtain ⟨aw, cw, rfl⟩ := own_slice hfs.rw
      obtain ⟨ab, cb, rfl⟩ := own_slice hfs.rb
      go_wp2_with (first
        | (refine wpList_load_row rfl _ _ rfl (k + 2) rfl 106 _ _ _ hbk Tryd.underlying106 rfl size106 ?_)
        | (refine wpList_store_row rfl _ _ _ rfl (k + 1) _ rfl rfl 106 _ hr0 size106 hr2 (all_3 an aw ab _ _ _ cn cw cb) ?_))
      refine bodyPost_ret (v := .tuple #[.agg #[.slice an f.n.length cn, .slice aw f.w.length cw, .slice ab f.b.length cb], .int .i64 0]) ?_ rfl (HF.out _ _ _ _ _ _ _ A1.out rfl (fun _ => rows_setRow hr3 (by omega)) ⟨_, _, _, _, _, _, _, _, _, rfl, rfl, rfl⟩ (setRow_belowk hB (by omega)))
      exact results_cell_tmp (p := 4) (q := 5) (ty := 106) rfl _ _ (k + 1) 106 #[.slice an f.n.length cn, .slice aw f.w.length cw, .slice ab f.b.length cb] (0, 0) _ _ rfl rfl (setRow_heap _ _ _ _ _ _ hr0) Tryd.underlying106 rfl size106
theorem rread_walk (w : World) (k : Nat) (x0 : ByteArray) (x1 : Int) (g o c : Nat) (ws : List (List UInt8)) (hws : LT w g o ws) (hgw : g < w.heap.size) (hlw : ∀ x ∈ ws, x.length ≤ 3000000) (hn : ws.length ≤ 3000000) :
    Calls Tryd.prog 66 #[.agg #[.string x0, .int .i64 x1, .string (formOf k), .bool (moreOf k)], .slice (some ⟨g, o, none⟩) ws.length c] w (ReadRP (readF k ws) w) := by
  unfold readF fitsF formOf
  generalize forms.getD k [] = fm
  have hL : (B fm).size = fm.length := B_size fm
  rcases Nat.lt_trichotomy ws.length fm.length with h | h | h
  · rw [decide_eq_false (by omega : ¬ fm.length ≤ ws.length), if_neg (by simp)]
    exact rread_bad1 w _ _ _ _ _ _ _ (by omega)
  · rw [decide_eq_true (by omega : fm.length ≤ ws.length), decide_eq_true h, if_pos (by simp)]
    exact rread_ok1 w _ _ _ _ g o c ws hws hgw hlw hn h
  · rw [decide_eq_true (by omega : fm.length ≤ ws.length), decide_eq_false (by omega : ¬ ws.length = fm.length)]
    cases moreOf k
    · rw [if_neg (by simp)]
      exact rread_bad2 w _ _ _ _ _ _ (by omega)
    · rw [if_pos (by simp)]
      exact rread_ok2 w _ _ _ g o c ws hws hgw hlw hn h
end Go.Proofs.YtigaacbaaopfmaaDoor.sh
