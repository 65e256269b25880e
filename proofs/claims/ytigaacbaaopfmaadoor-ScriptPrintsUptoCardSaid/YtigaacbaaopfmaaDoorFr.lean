/- The fields of a line: the program's read, walked. -/
import Derived.Test.YtigaacbaaopfmaaDoorTk
set_option linter.unusedSimpArgs false
namespace Go.Proofs.YtigaacbaaopfmaaDoor.sh
open Go.RowKit
set_option linter.unusedVariables false
theorem Bx.full3 {w : World} {g : Nat} {t : TypeId} (h : Bx w g 3 t) (a0 a1 a2 : Value) :
    (((w.setCell ⟨g, 0, none⟩ a0).setCell ⟨g, 1, none⟩ a1).setCell ⟨g, 2, none⟩ a2).heap[g]? = some (.cells #[a0, a1, a2] t (0, 0)) := by
  obtain ⟨⟨l⟩, h1, h2⟩ := h
  match l, h2, h1 with
  | [x0, x1, x2], _, h1 =>
    have e0 : (w.setCell ⟨g, 0, none⟩ a0).heap[g]? = some (.cells #[a0, x1, x2] t (0, 0)) := heap_setCell_same w g 0 #[x0, x1, x2] t a0 h1
    have e1 : ((w.setCell ⟨g, 0, none⟩ a0).setCell ⟨g, 1, none⟩ a1).heap[g]? = some (.cells #[a0, a1, x2] t (0, 0)) := heap_setCell_same (w.setCell ⟨g, 0, none⟩ a0) g 1 #[a0, x1, x2] t a1 e0
    have e2 : (((w.setCell ⟨g, 0, none⟩ a0).setCell ⟨g, 1, none⟩ a1).setCell ⟨g, 2, none⟩ a2).heap[g]? = some (.cells #[a0, a1, a2] t (0, 0)) := heap_setCell_same ((w.setCell ⟨g, 0, none⟩ a0).setCell ⟨g, 1, none⟩ a1) g 2 #[a0, a1, x2] t a2 e1
    exact e2
theorem size79 : (Tryd.prog.info? 79).map (·.size) = some 3 := by kernel_rfl
theorem index_B (l : List UInt8) (k : Nat) (c : UInt8) (h : l[k]? = some c) (W : World) : (Instr.index 9 (.string (B l)) (.int .i64 (k : Int))).run Tryd.prog W = .ok (.int .u8 (c.toNat : Int)) W := index_at (B l) k c h W
/-- The three rows of a line's fields, of the call's own. -/
structure Rows3 (w : World) (base : Nat) (vn vw vb : Value) (f : Fld) : Prop where
  rn : w.ownsRow base 3 1 vn f.n.length (iv f.n)
  rw : w.ownsRow base 32 1 vw f.w.length (uv f.w)
  rb : w.ownsRow base 9 1 vb f.b.length (ss f.b)
theorem Fs.rows {T : TypeId} {w : World} {p b : Nat} {vn vw vb : Value} {f : Fld} (h : Fs T w p vn vw vb f) (hb : b ≤ p) : Rows3 w b vn vw vb f := ⟨own_mono h.rn (by omega), own_mono h.rw (by omega), own_mono h.rb (by omega)⟩
theorem Rows3.set {w : World} {b p i : Nat} {vn vw vb u : Value} {f : Fld} (h : Rows3 w b vn vw vb f) (hp : p < b) : Rows3 (w.setCell ⟨p, i, none⟩ u) b vn vw vb f := ⟨own_set h.rn hp, own_set h.rw hp, own_set h.rb hp⟩
theorem Rows3.mono {w : World} {b b' : Nat} {vn vw vb : Value} {f : Fld} (h : Rows3 w b vn vw vb f) (hp : b' ≤ b) : Rows3 w b' vn vw vb f := ⟨own_mono h.rn hp, own_mono h.rw hp, own_mono h.rb hp⟩
theorem Rows3.nil (w : World) (b : Nat) : Rows3 w b (.slice none 0 0) (.slice none 0 0) (.slice none 0 0) F0 := ⟨World.ownsRow_nil _ _ _ _, World.ownsRow_nil _ _ _ _, World.ownsRow_nil _ _ _ _⟩
theorem Rows3.below {w w' : World} {base k : Nat} {vn vw vb : Value} {f : Fld} (h : Rows3 w base vn vw vb f) (hb : Below k w w') (hk : w.heap.size ≤ k) : Rows3 w' base vn vw vb f := ⟨own_bel h.rn hb hk, own_bel h.rw hb hk, own_bel h.rb hb hk⟩
/-- What read leaves. -/
def ReadFP (r : Fld × Int) (w : World) (e : Ending) (w' : World) : Prop := ∃ vn vw vb, e = .returned (.tuple #[.agg #[vn, vw, vb], .int .i64 r.2]) ∧ Rows3 w' w.heap.size vn vw vb r.1 ∧ Below w.heap.size w w'
theorem LT.next {w : World} {b o : Nat} {l : List (List UInt8)} {i : Nat} {x : List UInt8} (h : LT w b o l) (hx : l[i]? = some x) : w.cell? ⟨b, o + i, none⟩ = some (.string (B x)) := h i x hx
theorem drop_cons {α : Type} {l : List α} {i : Nat} {x : α} (h : l[i]? = some x) : l.drop i = x :: l.drop (i + 1) := by
  obtain ⟨h1, h2⟩ := List.getElem?_eq_some_iff.1 h
  rw [List.drop_eq_getElem_cons h1, h2]
theorem takeF_len (fm : UInt8) (s : List UInt8) (f : Fld) (i : Nat) (h : f.n.length ≤ i ∧ f.w.length ≤ i ∧ f.b.length ≤ i) : (takeF fm s f).n.length ≤ i + 1 ∧ (takeF fm s f).w.length ≤ i + 1 ∧ (takeF fm s f).b.length ≤ i + 1 := by
  unfold takeF
  split
  · simp; omega
  · split <;> (simp; omega)
theorem fresh_fs (T : TypeId) (w : World) : Fs T (w.alloc (.cells #[.slice none 0 0, .slice none 0 0, .slice none 0 0] T)) w.heap.size (.slice none 0 0) (.slice none 0 0) (.slice none 0 0) F0 :=
  ⟨heap_alloc_new w _, World.ownsRow_nil _ _ _ _, World.ownsRow_nil _ _ _ _, World.ownsRow_nil _ _ _ _⟩
theorem Bx.belowp {w w' : World} {g n p : Nat} {t : TypeId} (h : Bx w g n t) (k : Below p w w') (hp : g < p) : Bx w' g n t := by
  obtain ⟨cs, h1, h2⟩ := h
  exact ⟨cs, (k.block g hp).trans h1, h2⟩
theorem Bx.lt {w : World} {g n : Nat} {t : TypeId} (h : Bx w g n t) : g < w.heap.size := by
  obtain ⟨cs, h1, h2⟩ := h
  exact (Array.getElem?_eq_some_iff.1 h1).1
theorem Bx.cold {w : World} {g : Nat} {t : TypeId} (h : Bx w g 3 t) : (∃ a0 a1 a2, w.cell? ⟨g, 0, none⟩ = some a0 ∧ w.cell? ⟨g, 1, none⟩ = some a1 ∧ w.cell? ⟨g, 2, none⟩ = some a2) ∧ w.frozen? ⟨g, 0, none⟩ = false ∧ w.frozen? ⟨g, 1, none⟩ = false ∧ w.frozen? ⟨g, 2, none⟩ = false := by
  obtain ⟨⟨l⟩, h1, h2⟩ := h
  match l, h2, h1 with
  | [x0, x1, x2], _, h1 =>
    refine ⟨⟨x0, x1, x2, ?_, ?_, ?_⟩, ?_, ?_, ?_⟩ <;> first | (unfold World.cell?; rw [h1]; rfl) | (unfold World.frozen?; rw [h1]; rfl)
set_option maxHeartbeats 2000000 in
set_option maxRecDepth 100000 in
theorem fread_bad1 (w : World) (x0 x2 : ByteArray) (x1 : Int) (x3 : Bool) (ao : Option Addr) (n c : Nat) (h : n < x2.size) : Calls Tryd.prog 46 #[.agg #[.string x0, .int .i64 x1, .string x2, .bool x3], .slice ao n c] w (ReadFP (F0, 160) w) := by
  have h1 : (n : Int) < (x2.size : Int) := by omega
  clear h
  go_enter Tryd.func46, Tryd.ntmps46
  go_wp2
  refine bodyPost_ret (v := .tuple #[.agg #[.slice none 0 0, .slice none 0 0, .slice none 0 0], .int .i64 160]) ?res rfl ⟨_, _, _, rfl, Rows3.nil _ _, ?_⟩
  case res =>
    refine results_cell_tmp (p := 4) (q := 5) (ty := 79) rfl _ _ (w.heap.size + 1) 79 #[.slice none 0 0, .slice none 0 0, .slice none 0 0] (0, 0) _ _ rfl rfl ?_ Tryd.underlying79 rfl size79
    exact (heap_alloc_old _ _ (by simp)).trans (by have := heap_alloc_new (w.alloc (.cells #[.string x0, .int .i64 x1, .string x2, .bool x3] 82)) (.cells #[.slice none 0 0, .slice none 0 0, .slice none 0 0] 79); simp only [alsize] at this; exact this)
  repeat (first | with_reducible assumption | with_reducible refine below_set ?_ (by first | omega | (simp; done)) _ | with_reducible refine Below.alloc ?_ (by first | omega | (simp; done) | (simp; omega)) _ | with_reducible refine Below.drew ?_ | with_reducible exact Below.refl _ _)
set_option maxHeartbeats 2000000 in
set_option maxRecDepth 100000 in
theorem fread_bad2 (w : World) (x0 x2 : ByteArray) (x1 : Int)  (ao : Option Addr) (n c : Nat) (h : x2.size < n) : Calls Tryd.prog 46 #[.agg #[.string x0, .int .i64 x1, .string x2, .bool false], .slice ao n c] w (ReadFP (F0, 160) w) := by
  have h1 : ¬ (n : Int) < (x2.size : Int) := by omega
  have h2 : (n : Int) > (x2.size : Int) := by omega
  clear h
  go_enter Tryd.func46, Tryd.ntmps46
  go_wp2
  refine bodyPost_ret (v := .tuple #[.agg #[.slice none 0 0, .slice none 0 0, .slice none 0 0], .int .i64 160]) ?res rfl ⟨_, _, _, rfl, Rows3.nil _ _, ?_⟩
  case res =>
    refine results_cell_tmp (p := 4) (q := 5) (ty := 79) rfl _ _ (w.heap.size + 1) 79 #[.slice none 0 0, .slice none 0 0, .slice none 0 0] (0, 0) _ _ rfl rfl ?_ Tryd.underlying79 rfl size79
    exact (heap_alloc_old _ _ (by simp)).trans (by have := heap_alloc_new (w.alloc (.cells #[.string x0, .int .i64 x1, .string x2, .bool false] 82)) (.cells #[.slice none 0 0, .slice none 0 0, .slice none 0 0] 79); simp only [alsize] at this; exact this)
  repeat (first | with_reducible assumption | with_reducible refine below_set ?_ (by first | omega | (simp; done)) _ | with_reducible refine Below.alloc ?_ (by first | omega | (simp; done) | (simp; omega)) _ | with_reducible refine Below.drew ?_ | with_reducible exact Below.refl _ _)
set_option maxHeartbeats 4000000 in
set_option maxRecDepth 100000 in
theorem fread_ok1 (w : World) (hb : Bs w) (x0 : ByteArray) (x1 : Int) (fm : List UInt8) (x3 : Bool) (g o c : Nat) (ws : List (List UInt8)) (hws : LT w g o ws) (hgw : g < w.heap.size) (hlw : ∀ x ∈ ws, x.length ≤ 3000000) (hn : ws.length ≤ 3000000) (h : ws.length = fm.length) :
    Calls Tryd.prog 46 #[.agg #[.string x0, .int .i64 x1, .string (B fm), .bool x3], .slice (some ⟨g, o, none⟩) ws.length c] w (ReadFP (fieldsG fm 0 F0 ws) w) := by
  obtain ⟨n, hnl⟩ : ∃ n, ws.length = n := ⟨_, rfl⟩
  obtain ⟨L, hL⟩ : ∃ L, fm.length = L := ⟨_, rfl⟩
  have hLs : (B fm).size = L := by rw [B_size]; exact hL
  rw [hnl] at h hn ⊢
  rw [hL] at h
  have h1 : ¬ (n : Int) < (L : Int) := by omega
  have h2 : ¬ (n : Int) > (L : Int) := by omega
  have HLn : Aside0 (n = L) := ⟨h⟩
  clear h
  obtain ⟨k, hk⟩ : ∃ k, w.heap.size = k := ⟨_, rfl⟩
  have HF : Aside0 (∀ (vn vw vb : Value) (f : Fld) (er : Int) (e : Ending) (w' : World), fieldsG fm 0 F0 ws = (f, er) → e = .returned (.tuple #[.agg #[vn, vw, vb], .int .i64 er]) → Rows3 w' (k + 2) vn vw vb f → Below k w w' → ReadFP (fieldsG fm 0 F0 ws) w e w') := ⟨fun vn vw vb f er e w' h1 h2 h3 h4 => by subst hk; rw [h1]; exact ⟨vn, vw, vb, h2, h3.mono (by omega), h4⟩⟩
  obtain ⟨Q, hQ⟩ : ∃ Q, ReadFP (fieldsG fm 0 F0 ws) w = Q := ⟨_, rfl⟩
  rw [hQ] at HF ⊢
  obtain ⟨res, hres⟩ : ∃ r, fieldsG fm 0 F0 ws = r := ⟨_, rfl⟩
  rw [hres] at HF
  have HR : Aside0 (fieldsG fm 0 F0 ws = res) := ⟨hres⟩
  have HN : Aside0 (ws.length = n ∧ fm.length = L) := ⟨hnl, hL⟩
  have hfr := fresh_fs 79 ((w.alloc (.cells #[.string x0, .int .i64 x1, .string (B fm), .bool x3] 82)).alloc (.cells #[.slice none 0 0, .slice none 0 0, .slice none 0 0] 79))
  have hB0 : Below k w (((w.alloc (.cells #[.string x0, .int .i64 x1, .string (B fm), .bool x3] 82)).alloc (.cells #[.slice none 0 0, .slice none 0 0, .slice none 0 0] 79)).alloc (.cells #[.slice none 0 0, .slice none 0 0, .slice none 0 0] 79)) := by
    rw [← hk]
    exact (((Below.refl _ w).alloc (Nat.le_refl _) _).alloc (by simp) _).alloc (by simp; omega) _
  simp only [alsize, hk] at hfr
  have hbox : (((w.alloc (.cells #[.string x0, .int .i64 x1, .string (B fm), .bool x3] 82)).alloc (.cells #[.slice none 0 0, .slice none 0 0, .slice none 0 0] 79)).alloc (.cells #[.slice none 0 0, .slice none 0 0, .slice none 0 0] 79)).cell? ⟨k, 2, none⟩ = some (.string (B fm)) := by
    rw [← hk]
    exact ((((Below.refl (w.alloc (.cells #[.string x0, .int .i64 x1, .string (B fm), .bool x3] 82)).heap.size (w.alloc (.cells #[.string x0, .int .i64 x1, .string (B fm), .bool x3] 82))).alloc (Nat.le_refl _) _).alloc (by simp) _).cell (p := ⟨w.heap.size, 2, none⟩) (by simp)).trans (by simp)
  have hbx : Bx (((w.alloc (.cells #[.string x0, .int .i64 x1, .string (B fm), .bool x3] 82)).alloc (.cells #[.slice none 0 0, .slice none 0 0, .slice none 0 0] 79)).alloc (.cells #[.slice none 0 0, .slice none 0 0, .slice none 0 0] 79)) (k + 1) 3 79 := by
    have := Bx.old (Bx.new (w.alloc (.cells #[.string x0, .int .i64 x1, .string (B fm), .bool x3] 82)) #[.slice none 0 0, .slice none 0 0, .slice none 0 0] 79 3 rfl) (.cells #[.slice none 0 0, .slice none 0 0, .slice none 0 0] 79)
    simp only [alsize, hk] at this
    exact this
  clear hQ hres hnl hL
  go_enter Tryd.func46, Tryd.ntmps46
  go_wp2
  go_loopg [33] n (fun q v33 wr => ∃ (i : Nat) (f : Fld) (vn vw vb : Value), v33 = .int .i64 i ∧ i + q = n ∧ Fs 79 wr (k + 2) vn vw vb f ∧ Bx wr (k + 1) 3 79 ∧ wr.cell? ⟨k, 2, none⟩ = some (.string (B fm)) ∧ (f.n.length ≤ i ∧ f.w.length ≤ i ∧ f.b.length ≤ i) ∧ Aside0 (res = fieldsG fm i f (ws.drop i)) ∧ Below k w wr)
  case atStart => exact ⟨0, F0, _, _, _, rfl, by omega, hfr, hbx, hbox, ⟨Nat.le_refl _, Nat.le_refl _, Nat.le_refl _⟩, ⟨HR.out.symm⟩, hB0⟩
  case round =>
    obtain ⟨i, f, vn, vw, vb, rfl, hiq, hfs, hbx1, hbox1, hlens, hA, hB⟩ := hrel
    clear hfr hbx hbox hB0
    have hlt := hfs.lt
    have hfz := hfs.cells
    by_cases hi : i < n
    · obtain ⟨q, rfl⟩ : ∃ q, gk = q + 1 := ⟨gk - 1, by omega⟩
      have hil : (i : Int) < (n : Int) := by omega
      obtain ⟨s, hs⟩ : ∃ s, ws[i]? = some s := ⟨_, List.getElem?_eq_getElem (by rw [HN.out.1]; omega)⟩
      have hcell : wr.cell? ⟨g, o + i, none⟩ = some (.string (B s)) := by
        rw [hB.cell (p := ⟨g, o + i, none⟩) (by rw [← hk]; exact hgw)]
        exact hws i s hs
      have hsl : (B s).size ≤ 3000000 := by rw [B_size]; exact hlw s (List.mem_of_getElem? hs)
      have hbr := hb.below (by rw [hk]; exact hB)
      have hA1 : res = fieldsG fm i f (s :: ws.drop (i + 1)) := by rw [hA.out, drop_cons hs]
      clear hA
      obtain ⟨fc, hfc⟩ : ∃ fc, fm.getD i 110 = fc := ⟨_, rfl⟩
      rw [fieldsG, hfc] at hA1
      have ct := take_walk wr hbr (k + 2) vn vw vb f hfs (by omega) (by omega) (by omega) fc (B s) hsl
      rw [B_data] at ct
      have hl2 := takeF_len fc s f i hlens
      obtain ⟨er, her⟩ : ∃ er, takeE fc s = er := ⟨_, rfl⟩
      rw [her] at ct hA1
      generalize takeF fc s f = f2 at ct hA1 hl2
      have hform : (i < L ∧ fm[i]? = some fc) ∨ (¬ i < L ∧ fc = 110) := by
        by_cases h : i < L
        · left
          refine ⟨h, ?_⟩
          have h2 : i < fm.length := by rw [HN.out.2]; exact h
          rw [← hfc, List.getD_eq_getElem?_getD, List.getElem?_eq_getElem h2]; rfl
        · right
          refine ⟨h, ?_⟩
          have h2 : fm.length ≤ i := by rw [HN.out.2]; omega
          rw [← hfc, List.getD_eq_getElem?_getD, List.getElem?_eq_none h2]; rfl
      clear hfc her hs
      generalize hsv : B s = sv at hcell ct hsl
      clear hsv
      by_cases he : er = 0
      · subst he
        have A1 : Aside0 (res = fieldsG fm (i + 1) f2 (ws.drop (i + 1))) := ⟨by rw [hA1, if_pos rfl]⟩
        clear hA1
        rcases hform with ⟨hiL, hfc⟩ | ⟨hiL, rfl⟩
        · have hx := fun W => index_B fm i fc hfc W
          have hiL2 : (i : Int) < (L : Int) := by omega
          clear hfc
          generalize fc.toNat = fcn at hx ct
          go_wp2_with (go_at_call 68; (with_reducible refine ct.mono ?_); rintro e w1 ⟨vn1, vw1, vb1, rfl, hfs1, hB1⟩; have hbx2 := hbx1.belowp hB1 (by omega); have hbox2 : w1.cell? ⟨k, 2, none⟩ = some (.string (B fm)) := (hB1.cell (p := ⟨k, 2, none⟩) (by show k < k + 2; omega)).trans hbox1; have hB2 := hB.trans (hB1.mono (by omega)))
          go_roundg q
          case measure => omega
          case rel => exact ⟨i + 1, f2, _, _, _, by go_num, by omega, hfs1, hbx2, hbox2, hl2, A1, hB2⟩
        · exact absurd hi (by have := HLn.out; omega)
      · have hne : (er != 0) = true := by simpa using he
        have A1 : Aside0 (res = (f2, er)) := ⟨by rw [hA1, if_neg he]⟩
        clear hA1
        rcases hform with ⟨hiL, hfc⟩ | ⟨hiL, rfl⟩
        · have hx := fun W => index_B fm i fc hfc W
          have hiL2 : (i : Int) < (L : Int) := by omega
          clear hfc
          generalize fc.toNat = fcn at hx ct
          go_wp2_with (go_at_call 68; (with_reducible refine ct.mono ?_); rintro e w1 ⟨vn1, vw1, vb1, rfl, hfs1, hB1⟩; obtain ⟨c0, c1, c2, z0, z1, z2⟩ := hfs1.cells; have hbx2 := hbx1.belowp hB1 (by omega); have hB2 := hB.trans (hB1.mono (by omega)); have hr3 := hfs1.rows (b := k + 2) (by omega); have hlt1 := hfs1.lt; obtain ⟨⟨b0, b1, b2, hz0, hz1, hz2⟩, hy0, hy1, hy2⟩ := hbx2.cold; have hlk := hbx2.lt; obtain ⟨an, cn, rfl⟩ := own_slice hfs1.rn; obtain ⟨aw, cw, rfl⟩ := own_slice hfs1.rw; obtain ⟨ab, cb, rfl⟩ := own_slice hfs1.rb)
          refine bodyPost_ret (v := .tuple #[.agg #[.slice an f2.n.length cn, .slice aw f2.w.length cw, .slice ab f2.b.length cb], .int .i64 er]) ?_ rfl (HF.out _ _ _ _ _ _ _ A1.out rfl (((hr3.set (p := k + 1) (by omega)).set (p := k + 1) (by omega)).set (p := k + 1) (by omega)) (below_set (b := k + 1) (below_set (b := k + 1) (below_set (b := k + 1) hB2 (by omega) _) (by omega) _) (by omega) _))
          refine results_cell_tmp (p := 4) (q := 5) (ty := 79) rfl _ _ (k + 1) 79 #[.slice an f2.n.length cn, .slice aw f2.w.length cw, .slice ab f2.b.length cb] (0, 0) _ _ rfl rfl ?_ Tryd.underlying79 rfl size79
          exact Bx.full3 hbx2 _ _ _
        · exact absurd hi (by have := HLn.out; omega)
    · obtain rfl : i = n := by omega
      have hil : ¬ (i : Int) < (i : Int) := by omega
      have A1 : Aside0 (res = (f, 0)) := ⟨by rw [hA.out, List.drop_eq_nil_of_le (by rw [HN.out.1]; omega), fieldsG]⟩
      clear hA
      obtain ⟨c0, c1, c2, z0, z1, z2⟩ := hfs.cells
      have hr3 := hfs.rows (b := k + 2) (by omega)
      obtain ⟨⟨b0, b1, b2, hz0, hz1, hz2⟩, hy0, hy1, hy2⟩ := hbx1.cold
      have hlk := hbx1.lt
      obtain ⟨an, cn, rfl⟩ := own_slice hfs.rn
      obtain ⟨aw, cw, rfl⟩ := own_slice hfs.rw
      obtain ⟨ab, cb, rfl⟩ := own_slice hfs.rb
      go_wp2
      refine bodyPost_ret (v := .tuple #[.agg #[.slice an f.n.length cn, .slice aw f.w.length cw, .slice ab f.b.length cb], .int .i64 0]) ?_ rfl (HF.out _ _ _ _ _ _ _ A1.out rfl (((hr3.set (p := k + 1) (by omega)).set (p := k + 1) (by omega)).set (p := k + 1) (by omega)) (below_set (b := k + 1) (below_set (b := k + 1) (below_set (b := k + 1) hB (by omega) _) (by omega) _) (by omega) _))
      refine results_cell_tmp (p := 4) (q := 5) (ty := 79) rfl _ _ (k + 1) 79 #[.slice an f.n.length cn, .slice aw f.w.length cw, .slice ab f.b.length cb] (0, 0) _ _ rfl rfl ?_ Tryd.underlying79 rfl size79
      exact Bx.full3 hbx1 _ _ _
set_option maxHeartbeats 4000000 in
set_option maxRecDepth 100000 in
theorem fread_ok2 (w : World) (hb : Bs w) (x0 : ByteArray) (x1 : Int) (fm : List UInt8) (g o c : Nat) (ws : List (List UInt8)) (hws : LT w g o ws) (hgw : g < w.heap.size) (hlw : ∀ x ∈ ws, x.length ≤ 3000000) (hn : ws.length ≤ 3000000) (h : fm.length < ws.length) :
    Calls Tryd.prog 46 #[.agg #[.string x0, .int .i64 x1, .string (B fm), .bool true], .slice (some ⟨g, o, none⟩) ws.length c] w (ReadFP (fieldsG fm 0 F0 ws) w) := by
  obtain ⟨n, hnl⟩ : ∃ n, ws.length = n := ⟨_, rfl⟩
  obtain ⟨L, hL⟩ : ∃ L, fm.length = L := ⟨_, rfl⟩
  have hLs : (B fm).size = L := by rw [B_size]; exact hL
  rw [hnl] at h hn ⊢
  rw [hL] at h
  have h1 : ¬ (n : Int) < (L : Int) := by omega
  have h2 : (n : Int) > (L : Int) := by omega
  obtain ⟨k, hk⟩ : ∃ k, w.heap.size = k := ⟨_, rfl⟩
  have HF : Aside0 (∀ (vn vw vb : Value) (f : Fld) (er : Int) (e : Ending) (w' : World), fieldsG fm 0 F0 ws = (f, er) → e = .returned (.tuple #[.agg #[vn, vw, vb], .int .i64 er]) → Rows3 w' (k + 2) vn vw vb f → Below k w w' → ReadFP (fieldsG fm 0 F0 ws) w e w') := ⟨fun vn vw vb f er e w' h1 h2 h3 h4 => by subst hk; rw [h1]; exact ⟨vn, vw, vb, h2, h3.mono (by omega), h4⟩⟩
  obtain ⟨Q, hQ⟩ : ∃ Q, ReadFP (fieldsG fm 0 F0 ws) w = Q := ⟨_, rfl⟩
  rw [hQ] at HF ⊢
  obtain ⟨res, hres⟩ : ∃ r, fieldsG fm 0 F0 ws = r := ⟨_, rfl⟩
  rw [hres] at HF
  have HR : Aside0 (fieldsG fm 0 F0 ws = res) := ⟨hres⟩
  have HN : Aside0 (ws.length = n ∧ fm.length = L) := ⟨hnl, hL⟩
  have hfr := fresh_fs 79 ((w.alloc (.cells #[.string x0, .int .i64 x1, .string (B fm), .bool true] 82)).alloc (.cells #[.slice none 0 0, .slice none 0 0, .slice none 0 0] 79))
  have hB0 : Below k w (((w.alloc (.cells #[.string x0, .int .i64 x1, .string (B fm), .bool true] 82)).alloc (.cells #[.slice none 0 0, .slice none 0 0, .slice none 0 0] 79)).alloc (.cells #[.slice none 0 0, .slice none 0 0, .slice none 0 0] 79)) := by
    rw [← hk]
    exact (((Below.refl _ w).alloc (Nat.le_refl _) _).alloc (by simp) _).alloc (by simp; omega) _
  simp only [alsize, hk] at hfr
  have hbox : (((w.alloc (.cells #[.string x0, .int .i64 x1, .string (B fm), .bool true] 82)).alloc (.cells #[.slice none 0 0, .slice none 0 0, .slice none 0 0] 79)).alloc (.cells #[.slice none 0 0, .slice none 0 0, .slice none 0 0] 79)).cell? ⟨k, 2, none⟩ = some (.string (B fm)) := by
    rw [← hk]
    exact ((((Below.refl (w.alloc (.cells #[.string x0, .int .i64 x1, .string (B fm), .bool true] 82)).heap.size (w.alloc (.cells #[.string x0, .int .i64 x1, .string (B fm), .bool true] 82))).alloc (Nat.le_refl _) _).alloc (by simp) _).cell (p := ⟨w.heap.size, 2, none⟩) (by simp)).trans (by simp)
  have hbx : Bx (((w.alloc (.cells #[.string x0, .int .i64 x1, .string (B fm), .bool true] 82)).alloc (.cells #[.slice none 0 0, .slice none 0 0, .slice none 0 0] 79)).alloc (.cells #[.slice none 0 0, .slice none 0 0, .slice none 0 0] 79)) (k + 1) 3 79 := by
    have := Bx.old (Bx.new (w.alloc (.cells #[.string x0, .int .i64 x1, .string (B fm), .bool true] 82)) #[.slice none 0 0, .slice none 0 0, .slice none 0 0] 79 3 rfl) (.cells #[.slice none 0 0, .slice none 0 0, .slice none 0 0] 79)
    simp only [alsize, hk] at this
    exact this
  clear hQ hres hnl hL
  go_enter Tryd.func46, Tryd.ntmps46
  go_wp2
  go_loopg [33] n (fun q v33 wr => ∃ (i : Nat) (f : Fld) (vn vw vb : Value), v33 = .int .i64 i ∧ i + q = n ∧ Fs 79 wr (k + 2) vn vw vb f ∧ Bx wr (k + 1) 3 79 ∧ wr.cell? ⟨k, 2, none⟩ = some (.string (B fm)) ∧ (f.n.length ≤ i ∧ f.w.length ≤ i ∧ f.b.length ≤ i) ∧ Aside0 (res = fieldsG fm i f (ws.drop i)) ∧ Below k w wr)
  case atStart => exact ⟨0, F0, _, _, _, rfl, by omega, hfr, hbx, hbox, ⟨Nat.le_refl _, Nat.le_refl _, Nat.le_refl _⟩, ⟨HR.out.symm⟩, hB0⟩
  case round =>
    obtain ⟨i, f, vn, vw, vb, rfl, hiq, hfs, hbx1, hbox1, hlens, hA, hB⟩ := hrel
    clear hfr hbx hbox hB0
    have hlt := hfs.lt
    have hfz := hfs.cells
    by_cases hi : i < n
    · obtain ⟨q, rfl⟩ : ∃ q, gk = q + 1 := ⟨gk - 1, by omega⟩
      have hil : (i : Int) < (n : Int) := by omega
      obtain ⟨s, hs⟩ : ∃ s, ws[i]? = some s := ⟨_, List.getElem?_eq_getElem (by rw [HN.out.1]; omega)⟩
      have hcell : wr.cell? ⟨g, o + i, none⟩ = some (.string (B s)) := by
        rw [hB.cell (p := ⟨g, o + i, none⟩) (by rw [← hk]; exact hgw)]
        exact hws i s hs
      have hsl : (B s).size ≤ 3000000 := by rw [B_size]; exact hlw s (List.mem_of_getElem? hs)
      have hbr := hb.below (by rw [hk]; exact hB)
      have hA1 : res = fieldsG fm i f (s :: ws.drop (i + 1)) := by rw [hA.out, drop_cons hs]
      clear hA
      obtain ⟨fc, hfc⟩ : ∃ fc, fm.getD i 110 = fc := ⟨_, rfl⟩
      rw [fieldsG, hfc] at hA1
      have ct := take_walk wr hbr (k + 2) vn vw vb f hfs (by omega) (by omega) (by omega) fc (B s) hsl
      rw [B_data] at ct
      have hl2 := takeF_len fc s f i hlens
      obtain ⟨er, her⟩ : ∃ er, takeE fc s = er := ⟨_, rfl⟩
      rw [her] at ct hA1
      generalize takeF fc s f = f2 at ct hA1 hl2
      have hform : (i < L ∧ fm[i]? = some fc) ∨ (¬ i < L ∧ fc = 110) := by
        by_cases h : i < L
        · left
          refine ⟨h, ?_⟩
          have h2 : i < fm.length := by rw [HN.out.2]; exact h
          rw [← hfc, List.getD_eq_getElem?_getD, List.getElem?_eq_getElem h2]; rfl
        · right
          refine ⟨h, ?_⟩
          have h2 : fm.length ≤ i := by rw [HN.out.2]; omega
          rw [← hfc, List.getD_eq_getElem?_getD, List.getElem?_eq_none h2]; rfl
      clear hfc her hs
      generalize hsv : B s = sv at hcell ct hsl
      clear hsv
      by_cases he : er = 0
      · subst he
        have A1 : Aside0 (res = fieldsG fm (i + 1) f2 (ws.drop (i + 1))) := ⟨by rw [hA1, if_pos rfl]⟩
        clear hA1
        rcases hform with ⟨hiL, hfc⟩ | ⟨hiL, rfl⟩
        · have hx := fun W => index_B fm i fc hfc W
          have hiL2 : (i : Int) < (L : Int) := by omega
          clear hfc
          generalize fc.toNat = fcn at hx ct
          go_wp2_with (go_at_call 68; (with_reducible refine ct.mono ?_); rintro e w1 ⟨vn1, vw1, vb1, rfl, hfs1, hB1⟩; have hbx2 := hbx1.belowp hB1 (by omega); have hbox2 : w1.cell? ⟨k, 2, none⟩ = some (.string (B fm)) := (hB1.cell (p := ⟨k, 2, none⟩) (by show k < k + 2; omega)).trans hbox1; have hB2 := hB.trans (hB1.mono (by omega)))
          go_roundg q
          case measure => omega
          case rel => exact ⟨i + 1, f2, _, _, _, by go_num, by omega, hfs1, hbx2, hbox2, hl2, A1, hB2⟩
        · have hiL2 : ¬ (i : Int) < (L : Int) := by omega
          have ct : Calls Tryd.prog 68 #[.pointer (some ⟨k + 2, 0, none⟩), .int .u8 110, .string sv] wr (TakeP (k + 2) f2 0 wr) := ct
          go_wp2_with (go_at_call 68; (with_reducible refine ct.mono ?_); rintro e w1 ⟨vn1, vw1, vb1, rfl, hfs1, hB1⟩; have hbx2 := hbx1.belowp hB1 (by omega); have hbox2 : w1.cell? ⟨k, 2, none⟩ = some (.string (B fm)) := (hB1.cell (p := ⟨k, 2, none⟩) (by show k < k + 2; omega)).trans hbox1; have hB2 := hB.trans (hB1.mono (by omega)))
          go_roundg q
          case measure => omega
          case rel => exact ⟨i + 1, f2, _, _, _, by go_num, by omega, hfs1, hbx2, hbox2, hl2, A1, hB2⟩
      · have hne : (er != 0) = true := by simpa using he
        have A1 : Aside0 (res = (f2, er)) := ⟨by rw [hA1, if_neg he]⟩
        clear hA1
        rcases hform with ⟨hiL, hfc⟩ | ⟨hiL, rfl⟩
        · have hx := fun W => index_B fm i fc hfc W
          have hiL2 : (i : Int) < (L : Int) := by omega
          clear hfc
          generalize fc.toNat = fcn at hx ct
          go_wp2_with (go_at_call 68; (with_reducible refine ct.mono ?_); rintro e w1 ⟨vn1, vw1, vb1, rfl, hfs1, hB1⟩; obtain ⟨c0, c1, c2, z0, z1, z2⟩ := hfs1.cells; have hbx2 := hbx1.belowp hB1 (by omega); have hB2 := hB.trans (hB1.mono (by omega)); have hr3 := hfs1.rows (b := k + 2) (by omega); have hlt1 := hfs1.lt; obtain ⟨⟨b0, b1, b2, hz0, hz1, hz2⟩, hy0, hy1, hy2⟩ := hbx2.cold; have hlk := hbx2.lt; obtain ⟨an, cn, rfl⟩ := own_slice hfs1.rn; obtain ⟨aw, cw, rfl⟩ := own_slice hfs1.rw; obtain ⟨ab, cb, rfl⟩ := own_slice hfs1.rb)
          refine bodyPost_ret (v := .tuple #[.agg #[.slice an f2.n.length cn, .slice aw f2.w.length cw, .slice ab f2.b.length cb], .int .i64 er]) ?_ rfl (HF.out _ _ _ _ _ _ _ A1.out rfl (((hr3.set (p := k + 1) (by omega)).set (p := k + 1) (by omega)).set (p := k + 1) (by omega)) (below_set (b := k + 1) (below_set (b := k + 1) (below_set (b := k + 1) hB2 (by omega) _) (by omega) _) (by omega) _))
          refine results_cell_tmp (p := 4) (q := 5) (ty := 79) rfl _ _ (k + 1) 79 #[.slice an f2.n.length cn, .slice aw f2.w.length cw, .slice ab f2.b.length cb] (0, 0) _ _ rfl rfl ?_ Tryd.underlying79 rfl size79
          exact Bx.full3 hbx2 _ _ _
        · have hiL2 : ¬ (i : Int) < (L : Int) := by omega
          have ct : Calls Tryd.prog 68 #[.pointer (some ⟨k + 2, 0, none⟩), .int .u8 110, .string sv] wr (TakeP (k + 2) f2 er wr) := ct
          go_wp2_with (go_at_call 68; (with_reducible refine ct.mono ?_); rintro e w1 ⟨vn1, vw1, vb1, rfl, hfs1, hB1⟩; obtain ⟨c0, c1, c2, z0, z1, z2⟩ := hfs1.cells; have hbx2 := hbx1.belowp hB1 (by omega); have hB2 := hB.trans (hB1.mono (by omega)); have hr3 := hfs1.rows (b := k + 2) (by omega); have hlt1 := hfs1.lt; obtain ⟨⟨b0, b1, b2, hz0, hz1, hz2⟩, hy0, hy1, hy2⟩ := hbx2.cold; have hlk := hbx2.lt; obtain ⟨an, cn, rfl⟩ := own_slice hfs1.rn; obtain ⟨aw, cw, rfl⟩ := own_slice hfs1.rw; obtain ⟨ab, cb, rfl⟩ := own_slice hfs1.rb)
          refine bodyPost_ret (v := .tuple #[.agg #[.slice an f2.n.length cn, .slice aw f2.w.length cw, .slice ab f2.b.length cb], .int .i64 er]) ?_ rfl (HF.out _ _ _ _ _ _ _ A1.out rfl (((hr3.set (p := k + 1) (by omega)).set (p := k + 1) (by omega)).set (p := k + 1) (by omega)) (below_set (b := k + 1) (below_set (b := k + 1) (below_set (b := k + 1) hB2 (by omega) _) (by omega) _) (by omega) _))
          refine results_cell_tmp (p := 4) (q := 5) (ty := 79) rfl _ _ (k + 1) 79 #[.slice an f2.n.length cn, .slice aw f2.w.length cw, .slice ab f2.b.length cb] (0, 0) _ _ rfl rfl ?_ Tryd.underlying79 rfl size79
          exact Bx.full3 hbx2 _ _ _
    · obtain rfl : i = n := by omega
      have hil : ¬ (i : Int) < (i : Int) := by omega
      have A1 : Aside0 (res = (f, 0)) := ⟨by rw [hA.out, List.drop_eq_nil_of_le (by rw [HN.out.1]; omega), fieldsG]⟩
      clear hA
      obtain ⟨c0, c1, c2, z0, z1, z2⟩ := hfs.cells
      have hr3 := hfs.rows (b := k + 2) (by omega)
      obtain ⟨⟨b0, b1, b2, hz0, hz1, hz2⟩, hy0, hy1, hy2⟩ := hbx1.cold
      have hlk := hbx1.lt
      obtain ⟨an, cn, rfl⟩ := own_slice hfs.rn
      obtain ⟨aw, cw, rfl⟩ := own_slice hfs.rw
      obtain ⟨ab, cb, rfl⟩ := own_slice hfs.rb
      go_wp2
      refine bodyPost_ret (v := .tuple #[.agg #[.slice an f.n.length cn, .slice aw f.w.length cw, .slice ab f.b.length cb], .int .i64 0]) ?_ rfl (HF.out _ _ _ _ _ _ _ A1.out rfl (((hr3.set (p := k + 1) (by omega)).set (p := k + 1) (by omega)).set (p := k + 1) (by omega)) (below_set (b := k + 1) (below_set (b := k + 1) (below_set (b := k + 1) hB (by omega) _) (by omega) _) (by omega) _))
      refine results_cell_tmp (p := 4) (q := 5) (ty := 79) rfl _ _ (k + 1) 79 #[.slice an f.n.length cn, .slice aw f.w.length cw, .slice ab f.b.length cb] (0, 0) _ _ rfl rfl ?_ Tryd.underlying79 rfl size79
      exact Bx.full3 hbx1 _ _ _
theorem fread_walk (w : World) (hb : Bs w) (k : Nat) (x0 : ByteArray) (x1 : Int) (g o c : Nat) (ws : List (List UInt8)) (hws : LT w g o ws) (hgw : g < w.heap.size) (hlw : ∀ x ∈ ws, x.length ≤ 3000000) (hn : ws.length ≤ 3000000) :
    Calls Tryd.prog 46 #[.agg #[.string x0, .int .i64 x1, .string (formOf k), .bool (moreOf k)], .slice (some ⟨g, o, none⟩) ws.length c] w (ReadFP (readF k ws) w) := by
  unfold readF fitsF formOf
  generalize forms.getD k [] = fm
  have hL : (B fm).size = fm.length := B_size fm
  rcases Nat.lt_trichotomy ws.length fm.length with h | h | h
  · rw [decide_eq_false (by omega : ¬ fm.length ≤ ws.length), if_neg (by simp)]
    exact fread_bad1 w _ _ _ _ _ _ _ (by omega)
  · rw [decide_eq_true (by omega : fm.length ≤ ws.length), decide_eq_true h, if_pos (by simp)]
    exact fread_ok1 w hb _ _ _ _ g o c ws hws hgw hlw hn h
  · rw [decide_eq_true (by omega : fm.length ≤ ws.length), decide_eq_false (by omega : ¬ ws.length = fm.length)]
    cases moreOf k
    · rw [if_neg (by simp)]
      exact fread_bad2 w _ _ _ _ _ _ (by omega)
    · rw [if_pos (by simp)]
      exact fread_ok2 w hb _ _ _ g o c ws hws hgw hlw hn h
end Go.Proofs.YtigaacbaaopfmaaDoor.sh
