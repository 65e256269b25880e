/- OracleOneByte holds: two keys that differ in the byte at one place alone have two mixed hashes, whatever stands ahead of it and behind it. For every seed, bytes and strings, where the two multipliers read as the program lays them. -/
import Derived.Test.YtabdkfmfenpkjaaDoorRows
import Derived.Test.YtabdkfmfenpkjaaDoorApart
import Derived.WalkKit
import Derived.WalkSpells
import Derived.ProofKit
namespace Go.Proofs.YtabdkfmfenpkjaaDoor.onebyte
open Go.ChangeShapes Go.WideShapes Go.ChangeAt Go.RowKit Go.Proofs.YtabdkfmfenpkjaaDoorW.PrintWords
open Go.ChangeMaps (open_string shut_string)
set_option linter.unusedVariables false
theorem conv1 (W : World) (k cap : Nat) (u : UInt8) (h : W.cell? ⟨k, 0, none⟩ = some (.int .u8 (u.toNat : Int))) :
    (convert 26 9 (.slice (some ⟨k, 0, none⟩) 1 cap)).run Tryd.prog W = .ok (.string ⟨#[u]⟩) W :=
  run_convert_bytes_back W 26 9 5 ⟨k, 0, none⟩ cap [u] Tryd.underlying26 Tryd.underlying5 Tryd.underlying9 (fun j hj => by
    have : j = 0 := by simpa using hj
    subst this
    exact h)
theorem conv2 (u : UInt8) (W : World) :
    (convert 26 9 (.slice (some ⟨W.heap.size, 0, none⟩) 1 1)).run Tryd.prog (W.alloc (.cells #[.int .u8 (u.toNat : Int)] 5)) = .ok (.string ⟨#[u]⟩) (W.alloc (.cells #[.int .u8 (u.toNat : Int)] 5)) :=
  conv1 _ _ _ _ (by
    have h : (W.alloc (.cells #[.int .u8 (u.toNat : Int)] 5)).heap[W.heap.size]? = some (.cells #[.int .u8 (u.toNat : Int)] 5) := Array.getElem?_push_size
    unfold World.cell?
    rw [h]
    rfl)
structure Odd (W : World) : Prop where
  h0 : W.cell? ⟨0, 0, none⟩ = some (.int .u64 13234230157428861123)
  h1 : W.cell? ⟨0, 1, none⟩ = some (.int .u64 11329751410908088055)
theorem Odd.later {w w' : World} (h : Odd w) (hb : Below w.heap.size w w') : Odd w' := ⟨cell_later hb h.h0, cell_later hb h.h1⟩
theorem mixc (s r : Int) (key : ByteArray) (hr : Mix.imix s key.data.toList = r) (hk : key.size < 9223372036854775808) (W : World) (o : Obj) (h : Odd W) :
    Calls Tryd.prog 8 #[.int .u64 s, .string key] (W.alloc o) fun e w' => e = .returned (.int .u64 r) ∧ Below W.heap.size W w' := by
  have hb : Below W.heap.size W (W.alloc o) := below_alloc (Below.refl _ _) o
  have h2 := h.later hb
  refine (Mix.calls s r key _ hr hk h2.h0 h2.h1).mono ?_
  rintro e w' ⟨rfl, hd⟩
  exact ⟨rfl, hb.trans (hd.below.mono hb.size)⟩
set_option maxHeartbeats 4000000 in
set_option maxRecDepth 100000 in
theorem walk (a : Int) (x y : UInt8) (p q : ByteArray) (w : World) (ha : 0 ≤ a ∧ a < 18446744073709551616) (hp : p.size < 4611686018427387904) (hq : q.size < 4000000000000000000) (hw : Odd w) :
    Calls Tryd.prog 5 #[.int .u64 a, .string p, .int .u8 x.toNat, .int .u8 y.toNat, .string q] w fun e w' => e = .returned (.bool true) ∧ Below w.heap.size w w' := by
  obtain ⟨rx, hrx⟩ : ∃ r, Mix.imix a (p ++ ⟨#[x]⟩ ++ q).data.toList = r := ⟨_, rfl⟩
  obtain ⟨ry, hry⟩ : ∃ r, Mix.imix a (p ++ ⟨#[y]⟩ ++ q).data.toList = r := ⟨_, rfl⟩
  have hsz : ∀ z : UInt8, (p ++ ⟨#[z]⟩ ++ q).size < 9223372036854775807 := by
    intro z
    simp only [ByteArray.size_append]
    have : (ByteArray.mk #[z]).size = 1 := rfl
    omega
  have hb : (rx == ry) = ((x.toNat : Int) == (y.toNat : Int)) := by
    have e : ∀ z : UInt8, (p ++ ⟨#[z]⟩ ++ q).data.toList = p.data.toList ++ [z] ++ q.data.toList := by intro z; simp
    have := Mix.imix_one (x := x) (y := y) (p := p.data.toList) (q := q.data.toList) ha (by rw [← e]; exact hsz x)
    rw [← e, ← e, hrx, hry] at this
    rw [Bool.eq_iff_iff, beq_iff_eq, beq_iff_eq, this, Int.ofNat_inj]
    exact UInt8.toNat_inj.symm
  have c1 := fun o => mixc a rx _ hrx (Nat.lt_succ_of_lt (hsz x)) w o hw
  have c2 := fun W (h : Odd W) o => mixc a ry _ hry (Nat.lt_succ_of_lt (hsz y)) W o h
  have v1 := conv2 x w
  have v2 := fun W => conv2 y W
  clear hrx hry hsz
  go_enter Tryd.func5, Tryd.ntmps5
  go_wp2_with (first | (go_at_call 8; (with_reducible refine (c1 _).mono ?_); rintro e w2 ⟨rfl, hw2⟩; have hw3 := hw.later hw2) | (go_at_call 8; (with_reducible refine (c2 w2 hw3 _).mono ?_); rintro e w5 ⟨rfl, hw5⟩))
  go_ret
  exact ⟨rfl, hw2.trans (hw5.mono hw2.size)⟩
theorem u8_of {a : Int} (h : (Lit.int .u8 a).wf = true) : ∃ u : UInt8, a = u.toNat := by
  simp only [Lit.wf, Bool.and_eq_true, decide_eq_true_eq] at h
  have h1 : IntKind.u8.min = 0 := rfl
  have h2 : IntKind.u8.max = 255 := rfl
  refine ⟨UInt8.ofNat a.toNat, ?_⟩
  simp only [UInt8.toNat_ofNat']
  omega
set_option maxRecDepth 100000 in
theorem lifted (os : Os) (started : os.Started) (H : Type) (enc : TypeId × Value → H) :
    ReturnsInHanded {} Tryd.checked os 5 .any (fun w args => (Rows.oracleOneByteSpec.pre enc Tryd.prog Tryd.f5 [] false w args ∧ laidMetH Tryd.prog Mix.laid w) ∧ sizedMet enc Tryd.prog Tryd.f5 (OpenSpec.ofChange Rows.oracleOneByteSpec) false w args)
      (Rows.oracleOneByteSpec.post enc Tryd.prog Tryd.f5 false true false false) := by
  refine returnsInHanded_of_change_and (C := Tryd.checked) (X := fun w _ => laidMetH Tryd.prog Mix.laid w) (fun _ _ _ hh h => h.of_heap hh) Mix.own started (by kernel_rfl) Tryd.func5
    (ChangeSpec.witness_shaped (enc := enc) (C := Tryd.checked) (os := os) (X := fun w _ => laidMetH Tryd.prog Mix.laid w) false (World.doorLaid Tryd.prog 400 os) #[.int .u64 0, .string ⟨#[]⟩, .int .u8 0, .int .u8 0, .string ⟨#[]⟩] 8 rfl (World.shaped_of_RefB (by kernel_rfl) (by kernel_rfl)) (by kernel_rfl) (by kernel_rfl) (by kernel_rfl) (Mix.door_met os _)) ?_
  intro W base args ds gs before hval0 hW hcnd hsz0 hL _
  have hsz : (DataW.weightsEach Tryd.prog (Tryd.f5.params.toList ++ Rows.oracleOneByteSpec.plain.varTypes Tryd.prog) (ds ++ gs)).all (· ≤ reachBytes) = true := hsz0
  have hval : ∀ (j : Nat) t v, Tryd.f5.params[j]? = some t → args[j]? = some v → Value.okWide Tryd.prog W .any base t v := hval0
  have hW' := hW
  obtain ⟨p, q, hA0, hV, rfl, hfz, hnd⟩ := hW
  have hA : DataW.TrodAll enc Tryd.prog W 0 (fun _ => true) true Tryd.f5.params.toList args.toList ds p := hA0
  rw [Tryd.params5] at hA hval hsz
  obtain ⟨v0, vs0, d0, ds0, p0, q0, hargs, rfl, rfl, h0, r0⟩ := trodAll_cons hA
  obtain ⟨v1, vs1, d1, ds1, p1, q1, rfl, rfl, rfl, h1, r1⟩ := trodAll_cons r0
  obtain ⟨v2, vs2, d2, ds2, p2, q2, rfl, rfl, rfl, h2, r2⟩ := trodAll_cons r1
  obtain ⟨v3, vs3, d3, ds3, p3, q3, rfl, rfl, rfl, h3, r3⟩ := trodAll_cons r2
  obtain ⟨v4, vs4, d4, ds4, p4, q4, rfl, rfl, rfl, h4, r4⟩ := trodAll_cons r3
  obtain ⟨rfl, rfl, rfl⟩ := trodAll_nil r4
  obtain rfl : args = #[v0, v1, v2, v3, v4] := by cases args; simp_all
  obtain ⟨rfl, rfl⟩ := trodVars_none hV
  obtain ⟨a0, rfl, rfl, rfl, w0⟩ := open_int Tryd.underlying22 (hval 0 22 v0 rfl rfl) h0
  obtain ⟨s1, rfl, rfl, rfl, w1⟩ := open_string Tryd.underlying9 (hval 1 9 v1 rfl rfl) h1
  obtain ⟨a2, rfl, rfl, rfl, w2⟩ := open_int Tryd.underlying5 (hval 2 5 v2 rfl rfl) h2
  obtain ⟨a3, rfl, rfl, rfl, w3⟩ := open_int Tryd.underlying5 (hval 3 5 v3 rfl rfl) h3
  obtain ⟨s4, rfl, rfl, rfl, w4⟩ := open_string Tryd.underlying9 (hval 4 9 v4 rfl rfl) h4
  have hl1 := sized_string hsz (j := 1) rfl rfl
  have hl4 := sized_string hsz (j := 4) rfl rfl
  have hs1 : s1.size < 4611686018427387904 := Nat.lt_of_le_of_lt hl1 (by unfold reachBytes; omega)
  have hs4 : s4.size < 4000000000000000000 := Nat.lt_of_le_of_lt hl4 (by unfold reachBytes; omega)
  obtain ⟨l0, l1⟩ := Mix.of_laid hL
  obtain ⟨x, rfl⟩ := u8_of w2
  obtain ⟨y, rfl⟩ := u8_of w3
  clear hA0 hval0 hsz0 hsz
  refine (walk a0 x y s1 s4 W (apart.wf_u64 w0) hs1 hs4 ⟨l0, l1⟩).mono fun e W' ⟨he, bel⟩ => ?_
  subst he
  exact ⟨_, rfl, _, _, _, [], _, [], hW', trodAll_mk1 (shut_bool Tryd.underlying4 _), (trodAll_cons_mk (shut_int Tryd.underlying22 w0) (trodAll_cons_mk (shut_string Tryd.underlying9 w1) (trodAll_cons_mk (shut_int Tryd.underlying5 w2) (trodAll_cons_mk (shut_int Tryd.underlying5 w3) (trodAll_cons_mk (shut_string Tryd.underlying9 w4) trodAll_mk0))))), rfl, bel.frame _, fun h => by cases h⟩
theorem over : Rows.OracleOneByteSaid :=
  OpenClaim.holds_of_wide 5 Tryd.f5 rfl rfl rfl rfl rfl rfl rfl ⟨rfl, rfl, rfl, rfl, rfl⟩ rfl rfl rfl rfl rfl (by kernel_rfl) Tryd.func5 (by kernel_rfl)
    (of_decide_eq_true (by kernel_rfl)) (by unfold Func.isWrapper; first | (rw [if_pos (by decide +kernel)]; kernel_rfl) | (rw [if_neg (by decide +kernel)]; exact ⟨rfl, rfl⟩))
    (fun os started H enc _ => lifted os started H enc)
end Go.Proofs.YtabdkfmfenpkjaaDoor.onebyte
namespace Go.Proofs.YtabdkfmfenpkjaaDoor
theorem oracleOneByte_holds : Rows.OracleOneByteSaid := onebyte.over
#print axioms oracleOneByte_holds
end Go.Proofs.YtabdkfmfenpkjaaDoor
