/- 'KeysType' answers true at every input, and the input reads as it did. No conditions. -/
import Derived.Test.YtdehoidiaedcoaaGreatVmfx
import Derived.Test.YtdehoidiaedcoaaGreatRows
import Derived.WalkKit
import Derived.ProofKit
import Derived.OpenShut
import Derived.ShutString
import Derived.ChangeOld
import Derived.Below
set_option linter.unusedVariables false
set_option linter.unusedSimpArgs false
set_option maxRecDepth 100000
namespace Go.Vt
theorem by_of {n : Int} (h : Inb .u8 n) : By n := ⟨h.1, by have := h.2; simp only [hi] at this; omega⟩
theorem by_of_ (n : Int) (h : Inb .u8 n) : By n := by_of h
theorem walk_KeysType {W : World} (p0 : Int) (w0 : Vt.Inb .u8 p0) (p1 : ByteArray) (w1 : p1.size ≤ maxLen) (p2 : Int) (w2 : Vt.Inb .u8 p2) (p3 : Bool) : m_vitrinelaw18_KeysType p0 p1 p2 p3 = some true := by
  exact keysType_true p0 p1 p2 p3 (by_of w0) (by_of w2)
end Go.Vt
namespace Go.Proofs.YtdehoidiaedcoaaGreat.keysType
open Go.ChangeShapes Go.WideShapes Go.ChangeAt Go.RowKit Go.Vt
open Go.ChangeMaps (open_string shut_string)
theorem own : ownKnob Tryz.prog.godebug = none := by kernel_rfl
theorem laidOut : laidOutB Tryz.prog = true := by kernel_rfl
theorem walk {W : World} (p0 : Int) (w0 : Vt.Inb .u8 p0) (p1 : ByteArray) (w1 : p1.size ≤ maxLen) (p2 : Int) (w2 : Vt.Inb .u8 p2) (p3 : Bool) :
    Calls Tryz.prog 4 #[.int .u8 p0, .string p1, .int .u8 p2, .bool p3] W fun e w' => e = .returned (.bool true) ∧ Below W.heap.size W w' := by
  have hw := Vt.walk_KeysType (W := W) p0 w0 p1 w1 p2 w2 p3
  have T0 := fun h => Vt.c_vitrinelaw18_KeysType (g := ⟨Vt.hpOf W, W⟩) (Vt.old W) p0 p1 p2 p3 true h
  have T := T0 hw
  refine callsIn_wide.1 ((T [] (fun v H => v = .bool true) W ?_ (Vt.hs_old W)).mono ?_)
  · exact fun _ _ => rfl
  · rintro e w' ⟨v, H', rfl, rfl, hs⟩
    exact ⟨rfl, Vt.below_of hs⟩
/-! ### the row's step -/
theorem lifted (os : Os) (started : os.Started) (H : Type) (enc : TypeId × Value → H) :
    ReturnsInHanded {} Tryz.checked os 4 .any (Rows.keysTypeSpec.pre6 enc Tryz.prog Tryz.f4 Rows.keysTypeRow.domain false) (Rows.keysTypeSpec.post enc Tryz.prog Tryz.f4 false true false false) := by
  refine returnsInHanded_of_change (C := Tryz.checked) own started (by kernel_rfl) Tryz.func4
    (ChangeSpec.witness6 (enc := enc) (C := Tryz.checked) false ⟨#[], #[.int .u8 0, .string ⟨#[]⟩, .int .u8 0, .bool false], []⟩ 8 (by kernel_rfl) (by kernel_rfl) (by kernel_rfl) (by kernel_rfl)) ?_
  intro W base args ds gs before hval0 hW hcnd _
  have hval : ∀ (j : Nat) t v, Tryz.f4.params[j]? = some t → args[j]? = some v → Value.okWide Tryz.prog W .any base t v := hval0
  have hW' := hW
  obtain ⟨p, q, hA0, hV, rfl, hfz, hnd⟩ := hW
  have hA : DataW.TrodAll enc Tryz.prog W 0 (fun _ => true) true Tryz.f4.params.toList args.toList ds p := hA0
  rw [Tryz.params4] at hA hval
  obtain ⟨v0, vs0, d0, ds0, p'0, q'0, hargs, rfl, rfl, h0, r0⟩ := trodAll_cons hA
  obtain ⟨v1, vs1, d1, ds1, p'1, q'1, rfl, rfl, rfl, h1, r1⟩ := trodAll_cons r0
  obtain ⟨v2, vs2, d2, ds2, p'2, q'2, rfl, rfl, rfl, h2, r2⟩ := trodAll_cons r1
  obtain ⟨v3, vs3, d3, ds3, p'3, q'3, rfl, rfl, rfl, h3, r3⟩ := trodAll_cons r2
  obtain ⟨rfl, rfl, rfl⟩ := trodAll_nil r3
  obtain rfl : args = #[v0, v1, v2, v3] := by cases args; simp_all
  obtain ⟨rfl, rfl⟩ := trodVars_none hV
  have k0 := h0
  have lt0 : ∀ x ∈ p'0, x.block < W.heap.size := by obtain ⟨m, hm⟩ := k0; exact DataW.trod_lt m _ _ _ hm
  have k1 := h1
  have lt1 : ∀ x ∈ p'1, x.block < W.heap.size := by obtain ⟨m, hm⟩ := k1; exact DataW.trod_lt m _ _ _ hm
  have k2 := h2
  have lt2 : ∀ x ∈ p'2, x.block < W.heap.size := by obtain ⟨m, hm⟩ := k2; exact DataW.trod_lt m _ _ _ hm
  have k3 := h3
  have lt3 : ∀ x ∈ p'3, x.block < W.heap.size := by obtain ⟨m, hm⟩ := k3; exact DataW.trod_lt m _ _ _ hm
  clear hA0 hval0
  obtain ⟨fu0, g0⟩ := h0
  have z0 : ((fun cs => ∃ n, cs = [.int .u8 n] ∧ Inb .u8 n)) v0.cells.toList := (Vt.dc_int rfl rfl : Vt.Dc Vt.env W 5 _) _ _ _ _ _ g0
  obtain ⟨p0, rfl⟩ := okWide_int Tryz.underlying5 (hval 0 5 v0 rfl rfl)
  obtain ⟨m0, e0, w0⟩ := z0
  obtain rfl : p0 = m0 := by simpa [Value.cells] using e0
  obtain ⟨fu1, g1⟩ := h1
  have z1 : ((fun cs => ∃ s : ByteArray, cs = [.string s] ∧ s.size ≤ maxLen)) v1.cells.toList := (Vt.dc_string rfl rfl : Vt.Dc Vt.env W 9 _) _ _ _ _ _ g1
  obtain ⟨p1, rfl⟩ := okWide_string Tryz.underlying9 (hval 1 9 v1 rfl rfl)
  obtain ⟨m1, e1, w1⟩ := z1
  obtain rfl : p1 = m1 := by simpa [Value.cells] using e1
  obtain ⟨fu2, g2⟩ := h2
  have z2 : ((fun cs => ∃ n, cs = [.int .u8 n] ∧ Inb .u8 n)) v2.cells.toList := (Vt.dc_int rfl rfl : Vt.Dc Vt.env W 5 _) _ _ _ _ _ g2
  obtain ⟨p2, rfl⟩ := okWide_int Tryz.underlying5 (hval 2 5 v2 rfl rfl)
  obtain ⟨m2, e2, w2⟩ := z2
  obtain rfl : p2 = m2 := by simpa [Value.cells] using e2
  obtain ⟨fu3, g3⟩ := h3
  have z3 : ((fun cs => ∃ b, cs = [.bool b])) v3.cells.toList := (Vt.dc_bool rfl rfl : Vt.Dc Vt.env W 4 _) _ _ _ _ _ g3
  obtain ⟨p3, rfl⟩ := okWide_bool Tryz.underlying4 (hval 3 4 v3 rfl rfl)
  refine (walk (W := W) p0 w0 p1 w1 p2 w2 p3).mono fun e W' ⟨he, bel⟩ => ?_
  subst he
  exact ⟨_, rfl, _, _, _, [], _, [], hW', trodAll_mk1 (shut_bool Tryz.underlying4 _), (trodAll_cons_mk (Below.trod laidOut (by kernel_rfl) (of_decide_eq_true (by kernel_rfl)) k0 bel lt0) (trodAll_cons_mk (Below.trod laidOut (by kernel_rfl) (of_decide_eq_true (by kernel_rfl)) k1 bel lt1) (trodAll_cons_mk (Below.trod laidOut (by kernel_rfl) (of_decide_eq_true (by kernel_rfl)) k2 bel lt2) (trodAll_cons_mk (Below.trod laidOut (by kernel_rfl) (of_decide_eq_true (by kernel_rfl)) k3 bel lt3) trodAll_mk0)))), rfl, bel.frame _, fun h => by cases h⟩

theorem over : Rows.keysTypeRow.holds Tryz.pinned (OpenSpec.ofChange Rows.keysTypeSpec) :=
  OpenClaim.holds_of_wide 4 Tryz.f4 rfl rfl rfl rfl rfl rfl rfl ⟨rfl, rfl, rfl, rfl, rfl⟩ rfl rfl rfl rfl rfl (by kernel_rfl) Tryz.func4 (by kernel_rfl)
    (of_decide_eq_true (by kernel_rfl)) (by unfold Func.isWrapper; first | (rw [if_pos (by decide +kernel)]; kernel_rfl) | (rw [if_neg (by decide +kernel)]; exact ⟨rfl, rfl⟩))
    (fun os started H enc _ => lifted os started H enc)

/-- the statement -/
theorem proved : Rows.KeysTypeSaid := over
#print axioms proved
end Go.Proofs.YtdehoidiaedcoaaGreat.keysType
