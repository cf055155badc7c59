/- 'KeysNumeric' answers true at every input, and the input reads as it did. No conditions. -/
import Derived.Test.YtdehoidiaedcoaaGreatVmfx
import Derived.Test.YtdehoidiaedcoaaGreatRows
import Derived.WalkKit
import Derived.ProofKit
import Derived.OpenShut
import Derived.ShutString
import Derived.ChangeOld
import Derived.Below
set_option linter.unusedVariables false
set_option linter.unusedSimpArgs false
set_option maxRecDepth 100000
namespace Go.Vt
def WF_Vvitrineref18_Key (c : Vvitrineref18_Key) : Prop := Inb .i64 c.Kind ∧ Inb .i32 c.Sign ∧ Inb .i64 c.N
def F_Vvitrineref18_Key (W : World) (y : Vvitrineref18_Key) : Prop := WF_Vvitrineref18_Key y
theorem dc_46 {W : World} : Dc env W 46 (fun cs => ∃ u, cs = en_Vvitrineref18_Key.enc u ∧ F_Vvitrineref18_Key W u) :=
  (dc_struct (E := env) (W := W) (t := 46) (Ss := [(1, (fun cs => ∃ n, cs = [.int .i64 n] ∧ Inb .i64 n)), (1, (fun cs => ∃ n, cs = [.int .i32 n] ∧ Inb .i32 n)), (1, (fun cs => ∃ n, cs = [.int .i64 n] ∧ Inb .i64 n))]) rfl rfl (by exact ⟨rfl, ⟨_, rfl, rfl⟩, dc_int rfl rfl, rfl, ⟨_, rfl, rfl⟩, dc_int rfl rfl, rfl, ⟨_, rfl, rfl⟩, dc_int rfl rfl, trivial⟩) rfl).mono fun cs h => by
    obtain ⟨_, _, rfl, ⟨n1, rfl, h1⟩, _, _, rfl, ⟨n2, rfl, h2⟩, _, _, rfl, ⟨n3, rfl, h3⟩, rfl⟩ := h
    exact ⟨(⟨n1, n2, n3⟩ : Vvitrineref18_Key), rfl, ⟨h1, h2, h3⟩⟩
theorem by_of {n : Int} (h : Inb .u8 n) : By n := ⟨h.1, by have := h.2; simp only [hi] at this; omega⟩
theorem by_of_ (n : Int) (h : Inb .u8 n) : By n := by_of h
theorem bs_of {l : List Int} (h : ∀ u ∈ l, Inb .u8 u) : Bs l := fun n hn => by_of (h n hn)
theorem len_of {l : List Int} (h : l.length ≤ maxLen) : l.length ≤ 9223372036854775807 := by unfold maxLen at h; omega
theorem lenk_of {l : List Vvitrineref18_Key} (h : l.length ≤ maxLen) : l.length ≤ 9223372036854775807 := by unfold maxLen at h; omega
theorem walk_KeysNumeric {W : World} (p0 : Int) (w0 : Vt.Inb .u8 p0) (p1 : Int) (w1 : Vt.Inb .u8 p1) (s2 : Vt.SV) (p2 : List Int) (q2 : Rd (old W) s2 5 (enI .u8) p2) (w2 : ∀ u ∈ p2, Inb .u8 u) (l2 : p2.length ≤ maxLen) (s3 : Vt.SV) (p3 : List Vvitrineref18_Key) (q3 : Rd (old W) s3 46 en_Vvitrineref18_Key p3) (w3 : ∀ u ∈ p3, F_Vvitrineref18_Key W u) (l3 : p3.length ≤ maxLen) : m_vitrinelaw18_KeysNumeric p0 p1 p2 p3 = some true := by
  exact keysNumeric_true p0 p1 _ _ (by_of w0) (by_of w1) (len_of l2) (lenk_of l3)
end Go.Vt
namespace Go.Proofs.YtdehoidiaedcoaaGreat.keysNumeric
open Go.ChangeShapes Go.WideShapes Go.ChangeAt Go.RowKit Go.Vt
open Go.ChangeMaps (open_string shut_string)
theorem own : ownKnob Tryz.prog.godebug = none := by kernel_rfl
theorem laidOut : laidOutB Tryz.prog = true := by kernel_rfl
theorem walk {W : World} (p0 : Int) (w0 : Vt.Inb .u8 p0) (p1 : Int) (w1 : Vt.Inb .u8 p1) (s2 : Vt.SV) (p2 : List Int) (q2 : Rd (old W) s2 5 (enI .u8) p2) (w2 : ∀ u ∈ p2, Inb .u8 u) (l2 : p2.length ≤ maxLen) (s3 : Vt.SV) (p3 : List Vvitrineref18_Key) (q3 : Rd (old W) s3 46 en_Vvitrineref18_Key p3) (w3 : ∀ u ∈ p3, F_Vvitrineref18_Key W u) (l3 : p3.length ≤ maxLen) :
    Calls Tryz.prog 3 #[.int .u8 p0, .int .u8 p1, s2.val, s3.val] W fun e w' => e = .returned (.bool true) ∧ Below W.heap.size W w' := by
  have hw := Vt.walk_KeysNumeric (W := W) p0 w0 p1 w1 s2 p2 q2 w2 l2 s3 p3 q3 w3 l3
  have T0 := fun h => Vt.c_vitrinelaw18_KeysNumeric (g := ⟨Vt.hpOf W, W⟩) (Vt.old W) p0 p1 p2 s2 q2 p3 s3 q3 true h
  have T := T0 hw
  refine callsIn_wide.1 ((T [] (fun v H => v = .bool true) W ?_ (Vt.hs_old W)).mono ?_)
  · exact fun _ _ => rfl
  · rintro e w' ⟨v, H', rfl, rfl, hs⟩
    exact ⟨rfl, Vt.below_of hs⟩
/-! ### the row's step -/
theorem lifted (os : Os) (started : os.Started) (H : Type) (enc : TypeId × Value → H) :
    ReturnsInHanded {} Tryz.checked os 3 .any (Rows.keysNumericSpec.pre6 enc Tryz.prog Tryz.f3 Rows.keysNumericRow.domain false) (Rows.keysNumericSpec.post enc Tryz.prog Tryz.f3 false true false false) := by
  refine returnsInHanded_of_change (C := Tryz.checked) own started (by kernel_rfl) Tryz.func3
    (ChangeSpec.witness6 (enc := enc) (C := Tryz.checked) false ⟨#[], #[.int .u8 0, .int .u8 0, .slice none 0 0, .slice none 0 0], []⟩ 8 (by kernel_rfl) (by kernel_rfl) (by kernel_rfl) (by kernel_rfl)) ?_
  intro W base args ds gs before hval0 hW hcnd _
  have hval : ∀ (j : Nat) t v, Tryz.f3.params[j]? = some t → args[j]? = some v → Value.okWide Tryz.prog W .any base t v := hval0
  have hW' := hW
  obtain ⟨p, q, hA0, hV, rfl, hfz, hnd⟩ := hW
  have hA : DataW.TrodAll enc Tryz.prog W 0 (fun _ => true) true Tryz.f3.params.toList args.toList ds p := hA0
  rw [Tryz.params3] at hA hval
  obtain ⟨v0, vs0, d0, ds0, p'0, q'0, hargs, rfl, rfl, h0, r0⟩ := trodAll_cons hA
  obtain ⟨v1, vs1, d1, ds1, p'1, q'1, rfl, rfl, rfl, h1, r1⟩ := trodAll_cons r0
  obtain ⟨v2, vs2, d2, ds2, p'2, q'2, rfl, rfl, rfl, h2, r2⟩ := trodAll_cons r1
  obtain ⟨v3, vs3, d3, ds3, p'3, q'3, rfl, rfl, rfl, h3, r3⟩ := trodAll_cons r2
  obtain ⟨rfl, rfl, rfl⟩ := trodAll_nil r3
  obtain rfl : args = #[v0, v1, v2, v3] := by cases args; simp_all
  obtain ⟨rfl, rfl⟩ := trodVars_none hV
  have k0 := h0
  have lt0 : ∀ x ∈ p'0, x.block < W.heap.size := by obtain ⟨m, hm⟩ := k0; exact DataW.trod_lt m _ _ _ hm
  have k1 := h1
  have lt1 : ∀ x ∈ p'1, x.block < W.heap.size := by obtain ⟨m, hm⟩ := k1; exact DataW.trod_lt m _ _ _ hm
  have k2 := h2
  have lt2 : ∀ x ∈ p'2, x.block < W.heap.size := by obtain ⟨m, hm⟩ := k2; exact DataW.trod_lt m _ _ _ hm
  have k3 := h3
  have lt3 : ∀ x ∈ p'3, x.block < W.heap.size := by obtain ⟨m, hm⟩ := k3; exact DataW.trod_lt m _ _ _ hm
  clear hA0 hval0
  obtain ⟨fu0, g0⟩ := h0
  have z0 : ((fun cs => ∃ n, cs = [.int .u8 n] ∧ Inb .u8 n)) v0.cells.toList := (Vt.dc_int rfl rfl : Vt.Dc Vt.env W 5 _) _ _ _ _ _ g0
  obtain ⟨p0, rfl⟩ := okWide_int Tryz.underlying5 (hval 0 5 v0 rfl rfl)
  obtain ⟨m0, e0, w0⟩ := z0
  obtain rfl : p0 = m0 := by simpa [Value.cells] using e0
  obtain ⟨fu1, g1⟩ := h1
  have z1 : ((fun cs => ∃ n, cs = [.int .u8 n] ∧ Inb .u8 n)) v1.cells.toList := (Vt.dc_int rfl rfl : Vt.Dc Vt.env W 5 _) _ _ _ _ _ g1
  obtain ⟨p1, rfl⟩ := okWide_int Tryz.underlying5 (hval 1 5 v1 rfl rfl)
  obtain ⟨m1, e1, w1⟩ := z1
  obtain rfl : p1 = m1 := by simpa [Value.cells] using e1
  obtain ⟨fu2, g2⟩ := h2
  have z2 : ((fun cs => ∃ (s : SV) (l : List Int), cs = [s.val] ∧ Rd (old W) s 5 (enI .u8) l ∧ (∀ u ∈ l, Inb .u8 u) ∧ l.length ≤ maxLen)) v2.cells.toList := (Vt.dc_ints rfl rfl rfl rfl rfl : Vt.Dc Vt.env W 22 _) _ _ _ _ _ g2
  obtain ⟨a2, len2, cap2, rfl⟩ := okWide_slice Tryz.underlying22 (hval 2 22 v2 rfl rfl)
  obtain ⟨s2, p2, e2, q2, w2, l2⟩ := z2
  have e2' : Value.slice a2 len2 cap2 = s2.val := by simpa [Value.cells] using e2
  rw [e2'] at hval hW' k2 ⊢
  obtain ⟨fu3, g3⟩ := h3
  have z3 : ((fun cs => ∃ (s : SV) (l : List (Vvitrineref18_Key)), cs = [s.val] ∧ Rd (old W) s 46 en_Vvitrineref18_Key l ∧ (∀ u ∈ l, (F_Vvitrineref18_Key W) u) ∧ l.length ≤ maxLen)) v3.cells.toList := (Vt.dc_slice en_Vvitrineref18_Key (F_Vvitrineref18_Key W) rfl rfl rfl rfl dc_46 : Vt.Dc Vt.env W 23 _) _ _ _ _ _ g3
  obtain ⟨a3, len3, cap3, rfl⟩ := okWide_slice Tryz.underlying23 (hval 3 23 v3 rfl rfl)
  obtain ⟨s3, p3, e3, q3, w3, l3⟩ := z3
  have e3' : Value.slice a3 len3 cap3 = s3.val := by simpa [Value.cells] using e3
  rw [e3'] at hval hW' k3 ⊢
  refine (walk (W := W) p0 w0 p1 w1 s2 p2 q2 w2 l2 s3 p3 q3 w3 l3).mono fun e W' ⟨he, bel⟩ => ?_
  subst he
  exact ⟨_, rfl, _, _, _, [], _, [], hW', trodAll_mk1 (shut_bool Tryz.underlying4 _), (trodAll_cons_mk (Below.trod laidOut (by kernel_rfl) (of_decide_eq_true (by kernel_rfl)) k0 bel lt0) (trodAll_cons_mk (Below.trod laidOut (by kernel_rfl) (of_decide_eq_true (by kernel_rfl)) k1 bel lt1) (trodAll_cons_mk (Below.trod laidOut (by kernel_rfl) (of_decide_eq_true (by kernel_rfl)) k2 bel lt2) (trodAll_cons_mk (Below.trod laidOut (by kernel_rfl) (of_decide_eq_true (by kernel_rfl)) k3 bel lt3) trodAll_mk0)))), rfl, bel.frame _, fun h => by cases h⟩

theorem over : Rows.keysNumericRow.holds Tryz.pinned (OpenSpec.ofChange Rows.keysNumericSpec) :=
  OpenClaim.holds_of_wide 3 Tryz.f3 rfl rfl rfl rfl rfl rfl rfl ⟨rfl, rfl, rfl, rfl, rfl⟩ rfl rfl rfl rfl rfl (by kernel_rfl) Tryz.func3 (by kernel_rfl)
    (of_decide_eq_true (by kernel_rfl)) (by unfold Func.isWrapper; first | (rw [if_pos (by decide +kernel)]; kernel_rfl) | (rw [if_neg (by decide +kernel)]; exact ⟨rfl, rfl⟩))
    (fun os started H enc _ => lifted os started H enc)

/-- the statement -/
theorem proved : Rows.KeysNumericSaid := over
#print axioms proved
end Go.Proofs.YtdehoidiaedcoaaGreat.keysNumeric
