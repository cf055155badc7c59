/- 'EntryModified' answers true at every input, and the input reads as it did. No conditions. -/
import Derived.Test.YteebpkekdkkmhaaVwEM
import Derived.Test.YteebpkekdkkmhaaVtQ
import Derived.Test.YteebpkekdkkmhaaVpM
import Derived.Test.YteebpkekdkkmhaaRows
import Derived.WalkKit
import Derived.ProofKit
import Derived.OpenShut
import Derived.ShutString
import Derived.ChangeOld
import Derived.Below
set_option linter.unusedVariables false
set_option linter.unusedSimpArgs false
set_option maxRecDepth 100000
namespace Go.Vt
def WF_Vapi_Cell (c : Vapi_Cell) : Prop := Inb .u8 c.Char ∧ Inb .u8 c.FA ∧ Inb .u8 c.High ∧ Inb .u8 c.Color ∧ Inb .u8 c.f_Set
def WF_Vvitrineref12_Act (c : Vvitrineref12_Act) : Prop := Inb .u8 c.Do ∧ Inb .i64 c.N ∧ Inb .u8 c.Code ∧ WF_Vapi_Cell c.C ∧ (∀ u ∈ c.Text, Inb .u8 u) ∧ c.Text.length ≤ maxLen
def F_Vapi_Cell (W : World) (y : Vapi_Cell) : Prop := WF_Vapi_Cell y
theorem dc_48 {W : World} : Dc env W 48 (fun cs => ∃ u, cs = en_Vapi_Cell.enc u ∧ F_Vapi_Cell W u) :=
  (dc_struct (E := env) (W := W) (t := 48) (Ss := [(1, (fun cs => ∃ n, cs = [.int .u8 n] ∧ Inb .u8 n)), (1, (fun cs => ∃ b, cs = [.bool b])), (1, (fun cs => ∃ n, cs = [.int .u8 n] ∧ Inb .u8 n)), (1, (fun cs => ∃ n, cs = [.int .u8 n] ∧ Inb .u8 n)), (1, (fun cs => ∃ n, cs = [.int .u8 n] ∧ Inb .u8 n)), (1, (fun cs => ∃ n, cs = [.int .u8 n] ∧ Inb .u8 n))]) rfl rfl (by exact ⟨rfl, ⟨_, rfl, rfl⟩, dc_int rfl rfl, rfl, ⟨_, rfl, rfl⟩, dc_bool rfl rfl, rfl, ⟨_, rfl, rfl⟩, dc_int rfl rfl, rfl, ⟨_, rfl, rfl⟩, dc_int rfl rfl, rfl, ⟨_, rfl, rfl⟩, dc_int rfl rfl, rfl, ⟨_, rfl, rfl⟩, dc_int rfl rfl, trivial⟩) rfl).mono fun cs h => by
    obtain ⟨_, _, rfl, ⟨n1, rfl, h1⟩, _, _, rfl, ⟨n2, rfl⟩, _, _, rfl, ⟨n3, rfl, h3⟩, _, _, rfl, ⟨n4, rfl, h4⟩, _, _, rfl, ⟨n5, rfl, h5⟩, _, _, rfl, ⟨n6, rfl, h6⟩, rfl⟩ := h
    exact ⟨(⟨n1, n2, n3, n4, n5, n6⟩ : Vapi_Cell), rfl, ⟨h1, h3, h4, h5, h6⟩⟩
def F_Vvitrineref12_Act (W : World) (y : Vvitrineref12_Act × SV) : Prop := D_Vvitrineref12_Act (old W) y ∧ WF_Vvitrineref12_Act y.1
theorem dc_94 {W : World} : Dc env W 94 (fun cs => ∃ u, cs = en_Vvitrineref12_Act.enc u ∧ F_Vvitrineref12_Act W u) :=
  (dc_struct (E := env) (W := W) (t := 94) (Ss := [(1, (fun cs => ∃ n, cs = [.int .u8 n] ∧ Inb .u8 n)), (1, (fun cs => ∃ n, cs = [.int .i64 n] ∧ Inb .i64 n)), (1, (fun cs => ∃ b, cs = [.bool b])), (1, (fun cs => ∃ n, cs = [.int .u8 n] ∧ Inb .u8 n)), (6, (fun cs => ∃ u, cs = en_Vapi_Cell.enc u ∧ (F_Vapi_Cell W) u)), (1, (fun cs => ∃ (s : SV) (l : List Int), cs = [s.val] ∧ Rd (old W) s 5 (enI .u8) l ∧ (∀ u ∈ l, Inb .u8 u) ∧ l.length ≤ maxLen))]) rfl rfl (by exact ⟨rfl, ⟨_, rfl, rfl⟩, dc_int rfl rfl, rfl, ⟨_, rfl, rfl⟩, dc_int rfl rfl, rfl, ⟨_, rfl, rfl⟩, dc_bool rfl rfl, rfl, ⟨_, rfl, rfl⟩, dc_int rfl rfl, rfl, ⟨_, rfl, rfl⟩, dc_48, rfl, ⟨_, rfl, rfl⟩, dc_ints rfl rfl rfl rfl rfl, trivial⟩) rfl).mono fun cs h => by
    obtain ⟨_, _, rfl, ⟨n1, rfl, h1⟩, _, _, rfl, ⟨n2, rfl, h2⟩, _, _, rfl, ⟨n3, rfl⟩, _, _, rfl, ⟨n4, rfl, h4⟩, _, _, rfl, ⟨n5, rfl, h5⟩, _, _, rfl, ⟨s6, n6, rfl, r6, h6, k6⟩, rfl⟩ := h
    exact ⟨((⟨n1, n2, n3, n4, n5, n6⟩ : Vvitrineref12_Act), s6), rfl, ⟨r6, ⟨h1, h2, h4, h5, h6, k6⟩⟩⟩
theorem by_of {n : Int} (h : Inb .u8 n) : By n := ⟨h.1, by have := h.2; simp only [hi] at this; omega⟩
theorem cb_of {c : Vapi_Cell} (h : WF_Vapi_Cell c) : CB c := ⟨by_of h.1, by_of h.2.1, by_of h.2.2.1, by_of h.2.2.2.1, by_of h.2.2.2.2⟩
theorem aok_of {c : Vvitrineref12_Act} (h : WF_Vvitrineref12_Act c) : AOk c := ⟨by_of h.1, by_of h.2.2.1, cb_of h.2.2.2.1, fun n hn => by_of (h.2.2.2.2.1 n hn), by have := h.2.2.2.2.2; unfold maxLen at this; omega⟩
theorem acts_of {W : World} {l : List (Vvitrineref12_Act × SV)} (h : ∀ u ∈ l, F_Vvitrineref12_Act W u) : ∀ a ∈ l.map (·.1), AOk a := fun a ha => by
  obtain ⟨y, hy, rfl⟩ := List.mem_map.1 ha
  exact aok_of (h y hy).2
theorem len_of {l : List (Vvitrineref12_Act × SV)} (h : l.length ≤ maxLen) : (l.map (·.1)).length ≤ 9223372036854775807 := by rw [List.length_map]; unfold maxLen at h; omega
theorem walk_EntryModified {W : World} (p0 : Int) (w0 : Vt.Inb .u8 p0) (s1 : Vt.SV) (p1 : List (Vvitrineref12_Act × SV)) (q1 : Rd (old W) s1 94 en_Vvitrineref12_Act p1) (w1 : ∀ u ∈ p1, F_Vvitrineref12_Act W u) (l1 : p1.length ≤ maxLen) (p2 : Int) (w2 : Vt.Inb .u8 p2) (p3 : Int) (w3 : Vt.Inb .u8 p3) : m_vitrinelaw20_EntryModified p0 (p1.map (·.1)) p2 p3 = some true := by
  exact entryModified_true p0 _ p2 p3 (by_of w0) (acts_of w1) (len_of l1) (by_of w2) (by_of w3)
end Go.Vt
namespace Go.Proofs.Yteebpkekdkkmhaa.entryModified
open Go.ChangeShapes Go.WideShapes Go.ChangeAt Go.RowKit Go.Vt
open Go.ChangeMaps (open_string shut_string)
theorem own : ownKnob Try.prog.godebug = none := by kernel_rfl
theorem laidOut : laidOutB Try.prog = true := by kernel_rfl
theorem walk {W : World} (p0 : Int) (w0 : Vt.Inb .u8 p0) (s1 : Vt.SV) (p1 : List (Vvitrineref12_Act × SV)) (q1 : Rd (old W) s1 94 en_Vvitrineref12_Act p1) (w1 : ∀ u ∈ p1, F_Vvitrineref12_Act W u) (l1 : p1.length ≤ maxLen) (p2 : Int) (w2 : Vt.Inb .u8 p2) (p3 : Int) (w3 : Vt.Inb .u8 p3) :
    Calls Try.prog 9 #[.int .u8 p0, s1.val, .int .u8 p2, .int .u8 p3] W fun e w' => e = .returned (.bool true) ∧ Below W.heap.size W w' := by
  have hw := Vt.walk_EntryModified (W := W) p0 w0 s1 p1 q1 w1 l1 p2 w2 p3 w3
  have T0 := fun h => Vt.c_vitrinelaw20_EntryModified (g := ⟨Vt.hpOf W, W⟩) (Vt.old W) p0 (p1.map (·.1)) s1 ⟨p1, q1, rfl, fun y hy => (w1 y hy).1⟩ p2 p3 true h
  have T := T0 hw
  refine callsIn_wide.1 ((T [] (fun v H => v = .bool true) W ?_ (Vt.hs_old W)).mono ?_)
  · exact fun _ _ => rfl
  · rintro e w' ⟨v, H', rfl, rfl, hs⟩
    exact ⟨rfl, Vt.below_of hs⟩
/-! ### the row's step -/
theorem lifted (os : Os) (started : os.Started) (H : Type) (enc : TypeId × Value → H) :
    ReturnsInHanded {} Try.checked os 9 .any (Rows.entryModifiedSpec.pre6 enc Try.prog Try.f9 Rows.entryModifiedRow.domain false) (Rows.entryModifiedSpec.post enc Try.prog Try.f9 false true false false) := by
  refine returnsInHanded_of_change (C := Try.checked) own started (by kernel_rfl) Try.func9
    (ChangeSpec.witness6 (enc := enc) (C := Try.checked) false ⟨#[], #[.int .u8 0, .slice none 0 0, .int .u8 0, .int .u8 0], []⟩ 8 (by kernel_rfl) (by kernel_rfl) (by kernel_rfl) (by kernel_rfl)) ?_
  intro W base args ds gs before hval0 hW hcnd _
  have hval : ∀ (j : Nat) t v, Try.f9.params[j]? = some t → args[j]? = some v → Value.okWide Try.prog W .any base t v := hval0
  have hW' := hW
  obtain ⟨p, q, hA0, hV, rfl, hfz, hnd⟩ := hW
  have hA : DataW.TrodAll enc Try.prog W 0 (fun _ => true) true Try.f9.params.toList args.toList ds p := hA0
  rw [Try.params9] at hA hval
  obtain ⟨v0, vs0, d0, ds0, p'0, q'0, hargs, rfl, rfl, h0, r0⟩ := trodAll_cons hA
  obtain ⟨v1, vs1, d1, ds1, p'1, q'1, rfl, rfl, rfl, h1, r1⟩ := trodAll_cons r0
  obtain ⟨v2, vs2, d2, ds2, p'2, q'2, rfl, rfl, rfl, h2, r2⟩ := trodAll_cons r1
  obtain ⟨v3, vs3, d3, ds3, p'3, q'3, rfl, rfl, rfl, h3, r3⟩ := trodAll_cons r2
  obtain ⟨rfl, rfl, rfl⟩ := trodAll_nil r3
  obtain rfl : args = #[v0, v1, v2, v3] := by cases args; simp_all
  obtain ⟨rfl, rfl⟩ := trodVars_none hV
  have k0 := h0
  have lt0 : ∀ x ∈ p'0, x.block < W.heap.size := by obtain ⟨m, hm⟩ := k0; exact DataW.trod_lt m _ _ _ hm
  have k1 := h1
  have lt1 : ∀ x ∈ p'1, x.block < W.heap.size := by obtain ⟨m, hm⟩ := k1; exact DataW.trod_lt m _ _ _ hm
  have k2 := h2
  have lt2 : ∀ x ∈ p'2, x.block < W.heap.size := by obtain ⟨m, hm⟩ := k2; exact DataW.trod_lt m _ _ _ hm
  have k3 := h3
  have lt3 : ∀ x ∈ p'3, x.block < W.heap.size := by obtain ⟨m, hm⟩ := k3; exact DataW.trod_lt m _ _ _ hm
  clear hA0 hval0
  obtain ⟨fu0, g0⟩ := h0
  have z0 : ((fun cs => ∃ n, cs = [.int .u8 n] ∧ Inb .u8 n)) v0.cells.toList := (Vt.dc_int rfl rfl : Vt.Dc Vt.env W 5 _) _ _ _ _ _ g0
  obtain ⟨p0, rfl⟩ := okWide_int Try.underlying5 (hval 0 5 v0 rfl rfl)
  obtain ⟨m0, e0, w0⟩ := z0
  obtain rfl : p0 = m0 := by simpa [Value.cells] using e0
  obtain ⟨fu1, g1⟩ := h1
  have z1 : ((fun cs => ∃ (s : SV) (l : List (Vvitrineref12_Act × SV)), cs = [s.val] ∧ Rd (old W) s 94 en_Vvitrineref12_Act l ∧ (∀ u ∈ l, (F_Vvitrineref12_Act W) u) ∧ l.length ≤ maxLen)) v1.cells.toList := (Vt.dc_slice en_Vvitrineref12_Act (F_Vvitrineref12_Act W) rfl rfl rfl rfl dc_94 : Vt.Dc Vt.env W 22 _) _ _ _ _ _ g1
  obtain ⟨a1, len1, cap1, rfl⟩ := okWide_slice Try.underlying22 (hval 1 22 v1 rfl rfl)
  obtain ⟨s1, p1, e1, q1, w1, l1⟩ := z1
  have e1' : Value.slice a1 len1 cap1 = s1.val := by simpa [Value.cells] using e1
  rw [e1'] at hval hW' k1 ⊢
  obtain ⟨fu2, g2⟩ := h2
  have z2 : ((fun cs => ∃ n, cs = [.int .u8 n] ∧ Inb .u8 n)) v2.cells.toList := (Vt.dc_int rfl rfl : Vt.Dc Vt.env W 5 _) _ _ _ _ _ g2
  obtain ⟨p2, rfl⟩ := okWide_int Try.underlying5 (hval 2 5 v2 rfl rfl)
  obtain ⟨m2, e2, w2⟩ := z2
  obtain rfl : p2 = m2 := by simpa [Value.cells] using e2
  obtain ⟨fu3, g3⟩ := h3
  have z3 : ((fun cs => ∃ n, cs = [.int .u8 n] ∧ Inb .u8 n)) v3.cells.toList := (Vt.dc_int rfl rfl : Vt.Dc Vt.env W 5 _) _ _ _ _ _ g3
  obtain ⟨p3, rfl⟩ := okWide_int Try.underlying5 (hval 3 5 v3 rfl rfl)
  obtain ⟨m3, e3, w3⟩ := z3
  obtain rfl : p3 = m3 := by simpa [Value.cells] using e3
  refine (walk (W := W) p0 w0 s1 p1 q1 w1 l1 p2 w2 p3 w3).mono fun e W' ⟨he, bel⟩ => ?_
  subst he
  exact ⟨_, rfl, _, _, _, [], _, [], hW', trodAll_mk1 (shut_bool Try.underlying4 _), (trodAll_cons_mk (Below.trod laidOut (by kernel_rfl) (of_decide_eq_true (by kernel_rfl)) k0 bel lt0) (trodAll_cons_mk (Below.trod laidOut (by kernel_rfl) (of_decide_eq_true (by kernel_rfl)) k1 bel lt1) (trodAll_cons_mk (Below.trod laidOut (by kernel_rfl) (of_decide_eq_true (by kernel_rfl)) k2 bel lt2) (trodAll_cons_mk (Below.trod laidOut (by kernel_rfl) (of_decide_eq_true (by kernel_rfl)) k3 bel lt3) trodAll_mk0)))), rfl, bel.frame _, fun h => by cases h⟩

theorem over : Rows.entryModifiedRow.holds Try.pinned (OpenSpec.ofChange Rows.entryModifiedSpec) :=
  OpenClaim.holds_of_wide 9 Try.f9 rfl rfl rfl rfl rfl rfl rfl ⟨rfl, rfl, rfl, rfl, rfl⟩ rfl rfl rfl rfl rfl (by kernel_rfl) Try.func9 (by kernel_rfl)
    (of_decide_eq_true (by kernel_rfl)) (by unfold Func.isWrapper; first | (rw [if_pos (by decide +kernel)]; kernel_rfl) | (rw [if_neg (by decide +kernel)]; exact ⟨rfl, rfl⟩))
    (fun os started H enc _ => lifted os started H enc)

/-- the statement -/
theorem proved : Rows.EntryModifiedSaid := over
#print axioms proved
end Go.Proofs.Yteebpkekdkkmhaa.entryModified
