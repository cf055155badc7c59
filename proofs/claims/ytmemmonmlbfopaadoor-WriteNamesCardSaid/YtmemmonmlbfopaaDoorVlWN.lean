/- 'WriteNames' answers true at every input, and the input reads as it did. No conditions. -/
import Derived.Test.YtmemmonmlbfopaaDoorVwWN
import Derived.Test.YtmemmonmlbfopaaDoorVtQ
import Derived.Test.YtmemmonmlbfopaaDoorVqN
import Derived.Test.YtmemmonmlbfopaaDoorVtS
import Derived.Test.YtmemmonmlbfopaaDoorRows
import Derived.Test.YtmemmonmlbfopaaDoorCards
import Derived.Test.YtmemmonmlbfopaaDoorTie
import Derived.LaidMore
import Derived.SevenTiedAt
import Derived.LaidByTextLater
import Derived.WalkKit
import Derived.ProofKit
import Derived.OpenShut
import Derived.ShutString
import Derived.ChangeOld
import Derived.Below
set_option linter.unusedVariables false
set_option linter.unusedSimpArgs false
set_option maxRecDepth 100000
namespace Go.Vt
theorem by_of {n : Int} (h : Inb .u8 n) : By n := ⟨h.1, by have := h.2; simp only [hi] at this; omega⟩
theorem len_of {l : List Int} (h : l.length ≤ maxLen) : l.length ≤ 9223372036854775807 := by unfold maxLen at h; omega
theorem walk_WriteNames {W : World} (p0 : Int) (w0 : Vt.Inb .u8 p0) (p1 : Int) (w1 : Vt.Inb .i64 p1) (s2 : Vt.SV) (p2 : List Int) (q2 : Rd (old W) s2 5 (enI .u8) p2) (w2 : ∀ u ∈ p2, Inb .u8 u) (l2 : p2.length ≤ maxLen) : m_vitrinelaw17_WriteNames p0 p1 p2 = some true := by
  exact writeNames_true p0 p1 p2 (by_of w0) (len_of l2)
end Go.Vt
namespace Go.Proofs.YtmemmonmlbfopaaDoor.writeNames
open Go.ChangeShapes Go.WideShapes Go.ChangeAt Go.RowKit Go.Vt
open Go.ChangeMaps (open_string shut_string)
theorem own : ownKnob Tryd.prog.godebug = none := by kernel_rfl
theorem laidOut : laidOutB Tryd.prog = true := by kernel_rfl
theorem walk {W : World} (hg : Vt.GK ⟨Vt.hpOf W, W⟩) (p0 : Int) (w0 : Vt.Inb .u8 p0) (p1 : Int) (w1 : Vt.Inb .i64 p1) (s2 : Vt.SV) (p2 : List Int) (q2 : Rd (old W) s2 5 (enI .u8) p2) (w2 : ∀ u ∈ p2, Inb .u8 u) (l2 : p2.length ≤ maxLen) :
    Calls Tryd.prog 4 #[.int .u8 p0, .int .i64 p1, s2.val] W fun e w' => e = .returned (.bool true) ∧ Below W.heap.size W w' := by
  have hw := Vt.walk_WriteNames (W := W) p0 w0 p1 w1 s2 p2 q2 w2 l2
  have T0 := fun h => Vt.c_vitrinelaw17_WriteNames (g := ⟨Vt.hpOf W, W⟩) hg (Vt.old W) p0 p1 p2 s2 q2 true h
  have T := T0 hw
  refine callsIn_wide.1 ((T [] (fun v H => v = .bool true) W ?_ (Vt.hs_old W)).mono ?_)
  · exact fun _ _ => rfl
  · rintro e w' ⟨v, H', rfl, rfl, hs⟩
    exact ⟨rfl, Vt.below_of hs⟩
/-! ### the variables -/
theorem door_met (os : Os) (args : Array Value) : laidMetH Tryd.prog [("vitrine/write.names", Rows.laid_vitrine_write_names)] ((World.doorLaid Tryd.prog 400 os).forCall (fun _ _ => 0) ⟨#[], args, []⟩).memory :=
  laidMetH_of_parts3 (fuel := 8) (laidMet_of_run' 8 (by kernel_rfl) (by kernel_rfl)) (by kernel_rfl) (by kernel_rfl)
theorem of_laid {W : World} (h : laidMetH Tryd.prog [("vitrine/write.names", Rows.laid_vitrine_write_names)] W) : Vt.GK ⟨Vt.hpOf W, W⟩ := by
  rw [MakeChecks.laidMetH_plain _ _ _ (by kernel_rfl)] at h
  obtain ⟨ps, h, _⟩ := h
  obtain ⟨x0, _, h⟩ := Vt.laidVars_cons h
  have y0 := Vt.gk_laid (E := Vt.env) (k := 8) (g := 0) (t := 81) (by kernel_rfl) (by kernel_rfl) (by kernel_rfl) x0
  rw [show Vt.dcells 8 _ = Vt.glob0 by kernel_rfl] at y0
  exact y0
/-! ### the row's step -/
theorem lifted (os : Os) (started : os.Started) (H : Type) (enc : TypeId × Value → H) :
    ReturnsInHanded {} Tryd.checked os 4 .any (fun w args => (Rows.writeNamesSpec.pre enc Tryd.prog Tryd.f4 [] false w args ∧ laidMetH Tryd.prog [("vitrine/write.names", Rows.laid_vitrine_write_names)] w) ∧ sizedMet enc Tryd.prog Tryd.f4 (OpenSpec.ofChange Rows.writeNamesSpec) false w args)
      (Rows.writeNamesSpec.post enc Tryd.prog Tryd.f4 false true false false) := by
  refine returnsInHanded_of_change_and (C := Tryd.checked) (X := (fun w _ => laidMetH Tryd.prog [("vitrine/write.names", Rows.laid_vitrine_write_names)] w)) (fun _ _ _ hh h => h.of_heap hh) own started (by kernel_rfl) Tryd.func4
    (ChangeSpec.witness_shaped (enc := enc) (C := Tryd.checked) (os := os) (X := (fun w _ => laidMetH Tryd.prog [("vitrine/write.names", Rows.laid_vitrine_write_names)] w)) false (World.doorLaid Tryd.prog 400 os) #[.int .u8 0, .int .i64 0, .slice none 0 0] 8 rfl (World.shaped_of_RefB (by kernel_rfl) (by kernel_rfl)) (by kernel_rfl) (by kernel_rfl) (by kernel_rfl) (door_met os _)) ?_
  intro W base args ds gs before hval0 hW hcnd _ hL _
  have hval : ∀ (j : Nat) t v, Tryd.f4.params[j]? = some t → args[j]? = some v → Value.okWide Tryd.prog W .any base t v := hval0
  have hW' := hW
  obtain ⟨p, q, hA0, hV, rfl, hfz, hnd⟩ := hW
  have hA : DataW.TrodAll enc Tryd.prog W 0 (fun _ => true) true Tryd.f4.params.toList args.toList ds p := hA0
  rw [Tryd.params4] at hA hval
  obtain ⟨v0, vs0, d0, ds0, p'0, q'0, hargs, rfl, rfl, h0, r0⟩ := trodAll_cons hA
  obtain ⟨v1, vs1, d1, ds1, p'1, q'1, rfl, rfl, rfl, h1, r1⟩ := trodAll_cons r0
  obtain ⟨v2, vs2, d2, ds2, p'2, q'2, rfl, rfl, rfl, h2, r2⟩ := trodAll_cons r1
  obtain ⟨rfl, rfl, rfl⟩ := trodAll_nil r2
  obtain rfl : args = #[v0, v1, v2] := by cases args; simp_all
  obtain ⟨rfl, rfl⟩ := trodVars_none hV
  have k0 := h0
  have lt0 : ∀ x ∈ p'0, x.block < W.heap.size := by obtain ⟨m, hm⟩ := k0; exact DataW.trod_lt m _ _ _ hm
  have k1 := h1
  have lt1 : ∀ x ∈ p'1, x.block < W.heap.size := by obtain ⟨m, hm⟩ := k1; exact DataW.trod_lt m _ _ _ hm
  have k2 := h2
  have lt2 : ∀ x ∈ p'2, x.block < W.heap.size := by obtain ⟨m, hm⟩ := k2; exact DataW.trod_lt m _ _ _ hm
  clear hA0 hval0
  obtain ⟨fu0, g0⟩ := h0
  have z0 : ((fun cs => ∃ n, cs = [.int .u8 n] ∧ Inb .u8 n)) v0.cells.toList := (Vt.dc_int rfl rfl : Vt.Dc Vt.env W 5 _) _ _ _ _ _ g0
  obtain ⟨p0, rfl⟩ := okWide_int Tryd.underlying5 (hval 0 5 v0 rfl rfl)
  obtain ⟨m0, e0, w0⟩ := z0
  obtain rfl : p0 = m0 := by simpa [Value.cells] using e0
  obtain ⟨fu1, g1⟩ := h1
  have z1 : ((fun cs => ∃ n, cs = [.int .i64 n] ∧ Inb .i64 n)) v1.cells.toList := (Vt.dc_int rfl rfl : Vt.Dc Vt.env W 3 _) _ _ _ _ _ g1
  obtain ⟨p1, rfl⟩ := okWide_int Tryd.underlying3 (hval 1 3 v1 rfl rfl)
  obtain ⟨m1, e1, w1⟩ := z1
  obtain rfl : p1 = m1 := by simpa [Value.cells] using e1
  obtain ⟨fu2, g2⟩ := h2
  have z2 : ((fun cs => ∃ (s : SV) (l : List Int), cs = [s.val] ∧ Rd (old W) s 5 (enI .u8) l ∧ (∀ u ∈ l, Inb .u8 u) ∧ l.length ≤ maxLen)) v2.cells.toList := (Vt.dc_ints rfl rfl rfl rfl rfl : Vt.Dc Vt.env W 28 _) _ _ _ _ _ g2
  obtain ⟨a2, len2, cap2, rfl⟩ := okWide_slice Tryd.underlying28 (hval 2 28 v2 rfl rfl)
  obtain ⟨s2, p2, e2, q2, w2, l2⟩ := z2
  have e2' : Value.slice a2 len2 cap2 = s2.val := by simpa [Value.cells] using e2
  rw [e2'] at hval hW' k2 ⊢
  refine (walk (W := W) (of_laid hL) p0 w0 p1 w1 s2 p2 q2 w2 l2).mono fun e W' ⟨he, bel⟩ => ?_
  subst he
  exact ⟨_, rfl, _, _, _, [], _, [], hW', trodAll_mk1 (shut_bool Tryd.underlying4 _), (trodAll_cons_mk (Below.trod laidOut (by kernel_rfl) (of_decide_eq_true (by kernel_rfl)) k0 bel lt0) (trodAll_cons_mk (Below.trod laidOut (by kernel_rfl) (of_decide_eq_true (by kernel_rfl)) k1 bel lt1) (trodAll_cons_mk (Below.trod laidOut (by kernel_rfl) (of_decide_eq_true (by kernel_rfl)) k2 bel lt2) trodAll_mk0))), rfl, bel.frame _, fun h => by cases h⟩

theorem over : Rows.writeNamesRow.holds Tryd.pinned (OpenSpec.ofChange Rows.writeNamesSpec) :=
  OpenClaim.holds_of_wide 4 Tryd.f4 rfl rfl rfl rfl rfl rfl rfl ⟨rfl, rfl, rfl, rfl, rfl⟩ rfl rfl rfl rfl rfl (by kernel_rfl) Tryd.func4 (by kernel_rfl)
    (of_decide_eq_true (by kernel_rfl)) (by unfold Func.isWrapper; first | (rw [if_pos (by decide +kernel)]; kernel_rfl) | (rw [if_neg (by decide +kernel)]; exact ⟨rfl, rfl⟩))
    (fun os started H enc _ => lifted os started H enc)

theorem stated : Rows.WriteNamesSaid := over

/-- the statement: the tied card -/
theorem proved : Rows.WriteNamesCardSaid :=
  Claim7.holds_tied_plain_at .later [] [.data] true (true, "3275627df403280fa5ba2a7a61ffab460e7a556daa80cae7dba3301726959cc3") false
    stated (fun _ h => by cases h) (by kernel_rfl) (fun _ h => by cases h) writeNames_row_tie rfl ⟨rfl, rfl⟩ (by kernel_rfl) rfl
    (fun f fn hf hfn => by
      obtain rfl : f = 4 := Option.some.inj ((show Tryd.prog.funcNamed "vitrine/vitrinelaw17.WriteNames" = some 4 by kernel_rfl).symm.trans hf) |>.symm
      obtain rfl : fn = Tryd.f4 := (Option.some.inj (Tryd.func4.symm.trans hfn)).symm
      exact ⟨by kernel_rfl, fun j t ht => by
        rw [Tryd.params4] at ht
        have hm : t ∈ [5, 3, 28] := by simpa using Array.mem_of_getElem? ht
        have hall : ([5, 3, 28].all fun u => !Tryd.prog.wantsStandIn u) = true := by kernel_rfl
        exact (show Tryd.prog.wantsStandIn t = false by simpa using List.all_eq_true.1 hall t hm)⟩)
    (by kernel_rfl)
#print axioms proved
end Go.Proofs.YtmemmonmlbfopaaDoor.writeNames
