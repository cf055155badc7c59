/- 'EntryReplays' answers true at every input, and the input reads as it did. No conditions. -/
import Derived.Test.YteebpkekdkkmhaaGreatDoorVwER
import Derived.Test.YteebpkekdkkmhaaGreatDoorVtQ
import Derived.Test.YteebpkekdkkmhaaGreatDoorVsN
import Derived.Test.YteebpkekdkkmhaaGreatDoorVtS
import Derived.Test.YteebpkekdkkmhaaGreatDoorRows
import Derived.Test.YteebpkekdkkmhaaGreatDoorCards
import Derived.Test.YteebpkekdkkmhaaGreatDoorTie
import Derived.LaidMore
import Derived.SevenTiedAt
import Derived.LaidByTextLater
import Derived.WalkKit
import Derived.ProofKit
import Derived.OpenShut
import Derived.ShutString
import Derived.ChangeOld
import Derived.Below
set_option linter.unusedVariables false
set_option linter.unusedSimpArgs false
set_option maxRecDepth 100000
namespace Go.Vt
def WF_Vapi_Cell (c : Vapi_Cell) : Prop := Inb .u8 c.Char ∧ Inb .u8 c.FA ∧ Inb .u8 c.High ∧ Inb .u8 c.Color ∧ Inb .u8 c.f_Set
def WF_Vvitrineref12_Act (c : Vvitrineref12_Act) : Prop := Inb .u8 c.Do ∧ Inb .i64 c.N ∧ Inb .u8 c.Code ∧ WF_Vapi_Cell c.C ∧ (∀ u ∈ c.Text, Inb .u8 u) ∧ c.Text.length ≤ maxLen
def F_Vapi_Cell (W : World) (y : Vapi_Cell) : Prop := WF_Vapi_Cell y
theorem dc_49 {W : World} : Dc env W 49 (fun cs => ∃ u, cs = en_Vapi_Cell.enc u ∧ F_Vapi_Cell W u) :=
  (dc_struct (E := env) (W := W) (t := 49) (Ss := [(1, (fun cs => ∃ n, cs = [.int .u8 n] ∧ Inb .u8 n)), (1, (fun cs => ∃ b, cs = [.bool b])), (1, (fun cs => ∃ n, cs = [.int .u8 n] ∧ Inb .u8 n)), (1, (fun cs => ∃ n, cs = [.int .u8 n] ∧ Inb .u8 n)), (1, (fun cs => ∃ n, cs = [.int .u8 n] ∧ Inb .u8 n)), (1, (fun cs => ∃ n, cs = [.int .u8 n] ∧ Inb .u8 n))]) rfl rfl (by exact ⟨rfl, ⟨_, rfl, rfl⟩, dc_int rfl rfl, rfl, ⟨_, rfl, rfl⟩, dc_bool rfl rfl, rfl, ⟨_, rfl, rfl⟩, dc_int rfl rfl, rfl, ⟨_, rfl, rfl⟩, dc_int rfl rfl, rfl, ⟨_, rfl, rfl⟩, dc_int rfl rfl, rfl, ⟨_, rfl, rfl⟩, dc_int rfl rfl, trivial⟩) rfl).mono fun cs h => by
    obtain ⟨_, _, rfl, ⟨n1, rfl, h1⟩, _, _, rfl, ⟨n2, rfl⟩, _, _, rfl, ⟨n3, rfl, h3⟩, _, _, rfl, ⟨n4, rfl, h4⟩, _, _, rfl, ⟨n5, rfl, h5⟩, _, _, rfl, ⟨n6, rfl, h6⟩, rfl⟩ := h
    exact ⟨(⟨n1, n2, n3, n4, n5, n6⟩ : Vapi_Cell), rfl, ⟨h1, h3, h4, h5, h6⟩⟩
def F_Vvitrineref12_Act (W : World) (y : Vvitrineref12_Act × SV) : Prop := D_Vvitrineref12_Act (old W) y ∧ WF_Vvitrineref12_Act y.1
theorem dc_65 {W : World} : Dc env W 65 (fun cs => ∃ u, cs = en_Vvitrineref12_Act.enc u ∧ F_Vvitrineref12_Act W u) :=
  (dc_struct (E := env) (W := W) (t := 65) (Ss := [(1, (fun cs => ∃ n, cs = [.int .u8 n] ∧ Inb .u8 n)), (1, (fun cs => ∃ n, cs = [.int .i64 n] ∧ Inb .i64 n)), (1, (fun cs => ∃ b, cs = [.bool b])), (1, (fun cs => ∃ n, cs = [.int .u8 n] ∧ Inb .u8 n)), (6, (fun cs => ∃ u, cs = en_Vapi_Cell.enc u ∧ (F_Vapi_Cell W) u)), (1, (fun cs => ∃ (s : SV) (l : List Int), cs = [s.val] ∧ Rd (old W) s 5 (enI .u8) l ∧ (∀ u ∈ l, Inb .u8 u) ∧ l.length ≤ maxLen))]) rfl rfl (by exact ⟨rfl, ⟨_, rfl, rfl⟩, dc_int rfl rfl, rfl, ⟨_, rfl, rfl⟩, dc_int rfl rfl, rfl, ⟨_, rfl, rfl⟩, dc_bool rfl rfl, rfl, ⟨_, rfl, rfl⟩, dc_int rfl rfl, rfl, ⟨_, rfl, rfl⟩, dc_49, rfl, ⟨_, rfl, rfl⟩, dc_ints rfl rfl rfl rfl rfl, trivial⟩) rfl).mono fun cs h => by
    obtain ⟨_, _, rfl, ⟨n1, rfl, h1⟩, _, _, rfl, ⟨n2, rfl, h2⟩, _, _, rfl, ⟨n3, rfl⟩, _, _, rfl, ⟨n4, rfl, h4⟩, _, _, rfl, ⟨n5, rfl, h5⟩, _, _, rfl, ⟨s6, n6, rfl, r6, h6, k6⟩, rfl⟩ := h
    exact ⟨((⟨n1, n2, n3, n4, n5, n6⟩ : Vvitrineref12_Act), s6), rfl, ⟨r6, ⟨h1, h2, h4, h5, h6, k6⟩⟩⟩
theorem by_of {n : Int} (h : Inb .u8 n) : By n := ⟨h.1, by have := h.2; simp only [hi] at this; omega⟩
theorem cb_of {c : Vapi_Cell} (h : WF_Vapi_Cell c) : CB c := ⟨by_of h.1, by_of h.2.1, by_of h.2.2.1, by_of h.2.2.2.1, by_of h.2.2.2.2⟩
theorem aok_of {c : Vvitrineref12_Act} (h : WF_Vvitrineref12_Act c) : AOk c := ⟨by_of h.1, by_of h.2.2.1, cb_of h.2.2.2.1, fun n hn => by_of (h.2.2.2.2.1 n hn), by have := h.2.2.2.2.2; unfold maxLen at this; omega⟩
theorem acts_of {W : World} {l : List (Vvitrineref12_Act × SV)} (h : ∀ u ∈ l, F_Vvitrineref12_Act W u) : ∀ a ∈ l.map (·.1), AOk a := fun a ha => by
  obtain ⟨y, hy, rfl⟩ := List.mem_map.1 ha
  exact aok_of (h y hy).2
theorem lenm_of {l : List (Vvitrineref12_Act × SV)} (h : l.length ≤ maxLen) : (l.map (·.1)).length ≤ 9223372036854775807 := by rw [List.length_map]; unfold maxLen at h; omega
theorem walk_EntryReplays {W : World} (p0 : Int) (w0 : Vt.Inb .u8 p0) (s1 : Vt.SV) (p1 : List (Vvitrineref12_Act × SV)) (q1 : Rd (old W) s1 65 en_Vvitrineref12_Act p1) (w1 : ∀ u ∈ p1, F_Vvitrineref12_Act W u) (l1 : p1.length ≤ maxLen) (s2 : Vt.SV) (p2 : List (Vvitrineref12_Act × SV)) (q2 : Rd (old W) s2 65 en_Vvitrineref12_Act p2) (w2 : ∀ u ∈ p2, F_Vvitrineref12_Act W u) (l2 : p2.length ≤ maxLen) (p3 : Int) (w3 : Vt.Inb .u8 p3) (p4 : Int) (w4 : Vt.Inb .u8 p4) : m_vitrinelaw20_EntryReplays p0 (p1.map (·.1)) (p2.map (·.1)) p3 p4 = some true := by
  exact entryReplays_true p0 _ _ p3 p4 (by_of w0) (acts_of w1) (lenm_of l1) (acts_of w2) (lenm_of l2) (by_of w4)
end Go.Vt
namespace Go.Proofs.YteebpkekdkkmhaaGreatDoor.entryReplays
open Go.ChangeShapes Go.WideShapes Go.ChangeAt Go.RowKit Go.Vt
open Go.ChangeMaps (open_string shut_string)
theorem own : ownKnob Tryz.prog.godebug = none := by kernel_rfl
theorem laidOut : laidOutB Tryz.prog = true := by kernel_rfl
theorem walk {W : World} (hg : Vt.GK ⟨Vt.hpOf W, W⟩) (p0 : Int) (w0 : Vt.Inb .u8 p0) (s1 : Vt.SV) (p1 : List (Vvitrineref12_Act × SV)) (q1 : Rd (old W) s1 65 en_Vvitrineref12_Act p1) (w1 : ∀ u ∈ p1, F_Vvitrineref12_Act W u) (l1 : p1.length ≤ maxLen) (s2 : Vt.SV) (p2 : List (Vvitrineref12_Act × SV)) (q2 : Rd (old W) s2 65 en_Vvitrineref12_Act p2) (w2 : ∀ u ∈ p2, F_Vvitrineref12_Act W u) (l2 : p2.length ≤ maxLen) (p3 : Int) (w3 : Vt.Inb .u8 p3) (p4 : Int) (w4 : Vt.Inb .u8 p4) :
    Calls Tryz.prog 3 #[.int .u8 p0, s1.val, s2.val, .int .u8 p3, .int .u8 p4] W fun e w' => e = .returned (.bool true) ∧ Below W.heap.size W w' := by
  have hw := Vt.walk_EntryReplays (W := W) p0 w0 s1 p1 q1 w1 l1 s2 p2 q2 w2 l2 p3 w3 p4 w4
  have T0 := fun h => Vt.c_vitrinelaw20_EntryReplays (g := ⟨Vt.hpOf W, W⟩) hg (Vt.old W) p0 (p1.map (·.1)) s1 ⟨p1, q1, rfl, fun y hy => (w1 y hy).1⟩ (p2.map (·.1)) s2 ⟨p2, q2, rfl, fun y hy => (w2 y hy).1⟩ p3 p4 true h
  have T := T0 hw
  refine callsIn_wide.1 ((T [] (fun v H => v = .bool true) W ?_ (Vt.hs_old W)).mono ?_)
  · exact fun _ _ => rfl
  · rintro e w' ⟨v, H', rfl, rfl, hs⟩
    exact ⟨rfl, Vt.below_of hs⟩
/-! ### the variables -/
theorem door_met (os : Os) (args : Array Value) : laidMetH Tryz.prog [("vitrine/write.names", Rows.laid_vitrine_write_names)] ((World.doorLaid Tryz.prog 400 os).forCall (fun _ _ => 0) ⟨#[], args, []⟩).memory :=
  laidMetH_of_parts3 (fuel := 8) (laidMet_of_run' 8 (by kernel_rfl) (by kernel_rfl)) (by kernel_rfl) (by kernel_rfl)
theorem of_laid {W : World} (h : laidMetH Tryz.prog [("vitrine/write.names", Rows.laid_vitrine_write_names)] W) : Vt.GK ⟨Vt.hpOf W, W⟩ := by
  rw [MakeChecks.laidMetH_plain _ _ _ (by kernel_rfl)] at h
  obtain ⟨ps, h, _⟩ := h
  obtain ⟨x0, _, h⟩ := Vt.laidVars_cons h
  have y0 := Vt.gk_laid (E := Vt.env) (k := 8) (g := 0) (t := 141) (by kernel_rfl) (by kernel_rfl) (by kernel_rfl) x0
  rw [show Vt.dcells 8 _ = Vt.glob0 by kernel_rfl] at y0
  exact y0
/-! ### the row's step -/
theorem lifted (os : Os) (started : os.Started) (H : Type) (enc : TypeId × Value → H) :
    ReturnsInHanded {} Tryz.checked os 3 .any (fun w args => (Rows.entryReplaysSpec.pre enc Tryz.prog Tryz.f3 [] false w args ∧ laidMetH Tryz.prog [("vitrine/write.names", Rows.laid_vitrine_write_names)] w) ∧ sizedMet enc Tryz.prog Tryz.f3 (OpenSpec.ofChange Rows.entryReplaysSpec) false w args)
      (Rows.entryReplaysSpec.post enc Tryz.prog Tryz.f3 false true false false) := by
  refine returnsInHanded_of_change_and (C := Tryz.checked) (X := (fun w _ => laidMetH Tryz.prog [("vitrine/write.names", Rows.laid_vitrine_write_names)] w)) (fun _ _ _ hh h => h.of_heap hh) own started (by kernel_rfl) Tryz.func3
    (ChangeSpec.witness_shaped (enc := enc) (C := Tryz.checked) (os := os) (X := (fun w _ => laidMetH Tryz.prog [("vitrine/write.names", Rows.laid_vitrine_write_names)] w)) false (World.doorLaid Tryz.prog 400 os) #[.int .u8 0, .slice none 0 0, .slice none 0 0, .int .u8 0, .int .u8 0] 8 rfl (World.shaped_of_RefB (by kernel_rfl) (by kernel_rfl)) (by kernel_rfl) (by kernel_rfl) (by kernel_rfl) (door_met os _)) ?_
  intro W base args ds gs before hval0 hW hcnd _ hL _
  have hval : ∀ (j : Nat) t v, Tryz.f3.params[j]? = some t → args[j]? = some v → Value.okWide Tryz.prog W .any base t v := hval0
  have hW' := hW
  obtain ⟨p, q, hA0, hV, rfl, hfz, hnd⟩ := hW
  have hA : DataW.TrodAll enc Tryz.prog W 0 (fun _ => true) true Tryz.f3.params.toList args.toList ds p := hA0
  rw [Tryz.params3] at hA hval
  obtain ⟨v0, vs0, d0, ds0, p'0, q'0, hargs, rfl, rfl, h0, r0⟩ := trodAll_cons hA
  obtain ⟨v1, vs1, d1, ds1, p'1, q'1, rfl, rfl, rfl, h1, r1⟩ := trodAll_cons r0
  obtain ⟨v2, vs2, d2, ds2, p'2, q'2, rfl, rfl, rfl, h2, r2⟩ := trodAll_cons r1
  obtain ⟨v3, vs3, d3, ds3, p'3, q'3, rfl, rfl, rfl, h3, r3⟩ := trodAll_cons r2
  obtain ⟨v4, vs4, d4, ds4, p'4, q'4, rfl, rfl, rfl, h4, r4⟩ := trodAll_cons r3
  obtain ⟨rfl, rfl, rfl⟩ := trodAll_nil r4
  obtain rfl : args = #[v0, v1, v2, v3, v4] := by cases args; simp_all
  obtain ⟨rfl, rfl⟩ := trodVars_none hV
  have k0 := h0
  have lt0 : ∀ x ∈ p'0, x.block < W.heap.size := by obtain ⟨m, hm⟩ := k0; exact DataW.trod_lt m _ _ _ hm
  have k1 := h1
  have lt1 : ∀ x ∈ p'1, x.block < W.heap.size := by obtain ⟨m, hm⟩ := k1; exact DataW.trod_lt m _ _ _ hm
  have k2 := h2
  have lt2 : ∀ x ∈ p'2, x.block < W.heap.size := by obtain ⟨m, hm⟩ := k2; exact DataW.trod_lt m _ _ _ hm
  have k3 := h3
  have lt3 : ∀ x ∈ p'3, x.block < W.heap.size := by obtain ⟨m, hm⟩ := k3; exact DataW.trod_lt m _ _ _ hm
  have k4 := h4
  have lt4 : ∀ x ∈ p'4, x.block < W.heap.size := by obtain ⟨m, hm⟩ := k4; exact DataW.trod_lt m _ _ _ hm
  clear hA0 hval0
  obtain ⟨fu0, g0⟩ := h0
  have z0 : ((fun cs => ∃ n, cs = [.int .u8 n] ∧ Inb .u8 n)) v0.cells.toList := (Vt.dc_int rfl rfl : Vt.Dc Vt.env W 5 _) _ _ _ _ _ g0
  obtain ⟨p0, rfl⟩ := okWide_int Tryz.underlying5 (hval 0 5 v0 rfl rfl)
  obtain ⟨m0, e0, w0⟩ := z0
  obtain rfl : p0 = m0 := by simpa [Value.cells] using e0
  obtain ⟨fu1, g1⟩ := h1
  have z1 : ((fun cs => ∃ (s : SV) (l : List (Vvitrineref12_Act × SV)), cs = [s.val] ∧ Rd (old W) s 65 en_Vvitrineref12_Act l ∧ (∀ u ∈ l, (F_Vvitrineref12_Act W) u) ∧ l.length ≤ maxLen)) v1.cells.toList := (Vt.dc_slice en_Vvitrineref12_Act (F_Vvitrineref12_Act W) rfl rfl rfl rfl dc_65 : Vt.Dc Vt.env W 22 _) _ _ _ _ _ g1
  obtain ⟨a1, len1, cap1, rfl⟩ := okWide_slice Tryz.underlying22 (hval 1 22 v1 rfl rfl)
  obtain ⟨s1, p1, e1, q1, w1, l1⟩ := z1
  have e1' : Value.slice a1 len1 cap1 = s1.val := by simpa [Value.cells] using e1
  rw [e1'] at hval hW' k1 ⊢
  obtain ⟨fu2, g2⟩ := h2
  have z2 : ((fun cs => ∃ (s : SV) (l : List (Vvitrineref12_Act × SV)), cs = [s.val] ∧ Rd (old W) s 65 en_Vvitrineref12_Act l ∧ (∀ u ∈ l, (F_Vvitrineref12_Act W) u) ∧ l.length ≤ maxLen)) v2.cells.toList := (Vt.dc_slice en_Vvitrineref12_Act (F_Vvitrineref12_Act W) rfl rfl rfl rfl dc_65 : Vt.Dc Vt.env W 22 _) _ _ _ _ _ g2
  obtain ⟨a2, len2, cap2, rfl⟩ := okWide_slice Tryz.underlying22 (hval 2 22 v2 rfl rfl)
  obtain ⟨s2, p2, e2, q2, w2, l2⟩ := z2
  have e2' : Value.slice a2 len2 cap2 = s2.val := by simpa [Value.cells] using e2
  rw [e2'] at hval hW' k2 ⊢
  obtain ⟨fu3, g3⟩ := h3
  have z3 : ((fun cs => ∃ n, cs = [.int .u8 n] ∧ Inb .u8 n)) v3.cells.toList := (Vt.dc_int rfl rfl : Vt.Dc Vt.env W 5 _) _ _ _ _ _ g3
  obtain ⟨p3, rfl⟩ := okWide_int Tryz.underlying5 (hval 3 5 v3 rfl rfl)
  obtain ⟨m3, e3, w3⟩ := z3
  obtain rfl : p3 = m3 := by simpa [Value.cells] using e3
  obtain ⟨fu4, g4⟩ := h4
  have z4 : ((fun cs => ∃ n, cs = [.int .u8 n] ∧ Inb .u8 n)) v4.cells.toList := (Vt.dc_int rfl rfl : Vt.Dc Vt.env W 5 _) _ _ _ _ _ g4
  obtain ⟨p4, rfl⟩ := okWide_int Tryz.underlying5 (hval 4 5 v4 rfl rfl)
  obtain ⟨m4, e4, w4⟩ := z4
  obtain rfl : p4 = m4 := by simpa [Value.cells] using e4
  refine (walk (W := W) (of_laid hL) p0 w0 s1 p1 q1 w1 l1 s2 p2 q2 w2 l2 p3 w3 p4 w4).mono fun e W' ⟨he, bel⟩ => ?_
  subst he
  exact ⟨_, rfl, _, _, _, [], _, [], hW', trodAll_mk1 (shut_bool Tryz.underlying4 _), (trodAll_cons_mk (Below.trod laidOut (by kernel_rfl) (of_decide_eq_true (by kernel_rfl)) k0 bel lt0) (trodAll_cons_mk (Below.trod laidOut (by kernel_rfl) (of_decide_eq_true (by kernel_rfl)) k1 bel lt1) (trodAll_cons_mk (Below.trod laidOut (by kernel_rfl) (of_decide_eq_true (by kernel_rfl)) k2 bel lt2) (trodAll_cons_mk (Below.trod laidOut (by kernel_rfl) (of_decide_eq_true (by kernel_rfl)) k3 bel lt3) (trodAll_cons_mk (Below.trod laidOut (by kernel_rfl) (of_decide_eq_true (by kernel_rfl)) k4 bel lt4) trodAll_mk0))))), rfl, bel.frame _, fun h => by cases h⟩

theorem over : Rows.entryReplaysRow.holds Tryz.pinned (OpenSpec.ofChange Rows.entryReplaysSpec) :=
  OpenClaim.holds_of_wide 3 Tryz.f3 rfl rfl rfl rfl rfl rfl rfl ⟨rfl, rfl, rfl, rfl, rfl⟩ rfl rfl rfl rfl rfl (by kernel_rfl) Tryz.func3 (by kernel_rfl)
    (of_decide_eq_true (by kernel_rfl)) (by unfold Func.isWrapper; first | (rw [if_pos (by decide +kernel)]; kernel_rfl) | (rw [if_neg (by decide +kernel)]; exact ⟨rfl, rfl⟩))
    (fun os started H enc _ => lifted os started H enc)

theorem stated : Rows.EntryReplaysSaid := over

/-- the statement: the tied card -/
theorem proved : Rows.EntryReplaysCardSaid :=
  Claim7.holds_tied_plain_at .later [] [.data] true (true, "d1a64a823e047c0acf8a9e375dfc3a08f5d6bd67739d23c683b2b94f70f388fd") false
    stated (fun _ h => by cases h) (by kernel_rfl) (fun _ h => by cases h) entryReplays_row_tie rfl ⟨rfl, rfl⟩ (by kernel_rfl) rfl
    (fun f fn hf hfn => by
      obtain rfl : f = 3 := Option.some.inj ((show Tryz.prog.funcNamed "vitrine/vitrinelaw20.EntryReplays" = some 3 by kernel_rfl).symm.trans hf) |>.symm
      obtain rfl : fn = Tryz.f3 := (Option.some.inj (Tryz.func3.symm.trans hfn)).symm
      exact ⟨by kernel_rfl, fun j t ht => by
        rw [Tryz.params3] at ht
        have hm : t ∈ [5, 22, 22, 5, 5] := by simpa using Array.mem_of_getElem? ht
        have hall : ([5, 22, 22, 5, 5].all fun u => !Tryz.prog.wantsStandIn u) = true := by kernel_rfl
        exact (show Tryz.prog.wantsStandIn t = false by simpa using List.all_eq_true.1 hall t hm)⟩)
    (by kernel_rfl)
#print axioms proved
end Go.Proofs.YteebpkekdkkmhaaGreatDoor.entryReplays
