/- 'EntryWrites' answers true at every input, and the input reads as it did. No conditions. -/
import Derived.Test.YteebpkekdkkmhaaVwEW
import Derived.Test.YteebpkekdkkmhaaVtQ
import Derived.Test.YteebpkekdkkmhaaVpO
import Derived.Test.YteebpkekdkkmhaaRows
import Derived.WalkKit
import Derived.ProofKit
import Derived.OpenShut
import Derived.ShutString
import Derived.ChangeOld
import Derived.Below
set_option linter.unusedVariables false
set_option linter.unusedSimpArgs false
set_option maxRecDepth 100000
namespace Go.Vt
def WF_Vvitrineref20_Entry (c : Vvitrineref20_Entry) : Prop := Inb .i64 c.Addr ∧ (∀ u ∈ c.Text, Inb .u8 u) ∧ c.Text.length ≤ maxLen
def WF_Vvitrineref20_Report (c : Vvitrineref20_Report) : Prop := Inb .u8 c.AID ∧ Inb .i64 c.Cursor ∧ (∀ u ∈ c.Entries, WF_Vvitrineref20_Entry u) ∧ c.Entries.length ≤ maxLen
def F_Vvitrineref20_Entry (W : World) (y : Vvitrineref20_Entry × SV) : Prop := D_Vvitrineref20_Entry (old W) y ∧ WF_Vvitrineref20_Entry y.1
theorem dc_60 {W : World} : Dc env W 60 (fun cs => ∃ u, cs = en_Vvitrineref20_Entry.enc u ∧ F_Vvitrineref20_Entry W u) :=
  (dc_struct (E := env) (W := W) (t := 60) (Ss := [(1, (fun cs => ∃ n, cs = [.int .i64 n] ∧ Inb .i64 n)), (1, (fun cs => ∃ (s : SV) (l : List Int), cs = [s.val] ∧ Rd (old W) s 5 (enI .u8) l ∧ (∀ u ∈ l, Inb .u8 u) ∧ l.length ≤ maxLen))]) rfl rfl (by exact ⟨rfl, ⟨_, rfl, rfl⟩, dc_int rfl rfl, rfl, ⟨_, rfl, rfl⟩, dc_ints rfl rfl rfl rfl rfl, trivial⟩) rfl).mono fun cs h => by
    obtain ⟨_, _, rfl, ⟨n1, rfl, h1⟩, _, _, rfl, ⟨s2, n2, rfl, r2, h2, k2⟩, rfl⟩ := h
    exact ⟨((⟨n1, n2⟩ : Vvitrineref20_Entry), s2), rfl, ⟨r2, ⟨h1, h2, k2⟩⟩⟩
def enc_Vvitrineref20_Report (y : Vvitrineref20_Report × SV) : List Value := [(.int .u8 y.1.AID), (.bool y.1.Short), (.int .i64 y.1.Cursor), (SV.val y.2)]
def F_Vvitrineref20_Report (W : World) (y : Vvitrineref20_Report × SV) : Prop := (RdN (old W) y.2 60 en_Vvitrineref20_Entry D_Vvitrineref20_Entry y.1.Entries) ∧ WF_Vvitrineref20_Report y.1
theorem dc_58 {W : World} : Dc env W 58 (fun cs => ∃ u, cs = enc_Vvitrineref20_Report u ∧ F_Vvitrineref20_Report W u) :=
  (dc_struct (E := env) (W := W) (t := 58) (Ss := [(1, (fun cs => ∃ n, cs = [.int .u8 n] ∧ Inb .u8 n)), (1, (fun cs => ∃ b, cs = [.bool b])), (1, (fun cs => ∃ n, cs = [.int .i64 n] ∧ Inb .i64 n)), (1, (fun cs => ∃ (s : SV) (l : List (Vvitrineref20_Entry × SV)), cs = [s.val] ∧ Rd (old W) s 60 en_Vvitrineref20_Entry l ∧ (∀ u ∈ l, (F_Vvitrineref20_Entry W) u) ∧ l.length ≤ maxLen))]) rfl rfl (by exact ⟨rfl, ⟨_, rfl, rfl⟩, dc_int rfl rfl, rfl, ⟨_, rfl, rfl⟩, dc_bool rfl rfl, rfl, ⟨_, rfl, rfl⟩, dc_int rfl rfl, rfl, ⟨_, rfl, rfl⟩, dc_slice en_Vvitrineref20_Entry (F_Vvitrineref20_Entry W) rfl rfl rfl rfl dc_60, trivial⟩) rfl).mono fun cs h => by
    obtain ⟨_, _, rfl, ⟨n1, rfl, h1⟩, _, _, rfl, ⟨n2, rfl⟩, _, _, rfl, ⟨n3, rfl, h3⟩, _, _, rfl, ⟨s4, n4, rfl, r4, h4, k4⟩, rfl⟩ := h
    exact ⟨((⟨n1, n2, n3, (n4.map (·.1))⟩ : Vvitrineref20_Report), s4), rfl, ⟨(show RdN (old W) s4 60 en_Vvitrineref20_Entry D_Vvitrineref20_Entry _ from ⟨n4, r4, rfl, fun y hy => (h4 y hy).1⟩), ⟨h1, h3, (fun u hu => by obtain ⟨y, hy, rfl⟩ := List.mem_map.1 hu; exact (h4 y hy).2), (by rw [List.length_map]; exact k4)⟩⟩⟩
theorem by_of {n : Int} (h : Inb .u8 n) : By n := ⟨h.1, by have := h.2; simp only [hi] at this; omega⟩
theorem rok_of {c : Vvitrineref20_Report} (h : WF_Vvitrineref20_Report c) : ROk c := ⟨by have := h.2.2.2; unfold maxLen at this; omega, fun e he => ⟨fun n hn => by_of ((h.2.2.1 e he).2.1 n hn), by have := (h.2.2.1 e he).2.2; unfold maxLen at this; omega⟩⟩
theorem by_of_ (n : Int) (h : Inb .u8 n) : By n := by_of h
theorem walk_EntryWrites {W : World} (y0 : Vvitrineref20_Report × SV) (w0 : F_Vvitrineref20_Report W y0) : m_vitrinelaw20_EntryWrites y0.1 = some true := by
  exact entryWrites_true _ (rok_of w0.2)
end Go.Vt
namespace Go.Proofs.Yteebpkekdkkmhaa.entryWrites
open Go.ChangeShapes Go.WideShapes Go.ChangeAt Go.RowKit Go.Vt
open Go.ChangeMaps (open_string shut_string)
theorem own : ownKnob Try.prog.godebug = none := by kernel_rfl
theorem laidOut : laidOutB Try.prog = true := by kernel_rfl
theorem walk {W : World} (y0 : Vvitrineref20_Report × SV) (w0 : F_Vvitrineref20_Report W y0) :
    Calls Try.prog 5 #[.agg (enc_Vvitrineref20_Report y0).toArray] W fun e w' => e = .returned (.bool true) ∧ Below W.heap.size W w' := by
  have hw := Vt.walk_EntryWrites (W := W) y0 w0
  have T0 := fun h => Vt.c_vitrinelaw20_EntryWrites (g := ⟨Vt.hpOf W, W⟩) (Vt.old W) y0.1 y0.2 w0.1 true h
  have T := T0 hw
  refine callsIn_wide.1 ((T [] (fun v H => v = .bool true) W ?_ (Vt.hs_old W)).mono ?_)
  · exact fun _ _ => rfl
  · rintro e w' ⟨v, H', rfl, rfl, hs⟩
    exact ⟨rfl, Vt.below_of hs⟩
/-! ### the row's step -/
theorem lifted (os : Os) (started : os.Started) (H : Type) (enc : TypeId × Value → H) :
    ReturnsInHanded {} Try.checked os 5 .any (Rows.entryWritesSpec.pre6 enc Try.prog Try.f5 Rows.entryWritesRow.domain false) (Rows.entryWritesSpec.post enc Try.prog Try.f5 false true false false) := by
  refine returnsInHanded_of_change (C := Try.checked) own started (by kernel_rfl) Try.func5
    (ChangeSpec.witness6 (enc := enc) (C := Try.checked) false ⟨#[], #[.agg #[(.int .u8 0), (.bool false), (.int .i64 0), (.slice none 0 0)]], []⟩ 8 (by kernel_rfl) (by kernel_rfl) (by kernel_rfl) (by kernel_rfl)) ?_
  intro W base args ds gs before hval0 hW hcnd _
  have hval : ∀ (j : Nat) t v, Try.f5.params[j]? = some t → args[j]? = some v → Value.okWide Try.prog W .any base t v := hval0
  have hW' := hW
  obtain ⟨p, q, hA0, hV, rfl, hfz, hnd⟩ := hW
  have hA : DataW.TrodAll enc Try.prog W 0 (fun _ => true) true Try.f5.params.toList args.toList ds p := hA0
  rw [Try.params5] at hA hval
  obtain ⟨v0, vs0, d0, ds0, p'0, q'0, hargs, rfl, rfl, h0, r0⟩ := trodAll_cons hA
  obtain ⟨rfl, rfl, rfl⟩ := trodAll_nil r0
  obtain rfl : args = #[v0] := by cases args; simp_all
  obtain ⟨rfl, rfl⟩ := trodVars_none hV
  have k0 := h0
  have lt0 : ∀ x ∈ p'0, x.block < W.heap.size := by obtain ⟨m, hm⟩ := k0; exact DataW.trod_lt m _ _ _ hm
  clear hA0 hval0
  obtain ⟨fu0, g0⟩ := h0
  have z0 : ((fun cs => ∃ u, cs = enc_Vvitrineref20_Report u ∧ (F_Vvitrineref20_Report W) u)) v0.cells.toList := (Vt.dc_58 : Vt.Dc Vt.env W 58 _) _ _ _ _ _ g0
  obtain ⟨y0, e0, w0⟩ := z0
  obtain ⟨cs0, rfl, _⟩ : ∃ cs, v0 = .agg cs ∧ True := by
    have := hval 0 58 v0 rfl rfl
    simp only [Value.okWide, Try.underlying58] at this
    obtain ⟨cs, h, _⟩ := this
    exact ⟨cs, h, trivial⟩
  have e0' : cs0 = (Vt.enc_Vvitrineref20_Report y0).toArray := by rw [← e0]; simp [Value.cells]
  subst e0'
  refine (walk (W := W) y0 w0).mono fun e W' ⟨he, bel⟩ => ?_
  subst he
  exact ⟨_, rfl, _, _, _, [], _, [], hW', trodAll_mk1 (shut_bool Try.underlying4 _), (trodAll_cons_mk (Below.trod laidOut (by kernel_rfl) (of_decide_eq_true (by kernel_rfl)) k0 bel lt0) trodAll_mk0), rfl, bel.frame _, fun h => by cases h⟩

theorem over : Rows.entryWritesRow.holds Try.pinned (OpenSpec.ofChange Rows.entryWritesSpec) :=
  OpenClaim.holds_of_wide 5 Try.f5 rfl rfl rfl rfl rfl rfl rfl ⟨rfl, rfl, rfl, rfl, rfl⟩ rfl rfl rfl rfl rfl (by kernel_rfl) Try.func5 (by kernel_rfl)
    (of_decide_eq_true (by kernel_rfl)) (by unfold Func.isWrapper; first | (rw [if_pos (by decide +kernel)]; kernel_rfl) | (rw [if_neg (by decide +kernel)]; exact ⟨rfl, rfl⟩))
    (fun os started H enc _ => lifted os started H enc)

/-- the statement -/
theorem proved : Rows.EntryWritesSaid := over
#print axioms proved
end Go.Proofs.Yteebpkekdkkmhaa.entryWrites
