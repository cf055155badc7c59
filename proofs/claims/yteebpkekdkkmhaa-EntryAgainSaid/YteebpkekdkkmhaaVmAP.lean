/- 'EntryAgain' answers true at every input, and the input reads as it did. No conditions. -/
import Derived.Test.YteebpkekdkkmhaaVmAW
import Derived.Test.YteebpkekdkkmhaaVmAV
import Derived.Test.YteebpkekdkkmhaaRows
import Derived.WalkKit
import Derived.ProofKit
import Derived.OpenShut
import Derived.ShutString
import Derived.ChangeOld
import Derived.Below
namespace Go.Proofs.Yteebpkekdkkmhaa.entryAgain
open Go.ChangeShapes Go.WideShapes Go.ChangeAt Go.RowKit
open Go.ChangeMaps (open_string shut_string)
set_option linter.unusedVariables false
theorem own : ownKnob Try.prog.godebug = none := by kernel_rfl
theorem laidOut : laidOutB Try.prog = true := by kernel_rfl
def IsRow (k : IntKind) (w : World) (a : Option Addr) (len cap : Nat) (zs : List Int) : Prop :=
  (a = none ∧ len = 0 ∧ cap = 0 ∧ zs = []) ∨
  ∃ x, a = some x ∧ len ≤ cap ∧ cap ≤ maxLen ∧ zs.length = cap ∧ (∀ i, i < zs.length → w.cell? (x.add i) = some (.int k (zs.getD i 0))) ∧ ∀ n ∈ zs, (Lit.int k n).wf = true
/-- the pool ahead of the call: what lay there -/
def old (w : World) : Vt.HP := fun _ g => g = Vt.hpOf w
theorem rd_row {w : World} {a : Option Addr} {len cap : Nat} {zs : List Int} (h : IsRow .u8 w a len cap zs) : Vt.Rd (old w) ⟨a, len, cap⟩ 5 (Vt.enI .u8) (zs.take len) := fun h1 g m hx l1 l2 => by
  have hx : g = Vt.hpOf w := hx
  subst hx
  have hfl : ∀ l : List Int, l.flatMap (Vt.enI .u8).enc = l.map (Value.int .u8) := fun l => by
    induction l with
    | nil => rfl
    | cons z r ih => simp only [List.flatMap_cons, ih, List.map_cons]; rfl
  rcases h with ⟨rfl, rfl, rfl, rfl⟩ | ⟨x, rfl, hl, hm, hz, hc, hw⟩
  · exact ⟨rfl, Nat.le_refl _, fun _ => rfl, .inl rfl⟩
  · refine ⟨by simp; omega, hl, fun e => by simp at e, ?_⟩
    by_cases h0 : len = 0
    · left; simp [h0]
    · right
      have hc0 := hc 0 (by omega)
      have hx0 : x.add 0 = x := by simp [Addr.add]
      rw [hx0] at hc0
      obtain ⟨cs, t', fr, hb, hs⟩ : ∃ cs t' fr, w.heap[x.block]? = some (.cells cs t' fr) ∧ x.spot = none := by
        unfold World.cell? at hc0
        split at hc0
        · rename_i c t' fr hh
          refine ⟨c, t', fr, hh, ?_⟩
          cases hsp : x.spot with
          | none => rfl
          | some _ => simp [hsp] at hc0
        · cases hc0
      refine ⟨x.block, x.off, cs, fr, t', ?_, l2 _ _ hb, fun j hj => ?_⟩
      · cases x; simp_all
      · have hsz : (Vt.enI .u8).sz = 1 := rfl
        rw [hsz, Nat.mul_one, List.length_take] at hj
        have h3 := hc j (by omega)
        have h4 : w.cell? (x.add j) = cs[x.off + j]? := by
          unfold Addr.add
          split
          · rename_i e0; subst e0; simp [World.cell?, hb, hs]
          · simp [World.cell?, hb]
        rw [← h4, h3, hfl, List.getElem?_map, List.getElem?_take, if_pos (by omega)]
        simp [List.getElem?_eq_getElem (show j < zs.length by omega), List.getD_eq_getElem?_getD]
theorem below_of {H : List Vt.HP} {w w' : World} (h : Vt.HS H ⟨Vt.hpOf w, w⟩ w') : Below w.heap.size w w' := by
  obtain ⟨x, _, _, _, l, o⟩ := h
  refine ⟨o.1, o.2.1, o.2.2, ?_, fun k hk => ?_⟩
  · by_cases h0 : w.heap.size = 0
    · omega
    · have h1 := l (w.heap.size - 1) w.heap[w.heap.size - 1] (by simp [Vt.hpOf])
      have := (Array.getElem?_eq_some_iff.1 h1).1
      omega
  · have h1 := l k w.heap[k] (by simp [Vt.hpOf, hk])
    have h2 : w'.heap[k]? = some w.heap[k] := h1
    rw [h2]; simp [hk]
theorem walk (a0 : Option Addr) (len0 cap0 : Nat) (z0 : List Int) (w : World) (w0 : IsRow .u8 w a0 len0 cap0 z0) :
    Calls Try.prog 6 #[.slice a0 len0 cap0] w fun e w' => e = .returned (.bool true) ∧ Below w.heap.size w w' := by
  have hr := rd_row w0
  have hb : ∀ n ∈ z0.take len0, 0 ≤ n ∧ n < 256 := fun n hn => by
    have hn := List.mem_of_mem_take hn
    rcases w0 with ⟨_, _, _, rfl⟩ | ⟨x, _, _, _, _, _, hw⟩
    · cases hn
    · have := hw n hn
      simp [Lit.wf, IntKind.min, IntKind.max, IntKind.signed, IntKind.bits] at this
      omega
  have T := Vt.c_vitrinelaw20_EntryAgain (g := ⟨Vt.hpOf w, w⟩) (old w) (z0.take len0) ⟨a0, len0, cap0⟩ hr true (Vt.entryAgain_true _ hb)
  refine callsIn_wide.1 ((T [] (fun v H => v = .bool true) w ?_ ?_).mono ?_)
  · exact fun _ _ => rfl
  · exact ⟨fun _ => none, ⟨fun _ => none, fun _ => none, fun _ => .inl rfl, fun _ _ e => (by cases e), fun _ _ e => (by cases e), rfl, trivial⟩, fun _ => .inl rfl, fun _ _ e => (by cases e), Vt.Hp.le_refl _, Vt.Out.refl _⟩
  · rintro e w' ⟨v, H', rfl, rfl, hs⟩
    exact ⟨rfl, below_of hs⟩
/-! ### the row's step, as the kit's program wrote it -/
set_option maxRecDepth 100000 in
theorem lifted (os : Os) (started : os.Started) (H : Type) (enc : TypeId × Value → H) :
    ReturnsInHanded {} Try.checked os 6 .any (Rows.entryAgainSpec.pre6 enc Try.prog Try.f6 Rows.entryAgainRow.domain false) (Rows.entryAgainSpec.post enc Try.prog Try.f6 false true false false) := by
  refine returnsInHanded_of_change (C := Try.checked) own started (by kernel_rfl) Try.func6
    (ChangeSpec.witness6 (enc := enc) (C := Try.checked) false ⟨#[], #[.slice none 0 0], []⟩ 8 (by kernel_rfl) (by kernel_rfl) (by kernel_rfl) (by kernel_rfl)) ?_
  intro W base args ds gs before hval0 hW hcnd _
  have hval : ∀ (j : Nat) t v, Try.f6.params[j]? = some t → args[j]? = some v → Value.okWide Try.prog W .any base t v := hval0
  have hW' := hW
  obtain ⟨p, q, hA0, hV, rfl, hfz, hnd⟩ := hW
  have hA : DataW.TrodAll enc Try.prog W 0 (fun _ => true) true Try.f6.params.toList args.toList ds p := hA0
  rw [Try.params6] at hA hval
  obtain ⟨v0, vs0, d0, ds0, p0, q0, hargs, rfl, rfl, h0, r0⟩ := trodAll_cons hA
  obtain ⟨rfl, rfl, rfl⟩ := trodAll_nil r0
  obtain rfl : args = #[v0] := by cases args; simp_all
  obtain ⟨rfl, rfl⟩ := trodVars_none hV
  obtain ⟨a0, len0, cap0, rfl⟩ := okWide_slice Try.underlying31 (hval 0 31 v0 rfl rfl)
  have k0 := h0
  have lt0 : ∀ x ∈ p0, x.block < W.heap.size := by obtain ⟨m, hm⟩ := k0; exact DataW.trod_lt m _ _ _ hm
  obtain ⟨z0, w0⟩ : ∃ zs, IsRow .u8 W a0 len0 cap0 zs := by
    obtain ⟨fuel, hf⟩ := h0
    rcases open_ints Try.underlying31 Try.underlying5 (by kernel_rfl) hf with ⟨hcs, _⟩ | ⟨x, l, c, zs, hcs, _, hl, hm, hz, _, hcell, hwz⟩
    · simp [Value.cells] at hcs
      obtain ⟨rfl, rfl, rfl⟩ := hcs
      exact ⟨[], .inl ⟨rfl, rfl, rfl, rfl⟩⟩
    · simp [Value.cells] at hcs
      obtain ⟨rfl, rfl, rfl⟩ := hcs
      exact ⟨zs, .inr ⟨_, rfl, hl, hm, by simpa using hz, hcell, hwz⟩⟩
  clear hA0 hval0
  refine (walk a0 len0 cap0 z0 W w0).mono fun e W' ⟨he, bel⟩ => ?_
  subst he
  exact ⟨_, rfl, _, _, _, [], _, [], hW', trodAll_mk1 (shut_bool Try.underlying4 _), (trodAll_cons_mk (Below.trod laidOut (by kernel_rfl) (of_decide_eq_true (by kernel_rfl)) k0 bel lt0) trodAll_mk0), rfl, bel.frame _, fun h => by cases h⟩

theorem over : Rows.entryAgainRow.holds Try.pinned (OpenSpec.ofChange Rows.entryAgainSpec) :=
  OpenClaim.holds_of_wide 6 Try.f6 rfl rfl rfl rfl rfl rfl rfl ⟨rfl, rfl, rfl, rfl, rfl⟩ rfl rfl rfl rfl rfl (by kernel_rfl) Try.func6 (by kernel_rfl)
    (of_decide_eq_true (by kernel_rfl)) (by unfold Func.isWrapper; first | (rw [if_pos (by decide +kernel)]; kernel_rfl) | (rw [if_neg (by decide +kernel)]; exact ⟨rfl, rfl⟩))
    (fun os started H enc _ => lifted os started H enc)

/-- the statement -/
theorem proved : Rows.EntryAgainSaid := over
#print axioms proved
end Go.Proofs.Yteebpkekdkkmhaa.entryAgain
