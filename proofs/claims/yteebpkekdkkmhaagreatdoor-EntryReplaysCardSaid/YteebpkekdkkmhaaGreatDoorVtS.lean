/- What a listed package variable holds, off its datum: plain data, cell for cell. No conditions. -/
import Derived.Test.YteebpkekdkkmhaaGreatDoorVtQ
import Derived.Test.YteebpkekdkkmhaaGreatDoorVtR
import Derived.LaidLaws
import Derived.OpenShut
namespace Go.Vt
def litV : Lit → Option Value
  | .int k n => some (.int k n)
  | .bool b => some (.bool b)
  | .string l => some (.string ⟨l.toArray⟩)
  | _ => none
def dcells {H : Type} : Nat → DataW H → List Value
  | 0, _ => []
  | k + 1, d => match d with
    | .lit l => (match litV l with | some v => [v] | none => [])
    | .agg ds => ds.flatMap (dcells k)
    | _ => []
def fldsOkB (tt : List (Nat × TI)) (ok : TypeId → Bool) : Nat → List Field → Option Nat
  | off, [] => some off
  | off, f :: fs => match lk tt f.type with
    | some j => match Nat.beq f.offset off && ok f.type with
      | true => fldsOkB tt ok (off + j.size) fs
      | false => none
    | none => none
/-- numbers, bools, strings, and what is made of them, packed -/
def plainOk (tt : List (Nat × TI)) : Nat → TypeId → Bool
  | 0, _ => false
  | k + 1, t => match lk tt t with
    | none => false
    | some i => match i.und with
      | .int _ => true
      | .bool => true
      | .string => true
      | .struct fs => (match fldsOkB tt (plainOk tt k) 0 fs.toList with | some n => Nat.beq n i.size | none => false)
      | .array n e => (match lk tt e with | some j => Nat.beq i.size (n * j.size) && plainOk tt k e | none => false)
      | _ => false
variable {E : Env} {W : World} {H : Type} {enc : TypeId × Value → H} {base : Nat} {sp : Nat → Bool} {held : Bool}
theorem flds_cells {k m : Nat} {cs : List Value} (ih : ∀ t, plainOk E.tt k t = true → ∀ (cs : List Value) (x : DataW H × List MemPlace), DataW.trod enc E.P W base sp held m t cs = some x → cs = dcells k x.1) :
    ∀ (fs : List Field) (off n : Nat) (ds : List (DataW H)), fldsOkB E.tt (plainOk E.tt k) off fs = some n → cs.length = n → ds.length = fs.length →
      (∀ (i : Nat) (f : Field), fs[i]? = some f → ∃ y, DataW.trod enc E.P W base sp held m f.type ((cs.drop f.offset).take (E.P.cellsOf f.type)) = some y ∧ ds[i]? = some y.1) → cs.drop off = ds.flatMap (dcells k)
  | [], off, n, ds, h, hl, hd, _ => by
    simp only [fldsOkB, Option.some.injEq] at h
    subst h
    have : ds = [] := List.length_eq_zero_iff.1 (by simpa using hd)
    subst this
    rw [List.drop_eq_nil_of_le (by omega)]; rfl
  | f :: fs, off, n, ds, h, hl, hd, hf => by
    match ds, hd with
    | d :: ds, hd =>
      simp only [fldsOkB] at h
      cases hj : lk E.tt f.type with
      | none => rw [hj] at h; cases h
      | some j =>
        rw [hj] at h
        cases hb : (Nat.beq f.offset off && plainOk E.tt k f.type) with
        | false => simp [hb] at h
        | true =>
          simp only [hb] at h
          simp only [Bool.and_eq_true] at hb
          have ho : f.offset = off := Nat.eq_of_beq_eq_true hb.1
          obtain ⟨y, hy, hyd⟩ := hf 0 f rfl
          rw [ho, E.cells hj] at hy
          have hc := ih _ hb.2 _ _ hy
          have hd0 : d = y.1 := by simpa using hyd
          have hrest := flds_cells (cs := cs) ih fs (off + j.size) n ds h hl (by simpa using hd) fun i g hg => by
            obtain ⟨z, hz, hzd⟩ := hf (i + 1) g (by simpa using hg)
            exact ⟨z, hz, by simpa using hzd⟩
          rw [List.flatMap_cons, hd0, ← hc, ← hrest, ← List.drop_drop, List.take_append_drop]
theorem arr_cells {k m n sz : Nat} {e : TypeId} {cs : List Value} (ih : ∀ (cs : List Value) (x : DataW H × List MemPlace), DataW.trod enc E.P W base sp held m e cs = some x → cs = dcells k x.1) :
    ∀ (q i : Nat) (ds : List (DataW H)), i + q = n → cs.length = n * sz → ds.length = q → (∀ j, j < q → ∃ y, DataW.trod enc E.P W base sp held m e ((cs.drop ((i + j) * sz)).take sz) = some y ∧ ds[j]? = some y.1) → cs.drop (i * sz) = ds.flatMap (dcells k)
  | 0, i, ds, h, hl, hd, _ => by
    have : ds = [] := List.length_eq_zero_iff.1 hd
    subst this
    have hi : i = n := by omega
    rw [List.drop_eq_nil_of_le (by rw [hl, hi]; omega)]; rfl
  | q + 1, i, ds, h, hl, hd, hf => by
    match ds, hd with
    | d :: ds, hd =>
      obtain ⟨y, hy, hyd⟩ := hf 0 (by omega)
      have hc := ih _ _ hy
      have hd0 : d = y.1 := by simpa using hyd
      have hrest := arr_cells (cs := cs) ih q (i + 1) ds (by omega) hl (by simpa using hd) fun j hj => by
        obtain ⟨z, hz, hzd⟩ := hf (j + 1) (by omega)
        exact ⟨z, by rw [show i + 1 + j = i + (j + 1) by omega]; exact hz, by simpa using hzd⟩
      rw [Nat.add_zero] at hc
      rw [List.flatMap_cons, hd0, ← hc, ← hrest, show (i + 1) * sz = i * sz + sz by rw [Nat.add_mul]; omega, ← List.drop_drop, List.take_append_drop]
theorem plain_cells : ∀ (k : Nat) (t : TypeId), plainOk E.tt k t = true → ∀ (fuel : Nat) (cs : List Value) (x : DataW H × List MemPlace), DataW.trod enc E.P W base sp held fuel t cs = some x → cs = dcells k x.1
  | 0, t, h => by cases h
  | k + 1, t, h => by
    intro fuel cs x hx
    simp only [plainOk] at h
    cases hi : lk E.tt t with
    | none => simp [hi] at h
    | some i =>
      simp only [hi] at h
      have hu := E.und hi
      have ih := fun t ht cs x hx => plain_cells k t ht (fuel - 1) cs x hx
      cases hd : i.und with
      | int kk =>
        obtain ⟨n, rfl, rfl, _⟩ := DataW.trod_int (by rw [hu, hd]) hx; rfl
      | bool =>
        obtain ⟨b, rfl, rfl⟩ := DataW.trod_bool (by rw [hu, hd]) hx; rfl
      | string =>
        obtain ⟨s, rfl, rfl, _⟩ := DataW.trod_string (by rw [hu, hd]) hx; rfl
      | struct fs =>
        rw [hd] at h
        simp only at h
        cases hn : fldsOkB E.tt (plainOk E.tt k) 0 fs.toList with
        | none => rw [hn] at h; cases h
        | some n =>
          rw [hn] at h
          obtain ⟨xs, m, hm, rfl, h1, h2, h3⟩ := DataW.trod_struct (by rw [hu, hd]) hx
          rw [E.cells hi] at h1
          have hsz : n = i.size := Nat.eq_of_beq_eq_true h
          have := flds_cells (E := E) (W := W) (enc := enc) (base := base) (sp := sp) (held := held) (k := k) (m := m) (cs := cs) (fun t ht cs x hx => plain_cells k t ht m cs x hx) fs.toList 0 n (xs.map (·.1)) hn (by omega) (by simp [h2]) fun j f hf => by
            have hlt : j < xs.length := by rw [h2]; simpa using (List.getElem?_eq_some_iff.1 hf).1
            refine ⟨xs[j], by rw [h3 j f (by simpa using hf)]; simp [hlt], by simp [hlt]⟩
          simpa [dcells] using this
      | array n e =>
        rw [hd] at h
        simp only at h
        cases hj : lk E.tt e with
        | none => rw [hj] at h; cases h
        | some j =>
          rw [hj] at h
          simp only [Bool.and_eq_true] at h
          obtain ⟨xs, m, hm, rfl, h1, h2, h3⟩ := DataW.trod_array (by rw [hu, hd]) hx
          rw [E.cells hi] at h1
          have hsz : i.size = n * j.size := Nat.eq_of_beq_eq_true h.1
          have := arr_cells (E := E) (W := W) (enc := enc) (base := base) (sp := sp) (held := held) (k := k) (m := m) (n := n) (sz := j.size) (e := e) (cs := cs) (fun cs x hx => plain_cells k e h.2 m cs x hx) n 0 (xs.map (·.1)) (by omega) (by omega) (by simp [h2]) fun q hq => by
            have hlt : q < xs.length := by omega
            refine ⟨xs[q], ?_, by simp [hlt]⟩
            have := h3 q hq
            rw [E.cells hj] at this
            rw [Nat.zero_add, this]; simp [hlt]
          simpa [dcells] using this
      | _ => simp [hd] at h
/-- a listed variable's block -/
theorem gk_laid {n : String} {d : DataW Unit} {g t k : Nat} (hg : E.P.globalNamed n = some g) (ht : (E.P.globals[g]?).map (·.type) = some t) (hp : plainOk E.tt k t = true)
    (h : ∃ g' t' cs fuel p, E.P.globalNamed n = some g' ∧ (E.P.globals[g']?).map (·.type) = some t' ∧ W.var? E.P n = some cs ∧ DataW.trod (fun _ => ()) E.P W 0 (fun _ => true) false fuel t' cs.toList = some (d, p)) : GKb ⟨hpOf W, W⟩ g (dcells k d) := by
  obtain ⟨g', t', cs, fuel, p, h1, h2, h3, h4⟩ := h
  rw [hg] at h1; cases h1
  rw [ht] at h2; cases h2
  have hc := plain_cells k t hp fuel _ _ h4
  simp only [World.var?, hg, Option.bind_some] at h3
  split at h3
  · rename_i c' t2 fr hh
    cases h3
    refine ⟨t2, fr, ?_⟩
    have : cs = (dcells k d).toArray := by rw [← hc]
    rw [← this]; exact hh
  · cases h3
theorem laidVars_cons {P : Program} {n : String} {d : DataW Unit} {r : List (String × DataW Unit)} {ps : List MemPlace} (h : DataW.LaidVars P W ((n, d) :: r) ps) :
    (∃ g t cs fuel p, P.globalNamed n = some g ∧ (P.globals[g]?).map (·.type) = some t ∧ W.var? P n = some cs ∧ DataW.trod (fun _ => ()) P W 0 (fun _ => true) false fuel t cs.toList = some (d, p)) ∧ ∃ q, DataW.LaidVars P W r q := by
  obtain ⟨g, t, cs, fuel, p, q, h1, h2, h3, h4, h5, _⟩ := h
  exact ⟨⟨g, t, cs, fuel, p, h1, h2, h3, h4⟩, q, h5⟩
end Go.Vt
