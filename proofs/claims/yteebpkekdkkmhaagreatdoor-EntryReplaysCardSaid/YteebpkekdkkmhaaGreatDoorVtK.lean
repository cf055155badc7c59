/- Results that lie in boxes; small help. No conditions. -/
import Derived.Test.YteebpkekdkkmhaaGreatDoorVtJ
namespace Go.Vt
instance : Inhabited SV := ⟨SV.nil⟩
def enS : En ByteArray := ⟨1, fun x => [.string x], fun _ => rfl, by decide, fun _ => rfl⟩
def enB : En Bool := ⟨1, fun x => [.bool x], fun _ => rfl, by decide, fun _ => rfl⟩
/-- the table of types, row by row -/
def tik (P : Program) : List (Nat × TI) → Prop
  | [] => True
  | (t, i) :: r => (P.underlying t = some i.und ∧ (P.info? t).map (fun x => (x.size, x.zero, x.bytes)) = some (i.size, some i.zero, i.bytes)) ∧ tik P r
theorem tik_ok {P : Program} : ∀ {tt : List (Nat × TI)}, tik P tt → ∀ t i, lk tt t = some i → TIok P t i
  | [], _, t, i, h => by cases h
  | (u, j) :: r, hk, t, i, h => by
    simp only [lk] at h
    split at h
    · rename_i hb
      have : u = t := by simpa using hb
      subst this; cases h
      obtain ⟨⟨h1, h2⟩, _⟩ := hk
      refine ⟨h1, ?_⟩
      cases hx : P.info? u with
      | none => rw [hx] at h2; cases h2
      | some x =>
        rw [hx] at h2
        simp only [Option.map_some, Option.some.injEq, Prod.mk.injEq] at h2
        exact ⟨x, rfl, h2.1, h2.2.1, h2.2.2⟩
    · exact tik_ok hk.2 t i h
def Blks (H : List HP) : List (Nat × List Value) → Prop
  | [] => True
  | (b, cs) :: r => (∃ e f R, Rem (blk b (.cells cs.toArray e f)) H R) ∧ Blks H r
section
variable {E : Env} {ro : Option Nat} {N : Nat} {ds : List Deferred} {T : List (Nat × Value)} {H H' R R' : List HP} {g : Gw} {K : Value → List HP → Prop} {Q : Qt}
def evc (tt : List (Nat × TI)) (T : List (Nat × Value)) (B : List (List Value)) : List ResultVar → Option (List Value)
  | [] => some []
  | .tmp t :: r => match lk T t with
    | some v => match evc tt T B r with
      | some vs => some (v :: vs)
      | none => none
    | none => none
  | .cell _ t :: r => match B with
    | cs :: B' => match lk tt t with
      | some i => match ldv i cs 0 with
        | some v => match evc tt T B' r with
          | some vs => some (v :: vs)
          | none => none
        | none => none
      | none => none
    | [] => none
/-- the boxes of the results, in order -/
def Cls (T : List (Nat × Value)) (H : List HP) : List ResultVar → List (List Value) → Prop
  | [], _ => True
  | .tmp _ :: r, B => Cls T H r B
  | .cell c _ :: r, B => match B with
    | cs :: B' => (∃ b e f R, lk T c = some (.pointer (some ⟨b, 0, none⟩)) ∧ Rem (blk b (.cells cs.toArray e f)) H R) ∧ Cls T H r B'
    | [] => False
theorem run_resultsC {P : Program} {fn : Func} {a : Act} {w : World} {rs : List ResultVar} {vs : List Value} {B : List (List Value)} (hP : P = E.P) (t : TS N ds T a) (hf : fn.results = rs.toArray) (h : evc E.tt T B rs = some vs) (hB : Cls T H rs B) (s : HS H g w) : (results fn a.tmps).run P w = .ok (tup vs) w := by
  subst hP
  have key : ∀ (F : ResultVar → Sem Value), (∀ c, F (.tmp c) = pure (a.tmps.getD c undef)) → (∀ c t, F (.cell c t) = (do loadVar t (← asAddr (a.tmps.getD c undef)))) → ∀ (rs : List ResultVar) (vs : List Value) (B : List (List Value)), evc E.tt T B rs = some vs → Cls T H rs B → (rs.mapM F).run E.P w = .ok vs w := by
    intro F hF hF2 rs
    induction rs with
    | nil => intro vs B h _; simp [evc] at h; simp [← h]
    | cons r rest ih =>
      intro vs B h hB
      cases r with
      | cell c x =>
        cases B with
        | nil => simp [evc] at h
        | cons cs B' =>
          obtain ⟨⟨b, e, f, R, h1, hm⟩, hB'⟩ := hB
          simp only [evc] at h
          cases hi : lk E.tt x with
          | none => simp [hi] at h
          | some i =>
            cases hv : ldv i cs 0 with
            | none => simp [hi, hv] at h
            | some v =>
              cases hr : evc E.tt T B' rest with
              | none => simp [hi, hv, hr] at h
              | some vs' =>
                simp [hi, hv, hr] at h
                subst h
                have h2 : a.tmps.getD c undef = .pointer (some ⟨b, 0, none⟩) := by simp [Array.getD_eq_getD_getElem?, t.at_ c _ h1]
                have hb := HS.at (s.perm hm.perm)
                simp only [List.mapM_cons, hF2, h2, asAddr, Sem.run_bind, Sem.run_pure, Result.andThen, run_loadVar E hi hb hv, ih vs' B' hr hB']
      | tmp c =>
        simp only [evc] at h
        cases hc : lk T c with
        | none => rw [hc] at h; cases h
        | some v =>
          rw [hc] at h
          cases hr : evc E.tt T B rest with
          | none => simp [hr] at h
          | some vs' =>
            simp [hr] at h
            subst h
            have h1 : a.tmps.getD c undef = v := by simp [Array.getD_eq_getD_getElem?, t.at_ c v hc]
            simp only [List.mapM_cons, hF, Sem.run_bind, Sem.run_pure, Result.andThen, ih vs' B hr hB, h1]
  unfold results
  simp only [hf, List.mapM_toArray, Sem.run_bind, Sem.run_map]
  rw [key _ (fun _ => rfl) (fun _ _ => rfl) rs vs B h hB]
  simp only [Result.andThen, Sem.run_pure]
  match vs with
  | [] => rfl
  | [v] => rfl
  | v :: u :: r => simp [tup]
theorem r_endc {fn : Func} {rs : List ResultVar} {vs : List Value} {B : List (List Value)} (hf : fn.results = rs.toArray) (hB : Cls T H rs B) (h : evc E.tt T B rs = some vs) {p : List HP} (kp : Keep H p) (k : K (tup vs) p) : GR E fn N [] T H g K := fun a w t s => by
  have tt : TS N [] T { tmps := a.tmps, defers := [] } := ⟨t.1, rfl, t.2⟩
  exact ⟨tup vs, run_resultsC (a := { tmps := a.tmps, defers := [] }) rfl tt hf h hB s, tup vs, p, k, rfl, s.keep kp⟩
theorem r_endt {fn : Func} {rs : List ResultVar} {vs : List Value} (hf : fn.results = rs.toArray) (h : evr T rs = some vs) {p : List HP} (kp : Keep H p) (k : K (tup vs) p) : GR E fn N [] T H g K := r_keep kp (r_end hf h k)
theorem len2 {τ σ : Type} {D D' : τ × σ → Prop} {L L2 : List (τ × σ)} {l l2 : List τ} {n : Nat} (h1 : NL D L l) (h2 : NL D' L2 l2) (hb : l.length + l2.length ≤ n) : L.length + L2.length ≤ n := by rw [h1.len, h2.len]; exact hb
theorem rd_tk {τ : Type} {X : HP} {s : SV} {t : TypeId} {e : En τ} {l : List τ} {a : Nat} (h : Rd X s t e ((l.take (Int.toNat (l.length : Int))).drop a)) : Rd X s t e (l.drop a) := by simpa using h
/-! ### joins behind ranges: the marks beside the rest -/
def JD {D ι : Type} (N : Nat) (DS : D → ι → List Deferred) (P : D → ι → Prop) (TJ : D → ι → List (Nat × Value)) (HJ : D → ι → List HP) (g : Gw) (Q : Qt) : Qt := fun e a w => match e with
  | .normal => ∃ d i, P d i ∧ TS N (DS d i) (TJ d i) a ∧ HS (HJ d i) g w
  | e => Q e a w
theorem cjd {D ι : Type} {c : Code} (DS : D → ι → List Deferred) (P : D → ι → Prop) (TJ : D → ι → List (Nat × Value)) (HJ : D → ι → List HP) (hb : GC E ro N ds T H g c (JD N DS P TJ HJ g Q)) (hk : ∀ d i, P d i → GE N (DS d i) (TJ d i) (HJ d i) g Q .normal) : GC E ro N ds T H g c Q := fun a w t s =>
  wpIn_mono (hb a w t s) fun e a w q => by
    cases e with
    | normal => obtain ⟨d, i, p, t, s⟩ := q; exact hk d i p a w t s
    | _ => exact q
theorem ejd {D ι : Type} {DS : D → ι → List Deferred} {P : D → ι → Prop} {TJ : D → ι → List (Nat × Value)} {HJ : D → ι → List HP} (d : D) (i : ι) (p : P d i) (e : DS d i = ds) (s : Sub (TJ d i) T) (k : Keep H (HJ d i)) : GE N ds T H g (JD N DS P TJ HJ g Q) .normal := fun _ _ t hs => ⟨d, i, p, by rw [e]; exact t.sub s, hs.keep k⟩
theorem ejd_ret {D ι : Type} {DS : D → ι → List Deferred} {P : D → ι → Prop} {TJ : D → ι → List (Nat × Value)} {HJ : D → ι → List HP} (h : GE N ds T H g Q .ret) : GE N ds T H g (JD N DS P TJ HJ g Q) .ret := h
theorem JK_inl {D O : Type} {f : D → Option O} {r : O} {d : D} (h : JK f r (.inl d)) : f d = some r := h
theorem bool_or (b : Bool) : b = true ∨ b = false := by cases b <;> simp
end
end Go.Vt
