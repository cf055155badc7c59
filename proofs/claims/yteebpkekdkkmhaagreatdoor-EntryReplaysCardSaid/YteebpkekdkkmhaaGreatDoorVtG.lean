/- Functions entered and left, function values, rounds of ranges over functions. No conditions. -/
import Derived.Test.YteebpkekdkkmhaaGreatDoorVtF
namespace Go.Vt
def zipT : Nat → List Value → List (Nat × Value)
  | _, [] => []
  | n, v :: r => (n, v) :: zipT (n + 1) r
theorem lk_zipT : ∀ (vs : List Value) (n t : Nat) (v : Value), lk (zipT n vs) t = some v → n ≤ t ∧ vs[t - n]? = some v
  | [], n, t, v, h => by simp [zipT, lk] at h
  | u :: r, n, t, v, h => by
    simp only [zipT, lk] at h
    split at h
    · rename_i hb
      have : n = t := by simpa using hb
      subst this; cases h; simp
    · obtain ⟨h1, h2⟩ := lk_zipT r (n + 1) t v h
      refine ⟨by omega, ?_⟩
      rw [show t - n = (t - (n + 1)) + 1 by omega]; simpa using h2
theorem ts_init (vs : List Value) (N : Nat) (hn : Nat.ble vs.length N = true) : TS N [] (zipT 0 vs) { tmps := vs.toArray ++ Array.replicate (N - vs.toArray.size) undef, defers := [] } := by
  have := Nat.le_of_ble_eq_true hn
  refine ⟨by simp; omega, rfl, fun t v h => ?_⟩
  obtain ⟨_, h2⟩ := lk_zipT vs 0 t v h
  have hlt : t < vs.length := (List.getElem?_eq_some_iff.1 h2).1
  rw [Array.getElem?_append_left (by simpa using hlt)]
  simpa using h2
def evr (T : List (Nat × Value)) : List ResultVar → Option (List Value)
  | [] => some []
  | .tmp t :: r => match lk T t with
    | some v => match evr T r with
      | some vs => some (v :: vs)
      | none => none
    | none => none
  | .cell _ _ :: _ => none
def tup : List Value → Value
  | [v] => v
  | vs => .tuple vs.toArray
def RK (K : Value → List HP → Prop) (g : Gw) : Ending → World → Prop := fun e w => ∃ v H, K v H ∧ e = .returned v ∧ HS H g w
def RQ (E : Env) (fn : Func) (g : Gw) (K : Value → List HP → Prop) : Qt := bodyPostM (W none) 0 E.P fn (RK K g)
abbrev mk (D : Nat) : Deferred := { target := .collected D, args := #[] }
section
variable {E : Env} {ro : Option Nat} {N : Nat} {ds : List Deferred} {T : List (Nat × Value)} {H H' R R' : List HP} {g : Gw} {K : Value → List HP → Prop} {Q : Qt}
  {d : Option Tmp} {ty : TypeId} {pos : String} {af : Array Edge} {gd : Option (Nat × Bool)}
theorem run_results {P : Program} {fn : Func} {a : Act} {w : World} {rs : List ResultVar} {vs : List Value} (t : TS N ds T a) (hf : fn.results = rs.toArray) (h : evr T rs = some vs) : (results fn a.tmps).run P w = .ok (tup vs) w := by
  have key : ∀ (F : ResultVar → Sem Value), (∀ c, F (.tmp c) = pure (a.tmps.getD c undef)) → ∀ (rs : List ResultVar) (vs : List Value), evr T rs = some vs → (rs.mapM F).run P w = .ok vs w := by
    intro F hF rs
    induction rs with
    | nil => intro vs h; simp [evr] at h; simp [← h]
    | cons r rest ih =>
      intro vs h
      cases r with
      | cell c x => simp [evr] at h
      | tmp c =>
        simp only [evr] at h
        cases hc : lk T c with
        | none => rw [hc] at h; cases h
        | some v =>
          rw [hc] at h
          cases hr : evr T rest with
          | none => simp [hr] at h
          | some vs' =>
            simp [hr] at h
            subst h
            have h1 : a.tmps.getD c undef = v := by simp [Array.getD_eq_getD_getElem?, t.at_ c v hc]
            simp only [List.mapM_cons, hF, Sem.run_bind, Sem.run_pure, Result.andThen, ih vs' hr, h1]
  unfold results
  simp only [hf, List.mapM_toArray, Sem.run_bind, Sem.run_map]
  rw [key _ (fun _ => rfl) rs vs h]
  simp only [Result.andThen, Sem.run_pure]
  match vs with
  | [] => rfl
  | [v] => rfl
  | v :: u :: r => simp [tup]
/-- what is left to do at a return: the marks are taken, one by one -/
def GR (E : Env) (fn : Func) (N : Nat) (ds : List Deferred) (T : List (Nat × Value)) (H : List HP) (g : Gw) (K : Value → List HP → Prop) : Prop :=
  ∀ (a : Act) (w : World), (a.tmps.size = N ∧ ∀ t v, lk T t = some v → a.tmps[t]? = some v) → HS H g w → LeavesInM (W none) 0 E.P fn a.tmps (RK K g) ds .returning w
theorem r_end {fn : Func} {rs : List ResultVar} {vs : List Value} (hf : fn.results = rs.toArray) (h : evr T rs = some vs) (k : K (tup vs) H) : GR E fn N [] T H g K := fun a w t s => by
  have tt : TS N [] T { tmps := a.tmps, defers := [] } := ⟨t.1, rfl, t.2⟩
  exact ⟨tup vs, run_results (a := { tmps := a.tmps, defers := [] }) tt hf h, tup vs, H, k, rfl, s⟩
theorem r_mark {fn : Func} {D : Nat} (hm : Rem (blk D (.deferred (some []))) H R) (h : GR E fn N ds T R g K) : GR E fn N (mk D :: ds) T H g K := fun a w t s => by
  have s1 := s.perm hm.perm
  refine ⟨by simp, .inl ⟨D, _, rfl, run_takeDeferred (HS.at s1), ?_⟩⟩
  exact h a _ t (HS.tail (s1.put (o' := .deferred none) rfl))
theorem e_ret {fn : Func} (h : GR E fn N ds T H g K) : GE N ds T H g (RQ E fn g K) .ret := fun a w t s => by
  have := h a w ⟨t.size, t.at_⟩ s
  show LeavesInM _ _ _ _ _ _ a.defers _ _
  rw [t.defers]; exact this
theorem e_fall {fn : Func} (h : GR E fn N ds T H g K) : GE N ds T H g (RQ E fn g K) .normal := fun a w t s => by
  have := h a w ⟨t.size, t.at_⟩ s
  show LeavesInM _ _ _ _ _ _ a.defers _ _
  rw [t.defers]; exact this
/-- a function's body walked: what a call of it comes to -/
theorem calls_of {f : FuncId} {fn : Func} {c : Code} {vs : List Value} {w : World} (hf : E.P.funcs[f]? = some fn) (hb : fn.body = some c) (hn : fn.ntmps = N) (hl : Nat.ble vs.length N = true)
    (h : GC E none N [] (zipT 0 vs) H g c (RQ E fn g K)) (s : HS H g w) : CallsIn Fence.wide 0 E.P f vs.toArray w (RK K g) := by
  refine callsIn_of_wp_marks hf hb trivial ?_
  exact h _ w (by rw [hn]; exact ts_init vs N hl) s
theorem tri_of {f : FuncId} {fn : Func} {c : Code} {vs : List Value} {Pre : List HP} {Post : (Value → List HP → Prop) → List HP → Prop} (hf : E.P.funcs[f]? = some fn) (hb : fn.body = some c) (hn : fn.ntmps = N) (hl : Nat.ble vs.length N = true)
    (h : ∀ R K, Post K R → GC E none N [] (zipT 0 vs) (Pre ++ R) g c (RQ E fn g K)) : Tri E g f vs.toArray Pre Post := fun R K _ k s => calls_of hf hb hn hl (h R K k) s
/-! ### function values -/
/-! ### a range over a function: the statement -/
/-- what is asked when the function that was ranged over has ended, 'l' being the loop's record: the jump that is pending, or on -/
def KE (E : Env) (ro : Option Nat) (N : Nat) (ds : List Deferred) (T : List (Nat × Value)) (g : Gw) (Q : Qt) (l : Nat) : Value → List HP → Prop := fun _ H =>
  ∃ (r : Loop) (R : List HP), Pick H [blk l (.loop r)] R ∧ r.state ≠ .busy ∧ (match r.pending with
    | none => GE N ds T R g Q .normal
    | some c => GC E ro N ds T R g c Q)
theorem ke {l : Nat} {v : Value} {r : Loop} (hp : Rem (blk l (.loop r)) H R) (hb : r.state ≠ .busy) (hn : r.pending = none) (h : GE N ds T R g Q .normal) : KE E ro N ds T g Q l v H :=
  ⟨r, R, .cons hp (.nil _), hb, by rw [hn]; exact h⟩
theorem ke_jump {l : Nat} {v : Value} {r : Loop} {c : Code} (hp : Rem (blk l (.loop r)) H R) (hb : r.state ≠ .busy) (hn : r.pending = some c) (h : GC E ro N ds T R g c Q) : KE E ro N ds T g Q l v H :=
  ⟨r, R, .cons hp (.nil _), hb, by rw [hn]; exact h⟩
theorem c_range {x : Operand} {ps : Array Tmp} {as bd : Code} {gf : FuncId} {fn : Func} {cg : Code} {cap : List Value} {M : Nat} (hx : ev T x = some (.func (.func gf) #[] cap.toArray)) (hb : HasBody E.P gf) (hf : E.P.funcs[gf]? = some fn) (hbd : fn.body = some cg) (hn : fn.ntmps = M)
    (hl : Nat.ble (cap.length + 1) M = true)
    (h : ∀ (l D : Nat) (a : Act) (fc : FuncId), TS N ds T a → GC E none M [] (zipT 0 (.func (.yield l) #[] #[] :: cap)) (blk l (.loop ⟨.ready, none, fc, a.tmps, ps, as, bd, D⟩) :: blk D (.deferred (some [])) :: H) g cg
      (RQ E fn g (KE E none N (mk D :: ds) T g Q l))) : GC E none N ds T H g (.rangeFunc x ps as bd) Q := by
  intro a w t s
  refine wpIn_rangeFunc ?_
  intro fc _
  have s2 : HS (blk (w.heap.size + 1) (.loop ⟨.ready, none, fc, a.tmps, ps, as, bd, w.heap.size⟩) :: blk w.heap.size (.deferred (some [])) :: H) g ((w.alloc (.deferred (some []))).alloc (.loop ⟨.ready, none, fc, a.tmps, ps, as, bd, w.heap.size⟩)) := by
    have := (s.alloc (.deferred (some []))).alloc (.loop ⟨.ready, none, fc, a.tmps, ps, as, bd, w.heap.size⟩)
    simpa using this
  refine ⟨w.heap.size + 1, [mk w.heap.size], (w.alloc (.deferred (some []))).alloc (.loop ⟨.ready, none, fc, a.tmps, ps, as, bd, w.heap.size⟩), { target := .fn (.func gf) cap.toArray, args := #[.func (.yield (w.heap.size + 1)) #[] #[]] }, (w.alloc (.deferred (some []))).alloc (.loop ⟨.ready, none, fc, a.tmps, ps, as, bd, w.heap.size⟩), gf, (.func (.yield (w.heap.size + 1)) #[] #[] :: cap).toArray, (w.alloc (.deferred (some []))).alloc (.loop ⟨.ready, none, fc, a.tmps, ps, as, bd, w.heap.size⟩), run_enterLoop_outer _ _ _ _ _, ?_, fun _ _ => trivial, ?_, ?_, ?_⟩
  · simp only [resolve, t.ev hx, Deferred.ofValue, Sem.run_pure]; simp [Act.eval]
  · simp only [invoke]; rw [run_callFunc hb]; simp
  · intro h0; simp [Fence.wide] at h0
  · have hc := calls_of (E := E) hf hbd hn (vs := .func (.yield (w.heap.size + 1)) #[] #[] :: cap) (by simpa using hl) (h _ _ a fc t) s2
    refine hc.mono ?_
    rintro e w' ⟨v, H', ⟨r, R, hp, hs, hk⟩, rfl, s'⟩
    have s3 : HS (blk (w.heap.size + 1) (.loop r) :: R) g w' := s'.perm hp.perm
    have s4 := (s3.put (o' := .loop { r with state := .exhausted }) (w' := w'.putObj (w.heap.size + 1) (.loop { r with state := .exhausted })) rfl).tail
    have t' : TS N (mk w.heap.size :: ds) T { a with defers := [mk w.heap.size] ++ a.defers } := ⟨t.size, by simp [t.defers], t.at_⟩
    refine ⟨r.pending, _, run_endLoop (HS.at s3) hs, ?_⟩
    generalize w'.putObj _ (.loop { r with state := .exhausted }) = w4 at s4 ⊢
    generalize r.pending = p at hk ⊢
    cases p with
    | none => exact hk _ _ t' s4
    | some c => exact hk _ _ t' s4
/-! ### a round -/
def YQ (E : Env) (l : Nat) (g : Gw) (bd : Code) (K : Value → List HP → Prop) : Qt :=
  Exit.then (fun a₁ w₁ => ∃ w₂, (Instr.beginRound l).run E.P w₁ = .ok () w₂ ∧ bd.wpIn (W (some l)) 0 E.P (roundPost E.P l (RK K g)) a₁ w₂) (fun _ _ _ => False)
def zipP : List Tmp → List Value → List (Nat × Value) → List (Nat × Value)
  | p :: ps, v :: vs, T => zipP ps vs ((p, v) :: T)
  | _, _, T => T
def ltAll (N : Nat) : List Tmp → Bool
  | [] => true
  | p :: ps => match Nat.blt p N with
    | true => ltAll N ps
    | false => false
theorem ts_params : ∀ (ps : List Tmp) (vs : List Value) (T : List (Nat × Value)) (a : Array Value), ltAll N ps = true → TS N [] T { tmps := a, defers := [] } →
    TS N [] (zipP ps vs T) { tmps := (ps.zip vs).foldl (fun t (p : Tmp × Value) => t.setIfInBounds p.1 p.2) a, defers := [] }
  | [], _, _, _, _, t => t
  | _ :: _, [], _, _, _, t => t
  | p :: ps, v :: vs, T, a, hl, t => by
    simp only [ltAll] at hl
    split at hl
    · rename_i hp
      simp only [List.zip_cons_cons, List.foldl_cons, zipP]
      exact ts_params ps vs _ _ hl (t.put p v hp)
    · cases hl
theorem o_yield {l D : Nat} {fc : FuncId} {a0 : Act} {N0 : Nat} {ds0 : List Deferred} {T0 : List (Nat × Value)} {pend : Option Code} {ps : List Tmp} {as bd : Code} {x : Operand} {xs : List Operand} {vs : List Value} {ats : Array TypeId} (t0 : TS N0 ds0 T0 a0)
    (hx : ev T x = some (.func (.yield l) #[] #[])) (hv : evs T xs = some vs) (hlen : vs.length = ps.length) (hps : ltAll N0 ps = true) (hp : Rem (blk l (.loop ⟨.ready, pend, fc, a0.tmps, ps.toArray, as, bd, D⟩)) H R)
    (h : GC E (some l) N0 [] (zipP ps vs T0) (blk l (.loop ⟨.ready, pend, fc, a0.tmps, ps.toArray, as, bd, D⟩) :: R) g as (YQ E l g bd K)) : OPW E ro N ds T H g ⟨d, .call ⟨.value x, xs.toArray, ats⟩, ty, pos, af, gd⟩ K := fun a w t s next Q hn => by
  refine ⟨fun _ _ => trivial, ?_⟩
  rw [semAt_plain rfl]
  have s1 := s.perm hp.perm
  have hl := HS.at s1
  have he : xs.toArray.map a.eval = vs.toArray := by rw [← evs_eval t hv]; simp
  have hr : (execOp a.eval ⟨d, .call ⟨.value x, xs.toArray, ats⟩, ty, pos, af, gd⟩).run E.P w =
      .ok (.round l fc ((ps.zip vs).foldl (fun t (p : Tmp × Value) => t.setIfInBounds p.1 p.2) a0.tmps) as bd) w := by
    simp only [execOp, resolve, t.ev hx, Deferred.ofValue, Sem.run_bind, Sem.run_pure, Result.andThen, invoke, he]
    have := run_yield (P := E.P) (args := vs.toArray) hl (by simpa using hlen)
    simp only [List.append_toArray, List.nil_append]
    rw [this]
    simp [List.zip_toArray]
  rw [hr]
  refine ⟨fun h => by simp [Fence.wide] at h, ?_⟩
  have tp : TS N0 [] T0 { tmps := a0.tmps, defers := [] } := ⟨t0.size, rfl, t0.at_⟩
  have hround : RoundIn Fence.wide 0 E.P l fc ((ps.zip vs).foldl (fun t (p : Tmp × Value) => t.setIfInBounds p.1 p.2) a0.tmps) as bd w (RK K g) :=
    roundIn_of_wpIn trivial (h _ w (ts_params ps vs T0 _ hps tp) s1)
  have hround' : RoundIn (W ro) 0 E.P l fc ((ps.zip vs).foldl (fun t (p : Tmp × Value) => t.setIfInBounds p.1 p.2) a0.tmps) as bd w (RK K g) := ⟨trivial, fun c cs _ => hround.2 c cs (room_wide _)⟩
  refine hround'.mono ?_
  rintro e w' ⟨v, H', hk, rfl, hs⟩
  exact hn v H' w' hk hs
theorem e_begin {l : Nat} {r : Loop} {bd : Code} (hp : Rem (blk l (.loop r)) H R) (hr : r.state = .ready) (h : GC E (some l) N ds T (blk l (.loop { r with state := .busy }) :: R) g bd (roundPost E.P l (RK K g))) : GE N ds T H g (YQ E l g bd K) .normal := fun a w t s => by
  have s1 := s.perm hp.perm
  exact ⟨_, run_beginRound (HS.at s1) hr, h a _ t (s1.put rfl)⟩
theorem e_on {l : Nat} {r : Loop} (hp : Rem (blk l (.loop r)) H R) (k : K (.bool true) (blk l (.loop { r with state := .ready, pending := none }) :: R)) : GE N ds T H g (roundPost E.P l (RK K g)) .normal := fun a w t s => by
  have s1 := s.perm hp.perm
  exact ⟨_, _, run_endRound none (HS.at s1), _, _, k, rfl, s1.put rfl⟩
theorem e_round_ret {l : Nat} {r : Loop} (hp : Rem (blk l (.loop r)) H R) (k : K (.bool false) (blk l (.loop { r with state := .done, pending := some .ret }) :: R)) : GE N ds T H g (roundPost E.P l (RK K g)) .ret := fun a w t s => by
  have s1 := s.perm hp.perm
  exact ⟨_, _, run_endRound (some .ret) (HS.at s1), _, _, k, rfl, s1.put rfl⟩
end
end Go.Vt
