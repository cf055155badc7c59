/- The walk's control rules over assertions: codes, regions, calls, returns, ranges over functions. No conditions. -/
import Derived.Test.YteebpkekdkkmhaaGreatDoorVtA
namespace Go.Vt
structure TI where
  und : TypeDesc
  size : Nat
  zero : Value
  bytes : Nat
structure TIok (P : Program) (t : TypeId) (i : TI) : Prop where
  und : P.underlying t = some i.und
  info : ∃ x, P.info? t = some x ∧ x.size = i.size ∧ x.zero = some i.zero ∧ x.bytes = i.bytes
structure Env where
  P : Program
  tt : List (Nat × TI)
  ok : ∀ t i, lk tt t = some i → TIok P t i
abbrev W (ro : Option Nat) : Fence := { Fence.wide with round := ro }
section
variable (E : Env) (ro : Option Nat) (N : Nat) (ds : List Deferred) (T : List (Nat × Value)) (H : List HP) (g : Gw)
abbrev Qt := Exit → Act → World → Prop
def GC (c : Code) (Q : Qt) : Prop := ∀ a w, TS N ds T a → HS H g w → c.wpIn (W ro) 0 E.P Q a w
def GE (Q : Qt) (e : Exit) : Prop := ∀ a w, TS N ds T a → HS H g w → Q e a w
def wpL (P : Program) (ops : Array Oper) (Q : Qt) : List Oper → Act → World → Prop
  | [], a, w => Q .normal a w
  | o :: rest, a, w =>
    if Region.wanted o (yielded ops a.tmps) then o.wpIn (W ro) 0 P a w (wpL P ops Q rest) Q
    else wpL P ops Q rest (a.put o.dst undef) w
def GO (ops : List Oper) (l : List Oper) (Q : Qt) : Prop := ∀ a w, TS N ds T a → HS H g w → wpL ro E.P ops.toArray Q l a w
def OPW (o : Oper) (K : Value → List HP → Prop) : Prop :=
  ∀ a w, TS N ds T a → HS H g w → ∀ (next : Act → World → Prop) (Q : Qt), (∀ v H' w', K v H' → HS H' g w' → next (a.put o.dst v) w') → o.wpIn (W ro) 0 E.P a w next Q
end

section rules
variable {E : Env} {ro : Option Nat} {N : Nat} {ds : List Deferred} {T : List (Nat × Value)} {H : List HP} {g : Gw} {Q : Qt}
theorem c_skip (h : GE N ds T H g Q .normal) : GC E ro N ds T H g .skip Q := fun a w t s => wpIn_skip (h a w t s)
theorem c_ret (h : GE N ds T H g Q .ret) : GC E ro N ds T H g .ret Q := fun a w t s => wpIn_ret (h a w t s)
theorem c_exit {id : Nat} (h : GE N ds T H g Q (.exit id)) : GC E ro N ds T H g (.exit id) Q := fun a w t s => wpIn_exit (h a w t s)
theorem c_seq {x y : Code} (h : GC E ro N ds T H g x (Exit.then (y.wpIn (W ro) 0 E.P Q) Q)) : GC E ro N ds T H g (.seq x y) Q := fun a w t s => wpIn_seq (h a w t s)
theorem c_cond {c : Operand} {x y : Code} {b : Bool} (hc : ev T c = some (.bool b)) (h1 : b = true → GC E ro N ds T H g x Q) (h2 : b = false → GC E ro N ds T H g y Q) : GC E ro N ds T H g (.cond c x y) Q :=
  fun a w t s => wpIn_cond_split (t.ev hc) (fun e => h1 e a w t s) (fun e => h2 e a w t s)
theorem c_cond_t {c : Operand} {x y : Code} {b : Bool} (hc : ev T c = some (.bool b)) (hb : b = true) (h1 : GC E ro N ds T H g x Q) : GC E ro N ds T H g (.cond c x y) Q :=
  fun a w t s => wpIn_cond_true (by rw [t.ev hc, hb]) (h1 a w t s)
theorem c_cond_f {c : Operand} {x y : Code} {b : Bool} (hc : ev T c = some (.bool b)) (hb : b = false) (h1 : GC E ro N ds T H g y Q) : GC E ro N ds T H g (.cond c x y) Q :=
  fun a w t s => wpIn_cond_false (by rw [t.ev hc, hb]) (h1 a w t s)
theorem c_block {id : Nat} {c : Code} (h : GC E ro N ds T H g c (Exit.inBlock id Q)) : GC E ro N ds T H g (.block id c) Q := fun a w t s => wpIn_block (h a w t s)
def loopIn (P : Program) (ro : Option Nat) (c : Code) (Q : Qt) (a : Act) (w : World) : Prop :=
  ∀ (b : Frame) (k : List Item) (cs : List Frame), b.roundOf = (W ro).round → (W ro).fn b.fn → (W ro).room (cs.length + 1 + 0) →
    ∃ e a' w', Q e a' w' ∧ ArrivesIn (Machine.fenced P (W ro)) P (lone (b.atR a (.code c :: .inLoop c :: k)) cs w) b k cs e a' w'
def GL (E : Env) (ro : Option Nat) (N : Nat) (ds : List Deferred) (T : List (Nat × Value)) (H : List HP) (g : Gw) (c : Code) (Q : Qt) : Prop := ∀ a w, TS N ds T a → HS H g w → loopIn E.P ro c Q a w
theorem c_loop {c : Code} (h : GL E ro N ds T H g c Q) : GC E ro N ds T H g (.loop c) Q := by
  intro a w t s b k cs hro hb hr
  obtain ⟨e, a₁, w₁, hq, harr⟩ := h a w t s b k cs hro hb hr
  exact ⟨e, a₁, w₁, hq, .of_steps (.one (fenced_calm hb hr rfl) stepR_loop) harr⟩
theorem l_round {c : Code} (h : GC E ro N ds T H g c (Exit.then (loopIn E.P ro c Q) Q)) : GL E ro N ds T H g c Q := by
  intro a w t s b k cs hro hb hr
  obtain ⟨e, a₁, w₁, hq, harr⟩ := h a w t s b (.inLoop c :: k) cs hro hb hr
  cases e with
  | normal =>
    obtain ⟨e₂, a₂, w₂, hq₂, harr₂⟩ := hq b k cs hro hb hr
    exact ⟨e₂, a₂, w₂, hq₂, .of_steps (StepsIn.trans harr (.one (fenced_calm hb hr rfl) stepR_inLoop)) harr₂⟩
  | exit id => exact ⟨_, a₁, w₁, hq, .pass (x := .inLoop c) rfl (fun _ _ => .inl (by simp)) harr⟩
  | goto l => exact ⟨_, a₁, w₁, hq, .pass (x := .inLoop c) rfl (fun _ _ => .inl (by simp)) harr⟩
  | ret => exact ⟨_, a₁, w₁, hq, .pass (x := .inLoop c) rfl (fun _ _ => .inl (by simp)) harr⟩
  | panic ch => exact ⟨_, a₁, w₁, hq, .pass (x := .inLoop c) rfl (fun _ _ => .inl (by simp)) harr⟩
  | outgrown => exact ⟨_, a₁, w₁, hq, .pass (x := .inLoop c) rfl (fun _ _ => .inl (by simp)) harr⟩
/-! ### ends -/
theorem e_seq {y : Code} (h : GC E ro N ds T H g y Q) : GE N ds T H g (Exit.then (y.wpIn (W ro) 0 E.P Q) Q) .normal := h
theorem e_loop {c : Code} (h : GL E ro N ds T H g c Q) : GE N ds T H g (Exit.then (loopIn E.P ro c Q) Q) .normal := h
theorem e_blk {id : Nat} (h : GE N ds T H g Q .normal) : GE N ds T H g (Exit.inBlock id Q) .normal := h
theorem e_then_ret {K : Act → World → Prop} (h : GE N ds T H g Q .ret) : GE N ds T H g (Exit.then K Q) .ret := h
theorem e_then_exit {K : Act → World → Prop} {i : Nat} (h : GE N ds T H g Q (.exit i)) : GE N ds T H g (Exit.then K Q) (.exit i) := h
theorem e_blk_ret {id : Nat} (h : GE N ds T H g Q .ret) : GE N ds T H g (Exit.inBlock id Q) .ret := h
theorem e_blk_exit {id : Nat} (h : GE N ds T H g Q .normal) : GE N ds T H g (Exit.inBlock id Q) (.exit id) := fun a w t s => by
  simp only [Exit.inBlock, if_true]; exact h a w t s
theorem e_blk_exit_ne {id i : Nat} (hi : Nat.beq i id = false) (h : GE N ds T H g Q (.exit i)) : GE N ds T H g (Exit.inBlock id Q) (.exit i) := fun a w t s => by
  have : ¬ i = id := fun e => by subst e; simp at hi
  simp only [Exit.inBlock, this, if_false]; exact h a w t s
/-! ### weakening -/
theorem HS.drop {r : List HP} : ∀ (p : List HP) {w : World}, HS (p ++ r) g w → HS r g w
  | [], _, s => s
  | _ :: p, _, s => HS.drop p (HS.tail s)
/-- the assertions that are wanted, the rest let go -/
theorem HS.pick {H p r : List HP} {w : World} (h : Pick H p r) (s : HS H g w) : HS p g w := HS.drop _ (s.perm (h.perm.trans List.perm_append_comm))
theorem l_sub {T' : List (Nat × Value)} {c : Code} (s : Sub T' T) (h : GL E ro N ds T' H g c Q) : GL E ro N ds T H g c Q := fun a w t hs => h a w (t.sub s) hs
theorem c_sub {T' : List (Nat × Value)} {c : Code} (s : Sub T' T) (h : GC E ro N ds T' H g c Q) : GC E ro N ds T H g c Q := fun a w t hs => h a w (t.sub s) hs
/-! ### regions -/
theorem wpOps_of_wpL (P : Program) (ops : Array Oper) : ∀ (l : List Oper) (k : Nat) (a : Act) (w : World), (∀ j, l[j]? = ops[k + j]?) → wpL ro P ops Q l a w →
    wpOpsIn (W ro) 0 P ops Q (List.range' k l.length) a w
  | [], _, _, _, _, h => h
  | o :: rest, k, a, w, hl, h => by
    have h0 : ops[k]? = some o := by have := hl 0; simpa using this.symm
    have hr : ∀ j, rest[j]? = ops[(k + 1) + j]? := fun j => by
      have := hl (j + 1)
      rw [show (k + 1) + j = k + (j + 1) by omega]; simpa using this
    simp only [List.length_cons, List.range'_succ, wpOpsIn, h0]
    simp only [wpL] at h
    split
    · rename_i hw
      simp only [hw, if_true] at h
      refine ⟨h.1, ?_⟩
      have h2 := h.2
      generalize (o.semAt (W ro).round a.eval).run P w = r at h2 ⊢
      have ih := fun a' w' => wpOps_of_wpL P ops rest (k + 1) a' w' hr
      cases r with
      | halt x w' => cases x <;> exact h2
      | ok n w' =>
        cases n
        case enter f args => exact ⟨h2.1, h2.2.mono fun e w'' he => by cases e <;> first | exact ih _ _ he | exact he⟩
        case round l f tm as bd => exact ⟨h2.1, h2.2.mono fun e w'' he => by cases e <;> first | exact ih _ _ he | exact he⟩
        case row r args => exact ⟨h2.1, h2.2.mono fun e w'' he => ih _ _ he⟩
        all_goals first | exact ih _ _ h2 | exact h2
    · rename_i hw
      rw [if_neg hw] at h
      exact ⟨fun _ _ => trivial, wpOps_of_wpL P ops rest (k + 1) _ w hr h⟩
theorem c_region {id : Nat} {l : List Oper} (h : GO E ro N ds T H g l l Q) : GC E ro N ds T H g (.region id l.toArray false) Q := fun a w t s => by
  refine wpIn_region ?_
  have := wpOps_of_wpL E.P l.toArray l 0 a w (fun j => by simp) (h a w t s)
  rw [List.range_eq_range']; simpa using this
theorem o_end {l : List Oper} (h : GE N ds T H g Q .normal) : GO E ro N ds T H g l [] Q := h
theorem wanted_none {d : Option Tmp} {op : Op} {ty : TypeId} {pos : String} {af : Array Edge} (y : Nat → Option Bool) : Region.wanted ⟨d, op, ty, pos, af, none⟩ y = true := rfl
theorem o1 {l rest : List Oper} {d : Nat} {op : Op} {ty : TypeId} {pos : String} {af : Array Edge} (hd : Nat.blt d N = true)
    (h : OPW E ro N ds T H g ⟨some d, op, ty, pos, af, none⟩ fun v H' => GO E ro N ds ((d, v) :: T) H' g l rest Q) : GO E ro N ds T H g l (⟨some d, op, ty, pos, af, none⟩ :: rest) Q := fun a w t s => by
  simp only [wpL, wanted_none, if_true]
  exact h a w t s _ _ fun v H' w' k s' => k _ w' (t.put d v hd) s'
theorem o0 {l rest : List Oper} {op : Op} {ty : TypeId} {pos : String} {af : Array Edge}
    (h : OPW E ro N ds T H g ⟨none, op, ty, pos, af, none⟩ fun _ H' => GO E ro N ds T H' g l rest Q) : GO E ro N ds T H g l (⟨none, op, ty, pos, af, none⟩ :: rest) Q := fun a w t s => by
  simp only [wpL, wanted_none, if_true]
  exact h a w t s _ _ fun v H' w' k s' => k _ w' (t.none v) s'
theorem yielded_of {l : List Oper} {j d : Nat} {b : Bool} {a : Act} (t : TS N ds T a) (hd : (l[j]?).bind (·.dst) = some d) (hv : lk T d = some (.bool b)) : yielded l.toArray a.tmps j = some b := by
  simp [yielded, hd, t.at_ d _ hv]
theorem yielded_un {l : List Oper} {j d : Nat} {a : Act} (t : TS N ds T a) (hd : (l[j]?).bind (·.dst) = some d) (hv : lk T d = some undef) : yielded l.toArray a.tmps j = none := by
  simp [yielded, hd, t.at_ d _ hv, undef]
/-- a guarded operation that is carried out -/
theorem oy {l rest : List Oper} {d : Nat} {op : Op} {ty : TypeId} {pos : String} {af : Array Edge} {j dj : Nat} {want b : Bool} (hd : Nat.blt d N = true)
    (hj : (l[j]?).bind (·.dst) = some dj) (hv : lk T dj = some (.bool b)) (hb : b = want)
    (h : OPW E ro N ds T H g ⟨some d, op, ty, pos, af, some (j, want)⟩ fun v H' => GO E ro N ds ((d, v) :: T) H' g l rest Q) : GO E ro N ds T H g l (⟨some d, op, ty, pos, af, some (j, want)⟩ :: rest) Q := fun a w t s => by
  have hw : Region.wanted ⟨some d, op, ty, pos, af, some (j, want)⟩ (yielded l.toArray a.tmps) = true := by simp [Region.wanted, yielded_of t hj hv, hb]
  simp only [wpL, hw, if_true]
  exact h a w t s _ _ fun v H' w' k s' => k _ w' (t.put d v hd) s'
/-- a guarded operation that is passed by -/
theorem on {l rest : List Oper} {d : Nat} {op : Op} {ty : TypeId} {pos : String} {af : Array Edge} {j dj : Nat} {want b : Bool} (hd : Nat.blt d N = true)
    (hj : (l[j]?).bind (·.dst) = some dj) (hv : lk T dj = some (.bool b)) (hb : b = !want)
    (h : GO E ro N ds ((d, undef) :: T) H g l rest Q) : GO E ro N ds T H g l (⟨some d, op, ty, pos, af, some (j, want)⟩ :: rest) Q := fun a w t s => by
  have hw : Region.wanted ⟨some d, op, ty, pos, af, some (j, want)⟩ (yielded l.toArray a.tmps) = false := by subst hb; cases want <;> simp [Region.wanted, yielded_of t hj hv]
  simp only [wpL, hw, Bool.false_eq_true, if_false]
  exact h _ w (t.put d undef hd) s
theorem ou {l rest : List Oper} {d : Nat} {op : Op} {ty : TypeId} {pos : String} {af : Array Edge} {j dj : Nat} {want : Bool} (hd : Nat.blt d N = true)
    (hj : (l[j]?).bind (·.dst) = some dj) (hv : lk T dj = some undef)
    (h : GO E ro N ds ((d, undef) :: T) H g l rest Q) : GO E ro N ds T H g l (⟨some d, op, ty, pos, af, some (j, want)⟩ :: rest) Q := fun a w t s => by
  have hw : Region.wanted ⟨some d, op, ty, pos, af, some (j, want)⟩ (yielded l.toArray a.tmps) = false := by simp [Region.wanted, yielded_un t hj hv]
  simp only [wpL, hw, Bool.false_eq_true, if_false]
  exact h _ w (t.put d undef hd) s
/-! ### what an operation comes to -/
def Op.isDefer : Op → Bool
  | .defer _ => true
  | _ => false
theorem semAt_plain {o : Oper} {ρ : Operand → Value} (h : Op.isDefer o.op = false) : o.semAt ro ρ = execOp ρ o := Oper.semAt_eq ro ρ o fun c e => by rw [e] at h; cases h
theorem opw_value {o : Oper} {K : Value → List HP → Prop} (hd : Op.isDefer o.op = false)
    (h : ∀ a w, TS N ds T a → HS H g w → ∃ v w' H', (execOp a.eval o).run E.P w = .ok (.value v) w' ∧ K v H' ∧ HS H' g w') : OPW E ro N ds T H g o K := fun a w t s next Q k => by
  obtain ⟨v, w', H', hr, hk, hs⟩ := h a w t s
  refine ⟨fun _ _ => trivial, ?_⟩
  rw [semAt_plain hd, hr]
  exact k v H' w' hk hs
theorem opw_skip {o : Oper} {K : Value → List HP → Prop} (hd : Op.isDefer o.op = false)
    (h : ∀ a w, TS N ds T a → HS H g w → ∃ w' H', (execOp a.eval o).run E.P w = .ok .skip w' ∧ K undef H' ∧ HS H' g w') : OPW E ro N ds T H g o K := fun a w t s next Q k => by
  obtain ⟨w', H', hr, hk, hs⟩ := h a w t s
  refine ⟨fun _ _ => trivial, ?_⟩
  rw [semAt_plain hd, hr]
  exact k undef H' w' hk hs
/-! ### calls -/
def Tri (E : Env) (g : Gw) (f : FuncId) (args : Array Value) (Pre : List HP) (Post : (Value → List HP → Prop) → List HP → Prop) : Prop :=
  ∀ (R : List HP) (K : Value → List HP → Prop) (w : World), Post K R → HS (Pre ++ R) g w →
    CallsIn Fence.wide 0 E.P f args w fun e w' => ∃ v H', K v H' ∧ e = .returned v ∧ HS H' g w'
theorem callsIn_ro {n n' : Nat} {P : Program} {f : FuncId} {args : Array Value} {w : World} {R : Ending → World → Prop} (h : CallsIn Fence.wide n P f args w R) : CallsIn (W ro) n' P f args w R := by
  refine ⟨trivial, fun cs _ => ?_⟩
  exact h.2 cs (room_wide _)
def evs (T : List (Nat × Value)) : List Operand → Option (List Value)
  | [] => some []
  | x :: r => match ev T x with
    | some v => match evs T r with
      | some vs => some (v :: vs)
      | none => none
    | none => none
theorem evs_eval {xs : List Operand} {vs : List Value} {a : Act} (t : TS N ds T a) (h : evs T xs = some vs) : xs.map a.eval = vs := by
  induction xs generalizing vs with
  | nil => simp [evs] at h; simp [h]
  | cons x r ih =>
    simp only [evs] at h
    cases hx : ev T x with
    | none => rw [hx] at h; cases h
    | some v =>
      rw [hx] at h
      cases hr : evs T r with
      | none => rw [hr] at h; cases h
      | some vs' => rw [hr] at h; cases h; simp [t.ev hx, ih hr]
def HasBody (P : Program) (f : FuncId) : Prop := ∃ fn, P.funcs[f]? = some fn ∧ fn.body.isSome = true ∧ (fn.name == "runtime.NumGoroutine") = false
theorem run_callFunc {P : Program} {f : FuncId} (hb : HasBody P f) (args : Array Value) (w : World) : (callFunc f args).run P w = .ok (.enter f args) w := by
  obtain ⟨fn, h1, h2, h3⟩ := hb
  have h2' : fn.body.isNone = false := by cases h : fn.body <;> simp_all
  simp only [callFunc, Sem.run_bind, run_program, Result.andThen, h1]
  simp [h3, h2']
theorem o_call {d : Option Tmp} {xs : List Operand} {ats : Array TypeId} {f : FuncId} {ty : TypeId} {pos : String} {af : Array Edge} {gd : Option (Nat × Bool)} {vs : List Value} {Pre R : List HP}
    {Post : (Value → List HP → Prop) → List HP → Prop} {K : Value → List HP → Prop} (hb : HasBody E.P f) (hx : evs T xs = some vs) (c : Tri E g f vs.toArray Pre Post) (hp : Pick H Pre R) (k : Post K R) :
    OPW E ro N ds T H g ⟨d, .call ⟨.value (.func f), xs.toArray, ats⟩, ty, pos, af, gd⟩ K := fun a w t s next Q hn => by
  refine ⟨fun _ _ => trivial, ?_⟩
  rw [semAt_plain rfl]
  have hr : (execOp a.eval ⟨d, .call ⟨.value (.func f), xs.toArray, ats⟩, ty, pos, af, gd⟩).run E.P w = .ok (.enter f vs.toArray) w := by
    have he : xs.toArray.map a.eval = vs.toArray := by rw [← evs_eval t hx]; simp
    simp only [execOp, resolve, Act.eval, Deferred.ofValue, Sem.run_bind, Sem.run_pure, Result.andThen, invoke, he]
    rw [run_callFunc hb]; simp
  rw [hr]
  refine ⟨fun h => by simp [W, Fence.wide] at h, ?_⟩
  refine callsIn_ro ((c R K w k (s.perm hp.perm)).mono ?_)
  rintro e w' ⟨v, H', hk, rfl, hs⟩
  exact hn v H' w' hk hs
end rules
end Go.Vt
