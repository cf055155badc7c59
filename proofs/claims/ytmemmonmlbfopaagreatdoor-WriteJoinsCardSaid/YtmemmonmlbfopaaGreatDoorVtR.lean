/- Package variables that are only read: they lie in what is left alone. No conditions. -/
import Derived.Test.YtmemmonmlbfopaaGreatDoorVtP
namespace Go.Vt
/-- the variable lies there, among what is left alone -/
def GKb (g : Gw) (b : Nat) (cs : List Value) : Prop := ∃ t fr, g.hp b = some (.cells cs.toArray t fr)
section
variable {E : Env} {ro : Option Nat} {N : Nat} {ds : List Deferred} {T : List (Nat × Value)} {H H' R : List HP} {g : Gw} {K : Value → List HP → Prop}
  {d : Option Tmp} {ty : TypeId} {pos : String} {af : Array Edge} {gd : Option (Nat × Bool)}
theorem GKb.at {b : Nat} {cs : List Value} {w : World} (h : GKb g b cs) (s : HS H g w) : ∃ t fr, w.heap[b]? = some (.cells cs.toArray t fr) := by
  obtain ⟨t, fr, hb⟩ := h
  obtain ⟨_, _, _, _, l, _⟩ := s
  exact ⟨t, fr, l b _ hb⟩
theorem o_ldG {x : Operand} {t b off : Nat} {cs : List Value} {i : TI} {v : Value} (hg : GKb g b cs) (hx : ev T x = some (.pointer (some ⟨b, off, none⟩))) (ht : lk E.tt t = some i) (hv : ldv i cs off = some v) (k : K v H) :
    OPW E ro N ds T H g ⟨d, .load t x, ty, pos, af, gd⟩ K := by
  refine opw_value rfl fun a w t' s => ⟨v, w, H, ?_, k, s⟩
  obtain ⟨t2, fr, hb⟩ := hg.at s
  simp only [execOp, t'.ev hx, Instr.loadAt, Instr.sureAddr, Sem.run_bind, Sem.run_pure, Result.andThen, run_loadVar E ht hb hv]
theorem o_ldAG {τ : Type} [Inhabited τ] {e : En τ} {l : List τ} {t b off f : Nat} {x : Operand} {c1 c2 : List Value} {i : TI} {n : Int} {v : Value} (hg : GKb g b (c1 ++ l.flatMap e.enc ++ c2)) (hx : ev T x = some (.pointer (some ⟨b, off + n.toNat * e.sz + f, none⟩))) (ho : c1.length = off)
    (hb : (0 : Int) ≤ n ∧ n < (l.length : Int)) (ht : lk E.tt t = some i) (hv : ldv i (e.enc (rd l n)) f = some v) (k : K v H) : OPW E ro N ds T H g ⟨d, .load t x, ty, pos, af, gd⟩ K := by
  refine opw_value rfl fun a w t' s => ⟨v, w, H, ?_, k, s⟩
  obtain ⟨t2, fr, hbw⟩ := hg.at s
  have hlt : ∀ j, j < (e.enc (rd l n)).length → (c1 ++ l.flatMap e.enc ++ c2)[off + n.toNat * e.sz + j]? = (e.enc (rd l n))[j]? := fun j hj => by
    have h1 := flat_seg (e := e) hb j hj
    have hin : n.toNat * e.sz + j < (l.flatMap e.enc).length := by
      have : (l.flatMap e.enc)[n.toNat * e.sz + j]? = some (e.enc (rd l n))[j] := by rw [h1]; simp [hj]
      exact (List.getElem?_eq_some_iff.1 this).1
    rw [List.append_assoc, Nat.add_assoc, List.getElem?_append_right (by omega), ho, Nat.add_sub_cancel_left, List.getElem?_append_left hin]
    exact h1
  have h1 := ldv_of hlt hv
  simp only [execOp, t'.ev hx, Instr.loadAt, Instr.sureAddr, Sem.run_bind, Sem.run_pure, Result.andThen, run_loadVar E ht hbw h1]
/-! ### a labelled statement's scope, no jump to its label -/
def ngo (Q : Qt) : Qt := fun e a w => match e with
  | .goto _ => False
  | e => Q e a w
theorem stepR_scope' {P : Program} {b : Frame} {a : Act} {k : List Item} {cs : List Frame} {w : World} {c : Code} : step P (lone (b.atR a (.code (.scope c) :: k)) cs w) = .next (lone (b.atR a (.code c :: .inScope c :: k)) cs w) :=
  step_lone_go (by simp [stepG, stepG.exec, Frame.atR])
theorem stepR_inScope' {P : Program} {b : Frame} {a : Act} {k : List Item} {cs : List Frame} {w : World} {c : Code} : step P (lone (b.atR a (.inScope c :: k)) cs w) = .next (lone (b.atR a k) cs w) :=
  step_lone_go (by simp [stepG, stepG.exec, Frame.atR])
theorem c_label {l : Nat} {Q : Qt} (h : GE N ds T H g Q .normal) : GC E ro N ds T H g (.label l) Q := fun a w t s => wpIn_label (h a w t s)
theorem c_scope {c : Code} {Q : Qt} (h : GC E ro N ds T H g c (ngo Q)) : GC E ro N ds T H g (.scope c) Q := by
  intro a w t s b k cs hro hb hr
  obtain ⟨e, a₁, w₁, hq, harr⟩ := h a w t s b (.inScope c :: k) cs hro hb hr
  have h0 : (lone (b.atR a (.code (.scope c) :: k)) cs w).fenced E.P (W ro) := fenced_calm hb hr rfl
  cases e with
  | normal => exact ⟨.normal, a₁, w₁, hq, .head h0 stepR_scope' (StepsIn.trans harr (.one (fenced_calm hb hr rfl) stepR_inScope'))⟩
  | exit id => exact ⟨.exit id, a₁, w₁, hq, fun k' hk => .head h0 stepR_scope' (harr.1 k' (by simp [exitTo, hk])), fun hr' hk => let ⟨k₁, h1, h2⟩ := harr.2 hr' (by simp [exitTo, hk]); ⟨k₁, h1, .head h0 stepR_scope' h2⟩⟩
  | goto l => exact hq.elim
  | ret => exact ⟨_, a₁, w₁, hq, .of_steps (.one h0 stepR_scope') harr⟩
  | panic ch => exact ⟨_, a₁, w₁, hq, .of_steps (.one h0 stepR_scope') harr⟩
  | outgrown => exact ⟨_, a₁, w₁, hq, .of_steps (.one h0 stepR_scope') harr⟩
theorem e_ngo {Q : Qt} (h : GE N ds T H g Q .normal) : GE N ds T H g (ngo Q) .normal := h
theorem e_ngo_ret {Q : Qt} (h : GE N ds T H g Q .ret) : GE N ds T H g (ngo Q) .ret := h
theorem e_ngo_exit {Q : Qt} {i : Nat} (h : GE N ds T H g Q (.exit i)) : GE N ds T H g (ngo Q) (.exit i) := h
/-! ### the less, the greater -/
def imin (x y : Int) : Int := if y < x then y else x
def imax (x y : Int) : Int := if y > x then y else x
theorem o_min {x y : Operand} {kk k2 : IntKind} {m n : Int} {t1 t2 : TypeId} (hx : ev T x = some (.int kk m)) (hy : ev T y = some (.int k2 n)) (k : K (.int kk (imin m n)) H) :
    OPW E ro N ds T H g ⟨d, .call ⟨.builtin .min, #[x, y], #[t1, t2]⟩, ty, pos, af, gd⟩ K := by
  refine opw_value rfl fun a w t' hs => ⟨_, w, H, ?_, k, hs⟩
  simp [execOp, resolve, t'.ev hx, t'.ev hy, invoke, builtin, Builtin.min_, Builtin.min2, Result.andThen, imin]
theorem o_max {x y : Operand} {kk k2 : IntKind} {m n : Int} {t1 t2 : TypeId} (hx : ev T x = some (.int kk m)) (hy : ev T y = some (.int k2 n)) (k : K (.int kk (imax m n)) H) :
    OPW E ro N ds T H g ⟨d, .call ⟨.builtin .max, #[x, y], #[t1, t2]⟩, ty, pos, af, gd⟩ K := by
  refine opw_value rfl fun a w t' hs => ⟨_, w, H, ?_, k, hs⟩
  simp [execOp, resolve, t'.ev hx, t'.ev hy, invoke, builtin, Builtin.max_, Builtin.max2, Result.andThen, imax]
end
end Go.Vt
