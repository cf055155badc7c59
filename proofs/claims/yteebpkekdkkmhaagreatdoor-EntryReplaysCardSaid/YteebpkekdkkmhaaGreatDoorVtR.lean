/- Package variables that are only read: they lie in what is left alone. No conditions. -/
import Derived.Test.YteebpkekdkkmhaaGreatDoorVtP
namespace Go.Vt
/-- the variable lies there, among what is left alone -/
def GKb (g : Gw) (b : Nat) (cs : List Value) : Prop := ∃ t fr, g.hp b = some (.cells cs.toArray t fr)
section
variable {E : Env} {ro : Option Nat} {N : Nat} {ds : List Deferred} {T : List (Nat × Value)} {H H' R : List HP} {g : Gw} {K : Value → List HP → Prop}
  {d : Option Tmp} {ty : TypeId} {pos : String} {af : Array Edge} {gd : Option (Nat × Bool)}
theorem GKb.at {b : Nat} {cs : List Value} {w : World} (h : GKb g b cs) (s : HS H g w) : ∃ t fr, w.heap[b]? = some (.cells cs.toArray t fr) := by
  obtain ⟨t, fr, hb⟩ := h
  obtain ⟨_, _, _, _, l, _⟩ := s
  exact ⟨t, fr, l b _ hb⟩
theorem o_ldG {x : Operand} {t b off : Nat} {cs : List Value} {i : TI} {v : Value} (hg : GKb g b cs) (hx : ev T x = some (.pointer (some ⟨b, off, none⟩))) (ht : lk E.tt t = some i) (hv : ldv i cs off = some v) (k : K v H) :
    OPW E ro N ds T H g ⟨d, .load t x, ty, pos, af, gd⟩ K := by
  refine opw_value rfl fun a w t' s => ⟨v, w, H, ?_, k, s⟩
  obtain ⟨t2, fr, hb⟩ := hg.at s
  simp only [execOp, t'.ev hx, Instr.loadAt, Instr.sureAddr, Sem.run_bind, Sem.run_pure, Result.andThen, run_loadVar E ht hb hv]
/-! ### a labelled statement's scope, no jump to its label -/
def ngo (Q : Qt) : Qt := fun e a w => match e with
  | .goto _ => False
  | e => Q e a w
/-! ### the less, the greater -/
def imin (x y : Int) : Int := if y < x then y else x
def imax (x y : Int) : Int := if y > x then y else x
end
end Go.Vt
