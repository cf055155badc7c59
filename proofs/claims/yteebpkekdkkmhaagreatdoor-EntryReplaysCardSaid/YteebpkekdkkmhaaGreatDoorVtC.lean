/- Operations on numbers, fields, boxes; returns. No conditions. -/
import Derived.Test.YteebpkekdkkmhaaGreatDoorVtB
import Derived.Laws.Small
import Derived.Laws.Strings
import Derived.Laws.Pointers
import Derived.Laws.StructEq
import Derived.Laws.Cover3
namespace Go.Vt
theorem Env.und (E : Env) {t : Nat} {i : TI} (h : lk E.tt t = some i) : E.P.underlying t = some i.und := (E.ok t i h).und
theorem run_und (E : Env) {t : Nat} {i : TI} (h : lk E.tt t = some i) (w : World) : (underlying t).run E.P w = .ok i.und w := by
  simp [underlying, Sem.run_bind, run_program, Result.andThen, E.und h]
theorem run_ti (E : Env) {t : Nat} {i : TI} (h : lk E.tt t = some i) (w : World) : ∃ x, (typeInfo t).run E.P w = .ok x w ∧ x.size = i.size ∧ x.zero = some i.zero ∧ x.bytes = i.bytes := by
  obtain ⟨x, h1, h2⟩ := (E.ok t i h).info
  exact ⟨x, by simp [typeInfo, Sem.run_bind, run_program, Result.andThen, h1], h2⟩
theorem run_size (E : Env) {t : Nat} {i : TI} (h : lk E.tt t = some i) (w : World) : (sizeOf t).run E.P w = .ok i.size w := by
  obtain ⟨x, h1, h2, _, _⟩ := run_ti E h w
  simp [sizeOf, h1, Result.andThen, h2]
theorem run_zero (E : Env) {t : Nat} {i : TI} (h : lk E.tt t = some i) (w : World) : (zeroValue t).run E.P w = .ok i.zero w := by
  obtain ⟨x, h1, _, h2, _⟩ := run_ti E h w
  simp [zeroValue, h1, Result.andThen, h2]
def isA (i : TI) : Bool := match i.und with | .struct _ => true | .array _ _ => true | _ => false
theorem run_isAgg (E : Env) {t : Nat} {i : TI} (h : lk E.tt t = some i) (w : World) : (isAgg t).run E.P w = .ok (isA i) w := by
  simp only [isAgg, Sem.run_bind, run_und E h, Result.andThen]
  unfold isA
  cases i.und <;> rfl
/-! ### numbers -/
def iband (k : IntKind) (x y : Int) : Int := k.wrap (BitVec.ofInt k.bits x &&& BitVec.ofInt k.bits y).toNat
def ibor (k : IntKind) (x y : Int) : Int := k.wrap (BitVec.ofInt k.bits x ||| BitVec.ofInt k.bits y).toNat
def ibxor (k : IntKind) (x y : Int) : Int := k.wrap (BitVec.ofInt k.bits x ^^^ BitVec.ofInt k.bits y).toNat
def ibandn (k : IntKind) (x y : Int) : Int := k.wrap (BitVec.ofInt k.bits x &&& ~~~(BitVec.ofInt k.bits y)).toNat
def ieqk : IntKind → IntKind → Bool
  | .i8, .i8 | .i16, .i16 | .i32, .i32 | .i64, .i64 | .u8, .u8 | .u16, .u16 | .u32, .u32 | .u64, .u64 => true
  | _, _ => false
theorem ieqk_eq {a b : IntKind} (h : ieqk a b = true) : a = b := by cases a <;> cases b <;> first | rfl | cases h
def isPtr (i : TI) : Bool := match i.und with | .pointer _ => true | _ => false
def isBoolT (i : TI) : Bool := match i.und with | .bool => true | _ => false
def isSl (i : TI) : Bool := match i.und with | .slice _ => true | _ => false
/-- a binary operation that can't fail -/
def pbin (tt : List (Nat × TI)) (op : BinOp) (t : TypeId) : Value → Value → Option Value
  | .int k x, .int k' y => match ieqk k k' with
    | true => match op with
      | .add => some (.int k (k.wrap (x + y)))
      | .sub => some (.int k (k.wrap (x - y)))
      | .mul => some (.int k (k.wrap (x * y)))
      | .and => some (.int k (iband k x y))
      | .or => some (.int k (ibor k x y))
      | .xor => some (.int k (ibxor k x y))
      | .andNot => some (.int k (ibandn k x y))
      | .eql => some (.bool (x == y))
      | .neq => some (.bool (x != y))
      | .lss => some (.bool (x < y))
      | .leq => some (.bool (x ≤ y))
      | .gtr => some (.bool (x > y))
      | .geq => some (.bool (x ≥ y))
      | _ => none
    | false => none
  | .bool x, .bool y => match lk tt t with
    | some i => match isBoolT i, op with
      | true, .eql => some (.bool (x == y))
      | true, .neq => some (.bool (!(x == y)))
      | _, _ => none
    | none => none
  | .pointer p, .pointer none => match lk tt t with
    | some i => match isPtr i, op, p with
      | true, .eql, some _ => some (.bool false)
      | true, .eql, none => some (.bool true)
      | true, .neq, some _ => some (.bool true)
      | true, .neq, none => some (.bool false)
      | _, _, _ => none
    | none => none
  | .string x, .string y => match op with
    | .eql => some (.bool (x.data.toList == y.data.toList))
    | .neq => some (.bool (!(x.data.toList == y.data.toList)))
    | _ => none
  | _, _ => none
theorem pbin_sound (E : Env) {op : BinOp} {t : TypeId} {a b v : Value} {x y : Operand} (h : pbin E.tt op t a b = some v) (w : World) :
    (do eqGuard op t x y a b; binOp op t a b : Sem Value).run E.P w = .ok v w := by
  unfold pbin at h
  split at h
  · rename_i k n k' m
    split at h
    · rename_i hk
      cases ieqk_eq hk
      have hg : (eqGuard op t x y (.int k n) (.int k m)).run E.P w = .ok () w := by cases op <;> simp [eqGuard]
      rw [Sem.run_bind, hg]
      cases op <;> simp only [Result.andThen] <;> first
        | (cases h; simp [binOp, Op.intArith, Op.intBits, Op.intCmp, iband, ibor, ibxor, ibandn])
        | cases h
    · cases h
  · rename_i p q
    have hg : (eqGuard op t x y (.bool p) (.bool q)).run E.P w = .ok () w := by cases op <;> simp [eqGuard]
    rw [Sem.run_bind, hg]
    simp only [Result.andThen]
    split at h
    · rename_i i hi
      have hu := E.und hi
      split at h
      · rename_i hb; cases h
        have : i.und = .bool := by unfold isBoolT at hb; split at hb <;> first | assumption | cases hb
        exact run_eql_bool w t p q (by rw [hu, this])
      · rename_i hb; cases h
        have : i.und = .bool := by unfold isBoolT at hb; split at hb <;> first | assumption | cases hb
        exact run_neq_bool w t p q (by rw [hu, this])
      · cases h
    · cases h
  · rename_i p
    have hg : (eqGuard op t x y (.pointer p) (.pointer none)).run E.P w = .ok () w := by cases op <;> simp [eqGuard]
    rw [Sem.run_bind, hg]
    simp only [Result.andThen]
    split at h
    · rename_i i hi
      have hu := E.und hi
      have hp : isPtr i = true → E.P.underlying t = some (.pointer (E.P.pointee t)) := fun hb => by
        have : ∃ e, i.und = .pointer e := by unfold isPtr at hb; split at hb <;> first | exact ⟨_, by assumption⟩ | cases hb
        obtain ⟨e, he⟩ := this
        rw [he] at hu
        simp [Program.pointee, hu]
      split at h
      · rename_i hb; cases h; exact run_eql_pointer_nil w t _ (hp hb)
      · rename_i hb; cases h; exact run_eql_pointer_nil w t _ (hp hb)
      · rename_i hb; cases h; exact run_neq_pointer_nil w t _ (hp hb)
      · rename_i hb; cases h; exact run_neq_pointer_nil w t _ (hp hb)
      · cases h
    · cases h
  · rename_i p q
    have hg : (eqGuard op t x y (.string p) (.string q)).run E.P w = .ok () w := by cases op <;> simp [eqGuard]
    rw [Sem.run_bind, hg]
    cases op <;> first
      | (cases h; simp [Result.andThen, binOp, Op.stringOp, ByteArray.toList_eq])
      | cases h
  · cases h
def isIntT (i : TI) : Option IntKind := match i.und with | .int k => some k | _ => none
/-- an operation that can't fail and looks at no memory -/
def pv (tt : List (Nat × TI)) (T : List (Nat × Value)) : Op → Option Value
  | .move x => ev T x
  | .assign x => ev T x
  | .binOp op t x y _ => match ev T x with
    | some a => match ev T y with
      | some b => pbin tt op t a b
      | none => none
    | none => none
  | .unOp op _ x => match op, ev T x with
    | .not, some (.bool b) => some (.bool (!b))
    | .neg, some (.int k n) => some (.int k (k.wrap (0 - n)))
    | _, _ => none
  | .convert s d x => match lk tt s with
    | some _ => match lk tt d with
      | some i => match isIntT i, ev T x with
        | some k, some (.int _ n) => some (.int k (k.wrap n))
        | _, _ => none
      | none => none
    | none => none
  | .extract x i => match ev T x with
    | some (.tuple vs) => vs.toList[i]?
    | _ => none
  | .makeFunc fn first cap => match evs T first.toList with
    | some a => match evs T cap.toList with
      | some b => some (.func fn a.toArray b.toArray)
      | none => none
    | none => none
  | .nilCheck x => match ev T x with
    | some (.pointer (some a)) => some (.pointer (some a))
    | _ => none
  | _ => none
theorem pv_sound (E : Env) {N : Nat} {ds : List Deferred} {T : List (Nat × Value)} {a : Act} (t : TS N ds T a) {d : Option Tmp} {op : Op} {ty : TypeId} {pos : String} {af : Array Edge} {gd : Option (Nat × Bool)} {v : Value}
    (h : pv E.tt T op = some v) (w : World) : (execOp a.eval ⟨d, op, ty, pos, af, gd⟩).run E.P w = .ok (.value v) w := by
  cases op
  case move x => exact by simp only [pv] at h; simp [execOp, t.ev h]
  case assign x => exact by simp only [pv] at h; simp [execOp, t.ev h]
  case binOp op' t' x y yt =>
    simp only [pv] at h
    cases hx : ev T x with
    | none => simp [hx] at h
    | some u =>
      cases hy : ev T y with
      | none => simp [hx, hy] at h
      | some u' =>
        simp only [hx, hy] at h
        have := pbin_sound E (x := x) (y := y) h w
        simp only [execOp, t.ev hx, t.ev hy]
        rw [Sem.run_bind, this]; rfl
  case unOp op' t' x =>
    simp only [pv] at h
    split at h
    · rename_i hx; cases h; simp [execOp, t.ev hx, Op.unary]
    · rename_i hx; cases h; simp [execOp, t.ev hx, Op.unary, Op.intArith]
    · cases h
  case convert s d' x =>
    simp only [pv] at h
    split at h
    · rename_i i hs
      split at h
      · rename_i j hd
        split at h
        · rename_i k k' n hk hx
          cases h
          have hj : j.und = .int k := by unfold isIntT at hk; split at hk <;> first | (cases hk; assumption) | cases hk
          simp only [execOp, t.ev hx, convert, Sem.run_bind, run_und E hs, run_und E hd, Result.andThen, hj]
          cases i.und <;> simp [Conv.intToInt]
        · cases h
      · cases h
    · cases h
  case extract x i =>
    simp only [pv] at h
    split at h
    · rename_i vs hx
      have h' : vs[i]? = some v := by rw [← Array.getElem?_toList]; exact h
      simp [execOp, t.ev hx, Instr.extract, h']
    · cases h
  case makeFunc fn first cap =>
    simp only [pv] at h
    split at h
    · rename_i a1 h1
      split at h
      · rename_i b1 h2
        cases h
        have e1 : first.map a.eval = a1.toArray := by apply Array.toList_inj.1; rw [Array.toList_map, evs_eval t h1]
        have e2 : cap.map a.eval = b1.toArray := by apply Array.toList_inj.1; rw [Array.toList_map, evs_eval t h2]
        simp [execOp, e1, e2, Instr.makeFunc]
      · cases h
    · cases h
  case nilCheck x =>
    simp only [pv] at h
    split at h
    · rename_i hx; cases h; simp [execOp, t.ev hx]
    · cases h
  all_goals cases h
section
variable {E : Env} {ro : Option Nat} {N : Nat} {ds : List Deferred} {T : List (Nat × Value)} {H : List HP} {g : Gw} {K : Value → List HP → Prop}
  {d : Option Tmp} {ty : TypeId} {pos : String} {af : Array Edge} {gd : Option (Nat × Bool)}
theorem o_p {op : Op} {v : Value} (h : pv E.tt T op = some v) (k : K v H) : OPW E ro N ds T H g ⟨d, op, ty, pos, af, gd⟩ K := by
  refine opw_value ?_ fun a w t s => ⟨v, w, H, pv_sound E t h w, k, s⟩
  cases op <;> first | rfl | cases h
theorem o_pick_t {c x y : Operand} {b : Bool} {v : Value} (hc : ev T c = some (.bool b)) (hb : b = true) (hx : ev T x = some v) (k : K v H) : OPW E ro N ds T H g ⟨d, .pick c x y, ty, pos, af, gd⟩ K := by
  refine opw_value rfl fun a w t s => ⟨v, w, H, ?_, k, s⟩
  simp [execOp, t.ev hc, t.ev hx, asBool, hb]
theorem o_pick_f {c x y : Operand} {b : Bool} {v : Value} (hc : ev T c = some (.bool b)) (hb : b = false) (hy : ev T y = some v) (k : K v H) : OPW E ro N ds T H g ⟨d, .pick c x y, ty, pos, af, gd⟩ K := by
  refine opw_value rfl fun a w t s => ⟨v, w, H, ?_, k, s⟩
  simp [execOp, t.ev hc, t.ev hy, asBool, hb]
theorem o_rem {t : TypeId} {x y : Operand} {yt : TypeId} {k' : IntKind} {m n : Int} (hx : ev T x = some (.int k' m)) (hy : ev T y = some (.int k' n)) (h0 : n ≠ 0) (k : K (.int k' (m.tmod n)) H) :
    OPW E ro N ds T H g ⟨d, .binOp .rem t x y yt, ty, pos, af, gd⟩ K := by
  refine opw_value rfl fun a w t s => ⟨_, w, H, ?_, k, s⟩
  simp [execOp, t.ev hx, t.ev hy, eqGuard, binOp, Op.intDiv, h0]
theorem o_quo {t : TypeId} {x y : Operand} {yt : TypeId} {k' : IntKind} {m n : Int} (hx : ev T x = some (.int k' m)) (hy : ev T y = some (.int k' n)) (h0 : n ≠ 0) (k : K (.int k' (k'.wrap (m.tdiv n))) H) :
    OPW E ro N ds T H g ⟨d, .binOp .quo t x y yt, ty, pos, af, gd⟩ K := by
  refine opw_value rfl fun a w t s => ⟨_, w, H, ?_, k, s⟩
  simp [execOp, t.ev hx, t.ev hy, eqGuard, binOp, Op.intDiv, h0]
def ishl (k : IntKind) (x y : Int) : Int := k.wrap (x * 2 ^ (min y.toNat k.bits))
def ishr (k : IntKind) (x y : Int) : Int := x.fdiv (2 ^ (min y.toNat k.bits))
theorem o_shl {t : TypeId} {x y : Operand} {yt : TypeId} {k' k2 : IntKind} {m n : Int} (hx : ev T x = some (.int k' m)) (hy : ev T y = some (.int k2 n)) (h0 : 0 ≤ n) (k : K (.int k' (ishl k' m n)) H) :
    OPW E ro N ds T H g ⟨d, .binOp .shl t x y yt, ty, pos, af, gd⟩ K := by
  refine opw_value rfl fun a w t s => ⟨_, w, H, ?_, k, s⟩
  have h1 : ¬ n < 0 := by omega
  simp [execOp, t.ev hx, t.ev hy, eqGuard, binOp, Op.shift, h1, ishl]
theorem o_shr {t : TypeId} {x y : Operand} {yt : TypeId} {k' k2 : IntKind} {m n : Int} (hx : ev T x = some (.int k' m)) (hy : ev T y = some (.int k2 n)) (h0 : 0 ≤ n) (k : K (.int k' (ishr k' m n)) H) :
    OPW E ro N ds T H g ⟨d, .binOp .shr t x y yt, ty, pos, af, gd⟩ K := by
  refine opw_value rfl fun a w t s => ⟨_, w, H, ?_, k, s⟩
  have h1 : ¬ n < 0 := by omega
  simp [execOp, t.ev hx, t.ev hy, eqGuard, binOp, Op.shift, h1, ishr]
end
end Go.Vt
