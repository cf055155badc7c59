/- Values of nested types compared. No conditions. -/
import Derived.Test.YteebpkekdkkmhaaGreatDoorVtO
namespace Go.Vt
def allB (f : Nat → Bool) : List Nat → Bool
  | [] => true
  | i :: r => f i && allB f r
def eqF2 (eq : TypeId → Value → Value → Option Bool) (tt : List (Nat × TI)) : List Field → List Value → List Value → Option Bool
  | [], _, _ => some true
  | f :: r, xs, ys => match lk tt f.type with
    | some i => match ldv i xs f.offset, ldv i ys f.offset with
      | some a, some b => match eq f.type a b with
        | some e => match eqF2 eq tt r xs ys with
          | some z => some (e && z)
          | none => none
        | none => none
      | _, _ => none
    | none => none
def eqE2 (eq : Value → Value → Option Bool) (j : TI) (xs ys : List Value) : List Nat → Option Bool
  | [] => some true
  | k :: r => match ldv j xs (k * j.size), ldv j ys (k * j.size) with
    | some a, some b => match eq a b with
      | some e => match eqE2 eq j xs ys r with
        | some z => some (e && z)
        | none => none
      | none => none
    | _, _ => none
/-- a value's equality, by its type -/
def eqT (tt : List (Nat × TI)) : Nat → TypeId → Value → Value → Option Bool
  | 0, _, _, _ => none
  | d + 1, t, a, b => match lk tt t with
    | none => none
    | some i => match i.und, a, b with
      | .struct fs, .agg xs, .agg ys => match fs.toList.all fun f => f.name != "_" with
        | true => eqF2 (eqT tt d) tt fs.toList xs.toList ys.toList
        | false => none
      | .array n el, .agg xs, .agg ys => match lk tt el with
        | some j => eqE2 (eqT tt d el) j xs.toList ys.toList (List.range n)
        | none => none
      | _, _, _ => eqS i a b
/-- the types that are in it are not stood in for -/
def Stood (P : Program) (tt : List (Nat × TI)) : Prop := ∀ t i, lk tt t = some i → P.stoodInHeld t = false
theorem eqT_sound (E : Env) (hst : Stood E.P E.tt) : ∀ (d m : Nat) (t : TypeId) (a b : Value) (e : Bool) (w : World), eqT E.tt d t a b = some e → (Op.equalIn (d + m) t a b).run E.P w = .ok e w
  | 0, _, _, _, _, _, _, h => by cases h
  | d + 1, m, t, a, b, e, w, h => by
    rw [show d + 1 + m = (d + m) + 1 by omega]
    simp only [eqT] at h
    cases ht : lk E.tt t with
    | none => rw [ht] at h; cases h
    | some i =>
      rw [ht] at h
      simp only at h
      split at h
      · rename_i fs xs ys hu
        split at h
        · rename_i hn
          have hf : E.P.fieldsOf t = fs := by simp [Program.fieldsOf, E.und ht, hu]
          rw [run_equalIn_agg w (d + m) t _ _ (by rw [hf, E.und ht, hu]) (hst t i ht), hf]
          clear hu hf ht
          generalize fs.toList = l at h hn
          induction l generalizing e with
          | nil => simp [eqF2] at h; subst h; simp [Op.eqFields]
          | cons f r ih =>
            simp only [List.all_cons, Bool.and_eq_true] at hn
            simp only [eqF2] at h
            split at h
            · rename_i j hj
              split at h
              · rename_i u v hu hv
                split at h
                · rename_i e1 he1
                  split at h
                  · rename_i z hz
                    cases h
                    have p1 := run_part E hj (cs := xs.toList) (off := f.offset) hu w
                    have p2 := run_part E hj (cs := ys.toList) (off := f.offset) hv w
                    have p3 := eqT_sound E hst d m f.type u v e1 w he1
                    have p4 := ih z hz hn.2
                    have hne : f.name ≠ "_" := by simpa using hn.1
                    simp only [Op.eqFields, Sem.run_bind, Sem.run_ite, if_pos hne, show part f.type xs f.offset = part f.type xs.toList.toArray f.offset from rfl, show part f.type ys f.offset = part f.type ys.toList.toArray f.offset from rfl, p1, p2, p3, Result.andThen]
                    cases e1
                    · simp
                    · simpa using p4
                  · cases h
                · cases h
              · cases h
            · cases h
        · cases h
      · rename_i n el xs ys hu
        split at h
        · rename_i j hj
          have hsz := run_size E hj w
          simp only [Op.equalIn, Sem.run_bind, run_und E ht, hu, Result.andThen, hsz]
          rw [Std.Legacy.Range.forIn_eq_forIn_range']
          have hlist : List.range' (Std.Legacy.Range.mk 0 n 1 (by decide)).start (Std.Legacy.Range.mk 0 n 1 (by decide)).size (Std.Legacy.Range.mk 0 n 1 (by decide)).step = List.range n := by
            simp [Std.Legacy.Range.size, List.range_eq_range']
          rw [hlist]
          have key : ∀ (L : List Nat) (z : Bool), eqE2 (eqT E.tt d el) j xs.toList ys.toList L = some z →
              (forIn L ((none, ()) : Option Bool × Unit) fun k (__s : Option Bool × Unit) => (do
                let u ← part el xs (k * j.size)
                let v ← part el ys (k * j.size)
                let q ← Op.equalIn (d + m) el u v
                if (!q) = true then pure (ForInStep.done (some false, ())) else pure (ForInStep.yield (none, ())) : Sem (ForInStep (Option Bool × Unit)))).run E.P w = .ok (if z then (none, ()) else (some false, ())) w := by
            intro L
            induction L with
            | nil => intro z hz; simp [eqE2] at hz; subst hz; simp
            | cons k r ih =>
              intro z hz
              simp only [eqE2] at hz
              split at hz
              · rename_i u v hu' hv'
                split at hz
                · rename_i e1 he1
                  split at hz
                  · rename_i z' hz'
                    cases hz
                    have p1 := run_part E hj (cs := xs.toList) (off := k * j.size) hu' w
                    have p2 := run_part E hj (cs := ys.toList) (off := k * j.size) hv' w
                    have p3 := eqT_sound E hst d m el u v e1 w he1
                    have p4 := ih z' hz'
                    simp only [List.forIn_cons, Sem.run_bind, show part el xs (k * j.size) = part el xs.toList.toArray (k * j.size) from rfl, show part el ys (k * j.size) = part el ys.toList.toArray (k * j.size) from rfl, p1, p2, p3, Result.andThen]
                    cases e1
                    · simp
                    · simpa using p4
                  · cases hz
                · cases hz
              · cases hz
          have k1 := key _ e h
          rw [k1]
          cases e <;> simp
        · cases h
      · exact eqS_sound E ht h (d + m) w
def stk (P : Program) : List (Nat × TI) → Prop
  | [] => True
  | (t, _) :: r => P.stoodInHeld t = false ∧ stk P r
theorem stood_of {P : Program} : ∀ {tt : List (Nat × TI)}, stk P tt → Stood P tt
  | [], _, t, i, h => by cases h
  | (u, j) :: r, hk, t, i, h => by
    simp only [lk] at h
    split at h
    · rename_i hb
      have : u = t := by simpa using hb
      subst this; exact hk.1
    · exact stood_of hk.2 t i h
section
variable {E : Env} {ro : Option Nat} {N : Nat} {ds : List Deferred} {T : List (Nat × Value)} {H : List HP} {g : Gw} {K : Value → List HP → Prop} {d : Option Tmp} {ty : TypeId} {pos : String} {af : Array Edge} {gd : Option (Nat × Bool)}
theorem o_eqT {t : Nat} {yt : TypeId} {x y : Operand} {xs ys : List Value} {b : Bool} (hx : ev T x = some (.agg xs.toArray)) (hy : ev T y = some (.agg ys.toArray)) (hg : E.P.eqGuardType E.P.depth t = false) (hst : Stood E.P E.tt) (he : eqT E.tt 9 t (.agg xs.toArray) (.agg ys.toArray) = some b) (k : K (.bool b) H) :
    OPW E ro N ds T H g ⟨d, .binOp .eql t x y yt, ty, pos, af, gd⟩ K := by
  refine opw_value rfl fun a w t' hs' => ⟨_, w, H, ?_, k, hs'⟩
  have h1 := eqT_sound E hst 9 9991 t _ _ b w he
  simp only [execOp, t'.ev hx, t'.ev hy, Sem.run_bind, run_eqGuard_agg w .eql t x y _ _ hg, Result.andThen, run_eql_struct, h1, Sem.run_pure]
theorem o_neT {t : Nat} {yt : TypeId} {x y : Operand} {xs ys : List Value} {b : Bool} (hx : ev T x = some (.agg xs.toArray)) (hy : ev T y = some (.agg ys.toArray)) (hg : E.P.eqGuardType E.P.depth t = false) (hst : Stood E.P E.tt) (he : eqT E.tt 9 t (.agg xs.toArray) (.agg ys.toArray) = some b) (k : K (.bool (!b)) H) :
    OPW E ro N ds T H g ⟨d, .binOp .neq t x y yt, ty, pos, af, gd⟩ K := by
  refine opw_value rfl fun a w t' hs' => ⟨_, w, H, ?_, k, hs'⟩
  have h1 := eqT_sound E hst 9 9991 t _ _ b w he
  simp only [execOp, t'.ev hx, t'.ev hy, Sem.run_bind, run_eqGuard_agg w .neq t x y _ _ hg, Result.andThen, run_neq_struct, h1, Sem.run_pure]
end
end Go.Vt
