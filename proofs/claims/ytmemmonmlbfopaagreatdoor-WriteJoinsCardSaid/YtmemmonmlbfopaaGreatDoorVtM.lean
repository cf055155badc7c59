/- Structs that are compared. No conditions. -/
import Derived.Test.YtmemmonmlbfopaaGreatDoorVtL
namespace Go.Vt
def eqS (i : TI) : Value → Value → Option Bool
  | .int k x, .int k' y => match i.und, ieqk k k' with
    | .int _, true => some (x == y)
    | _, _ => none
  | .bool x, .bool y => match i.und with
    | .bool => some (x == y)
    | _ => none
  | .string x, .string y => match i.und with
    | .string => some (x.data.toList == y.data.toList)
    | _ => none
  | _, _ => none
def eqFs (tt : List (Nat × TI)) : List Field → List Value → List Value → Option Bool
  | [], _, _ => some true
  | f :: r, xs, ys => match lk tt f.type with
    | some i => match isA i, xs[f.offset]?, ys[f.offset]? with
      | false, some a, some b => match eqS i a b with
        | some e => match eqFs tt r xs ys with
          | some z => some (e && z)
          | none => none
        | none => none
      | _, _, _ => none
    | none => none
theorem eqS_sound (E : Env) {t : Nat} {i : TI} (ht : lk E.tt t = some i) {a b : Value} {e : Bool} (h : eqS i a b = some e) (d : Nat) (w : World) : (Op.equalIn (d + 1) t a b).run E.P w = .ok e w := by
  have hu := E.und ht
  unfold eqS at h
  split at h
  · split at h
    · rename_i k hk hi
      cases h
      cases ieqk_eq hi
      exact run_equalIn_int w d t _ _ _ _ (by rw [hu, hk])
    · cases h
  · split at h
    · rename_i hi; cases h; exact run_equalIn_bool' w d t _ _ (by rw [hu, hi])
    · cases h
  · split at h
    · rename_i hi; cases h
      rw [run_equalIn_string w d t _ _ (by rw [hu, hi]), ByteArray.toList_eq, ByteArray.toList_eq]
    · cases h
  · cases h
theorem eqFs_sound (E : Env) (d : Nat) (xs ys : List Value) (w : World) : ∀ {fs : List Field} {b : Bool}, (fs.all fun f => f.name != "_") = true → eqFs E.tt fs xs ys = some b → (Op.eqFields (d + 1) xs.toArray ys.toArray fs).run E.P w = .ok b w
  | [], b, _, h => by simp [eqFs] at h; subst h; simp [Op.eqFields]
  | f :: r, b, hn, h => by
    simp only [List.all_cons, Bool.and_eq_true] at hn
    simp only [eqFs] at h
    cases ht : lk E.tt f.type with
    | none => rw [ht] at h; cases h
    | some i =>
      rw [ht] at h
      simp only at h
      split at h
      · rename_i a c hA ha hc
        cases he : eqS i a c with
        | none => rw [he] at h; cases h
        | some e =>
          rw [he] at h
          simp only at h
          cases hz : eqFs E.tt r xs ys with
          | none => rw [hz] at h; cases h
          | some z =>
            rw [hz] at h
            cases h
            have p1 := run_part E ht (cs := xs) (off := f.offset) (v := a) (by unfold ldv; rw [hA]; exact ha) w
            have p2 := run_part E ht (cs := ys) (off := f.offset) (v := c) (by unfold ldv; rw [hA]; exact hc) w
            have p3 := eqS_sound E ht he d w
            have ih := eqFs_sound E d xs ys w hn.2 hz
            have hne : f.name ≠ "_" := by simpa using hn.1
            simp only [Op.eqFields, Sem.run_bind, Sem.run_ite, if_pos hne, p1, p2, p3, Result.andThen]
            cases e
            · simp
            · simpa using ih
      · cases h
section
variable {E : Env} {ro : Option Nat} {N : Nat} {ds : List Deferred} {T : List (Nat × Value)} {H : List HP} {g : Gw} {K : Value → List HP → Prop} {d : Option Tmp} {ty : TypeId} {pos : String} {af : Array Edge} {gd : Option (Nat × Bool)}
theorem seq_run {t : Nat} {i : TI} {fs : List Field} {xs ys : List Value} {b : Bool} (ht : lk E.tt t = some i) (hu : i.und = .struct fs.toArray) (hs : E.P.stoodInHeld t = false) (hn : (fs.all fun f => f.name != "_") = true) (he : eqFs E.tt fs xs ys = some b) (w : World) :
    (Op.equalIn 10000 t (.agg xs.toArray) (.agg ys.toArray)).run E.P w = .ok b w := by
  have hf : E.P.fieldsOf t = fs.toArray := by simp [Program.fieldsOf, E.und ht, hu]
  rw [show (10000 : Nat) = 9999 + 1 from rfl, run_equalIn_agg w 9999 t _ _ (by rw [hf, E.und ht, hu]) hs, hf]
  exact eqFs_sound E 9998 xs ys w hn he
theorem o_seq {t : Nat} {yt : TypeId} {i : TI} {x y : Operand} {fs : List Field} {xs ys : List Value} {b : Bool} (hx : ev T x = some (.agg xs.toArray)) (hy : ev T y = some (.agg ys.toArray)) (ht : lk E.tt t = some i) (hu : i.und = .struct fs.toArray) (hs : E.P.stoodInHeld t = false) (hg : E.P.eqGuardType E.P.depth t = false)
    (hn : (fs.all fun f => f.name != "_") = true) (he : eqFs E.tt fs xs ys = some b) (k : K (.bool b) H) : OPW E ro N ds T H g ⟨d, .binOp .eql t x y yt, ty, pos, af, gd⟩ K := by
  refine opw_value rfl fun a w t' hs' => ⟨_, w, H, ?_, k, hs'⟩
  simp only [execOp, t'.ev hx, t'.ev hy, Sem.run_bind, run_eqGuard_agg w .eql t x y _ _ hg, Result.andThen, run_eql_struct, seq_run ht hu hs hn he, Sem.run_pure]
theorem o_sne {t : Nat} {yt : TypeId} {i : TI} {x y : Operand} {fs : List Field} {xs ys : List Value} {b : Bool} (hx : ev T x = some (.agg xs.toArray)) (hy : ev T y = some (.agg ys.toArray)) (ht : lk E.tt t = some i) (hu : i.und = .struct fs.toArray) (hs : E.P.stoodInHeld t = false) (hg : E.P.eqGuardType E.P.depth t = false)
    (hn : (fs.all fun f => f.name != "_") = true) (he : eqFs E.tt fs xs ys = some b) (k : K (.bool (!b)) H) : OPW E ro N ds T H g ⟨d, .binOp .neq t x y yt, ty, pos, af, gd⟩ K := by
  refine opw_value rfl fun a w t' hs' => ⟨_, w, H, ?_, k, hs'⟩
  simp only [execOp, t'.ev hx, t'.ev hy, Sem.run_bind, run_eqGuard_agg w .neq t x y _ _ hg, Result.andThen, run_neq_struct, seq_run ht hu hs hn he, Sem.run_pure]
end
end Go.Vt
