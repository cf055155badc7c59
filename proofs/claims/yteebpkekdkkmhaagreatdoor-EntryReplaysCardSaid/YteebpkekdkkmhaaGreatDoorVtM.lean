/- Structs that are compared. No conditions. -/
import Derived.Test.YteebpkekdkkmhaaGreatDoorVtL
namespace Go.Vt
def eqS (i : TI) : Value → Value → Option Bool
  | .int k x, .int k' y => match i.und, ieqk k k' with
    | .int _, true => some (x == y)
    | _, _ => none
  | .bool x, .bool y => match i.und with
    | .bool => some (x == y)
    | _ => none
  | .string x, .string y => match i.und with
    | .string => some (x.data.toList == y.data.toList)
    | _ => none
  | _, _ => none
def eqFs (tt : List (Nat × TI)) : List Field → List Value → List Value → Option Bool
  | [], _, _ => some true
  | f :: r, xs, ys => match lk tt f.type with
    | some i => match isA i, xs[f.offset]?, ys[f.offset]? with
      | false, some a, some b => match eqS i a b with
        | some e => match eqFs tt r xs ys with
          | some z => some (e && z)
          | none => none
        | none => none
      | _, _, _ => none
    | none => none
theorem eqS_sound (E : Env) {t : Nat} {i : TI} (ht : lk E.tt t = some i) {a b : Value} {e : Bool} (h : eqS i a b = some e) (d : Nat) (w : World) : (Op.equalIn (d + 1) t a b).run E.P w = .ok e w := by
  have hu := E.und ht
  unfold eqS at h
  split at h
  · split at h
    · rename_i k hk hi
      cases h
      cases ieqk_eq hi
      exact run_equalIn_int w d t _ _ _ _ (by rw [hu, hk])
    · cases h
  · split at h
    · rename_i hi; cases h; exact run_equalIn_bool' w d t _ _ (by rw [hu, hi])
    · cases h
  · split at h
    · rename_i hi; cases h
      rw [run_equalIn_string w d t _ _ (by rw [hu, hi]), ByteArray.toList_eq, ByteArray.toList_eq]
    · cases h
  · cases h
section
variable {E : Env} {ro : Option Nat} {N : Nat} {ds : List Deferred} {T : List (Nat × Value)} {H : List HP} {g : Gw} {K : Value → List HP → Prop} {d : Option Tmp} {ty : TypeId} {pos : String} {af : Array Edge} {gd : Option (Nat × Bool)}
end
end Go.Vt
