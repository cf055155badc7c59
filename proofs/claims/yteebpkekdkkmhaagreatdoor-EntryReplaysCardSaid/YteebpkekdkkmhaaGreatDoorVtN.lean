/- Strings: their bytes, their parts. No conditions. -/
import Derived.Test.YteebpkekdkkmhaaGreatDoorVtM
namespace Go.Vt
def sbyte (s : ByteArray) (i : Int) : Int := ((s.data.toList.getD i.toNat 0).toNat : Int)
section
variable {E : Env} {ro : Option Nat} {N : Nat} {ds : List Deferred} {T : List (Nat × Value)} {H : List HP} {g : Gw} {K : Value → List HP → Prop} {d : Option Tmp} {ty : TypeId} {pos : String} {af : Array Edge} {gd : Option (Nat × Bool)}
theorem o_sidx {t : Nat} {i : TI} {x y : Operand} {s : ByteArray} {k' : IntKind} {n : Int} (hx : ev T x = some (.string s)) (hy : ev T y = some (.int k' n)) (ht : lk E.tt t = some i) (hi : i.und = .string) (hb : (0 : Int) ≤ n ∧ n < (s.size : Int)) (k : K (.int .u8 (sbyte s n)) H) :
    OPW E ro N ds T H g ⟨d, .index t x y, ty, pos, af, gd⟩ K := by
  refine opw_value rfl fun a w t' hs' => ⟨_, w, H, ?_, k, hs'⟩
  have hlt : n.toNat < s.size := by omega
  have h1 : s[n.toNat]? = some (s.data.toList.getD n.toNat 0) := by
    have h2 : n.toNat < s.data.size := hlt
    rw [getElem?_pos s n.toNat hlt]
    simp only [List.getD_eq_getElem?_getD, Array.getElem?_toList]
    rw [Array.getElem?_eq_getElem h2]; rfl
  simp only [execOp, t'.ev hx, t'.ev hy, Instr.index, asIntOf, Sem.run_bind, Sem.run_pure, Result.andThen, run_und E ht, hi, if_pos hb.1, h1]
  rfl
theorem o_ssl {t : Nat} {i : TI} {x : Operand} {s : ByteArray} {lo hi : Option Operand} {a b : Int} (hx : ev T x = some (.string s)) (ht : lk E.tt t = some i) (hi' : i.und = .string) (h1 : bnd T lo 0 = some a) (h2 : bnd T hi s.size = some b) (hb : (0 : Int) ≤ a ∧ a ≤ b ∧ b ≤ (s.size : Int))
    (k : K (.string (s.extract a.toNat b.toNat)) H) : OPW E ro N ds T H g ⟨d, .slice t x lo hi none, ty, pos, af, gd⟩ K := by
  refine opw_value rfl fun ac w t' hs' => ⟨_, w, H, ?_, k, hs'⟩
  have hh' : (hi = none ∧ s.size = b.toNat) ∨ ∃ y k', hi = some y ∧ ac.eval y = .int k' b := by
    cases hi with
    | none => simp only [bnd, Option.some.injEq] at h2; subst h2; exact .inl ⟨rfl, by simp⟩
    | some y =>
      simp only [bnd] at h2
      split at h2
      · rename_i hy; cases h2; exact .inr ⟨y, _, rfl, t'.ev hy⟩
      · cases h2
  have hlow : (lo = none ∧ 0 = a.toNat) ∨ ∃ y k', lo = some y ∧ ac.eval y = .int k' a := by
    cases lo with
    | none => simp only [bnd, Option.some.injEq] at h1; subst h1; exact .inl ⟨rfl, rfl⟩
    | some y =>
      simp only [bnd] at h1
      split at h1
      · rename_i hy; cases h1; exact .inr ⟨y, _, rfl, t'.ev hy⟩
      · cases h1
  have b1 : ∀ k' c, (Instr.sliceBound (.int k' b) s.size c).run E.P w = .ok b.toNat w := fun k' c => run_bound (by omega)
  have b2 : ∀ k' c, (Instr.sliceBound (.int k' a) b.toNat c).run E.P w = .ok a.toNat w := fun k' c => run_bound (by omega)
  have key : (Instr.slice t (.string s) (lo.map ac.eval) (hi.map ac.eval) none).run E.P w = .ok (.string (s.extract a.toNat b.toNat)) w := by
    rcases hh' with ⟨rfl, hh'⟩ | ⟨y, k1, rfl, hh'⟩ <;> rcases hlow with ⟨rfl, hlow⟩ | ⟨z, k2, rfl, hlow⟩
    · rw [← hh', ← hlow]
      simp [Instr.slice, run_und E ht, hi', Result.andThen, Instr.sliceBounds]
    · rw [hh'] at b1
      simp [Instr.slice, run_und E ht, hi', Result.andThen, Instr.sliceBounds, hh', hlow, b2]
    · simp [Instr.slice, run_und E ht, hi', Result.andThen, Instr.sliceBounds, hh', b1, ← hlow]
    · simp [Instr.slice, run_und E ht, hi', Result.andThen, Instr.sliceBounds, hh', hlow, b1, b2]
  have h3' : (Instr.sliceAt t (.string s) (lo.map ac.eval) (hi.map ac.eval) none).run E.P w = (Instr.slice t (.string s) (lo.map ac.eval) (hi.map ac.eval) none).run E.P w := by
    simp [Instr.sliceAt, run_und E ht, hi', Result.andThen]
  simp only [execOp, t'.ev hx, Sem.run_bind, Option.map_none]
  first
    | rw [h3', key]; simp [Result.andThen]
    | rw [key]; simp [Result.andThen]
end
end Go.Vt
